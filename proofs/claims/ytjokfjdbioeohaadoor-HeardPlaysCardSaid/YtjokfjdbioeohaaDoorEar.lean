/-
  Package heard: an ear in memory, plainly; and its cells.
-/
import Derived.Test.YtjokfjdbioeohaaDoorLinkC
import Derived.Test.YtjokfjdbioeohaaDoorValsOps
import Derived.Deep.MidRow
namespace Go.Proofs.YtjokfjdbioeohaaDoor
open Go.RowKit Go.BigFrame
set_option maxHeartbeats 400000
set_option maxRecDepth 100000
/-- What a process said. -/
structure Bt where
  ce : Nat
  cr : Int
  pe : Nat
  pr : Int
  ep : Nat
def Bt.zero : Bt := ⟨0, 0, 0, 0, 0⟩
def Bt.vals (b : Bt) : List Value := [.int .u64 b.ce, .int .i64 b.cr, .int .u64 b.pe, .int .i64 b.pr, .int .u64 b.ep]
def Bt.v (b : Bt) : Value := .agg b.vals.toArray
/-- What is known of a process. -/
structure Ent where
  b : Bt
  said : Bool
  ever : Bool
  at_ : Int
def Ent.zero : Ent := ⟨Bt.zero, false, false, 0⟩
def Ent.vals (x : Ent) : List Value := x.b.vals ++ [.bool x.said, .bool x.ever, .int .i64 x.at_]
/-- An ear. -/
structure Ear where
  me : Int
  timeout : Int
  now : Int
  others : Nat
  l : Nat → Ent
def Ear.upd (m : Ear) (p : Nat) (f : Ent → Ent) : Ear := { m with l := fun i => if i = p then f (m.l i) else m.l i }
structure Ear.Wf (m : Ear) : Prop where
  others : m.others < 18446744073709551616
  n0 : 0 ≤ m.now
  n1 : m.now < 4611686018427387904
  a : ∀ i, i < 64 → 0 ≤ (m.l i).at_ ∧ (m.l i).at_ ≤ m.now
theorem setCells_size (b : Nat) : ∀ (vs : List Value) (o : Nat) (w : World), (w.setCells b o vs).heap.size = w.heap.size
  | [], _, _ => rfl
  | v :: r, o, w => by rw [World.setCells, setCells_size b r (o + 1)]; simp [World.setCell]
structure EarAt (w : World) (g : Nat) (m : Ear) : Prop where
  lt : g < w.heap.size
  nf : ∀ k, w.frozen? ⟨g, k, none⟩ = false
  c0 : w.cell? ⟨g, 0, none⟩ = some (.int .i64 m.me)
  c1 : w.cell? ⟨g, 1, none⟩ = some (.int .i64 m.timeout)
  c2 : w.cell? ⟨g, 2, none⟩ = some (.int .i64 m.now)
  c3 : w.cell? ⟨g, 3, none⟩ = some (.int .u64 m.others)
  e : ∀ i, i < 64 → w.rangeAt g (4 + i * 8) (m.l i).vals
section
variable {w w' : World} {g : Nat} {m m' : Ear}
theorem EarAt.below (h : EarAt w g m) (hb : Below w.heap.size w w') : EarAt w' g m := by
  have hc : ∀ o, w'.cell? ⟨g, o, none⟩ = w.cell? ⟨g, o, none⟩ := fun o => hb.cell (p := ⟨g, o, none⟩) h.lt
  exact ⟨Nat.lt_of_lt_of_le h.lt hb.size, fun k => (hb.frozen (p := ⟨g, k, none⟩) h.lt).trans (h.nf k), (hc 0).trans h.c0, (hc 1).trans h.c1, (hc 2).trans h.c2, (hc 3).trans h.c3, fun i hi j v hv => (hc _).trans (h.e i hi j v hv)⟩
theorem EarAt.x0 (h : EarAt w g m) {i : Nat} (hi : i < 64) : w.cell? ⟨g, 4 + i * 8, none⟩ = some (.int .u64 (m.l i).b.ce) := h.e i hi 0 _ rfl
theorem EarAt.x1 (h : EarAt w g m) {i : Nat} (hi : i < 64) : w.cell? ⟨g, 4 + i * 8 + 1, none⟩ = some (.int .i64 (m.l i).b.cr) := h.e i hi 1 _ rfl
theorem EarAt.x2 (h : EarAt w g m) {i : Nat} (hi : i < 64) : w.cell? ⟨g, 4 + i * 8 + 2, none⟩ = some (.int .u64 (m.l i).b.pe) := h.e i hi 2 _ rfl
theorem EarAt.x3 (h : EarAt w g m) {i : Nat} (hi : i < 64) : w.cell? ⟨g, 4 + i * 8 + 3, none⟩ = some (.int .i64 (m.l i).b.pr) := h.e i hi 3 _ rfl
theorem EarAt.x4 (h : EarAt w g m) {i : Nat} (hi : i < 64) : w.cell? ⟨g, 4 + i * 8 + 4, none⟩ = some (.int .u64 (m.l i).b.ep) := h.e i hi 4 _ rfl
theorem EarAt.x5 (h : EarAt w g m) {i : Nat} (hi : i < 64) : w.cell? ⟨g, 4 + i * 8 + 5, none⟩ = some (.bool (m.l i).said) := h.e i hi 5 _ rfl
theorem EarAt.x6 (h : EarAt w g m) {i : Nat} (hi : i < 64) : w.cell? ⟨g, 4 + i * 8 + 6, none⟩ = some (.bool (m.l i).ever) := h.e i hi 6 _ rfl
theorem EarAt.x7 (h : EarAt w g m) {i : Nat} (hi : i < 64) : w.cell? ⟨g, 4 + i * 8 + 7, none⟩ = some (.int .i64 (m.l i).at_) := h.e i hi 7 _ rfl
/-- One entry goes another way. -/
theorem EarAt.upd (h : EarAt w g m) {p : Nat} (f : Ent → Ent) (hlt : g < w'.heap.size) (hnf : ∀ k, w'.frozen? ⟨g, k, none⟩ = w.frozen? ⟨g, k, none⟩)
    (ho : ∀ k, k < 4 + p * 8 ∨ 4 + p * 8 + 8 ≤ k → w'.cell? ⟨g, k, none⟩ = w.cell? ⟨g, k, none⟩) (hp : p < 64 → w'.rangeAt g (4 + p * 8) (f (m.l p)).vals) : EarAt w' g (m.upd p f) := by
  refine ⟨hlt, fun k => (hnf k).trans (h.nf k), (ho 0 (by omega)).trans h.c0, (ho 1 (by omega)).trans h.c1, (ho 2 (by omega)).trans h.c2, (ho 3 (by omega)).trans h.c3, fun i hi => ?_⟩
  by_cases e : i = p
  · subst e
    simp only [Ear.upd, if_true]
    exact hp hi
  · simp only [Ear.upd, if_neg e]
    intro j v hv
    have hj : j < 8 := by
      have := (List.getElem?_eq_some_iff.1 hv).1
      simpa [Ent.vals, Bt.vals] using this
    rw [ho _ (by omega)]
    exact h.e i hi j v hv
/-- A cell of an entry is stored. -/
theorem EarAt.cell (h : EarAt w g m) {p j : Nat} {v : Value} (f : Ent → Ent) (hj : j < 8) (hp : p < 64) (hf : (f (m.l p)).vals = (m.l p).vals.set j v) : EarAt (w.setCell ⟨g, 4 + p * 8 + j, none⟩ v) g (m.upd p f) := by
  refine h.upd f (by simpa [World.setCell] using h.lt) (fun k => World.frozen?_setCell ..) (fun k hk => World.cell?_setCell_other _ _ _ _ (by intro e; (simp at e <;> omega))) fun _ => ?_
  rw [hf]
  intro i u hu
  by_cases e : i = j
  · subst e
    have hl : i < (m.l p).vals.length := by simpa [Ent.vals, Bt.vals] using hj
    rw [List.getElem?_set_self hl] at hu
    obtain rfl := Option.some.inj hu
    exact World.cell?_setCell_same _ _ _ (h.e p hp i _ (List.getElem?_eq_getElem hl))
  · rw [List.getElem?_set_ne (Ne.symm e)] at hu
    rw [World.cell?_setCell_other _ _ _ _ (by intro e'; (simp at e' <;> omega))]
    exact h.e p hp i u hu
theorem EarAt.said (h : EarAt w g m) {p : Nat} (hp : p < 64) (b : Bool) : EarAt (w.setCell ⟨g, 4 + p * 8 + 5, none⟩ (.bool b)) g (m.upd p fun x => { x with said := b }) := h.cell _ (by omega) hp rfl
theorem EarAt.ever (h : EarAt w g m) {p : Nat} (hp : p < 64) (b : Bool) : EarAt (w.setCell ⟨g, 4 + p * 8 + 6, none⟩ (.bool b)) g (m.upd p fun x => { x with ever := b }) := h.cell _ (by omega) hp rfl
theorem EarAt.at (h : EarAt w g m) {p : Nat} (hp : p < 64) (n : Int) : EarAt (w.setCell ⟨g, 4 + p * 8 + 7, none⟩ (.int .i64 n)) g (m.upd p fun x => { x with at_ := n }) := h.cell _ (by omega) hp rfl
theorem EarAt.bt (h : EarAt w g m) {p : Nat} (hp : p < 64) (b : Bt) : EarAt (w.setCells g (4 + p * 8) b.vals) g (m.upd p fun x => { x with b := b }) := by
  have hl5 : b.vals.length = 5 := rfl
  have hsome : ∀ j, j < b.vals.length → (w.cell? ⟨g, 4 + p * 8 + j, none⟩).isSome = true := fun j hj => by
    have hl : j < (m.l p).vals.length := by simp [Ent.vals, Bt.vals]; omega
    rw [h.e p hp j _ (List.getElem?_eq_getElem hl)]; rfl
  refine h.upd _ (by rw [setCells_size]; exact h.lt) (fun k => World.frozen?_setCells ..) (fun k hk => World.cell?_setCells_out _ _ _ _ _ (fun _ _ => by show k < _ ∨ _ ≤ k; omega)) fun hp => ?_
  intro i u hu
  by_cases hi : i < 5
  · rw [World.cell?_setCells_in g b.vals _ w hsome i (by omega)]
    have : ((({ (m.l p) with b := b } : Ent).vals)[i]?) = b.vals[i]? := by
      unfold Ent.vals
      rw [List.getElem?_append_left (by rw [hl5]; exact hi)]
    rw [this] at hu
    rw [← hu, List.getElem?_eq_getElem]
  · rw [World.cell?_setCells_out _ _ _ _ _ (fun _ _ => by show _ < _ ∨ _ ≤ _; simp only []; omega)]
    refine h.e p hp i u ?_
    rw [← hu]
    unfold Ent.vals
    rw [List.getElem?_append_right (by simp [Bt.vals]; omega), List.getElem?_append_right (by simp [Bt.vals]; omega)]
    rfl
end
end Go.Proofs.YtjokfjdbioeohaaDoor

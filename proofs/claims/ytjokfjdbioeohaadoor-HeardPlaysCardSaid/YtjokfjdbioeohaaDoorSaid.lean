/-
  consortref09: the document's ear, by value: what was heard, in order; in memory; one more is heard.
-/
import Derived.Test.YtjokfjdbioeohaaDoorHeardActs
import Derived.Test.YtjokfjdbioeohaaDoorMixOps
import Derived.Test.YtjokfjdbioeohaaDoorEqB
import Derived.Great.BuildSlice
namespace Go.Proofs.YtjokfjdbioeohaaDoor
open Go.RowKit Go.BigFrame
set_option maxHeartbeats 1000000
set_option maxRecDepth 100000
theorem bel_box (w : World) (cs : Array Value) (t : TypeId) : Below w.heap.size w (w.alloc (.cells cs t)) := (Below.refl _ _).alloc (Nat.le_refl _) _
/-- A process was heard of at a tick. -/
structure Sd where
  p : Int
  at_ : Int
  beat : Bool
  gone : Bool
  b : Bt
def Sd.vals (x : Sd) : List Value := [.int .i64 x.p, .int .i64 x.at_, .bool x.beat, .bool x.gone] ++ x.b.vals
def Sd.zero : Sd := ⟨0, 0, false, false, Bt.zero⟩
theorem Sd.len (x : Sd) : x.vals.length = 9 := rfl
theorem Sd.oneL (x : Sd) : ∀ v ∈ x.vals.toArray.toList, v.oneCell' = true := by simp [Sd.vals, Bt.vals, Value.oneCell']
/-- The cells of a row of elements. -/
def rowOf {α : Type} (f : α → List Value) (l : List α) : List Value := l.flatMap f
section
variable {α : Type} {f : α → List Value} {sz : Nat}
theorem rowOf_length (hf : ∀ x, (f x).length = sz) (l : List α) : (rowOf f l).length = l.length * sz := by
  induction l with
  | nil => simp [rowOf]
  | cons x l ih =>
    have : rowOf f (x :: l) = f x ++ rowOf f l := rfl
    rw [this, List.length_append, hf, ih, List.length_cons, Nat.add_mul]; omega
theorem rowOf_snoc (l : List α) (x : α) : rowOf f (l ++ [x]) = rowOf f l ++ f x := by simp [rowOf]
theorem rowOf_at (hf : ∀ x, (f x).length = sz) : ∀ (l : List α) (i j : Nat) (hi : i < l.length), j < sz → (rowOf f l)[i * sz + j]? = (f l[i])[j]?
  | x :: l, 0, j, _, hj => by
    have : rowOf f (x :: l) = f x ++ rowOf f l := rfl
    rw [this, Nat.zero_mul, Nat.zero_add, List.getElem?_append_left (by rw [hf]; exact hj)]; rfl
  | x :: l, i + 1, j, hi, hj => by
    have : rowOf f (x :: l) = f x ++ rowOf f l := rfl
    rw [this, List.getElem?_append_right (by rw [hf, Nat.add_mul]; omega), hf, show (i + 1) * sz + j - sz = i * sz + j by rw [Nat.add_mul]; omega]
    exact rowOf_at hf l i j (by simpa using hi) hj
theorem rowOf_one (hf : ∀ x, ∀ v ∈ f x, v.oneCell' = true) (l : List α) : ∀ v ∈ rowOf f l, v.oneCell' = true := by
  intro v hv
  obtain ⟨x, _, hx⟩ := List.mem_flatMap.1 hv
  exact hf x v hx
end
/-- A row that is only read. -/
structure RowAt {α : Type} (f : α → List Value) (w : World) (v : Value) (l : List α) (a : Option Addr) (c b o : Nat) : Prop where
  v : v = .slice a l.length c
  a : 0 < l.length → a = some ⟨b, o, none⟩ ∧ b < w.heap.size
  r : w.rangeAt b o (rowOf f l)
section
variable {α : Type} {f : α → List Value} {sz : Nat} {w w' : World} {v : Value} {l : List α} {a : Option Addr} {c b o : Nat}
theorem RowAt.below (h : RowAt f w v l a c b o) {n : Nat} (hn : n = w.heap.size) (hb : Below n w w') : RowAt f w' v l a c b o := by
  subst hn
  refine ⟨h.v, fun h0 => ⟨(h.a h0).1, Nat.lt_of_lt_of_le (h.a h0).2 hb.size⟩, fun j u hj => ?_⟩
  have hl : 0 < l.length := by
    cases l with
    | nil => simp [rowOf] at hj
    | cons x l => simp
  exact (hb.cell (p := ⟨b, o + j, none⟩) (h.a hl).2).trans (h.r j u hj)
theorem RowAt.at_ (h : RowAt f w v l a c b o) (hf : ∀ x, (f x).length = sz) {i : Nat} (hi : i < l.length) : w.rangeAt b (o + i * sz) (f l[i]) := by
  intro j u hj
  have hjl : j < sz := by have := (List.getElem?_eq_some_iff.1 hj).1; rw [hf] at this; exact this
  rw [Nat.add_assoc]
  exact h.r (i * sz + j) u (by rw [rowOf_at hf l i j hi hjl]; exact hj)
theorem RowAt.grown (h : RowAt f w v l a c b o) {g : Nat} (hg : w.grownBy w' (some g)) (hne : 0 < l.length → b ≠ g) : RowAt f w' v l a c b o := by
  refine ⟨h.v, fun h0 => ⟨(h.a h0).1, Nat.lt_of_lt_of_le (h.a h0).2 hg.size⟩, fun j u hj => ?_⟩
  have hl : 0 < l.length := by
    cases l with
    | nil => simp [rowOf] at hj
    | cons x l => simp
  rw [World.cell?_of_block (w := w) (a := ⟨b, o + j, none⟩) (hg.block b (h.a hl).2 (by intro e; exact hne hl (Option.some.inj e)))]
  exact h.r j u hj
/-- A row of the call's own may be read. -/
theorem RowAt.own {base n : Nat} {e : TypeId} (h : w.ownsRow base e sz v n (rowOf f l)) (hn : n = l.length) (hf : ∀ x, (f x).length = sz) : ∃ a c b, RowAt f w v l a c b 0 ∧ (0 < l.length → base ≤ b) := by
  subst hn
  rcases h.2 with ⟨rfl, h0⟩ | ⟨g, cap, cur, rfl, hb, hg, hc, hm, hs, ht⟩
  · refine ⟨none, 0, 0, ⟨by rw [h0], fun h1 => by omega, fun j u hj => ?_⟩, fun h1 => by omega⟩
    have : l = [] := List.length_eq_zero_iff.1 h0
    subst this
    simp [rowOf] at hj
  · refine ⟨some ⟨g, 0, none⟩, cap, g, ⟨rfl, fun _ => ⟨rfl, (Array.getElem?_eq_some_iff.1 hg).1⟩, fun j u hj => ?_⟩, fun _ => hb⟩
    rw [Nat.zero_add, cell_of_row w g j _ _ _ hg]
    have hjl : j < l.length * sz := by have := (List.getElem?_eq_some_iff.1 hj).1; rw [rowOf_length hf] at this; exact this
    rw [← ht, List.getElem?_take, if_pos hjl] at hj
    simpa using hj
end
/-- A row whose one cell is set. -/
theorem rowCell {w : World} {g : Nat} {cs : Array Value} {t : TypeId} {fr : Nat × Nat} (h : w.heap[g]? = some (.cells cs t fr)) (k : Nat) (v : Value) : (w.setCell ⟨g, k, none⟩ v).heap[g]? = some (.cells (cs.setIfInBounds k v) t fr) := by
  unfold World.setCell
  simp [Array.getElem?_modify, h]
theorem rowOther (w : World) {g : Nat} (k : Nat) (v : Value) {b : Nat} (hb : b ≠ g) : (w.setCell ⟨g, k, none⟩ v).heap[b]? = w.heap[b]? := Below.heap_setCell w ⟨g, k, none⟩ v b hb
theorem run_build0 (w : World) : (Instr.buildSlice 63 0 #[]).run Tryd.prog w = .ok (.slice (some ⟨w.heap.size, 0, none⟩) 0 0) (w.alloc (.cells #[] 73)) := by kernel_rfl
theorem run_buildS (x : Sd) (w : World) : (Instr.buildSlice 63 1 #[(0, .agg x.vals.toArray)]).run Tryd.prog w = .ok (.slice (some ⟨w.heap.size, 0, none⟩) 1 1) (w.alloc (.cells x.vals.toArray 73)) := by kernel_rfl
/-- The document's ear. -/
structure REar where
  me : Int
  n : Int
  timeout : Int
  now : Int
  all : List Sd
def REar.vals (m : REar) (v : Value) : List Value := [.int .i64 m.me, .int .i64 m.n, .int .i64 m.timeout, .int .i64 m.now, v]
theorem size_rear : (Tryd.prog.info? 65).map (·.size) = some 5 := by kernel_rfl
theorem size_said : (Tryd.prog.info? 73).map (·.size) = some 9 := by kernel_rfl
theorem info_said : (Tryd.prog.info? 73).map (fun i => (i.zero, i.size, i.bytes)) = some (some (.agg Sd.zero.vals.toArray), 9, 64) := by kernel_rfl
def othR (m : REar) (p : Int) : Bool := decide (0 ≤ p) && decide (p < m.n) && decide (p < 64) && !decide (p = m.me)
/-- One more is heard. -/
def addR (m : REar) (x : Sd) : REar := if othR m x.p then { m with all := m.all ++ [{ x with at_ := m.now }] } else m
end Go.Proofs.YtjokfjdbioeohaaDoor

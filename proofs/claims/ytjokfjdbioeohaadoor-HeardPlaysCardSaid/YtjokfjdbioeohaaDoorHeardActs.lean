/-
  Package heard: a row of calls (a script) in memory, and what it makes of an ear.
-/
import Derived.Test.YtjokfjdbioeohaaDoorHeardP
import Derived.Test.YtjokfjdbioeohaaDoorEarA
namespace Go.Proofs.YtjokfjdbioeohaaDoor
open Go.RowKit Go.BigFrame
set_option maxHeartbeats 400000
set_option maxRecDepth 100000
/-- A call. -/
structure HAct where
  kind : Int
  p : Int
  b : Bt
  s : Nat
def HAct.vals (x : HAct) : List Value := [.int .i64 x.kind, .int .i64 x.p] ++ x.b.vals ++ [.int .u64 x.s]
def HAct.zero : HAct := ⟨0, 0, Bt.zero, 0⟩
theorem HAct.oneL (x : HAct) : ∀ v ∈ x.vals.toArray.toList, v.oneCell' = true := by simp [HAct.vals, Bt.vals, Value.oneCell']
theorem size_hact : (Tryd.prog.info? 69).map (·.size) = some 8 := by kernel_rfl
theorem zero_hact (w : World) : (zeroValue 69).run Tryd.prog w = .ok (.agg HAct.zero.vals.toArray) w := by kernel_rfl
/-- A script in memory. -/
structure HActsAt (w : World) (v : Value) (l : List HAct) (a : Option Addr) (c b o : Nat) : Prop where
  v : v = .slice a l.length c
  a : 0 < l.length → a = some ⟨b, o, none⟩ ∧ b < w.heap.size
  x : ∀ i (h : i < l.length), w.rangeAt b (o + i * 8) l[i].vals
  ok : ∀ x ∈ l, x.s < 18446744073709551616
section
variable {w w' : World} {B : Nat} {x : HAct}
theorem HActsAt.below {v : Value} {l : List HAct} {a : Option Addr} {c b o : Nat} (h : HActsAt w v l a c b o) {n : Nat} (hn : n = w.heap.size) (hb : Below n w w') : HActsAt w' v l a c b o := by
  subst hn
  exact ⟨h.v, fun h0 => ⟨(h.a h0).1, Nat.lt_of_lt_of_le (h.a h0).2 hb.size⟩, fun i hi j v hv => (hb.cell (p := ⟨b, o + i * 8 + j, none⟩) (h.a (by omega)).2).trans (h.x i hi j v hv), h.ok⟩
/-- A copy of an act in a block of its own. -/
def BoxH (w : World) (B : Nat) (x : HAct) : Prop := w.heap[B]? = some (.cells x.vals.toArray 69 (0, 0))
theorem BoxH.lt (h : BoxH w B x) : B < w.heap.size := (Array.getElem?_eq_some_iff.1 h).1
theorem BoxH.c0 (h : BoxH w B x) : w.cell? ⟨B, 0, none⟩ = some (.int .i64 x.kind) := by rw [cell_of_row w B 0 _ _ _ h]; rfl
theorem BoxH.c1 (h : BoxH w B x) : w.cell? ⟨B, 1, none⟩ = some (.int .i64 x.p) := by rw [cell_of_row w B 1 _ _ _ h]; rfl
theorem BoxH.c7 (h : BoxH w B x) : w.cell? ⟨B, 7, none⟩ = some (.int .u64 x.s) := by rw [cell_of_row w B 7 _ _ _ h]; rfl
theorem BoxH.rb (h : BoxH w B x) : w.rangeAt B 2 x.b.vals := by
  intro j v hv
  rw [cell_of_row w B (2 + j) _ _ _ h]
  have hj := (List.getElem?_eq_some_iff.1 hv).1
  have hj5 : j < 5 := hj
  rw [List.getElem?_toArray]
  unfold HAct.vals
  rw [List.append_assoc, List.getElem?_append_right (by simp), List.getElem?_append_left (by simp; omega)]
  simpa using hv
theorem BoxH.below (h : BoxH w B x) (hb : Below w.heap.size w w') : BoxH w' B x := bblock hb h
theorem BoxH.grown {g : Nat} (h : BoxH w B x) (hg : w.grownBy w' (some g)) (hne : B ≠ g) : BoxH w' B x := by
  unfold BoxH
  rw [hg.block B (Array.getElem?_eq_some_iff.1 h).1 (by intro e; exact hne (Option.some.inj e))]; exact h
end
end Go.Proofs.YtjokfjdbioeohaaDoor

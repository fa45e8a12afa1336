/-
  Package plan: giving up, step by step; a scope in which the run jumps back, walked once. No function of the program.
-/
import Derived.Test.YtagelhbknbpfhaaDoorPlanF
import Derived.ScopeJumps
import Derived.WalkMore
namespace Go.Proofs.YtagelhbknbpfhaaDoor
open Go.RowKit Go.BigFrame
set_option maxHeartbeats 1000000
set_option maxRecDepth 100000
theorem wp_scope_loop {P : Program} {a : Act} {w : World} {Q : Exit → Act → World → Prop} {c rest : Code} (l : Nat) (J : Act → World → Prop) (μ : Act → World → Nat) (hf : findLabel c l = some (.seq .skip rest))
    (pass : ∀ a w, J a w → rest.wp P (Exit.jump l (fun a' w' => J a' w' ∧ μ a' w' < μ a w) Q) a w)
    (first : ∀ K : Exit → Act → World → Prop, (∀ a' w', J a' w' → rest.wp P K a' w') → c.wp P K a w) : (Code.scope c).wp P Q a w := by
  refine wp_scope_jumps l J μ hf (first _ fun a' w' h => wp_mono (pass a' w' h) fun e a1 w1 hq => ?_) fun a w h => wp_seq (wp_skip (pass a w h))
  cases e <;> first | exact hq | exact ⟨hq.1, hq.2.1⟩
/-- What may still be given up. -/
def sumK (kept : Nat → Nat) : Nat := ((List.range 64).map kept).sum
theorem sum_lower : ∀ (n : Nat) (kept : Nat → Nat) (i v : Nat), i < n → v < kept i → ((List.range n).map fun q => if q = i then v else kept q).sum < ((List.range n).map kept).sum
  | 0, _, _, _, h, _ => by omega
  | n + 1, kept, i, v, hi, hv => by
    rw [List.range_succ, List.map_append, List.map_append, List.sum_append, List.sum_append]
    simp only [List.map_cons, List.map_nil, List.sum_cons, List.sum_nil, Nat.add_zero]
    by_cases e : i = n
    · subst e
      have : (List.range i).map (fun q => if q = i then v else kept q) = (List.range i).map kept := by
        apply List.map_congr_left
        intro q hq
        rw [if_neg (by simp at hq; omega)]
      rw [this, if_pos rfl]; omega
    · have := sum_lower n kept i v (by omega) hv
      rw [if_neg (fun h => e h.symm)]; omega
theorem lowerK_eq (kept : Nat → Nat) (m : Ms) (f : Nat) (hf : m.frm = f) : lowerK kept m = fun q => if q = f then m.seq - 1 else kept q := by
  funext q
  unfold lowerK
  rw [hf, Int.toNat_natCast]
theorem find_at {α : Type} {p : α → Bool} {l : List α} {k : Nat} (hk : k < l.length) (h : ∀ j (hj : j < l.length), j < k → p l[j] = false) (hp : p l[k] = true) : l.find? p = some l[k] := by
  rw [List.find?_eq_some_iff_getElem]
  exact ⟨hp, k, hk, rfl, fun j hj => by rw [h j (by omega) hj]; rfl⟩
theorem find_none {α : Type} {p : α → Bool} {l : List α} (h : ∀ j (hj : j < l.length), p l[j] = false) : l.find? p = none := by
  rw [List.find?_eq_none]
  intro x hx
  obtain ⟨j, hj, rfl⟩ := List.getElem_of_mem hx
  rw [h j hj]; simp
def msgs (l : List MsE) : List Ms := l.map MsE.m
/-- The sum, read off the memory. -/
def memSum (K : Nat) (w : World) : Nat := ((List.range 64).map fun i => match w.cell? ⟨K, i, none⟩ with
  | some (.int _ n) => n.toNat
  | _ => 0).sum
theorem KeptAt.sum {w : World} {K : Nat} {kept : Nat → Nat} (h : KeptAt w K kept) : memSum K w = sumK kept := by
  unfold memSum sumK
  congr 1
  apply List.map_congr_left
  intro i hi
  rw [h.c i (by simpa using hi)]
  simp
theorem cntM_in {l : List Ex} {m : Ms} (h : cntM l m = true) : 0 < m.seq ∧ ∃ f : Nat, m.frm = f ∧ f < 64 := by
  unfold cntM at h
  simp only [Bool.and_eq_true, decide_eq_true_eq] at h
  refine ⟨h.1, m.frm.toNat, ?_⟩
  have h2 := h.2
  unfold wholeL at h2
  split at h2
  · omega
  · omega
def keptZero : Array Value := (List.replicate 64 (Value.int .u32 0)).toArray
theorem zero_arr (w : World) : (zeroValue 76).run Tryd.prog w = .ok (.agg keptZero) w := by kernel_rfl
theorem kept_new (w : World) : KeptAt (w.alloc (.cells keptZero 76)) w.heap.size fun _ => 0 := by
  refine ⟨⟨_, heap_alloc_new w _, by simp [keptZero]⟩, fun i hi => ?_⟩
  rw [cell_of_row _ w.heap.size i _ _ _ (heap_alloc_new w _), keptZero, List.getElem?_toArray, List.getElem?_replicate, if_pos hi]; rfl
theorem KeptAt.congr {w : World} {K : Nat} {k1 k2 : Nat → Nat} (h : KeptAt w K k1) (he : ∀ i, i < 64 → k1 i = k2 i) : KeptAt w K k2 := ⟨h.blk, fun i hi => by rw [h.c i hi, he i hi]⟩
theorem filter_take {α : Type} (p : α → Bool) (l : List α) (k : Nat) (h : k < l.length) (x : α) (hx : l[k] = x) : (l.take (k + 1)).filter p = (l.take k).filter p ++ if p x then [x] else [] := by
  rw [take_snoc l k h, hx, List.filter_append]
  cases e : p x <;> simp [e]
theorem filter_take_le {α : Type} (p : α → Bool) (l : List α) (k : Nat) : ((l.take k).filter p).length ≤ k := Nat.le_trans (List.length_filter_le _ _) (List.length_take_le _ _)
theorem run_buildM (y : MsE) (w : World) : (Instr.buildSlice 50 1 #[(0, .agg y.vals.toArray)]).run Tryd.prog w = .ok (.slice (some ⟨w.heap.size, 0, none⟩) 1 1) (w.alloc (.cells y.vals.toArray 59)) := by kernel_rfl
theorem row_mono {w : World} {B B' : Nat} {e : TypeId} {sz : Nat} {kv : Value} {n : Nat} {l : List Value} (h : w.ownsRow B e sz kv n l) (hB : B' ≤ B) : w.ownsRow B' e sz kv n l :=
  ⟨h.1, h.2.imp id fun ⟨b, cap, cur, hv, hb, r⟩ => ⟨b, cap, cur, hv, Nat.le_trans hB hb, r⟩⟩
end Go.Proofs.YtagelhbknbpfhaaDoor

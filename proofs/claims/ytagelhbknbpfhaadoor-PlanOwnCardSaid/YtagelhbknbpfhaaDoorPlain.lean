/-
  A region in the order of its text, walked by the laws of a region that draws (one value for each operation, over a class of worlds): so that a long guarded region costs one small step an operation. No program.
-/
import Derived.Test.YtagelhbknbpfhaaDoorVals
import Derived.Deep.Quiet
import Derived.Deep.Cut
namespace Go.Proofs.YtagelhbknbpfhaaDoor
open Go
section
variable {P : Program} {ops : Array Oper}
theorem wpList_of_quiet {C : World → Prop} {Q : Exit → Act → World → Prop} : ∀ (l : List Oper) (a : Act) (w : World), C w → wpQuiet P ops C (fun a' => ∀ w', C w' → Q .normal a' w') l a → wpList P ops Q l a w
  | [], a, w, hw, h => h w hw
  | o :: rest, a, w, hw, h => by
    unfold wpList
    unfold wpQuiet at h
    split
    · rename_i hwn
      rw [if_pos hwn] at h
      exact .inl (Oper.wp_of_quiet hw (fun a' w' hw' hk => wpList_of_quiet rest a' w' hw' hk) h)
    · rename_i hwn
      rw [if_neg hwn] at h
      exact wpList_of_quiet rest _ w hw h
/-- A region in its text's order, quiet over a class of worlds. -/
theorem wp_region_plain {id : Nat} {C : World → Prop} {Q : Exit → Act → World → Prop} {a : Act} {w : World} (hC : C w) (h : wpQuiet P ops C (fun a' => ∀ w', C w' → Q .normal a' w') ops.toList a) :
    (Code.region id ops false).wp P Q a w := wp_region_list (wpList_of_quiet _ _ _ hC h)
theorem wpList_of_vals {n : Nat} (hT : textOk ops n = true) {C : (Nat → Bool) → World → Prop} {Q : Exit → Act → World → Prop} : ∀ (l : List Oper) (i : Nat) (a : Act) (w : World), i + l.length = ops.size → C (ltL i) w →
    wpVals P ops C (fun a' => ∀ w', C (ltL ops.size) w' → Q .normal a' w') i l a → wpList P ops Q l a w
  | [], i, a, w, hi, hw, h => by
    simp only [List.length_nil, Nat.add_zero] at hi
    rw [hi] at hw
    exact h w hw
  | o :: rest, i, a, w, hi, hw, h => by
    have hl : i + 1 + rest.length = ops.size := by simp only [List.length_cons] at hi; omega
    have hLi : ltL i i = false := by simp [ltL]
    unfold wpList
    unfold wpVals at h
    split
    · rename_i hwn
      rw [if_pos hwn] at h
      obtain ⟨v, hv, hk⟩ := h
      refine .inl (wp_of_upon (hv (ltL i) w hw hLi (fun j hj => by simp [ltL, waits_lt hT hj])) fun w' hw' => ?_)
      rw [addL_lt] at hw'
      exact wpList_of_vals hT rest (i + 1) _ w' hl hw' hk
    · rename_i hwn
      rw [if_neg hwn] at h
      have := h.1 (ltL i) w hw hLi
      rw [addL_lt] at this
      exact wpList_of_vals hT rest (i + 1) _ w hl this h.2
/-- A region in its text's order, effects and all. -/
theorem wp_region_vals_plain {id : Nat} {C : (Nat → Bool) → World → Prop} {Q : Exit → Act → World → Prop} {a : Act} {w : World} (hT : textOk ops a.tmps.size = true) (hC : C (fun _ => false) w)
    (h : wpVals P ops C (fun a' => ∀ w', C (ltL ops.size) w' → Q .normal a' w') 0 ops.toList a) : (Code.region id ops false).wp P Q a w :=
  wp_region_list (wpList_of_vals hT _ 0 _ _ (by simp) (by rw [show ltL 0 = fun _ => false from by funext j; simp [ltL]]; exact hC) h)
end
end Go.Proofs.YtagelhbknbpfhaaDoor

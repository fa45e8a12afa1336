/-
  PlanOwn: plainly.
-/
import Derived.Test.YtagelhbknbpfhaaDoorPlanQ
import Derived.Test.YtagelhbknbpfhaaDoorPlanF
namespace Go.Proofs.YtagelhbknbpfhaaDoor
def ownD (done : List Nat) (M : Nat) : List Nat := (List.range M).map fun j => done.getD j 0 % 5
def ownN (sent : List Nat) (i : Nat) : Nat := sent.getD i 0 % 5
def ownE (done sent : List Nat) (M i : Nat) : Ex := ⟨i, 0, 0, (ownD done M).set i ((ownD done M).getD i 0 + ownN sent i), 1, 0⟩
def ownL (done sent : List Nat) (M S : Nat) : List Ex := (List.range S).map (ownE done sent M)
def OwnM (done sent : List Nat) (M S : Nat) (m : Ms) : Prop := ∃ i k, i < S ∧ k < ownN sent i ∧ m.frm = (i : Int) ∧ m.seq = (ownD done M).getD i 0 + k + 1 ∧ m.deps = ownD done M
section
variable {done sent : List Nat} {M S : Nat}
theorem ownD_len : (ownD done M).length = M := by simp [ownD]
theorem ownD_le (j : Nat) : (ownD done M).getD j 0 ≤ 4 := by
  unfold ownD
  by_cases h : j < M
  · simp [List.getD_eq_getElem?_getD, h]; omega
  · simp [List.getD_eq_getElem?_getD, h]
theorem ownN_le (i : Nat) : ownN sent i ≤ 4 := by unfold ownN; omega
theorem ownL_snoc : ownL done sent M (S + 1) = ownL done sent M S ++ [ownE done sent M S] := by simp [ownL, List.range_succ]
theorem mem_ownL {x : Ex} : x ∈ ownL done sent M S ↔ ∃ i, i < S ∧ ownE done sent M i = x := by simp [ownL]
theorem own_new (hS : S ≤ 8) {me : Int} (h0 : 0 ≤ me) (h1 : me < S) : newL me (ownL done sent M S) = some (ownL done sent M S) := by
  cases e : newL me (ownL done sent M S) with
  | none =>
    exfalso
    refine newL_none_iff e ⟨fun x hx => ?_, ?_, ?_⟩
    · obtain ⟨i, hi, rfl⟩ := mem_ownL.1 hx
      have h2 : (ownE done sent M i).who = (i : Int) := rfl
      rw [h2]
      omega
    · unfold ownL
      rw [List.pairwise_map]
      refine List.Pairwise.imp (R := fun a b => a < b) (fun {a b} h => ?_) List.pairwise_lt_range
      show ((a : Nat) : Int) ≠ (b : Int)
      omega
    · obtain ⟨q, rfl⟩ := Int.eq_ofNat_of_zero_le h0
      exact ⟨ownE done sent M q, mem_ownL.2 ⟨q, by omega, rfl⟩, rfl⟩
  | some la =>
    obtain ⟨m, hm⟩ := newL_ok e
    rw [hm.la]
    congr 1
    rw [List.filter_eq_self]
    intro x hx
    obtain ⟨i, _, rfl⟩ := mem_ownL.1 hx
    obtain ⟨j, _, rfl⟩ := mem_ownL.1 hm.mem
    rfl
theorem whole_ge {l : List Ex} {x : Ex} (hx : x ∈ l) {q : Nat} (hq : q < 64) : atL x.cnt q ≤ wholeL l q := by
  unfold wholeL
  rw [if_pos (by omega)]
  exact (wholeF_le l q (wholeF l q)).1 (Nat.le_refl _) x hx
theorem own_own (hM : S ≤ M) (hS : S ≤ 8) {i : Nat} (hi : i < S) : (ownD done M).getD i 0 + ownN sent i ≤ wholeL (ownL done sent M S) i := by
  have h := whole_ge (mem_ownL.2 ⟨i, hi, rfl⟩ : ownE done sent M i ∈ ownL done sent M S) (q := i) (by omega)
  rw [atL_nat] at h
  have e : (ownE done sent M i).cnt.getD i 0 = (ownD done M).getD i 0 + ownN sent i := by
    show ((ownD done M).set i _).getD i 0 = _
    rw [List.getD_eq_getElem?_getD, List.getElem?_set_self (by rw [ownD_len]; omega)]; rfl
  rw [e] at h; exact h
theorem own_deps (hM : M ≤ 8) (hS : 0 < S) (q : Nat) (hq : q < M) : (ownD done M).getD q 0 ≤ wholeL (ownL done sent M S) q := by
  have h := whole_ge (mem_ownL.2 ⟨0, hS, rfl⟩ : ownE done sent M 0 ∈ ownL done sent M S) (q := q) (by omega)
  rw [atL_nat] at h
  refine Nat.le_trans ?_ h
  show _ ≤ ((ownD done M).set 0 _).getD q 0
  by_cases e : q = 0
  · subst e
    conv => rhs; rw [List.getD_eq_getElem?_getD, List.getElem?_set_self (by rw [ownD_len]; omega)]
    simp
  · conv => rhs; rw [List.getD_eq_getElem?_getD, List.getElem?_set_ne (Ne.symm e), ← List.getD_eq_getElem?_getD]
    exact Nat.le_refl _
theorem own_keeps (hM : S ≤ M) (hM8 : M ≤ 8) {m : Ms} (h : OwnM done sent M S m) : cntM (ownL done sent M S) m = true ∧ fitK (fun i => wholeL (ownL done sent M S) i) m.deps = true ∧ m.seq ≤ wholeL (ownL done sent M S) m.frm.toNat := by
  obtain ⟨i, k, hi, hk, h1, h2, h3⟩ := h
  have hw := own_own (done := done) (sent := sent) hM (by omega) hi
  refine ⟨?_, ?_, ?_⟩
  · unfold cntM
    rw [h1, h2, Bool.and_eq_true, decide_eq_true_iff, decide_eq_true_iff]
    exact ⟨by omega, by omega⟩
  · unfold fitK
    rw [h3, List.all_eq_true]
    intro q hq
    rw [List.mem_range, ownD_len] at hq
    have := own_deps (done := done) (sent := sent) (S := S) hM8 (by omega) q hq
    have e1 : decide (64 ≤ q) = false := decide_eq_false (by omega)
    have e2 : decide (wholeL (ownL done sent M S) (q : Int) < (ownD done M).getD q 0) = false := decide_eq_false (by omega)
    show (!((decide (64 ≤ q) && decide (0 < (ownD done M).getD q 0)) || (decide (q < 64) && decide (wholeL (ownL done sent M S) (q : Int) < (ownD done M).getD q 0)))) = true
    rw [e1, e2]; simp
  · rw [h1, h2]
    show _ ≤ wholeL _ ((i : Int).toNat : Int)
    rw [Int.toNat_natCast]; omega
theorem own_fin (hM : S ≤ M) (hM8 : M ≤ 8) {rest : List Ms} (h : ∀ m ∈ rest, OwnM done sent M S m) : Fin (ownL done sent M S) rest (fun i => wholeL (ownL done sent M S) i) (fun i => wholeL (ownL done sent M S) i) := by
  refine Fin.done _ ?_
  rw [List.find?_eq_none]
  intro m hm
  have := (own_keeps hM hM8 (h m hm)).2.1
  unfold badM
  rw [this]; simp
theorem own_all (hM : S ≤ M) (hM8 : M ≤ 8) {m : Ms} (h : OwnM done sent M S m) : keepM (ownL done sent M S) (fun i => wholeL (ownL done sent M S) i) m = true := by
  obtain ⟨h1, _, h3⟩ := own_keeps hM hM8 h
  unfold keepM
  rw [h1, decide_eq_true h3]; rfl
theorem own_bnd (hS : 0 < S) : bndL (ownL done sent M S) = ⟨1, 0⟩ := by
  have h : ∀ x ∈ (ownL done sent M S).map Ex.last, x = (⟨1, 0⟩ : Ky) := fun x hx => by
    obtain ⟨y, hy, rfl⟩ := List.mem_map.1 hx
    obtain ⟨i, _, rfl⟩ := mem_ownL.1 hy
    rfl
  have hl : 0 < ((ownL done sent M S).map Ex.last).length := by simp [ownL]; exact hS
  unfold bndL
  generalize (ownL done sent M S).map Ex.last = l at h hl
  cases l with
  | nil => simp at hl
  | cons x l =>
    show l.foldl upK x = _
    obtain rfl := h x (by simp)
    clear hl
    induction l with
    | nil => rfl
    | cons y l ih =>
      obtain rfl := h y (by simp)
      show l.foldl upK (upK ⟨1, 0⟩ ⟨1, 0⟩) = _
      have e : upK ⟨1, 0⟩ ⟨1, 0⟩ = (⟨1, 0⟩ : Ky) := by decide
      rw [e]
      exact ih (fun z hz => h z (by rcases List.mem_cons.1 hz with h1 | h1; · rw [h1]; simp
                                    · exact List.mem_cons_of_mem _ (List.mem_cons_of_mem _ h1)))
end
end Go.Proofs.YtagelhbknbpfhaaDoor

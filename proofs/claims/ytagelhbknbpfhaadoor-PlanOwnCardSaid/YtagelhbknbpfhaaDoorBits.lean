/-
  Plain facts on sets of processes as numbers: one bit, having, adding, listing. No program in sight.
-/
import Derived.Lib.TrailingZeros
import Derived.Laws.BitsLemmas
import Derived.Laws.Bits64b
import Derived.Laws.BitsAllLaws
namespace Go.Proofs.YtagelhbknbpfhaaDoor
/-- The set of one; none of what is no process. -/
def bitN (p : Int) : Nat := if 0 ≤ p ∧ p < 64 then 2 ^ p.toNat else 0
/-- Has it one? -/
def hasN (s : Nat) (p : Int) : Bool := decide (0 ≤ p) && decide (p < 64) && s.testBit p.toNat
/-- And some more. -/
def withN (s : Nat) (l : List Int) : Nat := l.foldl (fun s p => s ||| bitN p) s
/-- Without those of another one. -/
def butN (s t : Nat) : Nat := s ^^^ (s &&& t)
/-- All, rising. -/
def listN (s : Nat) : List Nat := (List.range 64).filter fun i => s.testBit i
/-- As Go's ints. -/
def ints (l : List Nat) : List Int := l.map fun n => Int.ofNat n

theorem pow_lt64 {k : Nat} (h : k < 64) : 2 ^ k < 18446744073709551616 := Nat.pow_lt_pow_right (by decide) h
theorem bitN_lt (p : Int) : bitN p < 18446744073709551616 := by
  unfold bitN
  split
  · exact pow_lt64 (by omega)
  · decide
theorem bitN_in {p : Int} (h : 0 ≤ p) (h2 : p < 64) : bitN p = 2 ^ p.toNat := by unfold bitN; rw [if_pos ⟨h, h2⟩]
theorem bitN_out {p : Int} (h : p < 0 ∨ 64 ≤ p) : bitN p = 0 := by unfold bitN; rw [if_neg (by omega)]
theorem testBit_bitN (p : Int) (i : Nat) : (bitN p).testBit i = (decide (0 ≤ p) && decide (p < 64) && decide (p.toNat = i)) := by
  unfold bitN
  split
  · rename_i h
    rw [Nat.testBit_two_pow]
    simp [h.1, h.2]
  · rename_i h
    by_cases h0 : 0 ≤ p
    · have h1 : ¬ p < 64 := fun h1 => h ⟨h0, h1⟩
      simp [h1]
    · simp [h0]
theorem hasN_eq (s : Nat) (p : Int) : (s &&& bitN p != 0) = hasN s p := by
  unfold hasN
  by_cases h : 0 ≤ p ∧ p < 64
  · rw [bitN_in h.1 h.2]
    have e : s &&& 2 ^ p.toNat = if s.testBit p.toNat then 2 ^ p.toNat else 0 := by
      apply Nat.eq_of_testBit_eq
      intro i
      rw [Nat.testBit_and, Nat.testBit_two_pow]
      by_cases hi : p.toNat = i
      · subst hi
        by_cases hb : s.testBit p.toNat <;> simp [hb]
      · by_cases hb : s.testBit p.toNat <;> simp [hb, hi]
    rw [e]
    have hp : 2 ^ p.toNat ≠ 0 := Nat.pos_iff_ne_zero.1 (Nat.two_pow_pos _)
    by_cases hb : s.testBit p.toNat <;> simp [hb, h.1, h.2]
  · have h' : p < 0 ∨ 64 ≤ p := by omega
    rw [bitN_out h']
    rcases h' with h' | h'
    · simp [show ¬ 0 ≤ p by omega]
    · simp [show ¬ p < 64 by omega]
theorem hasN_nat (s k : Nat) : hasN s (k : Int) = (decide (k < 64) && s.testBit k) := by
  unfold hasN
  by_cases h : k < 64
  · have : (k : Int) < 64 := by omega
    simp [h, this]
  · have : ¬ (k : Int) < 64 := by omega
    simp [h, this]
theorem wrap_pow {p : Int} (h : 0 ≤ p) (h2 : p < 64) : IntKind.u64.wrap (2 ^ p.toNat) = ((bitN p : Nat) : Int) := by
  have h1 : 2 ^ p.toNat < 18446744073709551616 := pow_lt64 (by omega)
  rw [IntKind.wrap_u64, bitN_in h h2]
  have e : ((2 : Int) ^ p.toNat) = ((2 ^ p.toNat : Nat) : Int) := by simp
  rw [e]
  generalize 2 ^ p.toNat = q at *
  omega
theorem withN_cons (s : Nat) (p : Int) (l : List Int) : withN s (p :: l) = withN (s ||| bitN p) l := rfl
theorem withN_nil (s : Nat) : withN s [] = s := rfl
theorem withN_one (s : Nat) (p : Int) : withN s [p] = s ||| bitN p := rfl
theorem withN_snoc (s : Nat) (l : List Int) (p : Int) : withN s (l ++ [p]) = withN s l ||| bitN p := by simp [withN]
theorem withN_take (s : Nat) (l : List Int) (k : Nat) (h : k < l.length) : withN s (l.take (k + 1)) = withN s (l.take k) ||| bitN l[k] := by
  rw [List.take_succ_eq_append_getElem h, withN_snoc]
theorem or_lt64 {a b : Nat} (ha : a < 18446744073709551616) (hb : b < 18446744073709551616) : a ||| b < 18446744073709551616 :=
  Nat.or_lt_two_pow (n := 64) ha hb
theorem and_lt64 {a b : Nat} (ha : a < 18446744073709551616) : a &&& b < 18446744073709551616 :=
  Nat.lt_of_le_of_lt Nat.and_le_left ha
theorem withN_lt {s : Nat} (hs : s < 18446744073709551616) (l : List Int) : withN s l < 18446744073709551616 := by
  induction l generalizing s with
  | nil => exact hs
  | cons p l ih => exact ih (or_lt64 hs (bitN_lt p))
theorem butN_lt {s : Nat} (hs : s < 18446744073709551616) (t : Nat) : butN s t < 18446744073709551616 :=
  Nat.xor_lt_two_pow (n := 64) hs (and_lt64 hs)
theorem testBit_butN (s t i : Nat) : (butN s t).testBit i = (s.testBit i && !t.testBit i) := by
  unfold butN
  rw [Nat.testBit_xor, Nat.testBit_and]
  cases s.testBit i <;> cases t.testBit i <;> rfl
theorem testBit_withN (s : Nat) (l : List Int) (i : Nat) : (withN s l).testBit i = (s.testBit i || l.any fun p => (bitN p).testBit i) := by
  induction l generalizing s with
  | nil => simp [withN]
  | cons p l ih => rw [withN_cons, ih, Nat.testBit_or]; simp [Bool.or_assoc]
theorem testBit_ge {s : Nat} (hs : s < 18446744073709551616) {i : Nat} (h : 64 ≤ i) : s.testBit i = false :=
  Nat.testBit_lt_two_pow (Nat.lt_of_lt_of_le hs (Nat.pow_le_pow_right (n := 2) (by omega) h))
theorem mem_listN (s k : Nat) : k ∈ listN s ↔ k < 64 ∧ s.testBit k = true := by simp [listN]
theorem listN_lt {s k : Nat} (h : k ∈ listN s) : k < 64 := ((mem_listN s k).1 h).1
theorem listN_length (s : Nat) : (listN s).length ≤ 64 := by
  have := List.length_filter_le (fun i => s.testBit i) (List.range 64)
  simpa [listN] using this
theorem listN_zero : listN 0 = [] := by simp [listN]
theorem ints_length (l : List Nat) : (ints l).length = l.length := by simp [ints]
theorem mem_ints {l : List Nat} {p : Int} (h : p ∈ ints l) : ∃ k : Nat, k ∈ l ∧ p = k := by
  simp [ints] at h
  obtain ⟨k, hk, rfl⟩ := h
  exact ⟨k, hk, rfl⟩

/-- The lowest bit taken off. -/
theorem and_pred (k m : Nat) : (2 ^ k * (2 * m + 1)) &&& (2 ^ k * (2 * m + 1) - 1) = 2 ^ k * (2 * m) := by
  have hp : 0 < 2 ^ k := Nat.two_pow_pos k
  have e : 2 ^ k * (2 * m + 1) - 1 = 2 ^ k * (2 * m) + (2 ^ k - 1) := by rw [Nat.mul_add, Nat.mul_one]; omega
  rw [e]
  apply Nat.eq_of_testBit_eq
  intro i
  have hlt : 2 ^ k - 1 < 2 ^ k := by omega
  rw [Nat.testBit_and, Nat.testBit_two_pow_mul_add _ hlt, Nat.testBit_two_pow_mul, Nat.testBit_two_pow_mul]
  by_cases hik : i < k
  · have : ¬ i ≥ k := by omega
    simp [hik, this]
  · have h1 : i ≥ k := by omega
    simp only [hik, if_false, h1, decide_true, Bool.true_and]
    by_cases h0 : i - k = 0
    · rw [h0]; simp [Nat.testBit_zero]
    · obtain ⟨j, hj⟩ : ∃ j, i - k = j + 1 := ⟨i - k - 1, by omega⟩
      rw [hj, Nat.testBit_succ, Nat.testBit_succ]
      have d1 : (2 * m + 1) / 2 = m := by omega
      have d2 : (2 * m) / 2 = m := by omega
      rw [d1, d2, Bool.and_self]
theorem filter_first (p q : Nat → Bool) (k n : Nat) (hk : k < n) (hpk : p k = true) (hlow : ∀ i, i < k → p i = false) (hq : ∀ i, q i = (p i && decide (i ≠ k))) :
    (List.range n).filter p = k :: (List.range n).filter q := by
  have e : List.range n = List.range k ++ k :: List.range' (k + 1) (n - k - 1) := by
    rw [List.range_eq_range', List.range_eq_range']
    have h1 : n = k + (1 + (n - k - 1)) := by omega
    conv => lhs; rw [h1]
    rw [← List.range'_append_1, ← List.range'_append_1]
    simp [List.range'_succ]
  rw [e, List.filter_append, List.filter_append, List.filter_cons, List.filter_cons, if_pos hpk, if_neg (by rw [hq]; simp)]
  have h1 : (List.range k).filter p = [] := by
    rw [List.filter_eq_nil_iff]; intro i hi; rw [hlow i (by simpa using hi)]; simp
  have h2 : (List.range k).filter q = [] := by
    rw [List.filter_eq_nil_iff]; intro i hi; rw [hq, hlow i (by simpa using hi)]; simp
  rw [h1, h2]
  simp only [List.nil_append]
  congr 1
  apply List.filter_congr
  intro i hi
  have hi' : k + 1 ≤ i := by simp [List.mem_range'] at hi; omega
  rw [hq, decide_eq_true (show i ≠ k by omega), Bool.and_true]
theorem testBit_low (k m i : Nat) (h : i < k) : (2 ^ k * (2 * m + 1)).testBit i = false := by
  rw [Nat.testBit_two_pow_mul]; simp [show ¬ i ≥ k by omega]
theorem testBit_at (k m : Nat) : (2 ^ k * (2 * m + 1)).testBit k = true := by
  rw [Nat.testBit_two_pow_mul]; simp [Nat.testBit_zero]
/-- Listing: the lowest one first, then those of what is left. -/
theorem listN_step {t : Nat} (h0 : t ≠ 0) (ht : t < 18446744073709551616) : Lib.ctz 64 t < 64 ∧ listN t = Lib.ctz 64 t :: listN (t &&& (t - 1)) ∧ t &&& (t - 1) < t := by
  obtain ⟨m, hm, hk⟩ := Lib.ctzFrom_spec 64 t (Nat.pos_of_ne_zero h0) ht
  have hc : Lib.ctz 64 t = Lib.ctzFrom 64 t := by unfold Lib.ctz; rw [if_neg h0]
  rw [hc]
  generalize Lib.ctzFrom 64 t = k at hm hk ⊢
  subst hm
  refine ⟨hk, ?_, ?_⟩
  · unfold listN
    rw [and_pred]
    refine filter_first _ _ k 64 hk (testBit_at k m) (fun i hi => testBit_low k m i hi) (fun i => ?_)
    rw [Nat.testBit_two_pow_mul, Nat.testBit_two_pow_mul]
    by_cases hik : i ≥ k
    · by_cases he : i = k
      · subst he; simp [Nat.testBit_zero]
      · obtain ⟨j, hj⟩ : ∃ j, i - k = j + 1 := ⟨i - k - 1, by omega⟩
        simp only [hik, decide_true, Bool.true_and, he, ne_eq, not_false_eq_true, Bool.and_true]
        rw [hj, Nat.testBit_succ, Nat.testBit_succ]
        have d1 : (2 * m + 1) / 2 = m := by omega
        have d2 : (2 * m) / 2 = m := by omega
        rw [d1, d2]
    · simp [hik]
  · rw [and_pred]
    exact Nat.mul_lt_mul_of_pos_left (by omega) (Nat.two_pow_pos k)
theorem u64_pred {t : Nat} (h0 : t ≠ 0) : ((t : Int) - 1) = ((t - 1 : Nat) : Int) := by omega
theorem andNot_eq {s t : Nat} (hs : s < 18446744073709551616) (ht : t < 18446744073709551616) : s &&& (18446744073709551615 - t) = butN s t := by
  apply Nat.eq_of_testBit_eq
  intro i
  rw [testBit_butN, Nat.testBit_and]
  by_cases hi : i < 64
  · have e : 18446744073709551615 - t = 2 ^ 64 - (t + 1) := by omega
    rw [e, Nat.testBit_two_pow_sub_succ (by omega)]
    simp [hi]
  · rw [testBit_ge hs (by omega)]; rfl
theorem bits_but {s t : Nat} (hs : s < 18446744073709551616) (ht : t < 18446744073709551616) : bits .andNot .u64 (s : Int) (t : Int) = ((butN s t : Nat) : Int) := by
  rw [u64_andNot_nat s t hs ht, andNot_eq hs ht]
/-- Those below a number. -/
def clamp (n : Int) : Nat := (max 0 (min n 64)).toNat
def allP (k : Nat) : Nat := 2 ^ k - 1
def allN (n : Int) : Nat := allP (clamp n)
theorem allP_lt {k : Nat} (h : k ≤ 64) : allP k < 18446744073709551616 := by
  unfold allP
  have h1 : 2 ^ k ≤ 2 ^ 64 := Nat.pow_le_pow_right (by omega) h
  have h2 : 0 < 2 ^ k := Nat.two_pow_pos _
  omega
theorem clamp_le (n : Int) : clamp n ≤ 64 := by unfold clamp; omega
theorem allN_lt (n : Int) : allN n < 18446744073709551616 := by
  exact allP_lt (clamp_le n)
theorem testBit_allN (n : Int) (i : Nat) : (allN n).testBit i = (decide (i < 64) && decide ((i : Int) < n)) := by
  unfold allN allP
  rw [Nat.testBit_two_pow_sub_one]
  unfold clamp
  by_cases h : i < 64
  · by_cases h2 : (i : Int) < n
    · have : i < (max 0 (min n 64)).toNat := by omega
      simp [h, h2, this]
    · have : ¬ i < (max 0 (min n 64)).toNat := by omega
      simp [h2, this]
  · have : ¬ i < (max 0 (min n 64)).toNat := by omega
    simp [h, this]
theorem pred_or_pow (k : Nat) : (2 ^ k - 1) ||| 2 ^ k = 2 ^ (k + 1) - 1 := by
  apply Nat.eq_of_testBit_eq
  intro i
  rw [Nat.testBit_or, Nat.testBit_two_pow_sub_one, Nat.testBit_two_pow_sub_one, Nat.testBit_two_pow]
  by_cases h : i < k
  · have : i < k + 1 := by omega
    simp [h, this]
  · by_cases h2 : k = i
    · subst h2; simp
    · have : ¬ i < k + 1 := by omega
      simp [h, h2, this]
theorem hasN_withN (s : Nat) (l : List Int) (p : Int) : hasN (withN s l) p = (hasN s p || (decide (0 ≤ p) && decide (p < 64) && decide (p ∈ l))) := by
  unfold hasN
  rw [testBit_withN]
  by_cases h0 : 0 ≤ p
  · by_cases h1 : p < 64
    · simp only [h0, h1, decide_true, Bool.true_and]
      congr 1
      rw [Bool.eq_iff_iff, List.any_eq_true, decide_eq_true_iff]
      constructor
      · rintro ⟨q, hq, hb⟩
        rw [testBit_bitN] at hb
        simp only [Bool.and_eq_true, decide_eq_true_iff] at hb
        have : p = q := by omega
        rw [this]; exact hq
      · intro hp
        exact ⟨p, hp, by rw [testBit_bitN]; simp [h0, h1]⟩
    · simp [h1]
  · simp [h0]
theorem hasN_butN (s t : Nat) (p : Int) : hasN (butN s t) p = (hasN s p && !hasN t p) := by
  unfold hasN
  rw [testBit_butN]
  cases decide (0 ≤ p) <;> cases decide (p < 64) <;> simp
theorem hasN_and (s t : Nat) (p : Int) : hasN (s &&& t) p = (hasN s p && hasN t p) := by
  unfold hasN
  rw [Nat.testBit_and]
  cases decide (0 ≤ p) <;> cases decide (p < 64) <;> simp
theorem hasN_or (s t : Nat) (p : Int) : hasN (s ||| t) p = (hasN s p || hasN t p) := by
  unfold hasN
  rw [Nat.testBit_or]
  cases decide (0 ≤ p) <;> cases decide (p < 64) <;> simp
theorem hasN_allN (n p : Int) : hasN (allN n) p = (decide (0 ≤ p) && decide (p < 64) && decide (p < n)) := by
  unfold hasN
  rw [testBit_allN]
  by_cases h0 : 0 ≤ p
  · by_cases h1 : p < 64
    · have e : ((p.toNat : Nat) : Int) = p := by omega
      have h2 : p.toNat < 64 := by omega
      rw [e]; simp [h0, h1, h2]
    · simp [h1]
  · simp [h0]
theorem eq_of_hasN {s t : Nat} (hs : s < 18446744073709551616) (ht : t < 18446744073709551616) (h : ∀ p : Nat, p < 64 → hasN s p = hasN t p) : s = t := by
  apply Nat.eq_of_testBit_eq
  intro i
  by_cases hi : i < 64
  · have := h i hi
    rw [hasN_nat, hasN_nat] at this
    simpa [hi] using this
  · rw [testBit_ge hs (by omega), testBit_ge ht (by omega)]
theorem hasN_range {s : Nat} {p : Int} (h : hasN s p = true) : 0 ≤ p ∧ p < 64 := by
  unfold hasN at h
  simp only [Bool.and_eq_true, decide_eq_true_iff] at h
  exact h.1
theorem mem_listN' (s k : Nat) : k ∈ listN s ↔ hasN s k = true := by
  rw [mem_listN, hasN_nat]; simp
end Go.Proofs.YtagelhbknbpfhaaDoor

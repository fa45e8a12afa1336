/-
  HeardEpoch, plainly: none of the last beats has a greater epoch than the greatest; one of them has it, or it is 0. No program.
-/
import Derived.Test.YtjokfjdbioeohaaDoorHeardActs
namespace Go.Proofs.YtjokfjdbioeohaaDoor
/-- What was not said is nothing. -/
def Ear.Bare (m : Ear) : Prop := ∀ i, i < 64 → (m.l i).b = Bt.zero ∨ (m.others.testBit i = true ∧ (m.l i).said = true)
theorem newE_bare (me n t : Int) : (newE me n t).Bare := fun _ _ => .inl rfl
theorem Ear.Bare.beat {m : Ear} (h : m.Bare) (p : Int) (b : Bt) : (beatE m p b).Bare := by
  intro i hi
  rw [beatE_l, beatE_others]
  split
  · rename_i hc
    simp only [Bool.and_eq_true, decide_eq_true_eq] at hc
    obtain ⟨h1, rfl⟩ := hc
    right
    obtain ⟨h0, h64⟩ := hasN_range h1
    rw [show p = ((p.toNat : Nat) : Int) by omega, hasN_nat] at h1
    simp only [Bool.and_eq_true] at h1
    exact ⟨h1.2, rfl⟩
  · exact h i hi
theorem Ear.Bare.forget {m : Ear} (h : m.Bare) (s : Nat) : (forgetE m s).Bare := by
  intro i hi
  rw [forgetE_l m s i hi, forgetE_others]
  split
  · exact .inl rfl
  · exact h i hi
theorem epStep_ge (n : Nat) (x : Ent) : n ≤ epStep n x ∧ x.b.ep ≤ epStep n x ∧ x.b.ce ≤ epStep n x ∧ x.b.pe ≤ epStep n x := by unfold epStep; omega
theorem epochL_ge (m : Ear) (ps : List Nat) : ∀ n : Nat, n ≤ ps.foldl (fun n p => epStep n (m.l p)) n ∧ ∀ p ∈ ps, (m.l p).b.ep ≤ ps.foldl (fun n p => epStep n (m.l p)) n ∧ (m.l p).b.ce ≤ ps.foldl (fun n p => epStep n (m.l p)) n ∧ (m.l p).b.pe ≤ ps.foldl (fun n p => epStep n (m.l p)) n := by
  induction ps with
  | nil => exact fun n => ⟨Nat.le_refl _, fun p hp => by cases hp⟩
  | cons q ps ih =>
    intro n
    obtain ⟨h1, h2⟩ := ih (epStep n (m.l q))
    have h3 := epStep_ge n (m.l q)
    refine ⟨Nat.le_trans h3.1 h1, fun p hp => ?_⟩
    rcases List.mem_cons.1 hp with rfl | hp
    · exact ⟨Nat.le_trans h3.2.1 h1, Nat.le_trans h3.2.2.1 h1, Nat.le_trans h3.2.2.2 h1⟩
    · exact h2 p hp
theorem epochL_is (m : Ear) (ps : List Nat) : ∀ n : Nat, ps.foldl (fun n p => epStep n (m.l p)) n = n ∨ ∃ p ∈ ps, (m.l p).b.ep = ps.foldl (fun n p => epStep n (m.l p)) n ∨ (m.l p).b.ce = ps.foldl (fun n p => epStep n (m.l p)) n ∨ (m.l p).b.pe = ps.foldl (fun n p => epStep n (m.l p)) n := by
  induction ps with
  | nil => exact fun n => .inl rfl
  | cons q ps ih =>
    intro n
    rcases ih (epStep n (m.l q)) with h | ⟨p, hp, h⟩
    · have h3 : epStep n (m.l q) = n ∨ (m.l q).b.ep = epStep n (m.l q) ∨ (m.l q).b.ce = epStep n (m.l q) ∨ (m.l q).b.pe = epStep n (m.l q) := by unfold epStep; omega
      rcases h3 with h3 | h3
      · exact .inl (h.trans h3)
      · refine .inr ⟨q, List.mem_cons_self .., ?_⟩
        show (m.l q).b.ep = ps.foldl (fun n p => epStep n (m.l p)) (epStep n (m.l q)) ∨ _
        rw [List.foldl_cons, h]; exact h3
    · exact .inr ⟨p, List.mem_cons_of_mem _ hp, h⟩
theorem ofE_nat (m : Ear) {p : Nat} (hp : p < 64) : ofE m p = if m.others.testBit p && (m.l p).said then ((m.l p).b, true) else (Bt.zero, false) := by
  unfold ofE
  rw [hasN_nat, decide_eq_true hp, Bool.true_and, Int.toNat_natCast]
theorem ofE_le (m : Ear) {p : Nat} (hp : p < 64) : (ofE m p).1.ep ≤ epochE m ∧ (ofE m p).1.ce ≤ epochE m ∧ (ofE m p).1.pe ≤ epochE m := by
  rw [ofE_nat m hp]
  split
  · exact (epochL_ge m (List.range 64) 0).2 p (List.mem_range.2 hp)
  · exact ⟨Nat.zero_le _, Nat.zero_le _, Nat.zero_le _⟩
def isBest (n : Nat) (o : Bt × Bool) : Bool := o.2 && (decide (o.1.ep = n) || decide (o.1.ce = n) || decide (o.1.pe = n))
def foundK (m : Ear) (k : Nat) : Bool := decide (epochE m = 0) || (List.range k).any fun p => isBest (epochE m) (ofE m p)
theorem foundK_zero (m : Ear) : foundK m 0 = decide (epochE m = 0) := by simp [foundK]
theorem foundK_succ (m : Ear) (k : Nat) : foundK m (k + 1) = (foundK m k || isBest (epochE m) (ofE m k)) := by
  unfold foundK
  rw [List.range_succ, List.any_append, ← Bool.or_assoc]
  simp
theorem foundK_end {m : Ear} (h : m.Bare) : foundK m 64 = true := by
  unfold foundK
  rcases epochL_is m (List.range 64) 0 with h1 | ⟨p, hp, h1⟩
  · rw [show epochE m = 0 from h1]; rfl
  · have hp64 := List.mem_range.1 hp
    have h2 : (m.l p).b.ep = epochE m ∨ (m.l p).b.ce = epochE m ∨ (m.l p).b.pe = epochE m := h1
    rcases h p hp64 with hz | ⟨ho, hs⟩
    · rw [hz] at h2
      have : epochE m = 0 := by
        simp only [Bt.zero] at h2
        omega
      rw [this]; rfl
    · have : isBest (epochE m) (ofE m p) = true := by
        rw [ofE_nat m hp64, ho, hs]
        unfold isBest
        simp only [Bool.and_self, if_true, Bool.true_and, Bool.or_eq_true, decide_eq_true_eq]
        omega
      rw [Bool.or_eq_true]
      right
      rw [List.any_eq_true]
      exact ⟨p, hp, this⟩
end Go.Proofs.YtjokfjdbioeohaaDoor

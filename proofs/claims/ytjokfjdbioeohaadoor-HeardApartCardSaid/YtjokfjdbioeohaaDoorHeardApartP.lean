/-
  HeardApart, plainly: two ears, one of which is told of one process alone: they agree on that one, and the second reaches no other. No program.
-/
import Derived.Test.YtjokfjdbioeohaaDoorHeardEpochP
namespace Go.Proofs.YtjokfjdbioeohaaDoor
/-- The first is told all, the second what concerns q. -/
structure Apart (e f : Ear) (q : Nat) : Prop where
  me : f.me = e.me
  timeout : f.timeout = e.timeout
  now : f.now = e.now
  others : f.others = e.others
  lq : f.l q = e.l q
  ever : ∀ i, i < 64 → i ≠ q → (f.l i).ever = false
section
variable {e f : Ear} {q : Nat}
theorem Apart.new (me n t : Int) (q : Nat) : Apart (newE me n t) (newE me n t) q := ⟨rfl, rfl, rfl, rfl, rfl, fun _ _ _ => rfl⟩
theorem Apart.tick (h : Apart e f q) : Apart (tickE e) (tickE f) q := ⟨h.me, h.timeout, by show f.now + 1 = e.now + 1; rw [h.now], h.others, h.lq, h.ever⟩
theorem hearE_far {m : Ear} {p : Int} {i : Nat} (h : p ≠ (i : Int)) : (hearE m p).l i = m.l i := by
  rw [hearE_l]
  cases hh : hasN m.others p
  · rfl
  · have := hasN_range hh
    have : ¬ i = p.toNat := by omega
    simp [this]
theorem beatE_far {m : Ear} {p : Int} {b : Bt} {i : Nat} (h : p ≠ (i : Int)) : (beatE m p b).l i = m.l i := by
  rw [beatE_l]
  cases hh : hasN m.others p
  · rfl
  · have := hasN_range hh
    have : ¬ i = p.toNat := by omega
    simp [this]
theorem Apart.hearL (h : Apart e f q) {p : Int} (hp : p ≠ (q : Int)) : Apart (hearE e p) f q :=
  ⟨by rw [hearE_me]; exact h.me, by rw [hearE_timeout]; exact h.timeout, by rw [hearE_now]; exact h.now, by rw [hearE_others]; exact h.others, by rw [hearE_far hp]; exact h.lq, h.ever⟩
theorem Apart.beatL (h : Apart e f q) {p : Int} (hp : p ≠ (q : Int)) (b : Bt) : Apart (beatE e p b) f q :=
  ⟨by rw [beatE_me]; exact h.me, by rw [beatE_timeout]; exact h.timeout, by rw [beatE_now]; exact h.now, by rw [beatE_others]; exact h.others, by rw [beatE_far hp]; exact h.lq, h.ever⟩
theorem Apart.hear (h : Apart e f q) : Apart (hearE e q) (hearE f q) q := by
  refine ⟨by rw [hearE_me, hearE_me]; exact h.me, by rw [hearE_timeout, hearE_timeout]; exact h.timeout, by rw [hearE_now, hearE_now]; exact h.now, by rw [hearE_others, hearE_others]; exact h.others, ?_, fun i hi hne => ?_⟩
  · rw [hearE_l, hearE_l, h.others, h.lq, h.now]
  · rw [hearE_far (by omega)]; exact h.ever i hi hne
theorem Apart.beat (h : Apart e f q) (b : Bt) : Apart (beatE e q b) (beatE f q b) q := by
  refine ⟨by rw [beatE_me, beatE_me]; exact h.me, by rw [beatE_timeout, beatE_timeout]; exact h.timeout, by rw [beatE_now, beatE_now]; exact h.now, by rw [beatE_others, beatE_others]; exact h.others, ?_, fun i hi hne => ?_⟩
  · rw [beatE_l, beatE_l, h.others, h.lq, h.now]
  · rw [beatE_far (by omega)]; exact h.ever i hi hne
theorem Apart.forget (h : Apart e f q) (hq : q < 64) (s : Nat) : Apart (forgetE e s) (forgetE f (s &&& bitN q)) q := by
  refine ⟨by rw [forgetE_me, forgetE_me]; exact h.me, by rw [forgetE_timeout, forgetE_timeout]; exact h.timeout, by rw [forgetE_now, forgetE_now]; exact h.now, by rw [forgetE_others, forgetE_others]; exact h.others, ?_, fun i hi hne => ?_⟩
  · rw [forgetE_l _ _ _ hq, forgetE_l _ _ _ hq, h.others, h.lq]
    have : (bitN (q : Int)).testBit q = true := by
      rw [testBit_bitN]
      have : (q : Int) < 64 := by omega
      simp [this]
    rw [Nat.testBit_and, this, Bool.and_true]
  · have := h.ever i hi hne
    rw [forgetE_l _ _ _ hi]
    split
    · exact this
    · exact this
theorem Apart.of (h : Apart e f q) (hq : q < 64) : ofV f q = ofV e q := by
  unfold ofV
  rw [ofE_nat f hq, ofE_nat e hq, h.others, h.lq]
theorem Apart.has (h : Apart e f q) (hq : q < 64) : hasN (reachE f) (q : Int) = hasN (reachE e) (q : Int) := by
  rw [hasN_reach f q hq, hasN_reach e q hq, h.me, h.others]
  unfold inR
  rw [h.lq, h.now, h.timeout]
theorem Apart.inn (h : Apart e f q) (hq : q < 64) : butN (reachE f) (withN 0 [e.me, (q : Int)]) = 0 := by
  apply Nat.eq_of_testBit_eq
  intro i
  rw [Nat.zero_testBit, testBit_butN]
  by_cases hi : i < 64
  · have h1 := hasN_reach f i hi
    rw [hasN_nat, decide_eq_true hi, Bool.true_and] at h1
    rw [h1]
    have h2 := hasN_withN 0 [e.me, (q : Int)] (i : Int)
    rw [hasN_nat, decide_eq_true hi, Bool.true_and] at h2
    rw [h2, h.me]
    have e1 : (i : Int) < 64 := by omega
    by_cases hm : (i : Int) = e.me
    · simp [hm.symm, e1]
    · by_cases hiq : i = q
      · subst hiq
        simp [e1]
      · have h3 := h.ever i hi hiq
        unfold inR
        rw [h3]
        simp [hm]
  · rw [testBit_ge (show reachE f < 18446744073709551616 from reachL_lt _ _) (by omega)]; rfl
end
end Go.Proofs.YtjokfjdbioeohaaDoor

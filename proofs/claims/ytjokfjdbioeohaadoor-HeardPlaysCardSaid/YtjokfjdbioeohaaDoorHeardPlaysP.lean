/-
  HeardPlays, plainly: the ear and the document's list of all that was heard say the same. No program.
-/
import Derived.Test.YtjokfjdbioeohaaDoorRefEpoch
import Derived.Test.YtjokfjdbioeohaaDoorHeardEpochP
namespace Go.Proofs.YtjokfjdbioeohaaDoor
/-- When a process was last heard of, of the first k. -/
def latK (l : List Sd) (p : Int) : Nat → Option Int
  | 0 => none
  | k + 1 => if (l.getD k Sd.zero).p = p then (if (l.getD k Sd.zero).gone then latK l p k else some (l.getD k Sd.zero).at_) else latK l p k
def lat (l : List Sd) (p : Int) : Option Int := latK l p l.length
def ofl (l : List Sd) (p : Int) : Sd × Bool := ofK l p l.length
theorem getD_app (l : List Sd) (x : Sd) {k : Nat} (h : k < l.length) : (l ++ [x]).getD k Sd.zero = l.getD k Sd.zero := by
  simp [List.getD_eq_getElem?_getD, List.getElem?_append_left h]
theorem getD_last (l : List Sd) (x : Sd) : (l ++ [x]).getD l.length Sd.zero = x := by simp [List.getD_eq_getElem?_getD]
theorem ofK_app (l : List Sd) (x : Sd) (p : Int) : ∀ k, k ≤ l.length → ofK (l ++ [x]) p k = ofK l p k
  | 0, _ => rfl
  | k + 1, h => by rw [ofK, ofK, getD_app l x (by omega), ofK_app l x p k (by omega)]
theorem latK_app (l : List Sd) (x : Sd) (p : Int) : ∀ k, k ≤ l.length → latK (l ++ [x]) p k = latK l p k
  | 0, _ => rfl
  | k + 1, h => by rw [latK, latK, getD_app l x (by omega), latK_app l x p k (by omega)]
theorem ofl_snoc (l : List Sd) (x : Sd) (p : Int) : ofl (l ++ [x]) p = if x.p = p then (if x.gone then (Sd.zero, false) else if x.beat then (x, true) else ofl l p) else ofl l p := by
  unfold ofl
  rw [List.length_append]
  show ofK (l ++ [x]) p (l.length + 1) = _
  rw [ofK, getD_last, ofK_app l x p _ (Nat.le_refl _)]
theorem lat_snoc (l : List Sd) (x : Sd) (p : Int) : lat (l ++ [x]) p = if x.p = p then (if x.gone then lat l p else some x.at_) else lat l p := by
  unfold lat
  rw [List.length_append]
  show latK (l ++ [x]) p (l.length + 1) = _
  rw [latK, getD_last, latK_app l x p _ (Nat.le_refl _)]
theorem rchK_lat (r : REar) (p : Int) : ∀ k, rchK r p k = (match latK r.all p k with | none => false | some t => decide (r.now - t ≤ r.timeout))
  | 0 => rfl
  | k + 1 => by
    rw [rchK, latK]
    split
    · split
      · exact rchK_lat r p k
      · rfl
    · exact rchK_lat r p k
theorem rchR_lat (r : REar) (p : Int) : rchR r p = (match lat r.all p with | none => false | some t => decide (r.now - t ≤ r.timeout)) := rchK_lat r p _
theorem ofK_false (l : List Sd) (p : Int) : ∀ k, (ofK l p k).2 = false → (ofK l p k).1 = Sd.zero
  | 0, _ => rfl
  | k + 1, h => by
    rw [ofK] at h ⊢
    split
    · rename_i h1
      rw [if_pos h1] at h
      split
      · rfl
      · rename_i h2
        rw [if_neg h2] at h
        split
        · rename_i h3
          rw [if_pos h3] at h
          cases h
        · rename_i h3
          rw [if_neg h3] at h
          exact ofK_false l p k h
    · rename_i h1
      rw [if_neg h1] at h
      exact ofK_false l p k h
/-- The two say the same. -/
structure Rel (m : Ear) (r : REar) : Prop where
  me : r.me = m.me
  timeout : r.timeout = m.timeout
  now : r.now = m.now
  oth : ∀ p : Int, othR r p = hasN m.others p
  of : ∀ p : Nat, p < 64 → m.others.testBit p = true → (ofl r.all p).2 = (m.l p).said ∧ (ofl r.all p).1.b = (m.l p).b
  lat : ∀ p : Nat, p < 64 → m.others.testBit p = true → lat r.all p = if (m.l p).ever then some (m.l p).at_ else none
  non : ∀ p : Int, hasN m.others p = false → ofl r.all p = (Sd.zero, false)
  bare : ∀ p : Nat, p < 64 → m.others.testBit p = false → (m.l p).b = Bt.zero
def newR (me n timeout : Int) : REar := ⟨me, n, timeout, 0, []⟩
theorem hasN_new (me n : Int) (p : Int) : hasN (butN (allN n) (bitN me)) p = (decide (0 ≤ p) && decide (p < 64) && decide (p < n) && !decide (p = me)) := by
  rw [hasN_butN, hasN_allN]
  unfold hasN
  by_cases h0 : 0 ≤ p
  · by_cases h1 : p < 64
    · rw [testBit_bitN]
      have : (decide (0 ≤ me) && decide (me < 64) && decide (me.toNat = p.toNat)) = decide (p = me) := by
        by_cases h : p = me
        · subst h; simp [h0, h1]
        · rw [decide_eq_false h]
          by_cases h2 : 0 ≤ me
          · have : ¬ me.toNat = p.toNat := by omega
            simp [this]
          · simp [h2]
      rw [this]
      simp [h0, h1]
    · simp [h1]
  · simp [h0]
theorem Rel.new (me n timeout : Int) : Rel (newE me n timeout) (newR me n timeout) :=
  ⟨rfl, rfl, rfl, fun p => by
    show othR (newR me n timeout) p = hasN (butN (allN n) (bitN me)) p
    rw [hasN_new]
    unfold othR newR
    dsimp only
    cases decide (0 ≤ p) <;> cases decide (p < 64) <;> cases decide (p < n) <;> rfl, fun _ _ _ => ⟨rfl, rfl⟩, fun _ _ _ => rfl, fun _ _ => rfl, fun _ _ _ => rfl⟩
section
variable {m : Ear} {r : REar}
theorem Rel.tick (h : Rel m r) : Rel (tickE m) { r with now := r.now + 1 } :=
  ⟨h.me, h.timeout, by show r.now + 1 = m.now + 1; rw [h.now], h.oth, h.of, h.lat, h.non, h.bare⟩
theorem othR_add (x : Sd) (p : Int) : othR (addR r x) p = othR r p := by unfold addR; split <;> rfl
theorem nat_of_has {s : Nat} {p : Int} (h : hasN s p = true) : ∃ q : Nat, p = q ∧ q < 64 ∧ s.testBit q = true := by
  obtain ⟨h0, h1⟩ := hasN_range h
  obtain ⟨q, rfl⟩ := Int.eq_ofNat_of_zero_le h0
  rw [hasN_nat] at h
  simp only [Bool.and_eq_true, decide_eq_true_eq] at h
  exact ⟨q, rfl, h.1, h.2⟩
theorem Rel.hear (h : Rel m r) (p : Int) : Rel (hearE m p) (addR r ⟨p, 0, false, false, Bt.zero⟩) := by
  cases hh : hasN m.others p
  · have e1 : hearE m p = m := by unfold hearE; rw [hh]; rfl
    have e2 : addR r ⟨p, 0, false, false, Bt.zero⟩ = r := by unfold addR; rw [h.oth p, hh]; rfl
    rw [e1, e2]; exact h
  · have e2 : addR r ⟨p, 0, false, false, Bt.zero⟩ = { r with all := r.all ++ [⟨p, r.now, false, false, Bt.zero⟩] } := by unfold addR; rw [h.oth p, hh]; rfl
    rw [e2]
    obtain ⟨q, rfl, hq, hb⟩ := nat_of_has hh
    refine ⟨by rw [hearE_me]; exact h.me, by rw [hearE_timeout]; exact h.timeout, by rw [hearE_now]; exact h.now, fun p => by rw [hearE_others]; exact h.oth p, fun p hp hb => ?_, fun p hp hb => ?_, fun p hp => ?_, fun p hp hb => ?_⟩
    · rw [hearE_others] at hb
      rw [ofl_snoc, hearE_l]
      have := h.of p hp hb
      split
      · simp only [Bool.false_eq_true, if_false]
        split <;> exact this
      · split <;> exact this
    · rw [hearE_others] at hb
      rw [lat_snoc, hearE_l, hh, Bool.true_and, Int.toNat_natCast]
      by_cases e : p = q
      · subst e
        simp [h.now]
      · have e' : ¬ (q : Int) = (p : Int) := by omega
        rw [if_neg e', decide_eq_false e]
        exact h.lat p hp hb
    · rw [hearE_others] at hp
      rw [ofl_snoc, h.non p hp]
      split
      · rfl
      · rfl
    · rw [hearE_others] at hb
      rw [hearE_l]
      split
      · exact h.bare p hp hb
      · exact h.bare p hp hb
theorem Rel.beat (h : Rel m r) (p : Int) (b : Bt) : Rel (beatE m p b) (addR r ⟨p, 0, true, false, b⟩) := by
  cases hh : hasN m.others p
  · have e1 : beatE m p b = m := by unfold beatE; rw [hh]; rfl
    have e2 : addR r ⟨p, 0, true, false, b⟩ = r := by unfold addR; rw [h.oth p, hh]; rfl
    rw [e1, e2]; exact h
  · have e2 : addR r ⟨p, 0, true, false, b⟩ = { r with all := r.all ++ [⟨p, r.now, true, false, b⟩] } := by unfold addR; rw [h.oth p, hh]; rfl
    rw [e2]
    obtain ⟨q, rfl, hq, hbq⟩ := nat_of_has hh
    refine ⟨by rw [beatE_me]; exact h.me, by rw [beatE_timeout]; exact h.timeout, by rw [beatE_now]; exact h.now, fun p => by rw [beatE_others]; exact h.oth p, fun p hp hb => ?_, fun p hp hb => ?_, fun p hp => ?_, fun p hp hb => ?_⟩
    · rw [beatE_others] at hb
      rw [ofl_snoc, beatE_l, hh, Bool.true_and, Int.toNat_natCast]
      by_cases e : p = q
      · subst e
        simp
      · have e' : ¬ (q : Int) = (p : Int) := by omega
        rw [if_neg e', decide_eq_false e]
        exact h.of p hp hb
    · rw [beatE_others] at hb
      rw [lat_snoc, beatE_l, hh, Bool.true_and, Int.toNat_natCast]
      by_cases e : p = q
      · subst e
        simp [h.now]
      · have e' : ¬ (q : Int) = (p : Int) := by omega
        rw [if_neg e', decide_eq_false e]
        exact h.lat p hp hb
    · rw [beatE_others] at hp
      rw [ofl_snoc, h.non p hp, if_neg]
      intro e
      have e1 : (q : Int) = p := e
      rw [e1] at hh
      rw [hh] at hp; cases hp
    · rw [beatE_others] at hb
      rw [beatE_l, hh, Bool.true_and, Int.toNat_natCast]
      have e : ¬ p = q := fun e => by subst e; rw [hbq] at hb; cases hb
      rw [decide_eq_false e]
      exact h.bare p hp hb
/-- What some said is forgotten, of the first k. -/
def goneX (p : Nat) : Sd := ⟨p, 0, false, true, Bt.zero⟩
def goneR (r : REar) (s k : Nat) : REar := (List.range k).foldl (fun r (p : Nat) => if s.testBit p then addR r (goneX p) else r) r
theorem goneR_succ (r : REar) (s k : Nat) : goneR r s (k + 1) = if s.testBit k then addR (goneR r s k) (goneX k) else goneR r s k := by
  unfold goneR
  rw [List.range_succ, List.foldl_append]; rfl
theorem goneR_keeps (r : REar) (s : Nat) : ∀ k, k ≤ 64 → (goneR r s k).me = r.me ∧ (goneR r s k).timeout = r.timeout ∧ (goneR r s k).now = r.now ∧ (∀ p, othR (goneR r s k) p = othR r p) ∧
    (∀ p, lat (goneR r s k).all p = lat r.all p) ∧ (∀ p : Int, ofl (goneR r s k).all p = if othR r p && (decide (p < k) && s.testBit p.toNat) then (Sd.zero, false) else ofl r.all p) ∧ (goneR r s k).all.length ≤ r.all.length + k
  | 0, _ => ⟨rfl, rfl, rfl, fun _ => rfl, fun _ => rfl, fun p => by
      by_cases h : othR r p = true
      · have : 0 ≤ p := by unfold othR at h; simp only [Bool.and_eq_true, decide_eq_true_eq] at h; exact h.1.1.1
        have e : ¬ p < ((0 : Nat) : Int) := by omega
        rw [decide_eq_false e]
        simp [goneR]
      · have : othR r p = false := by simpa using h
        rw [this]; rfl, Nat.le_refl _⟩
  | k + 1, hk => by
    obtain ⟨h1, h2, h3, h4, h5, h6, h7⟩ := goneR_keeps r s k (by omega)
    rw [goneR_succ]
    have key : ∀ p : Int, othR r p = true → p ≠ (k : Int) → (decide (p < ((k + 1 : Nat) : Int))) = decide (p < (k : Int)) := by
      intro p _ hp
      rw [decide_eq_decide]; omega
    cases hs : s.testBit k
    · refine ⟨h1, h2, h3, h4, h5, fun p => ?_, by show (goneR r s k).all.length ≤ _; omega⟩
      show ofl (goneR r s k).all p = _
      rw [h6 p]
      cases ho : othR r p
      · rfl
      · by_cases e : p = (k : Int)
        · subst e
          have e1 : ¬ (k : Int) < (k : Int) := by omega
          rw [decide_eq_false e1, Int.toNat_natCast, hs]; simp
        · rw [key p ho e]
    · show (addR (goneR r s k) (goneX k)).me = _ ∧ _
      unfold addR
      rw [show othR (goneR r s k) (goneX k).p = othR r k from h4 _]
      cases hok : othR r k
      · refine ⟨h1, h2, h3, h4, h5, fun p => ?_, by show (goneR r s k).all.length ≤ _; omega⟩
        show ofl (goneR r s k).all p = _
        rw [h6 p]
        cases ho : othR r p
        · rfl
        · have e : p ≠ (k : Int) := fun e => by subst e; rw [hok] at ho; cases ho
          rw [key p ho e]
      · refine ⟨h1, h2, h3, h4, fun p => ?_, fun p => ?_, ?_⟩
        · show lat ((goneR r s k).all ++ [{ goneX k with at_ := (goneR r s k).now }]) p = _
          rw [lat_snoc]
          split
          · exact h5 p
          · exact h5 p
        · show ofl ((goneR r s k).all ++ [(⟨k, (goneR r s k).now, false, true, Bt.zero⟩ : Sd)]) p = _
          rw [ofl_snoc, h6 p]
          dsimp only
          by_cases e : (k : Int) = p
          · subst e
            have e1 : (k : Int) < ((k + 1 : Nat) : Int) := by omega
            rw [if_pos rfl, hok, decide_eq_true e1, Int.toNat_natCast, hs]; rfl
          · rw [if_neg e]
            cases ho : othR r p
            · rfl
            · rw [key p ho (Ne.symm e)]
        · show ((goneR r s k).all ++ [_]).length ≤ _
          rw [List.length_append, List.length_singleton]; omega
theorem Rel.forget (h : Rel m r) (s : Nat) : Rel (forgetE m s) (goneR r s 64) := by
  obtain ⟨h1, h2, h3, h4, h5, h6, _⟩ := goneR_keeps r s 64 (Nat.le_refl _)
  refine ⟨by rw [forgetE_me, h1]; exact h.me, by rw [forgetE_timeout, h2]; exact h.timeout, by rw [forgetE_now, h3]; exact h.now, fun p => by rw [forgetE_others, h4]; exact h.oth p, fun p hp hb => ?_, fun p hp hb => ?_, fun p hp => ?_, fun p hp hb => ?_⟩
  · rw [forgetE_others] at hb
    rw [h6, forgetE_l m s p hp, hb, h.oth, hasN_nat, hb, decide_eq_true hp, decide_eq_true (show (p : Int) < ((64 : Nat) : Int) by omega), Int.toNat_natCast]
    simp only [Bool.true_and, Bool.and_true]
    cases s.testBit p
    · exact h.of p hp hb
    · exact ⟨rfl, rfl⟩
  · rw [forgetE_others] at hb
    rw [h5, forgetE_l m s p hp]
    split
    · exact h.lat p hp hb
    · exact h.lat p hp hb
  · rw [forgetE_others] at hp
    rw [h6, h.oth, hp]
    exact h.non p hp
  · rw [forgetE_others] at hb
    rw [forgetE_l m s p hp]
    split
    · rfl
    · exact h.bare p hp hb
/-! ### what they tell -/
theorem Rel.ofs (h : Rel m r) (p : Int) : (ofE m p).2 = (ofR r p).2 ∧ (ofE m p).1 = (ofR r p).1.b := by
  show (ofE m p).2 = (ofl r.all p).2 ∧ (ofE m p).1 = (ofl r.all p).1.b
  cases hh : hasN m.others p
  · rw [h.non p hh]
    unfold ofE
    rw [hh]; exact ⟨rfl, rfl⟩
  · obtain ⟨q, rfl, hq, hb⟩ := nat_of_has hh
    obtain ⟨h1, h2⟩ := h.of q hq hb
    rw [ofE_nat m hq, hb, Bool.true_and]
    cases hs : (m.l q).said
    · rw [hs] at h1
      exact ⟨h1.symm, by rw [show (ofl r.all q).1 = Sd.zero from ofK_false _ _ _ h1]; rfl⟩
    · rw [hs] at h1
      exact ⟨h1.symm, h2.symm⟩
theorem Rel.reach (h : Rel m r) : reachE m = orL (inRR r) 64 := by
  apply Nat.eq_of_testBit_eq
  intro i
  by_cases hi : i < 64
  · have h1 := hasN_reach m i hi
    rw [hasN_nat, decide_eq_true hi, Bool.true_and] at h1
    rw [h1, orL_bit _ i hi]
    unfold inRR
    rw [h.me, h.oth, hasN_nat, decide_eq_true hi, Bool.true_and]
    cases hb : m.others.testBit i
    · rfl
    · rw [rchR_lat, h.lat i hi hb, h.now, h.timeout]
      unfold inR
      cases (m.l i).ever <;> rfl
  · rw [testBit_ge (show reachE m < 18446744073709551616 from reachL_lt _ _) (by omega), testBit_ge (orL_lt _ _) (by omega)]
theorem Rel.epoch (h : Rel m r) : epochE m = epRK r 64 := by
  have key : ∀ k, k ≤ 64 → epochL m (List.range k) = epRK r k := by
    intro k
    induction k with
    | zero => intro _; rfl
    | succ k ih =>
      intro hk
      rw [epochL_succ, epRK_succ, ih (by omega)]
      unfold epB
      show _ = if (ofl r.all k).2 = true then _ else _
      have h64 : k < 64 := by omega
      cases hb : m.others.testBit k
      · have hn := h.non k (by rw [hasN_nat, hb]; simp)
        rw [hn]
        unfold epStep
        rw [h.bare k h64 hb]
        simp [Bt.zero]
      · obtain ⟨h1, h2⟩ := h.of k h64 hb
        cases hs : (ofl r.all k).2
        · have hz : (ofl r.all k).1 = Sd.zero := ofK_false _ _ _ hs
          rw [hz] at h2
          unfold epStep
          rw [← h2]
          simp [Sd.zero, Bt.zero]
        · show epStep _ _ = epN _ (ofl r.all k).1.b 3
          rw [h2]; rfl
  exact key 64 (Nat.le_refl _)
theorem Rel.strange (h : Rel m r) (s ce : Nat) (cr : Int) : strE m s ce cr = orL (strR r s ce cr) 64 := by
  apply Nat.eq_of_testBit_eq
  intro i
  by_cases hi : i < 64
  · rw [orL_bit _ i hi]
    unfold strE strL
    rw [testBit_foldOr _ _ (fun q hq => listN_lt hq)]
    unfold strR
    obtain ⟨h1, h2⟩ := h.ofs (i : Int)
    rw [← h1, ← h2, Nat.zero_testBit, Bool.false_or]
    unfold isStr
    have hm : decide (i ∈ listN (s &&& m.others)) = (s.testBit i && m.others.testBit i) := by
      cases hb : (s.testBit i && m.others.testBit i)
      · rw [decide_eq_false]
        intro hc
        have := ((mem_listN _ _).1 hc).2
        rw [Nat.testBit_and, hb] at this; cases this
      · rw [decide_eq_true]
        exact (mem_listN _ _).2 ⟨hi, by rw [Nat.testBit_and]; exact hb⟩
    rw [hm]
    cases hb : m.others.testBit i
    · have : (ofE m i).2 = false := by rw [ofE_nat m hi, hb]; rfl
      rw [this]; simp
    · cases (ofE m i).2 <;> cases s.testBit i <;> rfl
  · rw [testBit_ge (show strE m s ce cr < 18446744073709551616 from strL_lt _ _ _ _) (by omega), testBit_ge (orL_lt _ _) (by omega)]
end
end Go.Proofs.YtjokfjdbioeohaaDoor

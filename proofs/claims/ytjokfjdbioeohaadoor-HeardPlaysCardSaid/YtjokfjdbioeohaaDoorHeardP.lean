/-
  Package heard, plainly: what the acts make of an ear, and what Reach tells of it. No program.
-/
import Derived.Test.YtjokfjdbioeohaaDoorEarE
namespace Go.Proofs.YtjokfjdbioeohaaDoor
theorem testBit_foldOr (f : Nat → Bool) (l : List Nat) (hl : ∀ p ∈ l, p < 64) (i : Nat) : ∀ s : Nat, (l.foldl (fun (s p : Nat) => if f p then s ||| bitN p else s) s).testBit i = (s.testBit i || (decide (i ∈ l) && f i)) := by
  induction l with
  | nil => simp
  | cons p l ih =>
    intro s
    rw [List.foldl_cons, ih (fun q hq => hl q (List.mem_cons_of_mem _ hq))]
    have hp := hl p (List.mem_cons_self ..)
    have hb : (bitN (p : Int)).testBit i = decide (p = i) := by
      rw [testBit_bitN]
      have : (p : Int) < 64 := by omega
      simp [this]
    by_cases e : i = p
    · subst e
      cases hf : f i
      · simp
      · simp [Nat.testBit_or, hb]
    · have e' : ¬ p = i := fun h => e h.symm
      cases hf : f p
      · simp [e]
      · simp [Nat.testBit_or, hb, e, e']
theorem hasN_reach (m : Ear) (p : Nat) (hp : p < 64) : hasN (reachE m) (p : Int) = (decide ((p : Int) = m.me) || (m.others.testBit p && inR m p)) := by
  rw [hasN_nat, decide_eq_true hp, Bool.true_and]
  unfold reachE reachL
  rw [testBit_foldOr _ _ (fun q hq => listN_lt hq), testBit_bitN]
  have h1 : (decide (0 ≤ m.me) && decide (m.me < 64) && decide (m.me.toNat = p)) = decide ((p : Int) = m.me) := by
    by_cases h : (p : Int) = m.me
    · rw [decide_eq_true h, ← h]; simp; omega
    · rw [decide_eq_false h]
      by_cases h0 : 0 ≤ m.me
      · have : ¬ m.me.toNat = p := by omega
        simp [this]
      · simp [h0]
  have h2 : decide (p ∈ listN m.others) = m.others.testBit p := by
    cases hb : m.others.testBit p
    · rw [decide_eq_false (fun h => by have := ((mem_listN _ _).1 h).2; rw [hb] at this; cases this)]
    · rw [decide_eq_true ((mem_listN _ _).2 ⟨hp, hb⟩)]
  rw [h1, h2]
section
variable (m : Ear)
theorem upd_me (p : Nat) (f : Ent → Ent) : (m.upd p f).me = m.me := rfl
theorem upd_l (p : Nat) (f : Ent → Ent) (i : Nat) : (m.upd p f).l i = if i = p then f (m.l i) else m.l i := rfl
theorem hearE_me (p : Int) : (hearE m p).me = m.me := by unfold hearE; split <;> rfl
theorem hearE_timeout (p : Int) : (hearE m p).timeout = m.timeout := by unfold hearE; split <;> rfl
theorem hearE_now (p : Int) : (hearE m p).now = m.now := by unfold hearE; split <;> rfl
theorem hearE_l (p : Int) (i : Nat) : (hearE m p).l i = if hasN m.others p && decide (i = p.toNat) then { m.l i with ever := true, at_ := m.now } else m.l i := by
  unfold hearE
  cases hasN m.others p
  · rfl
  · rw [if_pos rfl, upd_l]
    by_cases h : i = p.toNat <;> simp [h]
theorem beatE_me (p : Int) (b : Bt) : (beatE m p b).me = m.me := by unfold beatE; split <;> first | exact hearE_me m p | rfl
theorem beatE_timeout (p : Int) (b : Bt) : (beatE m p b).timeout = m.timeout := by unfold beatE; split <;> first | exact hearE_timeout m p | rfl
theorem beatE_now (p : Int) (b : Bt) : (beatE m p b).now = m.now := by unfold beatE; split <;> first | exact hearE_now m p | rfl
theorem beatE_others (p : Int) (b : Bt) : (beatE m p b).others = m.others := by unfold beatE; split <;> first | exact hearE_others m p | rfl
theorem beatE_l (p : Int) (b : Bt) (i : Nat) : (beatE m p b).l i = if hasN m.others p && decide (i = p.toNat) then ⟨b, true, true, m.now⟩ else m.l i := by
  unfold beatE
  cases hh : hasN m.others p
  · rfl
  · rw [if_pos rfl, upd_l, hearE_l, hh]
    by_cases h : i = p.toNat <;> simp [h]
theorem forgetL_keeps (ps : List Nat) : ∀ m : Ear, (forgetL m ps).me = m.me ∧ (forgetL m ps).timeout = m.timeout ∧ (forgetL m ps).now = m.now ∧ (forgetL m ps).others = m.others := by
  induction ps with
  | nil => exact fun m => ⟨rfl, rfl, rfl, rfl⟩
  | cons p ps ih =>
    intro m
    have h := ih (m.upd p fun x => { x with said := false, b := Bt.zero })
    exact h
theorem forgetL_l (ps : List Nat) (i : Nat) : ∀ m : Ear, (forgetL m ps).l i = if i ∈ ps then { m.l i with said := false, b := Bt.zero } else m.l i := by
  induction ps with
  | nil => intro m; rfl
  | cons p ps ih =>
    intro m
    show (forgetL (m.upd p fun x => { x with said := false, b := Bt.zero }) ps).l i = _
    rw [ih, upd_l]
    by_cases h1 : i = p <;> by_cases h2 : i ∈ ps <;> simp [h1, h2]
    all_goals subst h1
    all_goals simp [h2]
theorem forgetE_me (s : Nat) : (forgetE m s).me = m.me := (forgetL_keeps _ m).1
theorem forgetE_timeout (s : Nat) : (forgetE m s).timeout = m.timeout := (forgetL_keeps _ m).2.1
theorem forgetE_now (s : Nat) : (forgetE m s).now = m.now := (forgetL_keeps _ m).2.2.1
theorem forgetE_others (s : Nat) : (forgetE m s).others = m.others := (forgetL_keeps _ m).2.2.2
theorem forgetE_l (s i : Nat) (hi : i < 64) : (forgetE m s).l i = if s.testBit i && m.others.testBit i then { m.l i with said := false, b := Bt.zero } else m.l i := by
  unfold forgetE
  rw [forgetL_l]
  have : (i ∈ listN (s &&& m.others)) = ((s.testBit i && m.others.testBit i) = true) := by
    rw [mem_listN, Nat.testBit_and]
    exact propext ⟨fun h => h.2, fun h => ⟨hi, h⟩⟩
  simp only [this]
end
/-- HeardLately's ear. -/
structure LatO (m : Ear) (t : Int) : Prop where
  me : m.me = 0
  timeout : m.timeout = t
  others : m.others = butN (allN 64) (bitN 0)
structure LatE (m : Ear) (t : Int) (p : Nat) (A : Int) (k : Nat) : Prop where
  o : LatO m t
  ever : (m.l p).ever = true
  at_ : (m.l p).at_ = A
  now : m.now = A + k
theorem lat_oth {p : Nat} (h0 : 1 ≤ p) (h1 : p < 64) : hasN (butN (allN 64) (bitN 0)) (p : Int) = true := by
  rw [hasN_nat, testBit_butN, testBit_allN, testBit_bitN]
  have e1 : (p : Int) < 64 := by omega
  have e3 : ¬ 0 = p := by omega
  simp [h1, e3, e1]
section
variable {m : Ear} {t A : Int} {p k : Nat}
theorem LatE.r0 (h : LatE m t p A k) : hasN (reachE m) 0 = true := by
  have := hasN_reach m 0 (by decide)
  rw [h.o.me] at this
  simpa using this
theorem LatE.rp (h : LatE m t p A k) (h0 : 1 ≤ p) (h1 : p < 64) : hasN (reachE m) (p : Int) = decide ((k : Int) ≤ t) := by
  rw [hasN_reach m p h1]
  have e := lat_oth h0 h1
  rw [hasN_nat, ← h.o.others, decide_eq_true h1, Bool.true_and] at e
  have e0 : ¬ (p : Int) = m.me := by rw [h.o.me]; omega
  unfold inR
  rw [e, decide_eq_false e0, h.ever, h.at_, h.now, h.o.timeout, show A + (k : Int) - A = k by omega]
  simp
theorem LatO.beat (h : LatO m t) (h0 : 1 ≤ p) (h1 : p < 64) (b : Bt) : LatE (beatE m p b) t p m.now 0 := by
  have e := lat_oth h0 h1
  refine ⟨⟨by rw [beatE_me]; exact h.me, by rw [beatE_timeout]; exact h.timeout, by rw [beatE_others]; exact h.others⟩, ?_, ?_, by rw [beatE_now]; simp⟩
  · rw [beatE_l, h.others, e]; simp
  · rw [beatE_l, h.others, e]; simp
theorem LatE.tick (h : LatE m t p A k) : LatE (tickE m) t p A (k + 1) := ⟨⟨h.o.me, h.o.timeout, h.o.others⟩, h.ever, h.at_, by have := h.now; show m.now + 1 = A + ((k + 1 : Nat) : Int); omega⟩
theorem LatE.hear (h : LatE m t p A k) {q : Int} (hq : (p : Int) ≠ q) : LatE (hearE m q) t p A k := by
  have e : (hearE m q).l p = m.l p := by
    rw [hearE_l]
    cases hh : hasN m.others q
    · rfl
    · have := hasN_range hh
      have : ¬ p = q.toNat := by omega
      simp [this]
  exact ⟨⟨by rw [hearE_me]; exact h.o.me, by rw [hearE_timeout]; exact h.o.timeout, by rw [hearE_others]; exact h.o.others⟩, by rw [e]; exact h.ever, by rw [e]; exact h.at_, by rw [hearE_now]; exact h.now⟩
theorem LatE.forget (h : LatE m t p A k) (h1 : p < 64) (s : Nat) : LatE (forgetE m s) t p A k := by
  have e : ((forgetE m s).l p).ever = (m.l p).ever ∧ ((forgetE m s).l p).at_ = (m.l p).at_ := by
    rw [forgetE_l m s p h1]
    split <;> exact ⟨rfl, rfl⟩
  exact ⟨⟨by rw [forgetE_me]; exact h.o.me, by rw [forgetE_timeout]; exact h.o.timeout, by rw [forgetE_others]; exact h.o.others⟩, by rw [e.1]; exact h.ever, by rw [e.2]; exact h.at_, by rw [forgetE_now]; exact h.now⟩
end
end Go.Proofs.YtjokfjdbioeohaaDoor

/-
  Windows, plainly: what LinkBounds asks of every act. No program.
-/
import Derived.Test.YtjokfjdbioeohaaDoorLinkActs
namespace Go.Proofs.YtjokfjdbioeohaaDoor
theorem foldMin_mono (got got' : Nat → Nat) (h : ∀ i, got i ≤ got' i) (l : List Nat) : ∀ (n n' : Nat), n ≤ n' → l.foldl (fun n p => min n (got p)) n ≤ l.foldl (fun n p => min n (got' p)) n' := by
  induction l with
  | nil => exact fun n n' hn => hn
  | cons p l ih =>
    intro n n' hn
    refine ih _ _ ?_
    have := h p
    show min n (got p) ≤ min n' (got' p)
    omega
theorem lowW_mono {m m' : Win} (ho : m'.others = m.others) (hs : m.sent ≤ m'.sent) (hg : ∀ i, m.got i ≤ m'.got i) : lowW m ≤ lowW m' := by
  unfold lowW lowL
  rw [ho]
  exact foldMin_mono _ _ hg _ _ _ hs
theorem lowW_le (m : Win) : lowW m ≤ m.sent := lowL_le _ _
theorem actW_others (m : Win) (a : LAct) : (actW m a).others = m.others := by
  unfold actW nextW gotW; split <;> split <;> rfl
theorem actW_me (m : Win) (a : LAct) : (actW m a).me = m.me := by
  unfold actW nextW gotW; split <;> split <;> rfl
theorem actW_size (m : Win) (a : LAct) : (actW m a).size = m.size := by
  unfold actW nextW gotW; split <;> split <;> rfl
theorem actW_sent_ge (m : Win) (a : LAct) : m.sent ≤ (actW m a).sent := by
  unfold actW nextW gotW; split <;> split <;> first | exact Nat.le_refl _ | exact Nat.le_succ _
theorem actW_got_ge (m : Win) (a : LAct) (i : Nat) : m.got i ≤ (actW m a).got i := by
  unfold actW nextW gotW
  split <;> split
  · exact Nat.le_refl _
  · exact Nat.le_refl _
  · show m.got i ≤ if (i : Int) = a.p then max (m.got i) (min a.s m.sent) else m.got i
    split <;> omega
  · exact Nat.le_refl _
theorem actW_low (m : Win) (a : LAct) : lowW m ≤ lowW (actW m a) := lowW_mono (actW_others m a) (actW_sent_ge m a) (actW_got_ge m a)
theorem actW_of (m : Win) (a : LAct) (p : Int) : ofW m p ≤ ofW (actW m a) p := by
  unfold ofW
  rw [actW_others, actW_me]
  split
  · exact actW_got_ge _ _ _
  · split
    · exact actW_sent_ge _ _
    · exact Nat.le_refl _
theorem ofW_le {m : Win} (h : m.Wf) (p : Int) : ofW m p ≤ m.sent := by
  unfold ofW
  split
  · rename_i hh
    have := hasN_range hh
    exact h.got _ (by omega)
  · split
    · exact Nat.le_refl _
    · exact Nat.zero_le _
/-- Never are more than the size sent that one of the others didn't get. -/
def Win.Tight (m : Win) : Prop := (m.sent : Int) - lowW m ≤ m.size
theorem Win.Tight.act {m : Win} (h : m.Tight) (a : LAct) : (actW m a).Tight := by
  have h1 := actW_low m a
  unfold Win.Tight at *
  rw [actW_size]
  by_cases hp : a.p < 0
  · by_cases hr : roomW m a.n = true
    · have e : (actW m a).sent = m.sent + 1 := by unfold actW nextW; rw [if_pos hp, if_pos hr]; rfl
      unfold roomW at hr
      have := of_decide_eq_true hr
      rw [e]
      omega
    · have e : actW m a = m := by unfold actW nextW; rw [if_pos hp, if_neg hr]
      rw [e]; exact h
  · have e : (actW m a).sent = m.sent := by unfold actW gotW; rw [if_neg hp]; split <;> rfl
    rw [e]
    omega
theorem foldMin_eq (got : Nat → Nat) (l : List Nat) : ∀ n : Nat, (l.foldl (fun n p => min n (got p)) n = n ↔ ∀ p ∈ l, n ≤ got p) := by
  have hle : ∀ (l : List Nat) (n : Nat), l.foldl (fun n p => min n (got p)) n ≤ n := by
    intro l
    induction l with
    | nil => exact fun n => Nat.le_refl n
    | cons p l ih => exact fun n => Nat.le_trans (ih _) (Nat.min_le_left _ _)
  induction l with
  | nil => simp
  | cons p l ih =>
    intro n
    simp only [List.foldl_cons, List.mem_cons, forall_eq_or_imp]
    by_cases hp : n ≤ got p
    · rw [Nat.min_eq_left hp, ih]
      simp [hp]
    · have := hle l (min n (got p))
      constructor
      · intro e; omega
      · intro e; exact absurd e.1 hp
theorem foldOr_zero (b : Nat → Bool) (f : Nat → Nat) (hf : ∀ p, p < 64 → f p ≠ 0) (l : List Nat) (hl : ∀ p ∈ l, p < 64) : ∀ s : Nat, (l.foldl (fun s p => if b p = true then s ||| f p else s) s = 0 ↔ s = 0 ∧ ∀ p ∈ l, b p = false) := by
  induction l with
  | nil => simp
  | cons p l ih =>
    intro s
    simp only [List.foldl_cons, List.mem_cons, forall_eq_or_imp]
    rw [ih (fun q hq => hl q (List.mem_cons_of_mem _ hq))]
    by_cases hb : b p = true
    · rw [if_pos hb]
      have := hf p (hl p (List.mem_cons_self ..))
      constructor
      · rintro ⟨h1, _⟩
        have h2 : f p = 0 := by
          have : f p ≤ s ||| f p := Nat.right_le_or
          omega
        exact absurd h2 this
      · rintro ⟨_, h2, _⟩
        rw [hb] at h2; cases h2
    · rw [if_neg hb]
      have hb' : b p = false := by simpa using hb
      simp [hb']
theorem bitN_nat_ne {p : Nat} (h : p < 64) : bitN (p : Int) ≠ 0 := by
  rw [bitN_in (by omega) (by omega)]
  exact Nat.pos_iff_ne_zero.1 (Nat.two_pow_pos _)
theorem lag_zero_iff (m : Win) : lagW m = 0 ↔ lowW m = m.sent := by
  unfold lagW lagL lowW lowL
  have h1 := foldOr_zero (fun p => decide (m.got p < m.sent)) (fun p => bitN (p : Int)) (fun p hp => bitN_nat_ne hp) (listN m.others) (fun p hp => listN_lt hp) 0
  simp only [decide_eq_true_eq, true_and, decide_eq_false_iff_not] at h1
  rw [h1, foldMin_eq]
  constructor
  · exact fun h p hp => by have := h p hp; omega
  · exact fun h p hp => by have := h p hp; omega
theorem lag_low_bool (m : Win) : (((lagW m : Nat) : Int) == 0) = (((lowW m : Nat) : Int) == (m.sent : Int)) := by
  have h := lag_zero_iff m
  by_cases h0 : lagW m = 0
  · have h1 := h.1 h0
    rw [h0, h1]; simp
  · have h1 : lowW m ≠ m.sent := fun e => h0 (h.2 e)
    have e1 : ((lagW m : Nat) : Int) ≠ 0 := by omega
    have e2 : ((lowW m : Nat) : Int) ≠ (m.sent : Int) := by omega
    rw [beq_eq_false_iff_ne.2 e1, beq_eq_false_iff_ne.2 e2]
theorem testBit_lagL (m : Win) (l : List Nat) (i : Nat) : (lagL m l).testBit i = true → i ∈ l := by
  suffices h : ∀ (l : List Nat) (s : Nat), (l.foldl (fun s p => if m.got p < m.sent then s ||| bitN p else s) s).testBit i = true → s.testBit i = true ∨ i ∈ l by
    intro hi
    rcases h l 0 hi with h0 | h0
    · simp at h0
    · exact h0
  intro l
  induction l with
  | nil => exact fun s hs => .inl hs
  | cons p l ih =>
    intro s hs
    rcases ih _ hs with h0 | h0
    · dsimp only at h0
      split at h0
      · rw [Nat.testBit_or, Bool.or_eq_true] at h0
        rcases h0 with h0 | h0
        · exact .inl h0
        · rw [testBit_bitN] at h0
          simp only [Bool.and_eq_true, decide_eq_true_iff] at h0
          have : p = i := by have := h0.2; omega
          exact .inr (by rw [this]; exact List.mem_cons_self ..)
      · exact .inl h0
    · exact .inr (List.mem_cons_of_mem _ h0)
theorem lag_in (m : Win) : butN (lagW m) m.others = 0 := by
  apply Nat.eq_of_testBit_eq
  intro i
  rw [testBit_butN, Nat.zero_testBit]
  cases hb : (lagW m).testBit i
  · rfl
  · have := (mem_listN m.others i).1 (testBit_lagL m _ i hb)
    rw [this.2]; rfl
end Go.Proofs.YtjokfjdbioeohaaDoor

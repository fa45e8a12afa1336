/-
  Package plan, plainly: what comes of one list of exchanges. No program in sight.
-/
import Derived.Test.YtagelhbknbpfhaaDoorPlanW
namespace Go.Proofs.YtagelhbknbpfhaaDoor
theorem scan_all {me : Int} : ∀ {l : List Ex} {i seen : Nat} {mine r : Int}, scanN me l i seen mine = some r →
    (∀ x ∈ l, 0 ≤ x.who ∧ x.who < 64 ∧ hasN seen x.who = false) ∧ (∀ x ∈ l, ∀ y ∈ l, x.who = y.who → x = y) ∧ ((r = mine ∧ ∀ x ∈ l, x.who ≠ me) ∨ ∃ j, ∃ h : j < l.length, r = ((i + j : Nat) : Int) ∧ (l[j]'h).who = me)
  | [], i, seen, mine, r, h => by
    unfold scanN at h
    exact ⟨fun x hx => by simp at hx, fun x hx => by simp at hx, .inl ⟨(Option.some.inj h).symm, fun x hx => by simp at hx⟩⟩
  | x :: l, i, seen, mine, r, h => by
    unfold scanN at h
    split at h
    · cases h
    · rename_i hc
      have hc1 : 0 ≤ x.who := by omega
      have hc2 : x.who < 64 := by omega
      have hc3 : hasN seen x.who = false := by
        cases e : hasN seen x.who
        · rfl
        · exact absurd (.inr (.inr e)) hc
      obtain ⟨h1, h2, h3⟩ := scan_all h
      have hne : ∀ y ∈ l, hasN seen y.who = false ∧ y.who ≠ x.who := fun y hy => by
        have := (h1 y hy).2.2
        rw [hasN_or] at this
        simp only [Bool.or_eq_false_iff] at this
        refine ⟨this.1, fun e => ?_⟩
        rw [e] at this
        have h4 := this.2
        unfold hasN at h4
        rw [testBit_bitN] at h4
        simp [hc1, hc2] at h4
      refine ⟨fun y hy => ?_, fun y hy z hz e => ?_, ?_⟩
      · rcases List.mem_cons.1 hy with rfl | hy
        · exact ⟨hc1, hc2, hc3⟩
        · exact ⟨(h1 y hy).1, (h1 y hy).2.1, (hne y hy).1⟩
      · rcases List.mem_cons.1 hy with hy' | hy' <;> rcases List.mem_cons.1 hz with hz' | hz'
        · rw [hy', hz']
        · exact absurd (by rw [← e, hy']) (hne z hz').2
        · exact absurd (by rw [e, hz']) (hne y hy').2
        · exact h2 y hy' z hz' e
      · rcases h3 with ⟨h3, h4⟩ | ⟨j, hj, h3, h4⟩
        · split at h3
          · rename_i hme
            exact .inr ⟨0, by simp, by rw [h3]; simp, hme⟩
          · rename_i hme
            exact .inl ⟨h3, fun y hy => by
              rcases List.mem_cons.1 hy with rfl | hy
              · exact hme
              · exact h4 y hy⟩
        · exact .inr ⟨j + 1, by simp; omega, by rw [h3]; omega, h4⟩
/-- What a plan comes of. -/
structure NewOk (me : Int) (l la : List Ex) (m : Ex) : Prop where
  mem : m ∈ l
  who : m.who = me
  la : la = l.filter fun x => sameOld x m
  rng : ∀ x ∈ l, 0 ≤ x.who ∧ x.who < 64
  one : ∀ x ∈ l, ∀ y ∈ l, x.who = y.who → x = y
theorem newL_ok {me : Int} {l la : List Ex} (h : newL me l = some la) : ∃ m, NewOk me l la m := by
  unfold newL at h
  split at h
  · rename_i i hs
    obtain ⟨h1, h2, h3⟩ := scan_all hs
    rcases h3 with ⟨h3, _⟩ | ⟨j, hj, h3, h4⟩
    · have : (0 : Int) ≤ Int.ofNat i := Int.natCast_nonneg i
      omega
    · have hij : i = j := by
        have : Int.ofNat i = ((0 + j : Nat) : Int) := h3
        have h5 : ((i : Nat) : Int) = ((0 + j : Nat) : Int) := this
        omega
      subst hij
      rw [List.getElem?_eq_getElem hj] at h
      exact ⟨l[i], List.getElem_mem hj, h4, (Option.some.inj h).symm, fun x hx => ⟨(h1 x hx).1, (h1 x hx).2.1⟩, h2⟩
  · cases h
theorem newL_none_iff {me : Int} {l : List Ex} (h : newL me l = none) : ¬ ((∀ x ∈ l, 0 ≤ x.who ∧ x.who < 64) ∧ l.Pairwise (fun x y => x.who ≠ y.who) ∧ ∃ x ∈ l, x.who = me) := by
  rintro ⟨h1, h2, x, hx, hme⟩
  have key : ∀ (l : List Ex) (i seen : Nat) (mine : Int), (∀ x ∈ l, 0 ≤ x.who ∧ x.who < 64) → l.Pairwise (fun x y => x.who ≠ y.who) → (∀ x ∈ l, hasN seen x.who = false) → ∃ r, scanN me l i seen mine = some r := by
    intro l
    induction l with
    | nil => intro i seen mine _ _ _; exact ⟨_, rfl⟩
    | cons y l ih =>
      intro i seen mine ha hp hs
      unfold scanN
      have hy := ha y (List.mem_cons_self ..)
      have hys := hs y (List.mem_cons_self ..)
      rw [if_neg (fun h => h.elim (fun h => by omega) (fun h => h.elim (fun h => by omega) (fun h => by rw [hys] at h; cases h)))]
      rw [List.pairwise_cons] at hp
      refine ih _ _ _ (fun x hx => ha x (List.mem_cons_of_mem _ hx)) hp.2 (fun x hx => ?_)
      rw [hasN_or, hs x (List.mem_cons_of_mem _ hx), Bool.false_or]
      have hne := hp.1 x hx
      have hxr := ha x (List.mem_cons_of_mem _ hx)
      unfold hasN
      rw [testBit_bitN]
      simp
      omega
  obtain ⟨r, hr⟩ := key l 0 0 (-1) h1 h2 (fun x _ => by simp [hasN])
  obtain ⟨_, _, h3⟩ := scan_all hr
  rcases h3 with ⟨_, h4⟩ | ⟨j, hj, h3, _⟩
  · exact h4 x hx hme
  · rw [show r = ((j : Nat) : Int) by rw [h3]; simp] at hr
    rw [newL_some hr hj] at h
    cases h
theorem foldl_or_test {α : Type} (f : α → Nat) (l : List α) (s i : Nat) : (l.foldl (fun s x => s ||| f x) s).testBit i = (s.testBit i || l.any fun x => (f x).testBit i) := by
  induction l generalizing s with
  | nil => simp
  | cons x l ih => rw [List.foldl_cons, ih, Nat.testBit_or]; simp [Bool.or_assoc]
theorem has_comp {l : List Ex} {p : Int} : hasN (compS l) p = true ↔ (0 ≤ p ∧ p < 64) ∧ ∃ x ∈ l, x.who = p := by
  unfold hasN compS
  rw [foldl_or_test]
  constructor
  · intro h
    simp only [Bool.and_eq_true, decide_eq_true_eq, Nat.zero_testBit, Bool.false_or, List.any_eq_true] at h
    obtain ⟨⟨h1, h2⟩, x, hx, h3⟩ := h
    rw [testBit_bitN] at h3
    simp only [Bool.and_eq_true, decide_eq_true_eq] at h3
    exact ⟨⟨h1, h2⟩, x, hx, by omega⟩
  · rintro ⟨⟨h1, h2⟩, x, hx, rfl⟩
    simp only [Bool.and_eq_true, decide_eq_true_eq, Nat.zero_testBit, Bool.false_or, List.any_eq_true]
    refine ⟨⟨h1, h2⟩, x, hx, ?_⟩
    rw [testBit_bitN]
    simp [h1, h2]
theorem NewOk.self {me : Int} {l la : List Ex} {m : Ex} (h : NewOk me l la m) : hasN (compS la) me = true := by
  have hr := h.rng m h.mem
  rw [h.who] at hr
  refine has_comp.2 ⟨hr, m, ?_, h.who⟩
  rw [h.la, List.mem_filter]
  exact ⟨h.mem, by simp [sameOld]⟩
theorem sameOld_iff (x y : Ex) : sameOld x y = true ↔ x.oe = y.oe ∧ x.orp = y.orp := by simp [sameOld]
theorem NewOk.same {a b : Int} {l la lb : List Ex} {ma mb : Ex} (ha : NewOk a l la ma) (hb : NewOk b l lb mb) (h : hasN (compS la) b = true) : la = lb := by
  obtain ⟨_, x, hx, hxb⟩ := has_comp.1 h
  rw [ha.la, List.mem_filter] at hx
  have e : x = mb := ha.one x hx.1 mb hb.mem (hxb.trans hb.who.symm)
  subst e
  have h1 := (sameOld_iff _ _).1 hx.2
  rw [ha.la, hb.la]
  apply List.filter_congr
  intro y _
  rw [Bool.eq_iff_iff, sameOld_iff, sameOld_iff, h1.1, h1.2]
theorem holdS_test (l : List Ex) (q : Int) (n i : Nat) : (holdS l q n).testBit i = l.any fun x => (decide (0 < n) && atL x.cnt q == n) && (bitN x.who).testBit i := by
  have : holdS l q n = l.foldl (fun s x => s ||| if decide (0 < n) && atL x.cnt q == n then bitN x.who else 0) 0 := by
    unfold holdS
    congr 1
    funext s x
    split <;> simp
  rw [this, foldl_or_test, Nat.zero_testBit, Bool.false_or]
  congr 1
  funext x
  split
  · rename_i h; rw [h]; simp
  · rename_i h
    have : (decide (0 < n) && atL x.cnt q == n) = false := by simpa using h
    rw [this]; simp
theorem minN_has {s : Nat} (hs : s < 18446744073709551616) (h : 0 ≤ minN s) : hasN s (minN s) = true ∧ ∀ p : Int, hasN s p = true → minN s ≤ p := by
  unfold minN at h ⊢
  split
  · rename_i h0; rw [if_pos h0] at h; omega
  · rename_i h0
    obtain ⟨h1, h2, _⟩ := listN_step h0 hs
    have hm : Lib.ctz 64 s ∈ listN s := by rw [h2]; exact List.mem_cons_self ..
    refine ⟨(mem_listN' s _).1 hm, fun p hp => ?_⟩
    have hr := hasN_range hp
    obtain ⟨k, rfl⟩ := Int.eq_ofNat_of_zero_le hr.1
    have hk : k ∈ listN s := (mem_listN' s k).2 hp
    have hsorted : (listN s).Pairwise (· < ·) := by
      unfold listN
      exact List.Pairwise.filter _ List.pairwise_lt_range
    rw [h2] at hk hsorted
    rcases List.mem_cons.1 hk with e | hk
    · omega
    · have := (List.pairwise_cons.1 hsorted).1 k hk
      omega
theorem hold_comp {l : List Ex} {q : Int} (h : 0 ≤ holdL l q) : hasN (compS l) (holdL l q) = true := by
  unfold holdL at h ⊢
  obtain ⟨h1, _⟩ := minN_has (holdS_lt l q _) h
  have hr := hasN_range h1
  refine has_comp.2 ⟨hr, ?_⟩
  unfold hasN at h1
  rw [holdS_test] at h1
  simp only [Bool.and_eq_true, decide_eq_true_eq, List.any_eq_true] at h1
  obtain ⟨_, x, hx, _, h3⟩ := h1
  rw [testBit_bitN] at h3
  simp only [Bool.and_eq_true, decide_eq_true_eq] at h3
  exact ⟨x, hx, by omega⟩
end Go.Proofs.YtagelhbknbpfhaaDoor

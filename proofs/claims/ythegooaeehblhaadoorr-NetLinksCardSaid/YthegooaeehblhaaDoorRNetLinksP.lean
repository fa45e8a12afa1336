/-
  NetLinks: the plain law. Who is linked with whom behind a row of cuts.
-/
import Derived.Test.YthegooaeehblhaaDoorRNetA
namespace Go.Proofs.YthegooaeehblhaaDoorR
def atP (n p : Int) : Bool := decide (0 ≤ p) && decide (p < n) && decide (p < 64)
def sameN (s : Nat) (p q : Int) : Bool := hasN s p == hasN s q
theorem proc_mem {t : Nt} (wf : t.Wf) {p : Int} (h : procN t p = true) : p.toNat ∈ listN (allN t.n) := by
  unfold procN at h
  rw [Bool.and_eq_true, decide_eq_true_iff, decide_eq_true_iff] at h
  have := wf.n
  rw [mem_listN, testBit_allN, Bool.and_eq_true, decide_eq_true_iff, decide_eq_true_iff]
  omega
theorem cut_keeps (t : Nt) (s : Nat) : (cutN t s).n = t.n ∧ (cutN t s).l = t.l ∧ ∀ i, (cutN t s).links i = if i ∈ listN (allN t.n) then cut1 t s i else t.links i := cutL_keeps s _ (listN_nodup _) t
theorem procN_cut (t : Nt) (s : Nat) (p : Int) : procN (cutN t s) p = procN t p := by unfold procN; rw [(cut_keeps t s).1]
theorem linkN_cut {t : Nt} (wf : t.Wf) (s : Nat) (p q : Int) : linkN (cutN t s) p q = (linkN t p q && sameN s p q) := by
  unfold linkN
  rw [procN_cut]
  cases hp : procN t p
  · rfl
  · have hm := proc_mem wf hp
    have h0 : 0 ≤ p := by
      unfold procN at hp
      rw [Bool.and_eq_true, decide_eq_true_iff] at hp
      exact hp.1
    rw [(cut_keeps t s).2.2, if_pos hm, Bool.true_and, Bool.true_and]
    unfold cut1 sameN
    have e : hasN s (p.toNat : Int) = hasN s p := by rw [Int.toNat_of_nonneg h0]
    rw [e]
    cases hasN s p
    · rw [if_neg Bool.false_ne_true, hasN_butN]
      cases hasN s q <;> rfl
    · rw [if_pos rfl, hasN_and]
      cases hasN s q <;> rfl
theorem heal_keeps (t : Nt) : (healN t).n = t.n ∧ (healN t).l = t.l ∧ ∀ i, (healN t).links i = if i ∈ listN (allN t.n) then allN t.n else t.links i := healL_keeps _ _ t
theorem linkN_heal {t : Nt} (wf : t.Wf) (p q : Int) : linkN (healN t) p q = (procN t p && procN t q) := by
  have hp0 : procN (healN t) p = procN t p := by unfold procN; rw [(heal_keeps t).1]
  unfold linkN
  rw [hp0]
  cases hp : procN t p
  · rfl
  · rw [(heal_keeps t).2.2, if_pos (proc_mem wf hp), hasN_allN]
    unfold procN
    have := wf.n
    by_cases h0 : 0 ≤ q
    · by_cases h1 : q < t.n
      · have h2 : q < 64 := by omega
        rw [decide_eq_true h0, decide_eq_true h1, decide_eq_true h2]; rfl
      · rw [decide_eq_false h1]; simp
    · rw [decide_eq_false h0]; rfl
theorem procN_new (n p : Int) : procN (newN n) p = atP n p := by
  have e : (newN n).n = clamp n := (heal_keeps _).1
  unfold procN atP
  rw [e]
  have h : (p < (clamp n : Int)) ↔ (p < n ∧ p < 64) ∨ (p < 0) := by unfold clamp; omega
  by_cases h0 : 0 ≤ p
  · rw [decide_eq_true h0, Bool.true_and, Bool.true_and]
    by_cases h1 : p < n
    · by_cases h2 : p < 64
      · rw [decide_eq_true h1, decide_eq_true h2, decide_eq_true (h.2 (.inl ⟨h1, h2⟩))]; rfl
      · rw [decide_eq_false h2, decide_eq_false (by rw [h]; omega)]; simp
    · rw [decide_eq_false h1, decide_eq_false (by rw [h]; omega)]; rfl
  · rw [decide_eq_false h0]; rfl
theorem linkN_new (n p q : Int) : linkN (newN n) p q = (atP n p && atP n q) := by
  have e : ∀ p, procN (bareN (clamp n)) p = procN (newN n) p := fun p => by
    have : (newN n).n = (bareN (clamp n)).n := (heal_keeps _).1
    unfold procN; rw [this]
  have h : linkN (newN n) p q = (procN (bareN (clamp n)) p && procN (bareN (clamp n)) q) := linkN_heal (bareN_wf (clamp_le n)) p q
  rw [h, e, e, procN_new, procN_new]
def cuts (n : Int) (l : List Nat) : Nt := l.foldl cutN (newN n)
theorem cuts_snoc (n : Int) (l : List Nat) (s : Nat) : cuts n (l ++ [s]) = cutN (cuts n l) s := by simp [cuts]
theorem cuts_take (n : Int) (l : List Nat) (k : Nat) (h : k < l.length) : cuts n (l.take (k + 1)) = cutN (cuts n (l.take k)) l[k] := by rw [← cuts_snoc, List.take_append_getElem]
def alike (l : List Nat) (p q : Int) : Bool := l.all fun s => sameN s p q
theorem alike_take (l : List Nat) (p q : Int) (k : Nat) (h : k < l.length) : alike (l.take (k + 1)) p q = (alike (l.take k) p q && sameN l[k] p q) := by
  unfold alike
  rw [← List.take_append_getElem h, List.all_append, List.all_cons, List.all_nil, Bool.and_true]
theorem cuts_wf (n : Int) (l : List Nat) : (cuts n l).Wf := by
  unfold cuts
  have key : ∀ (l : List Nat) (t : Nt), t.Wf → (l.foldl cutN t).Wf := by
    intro l
    induction l with
    | nil => exact fun _ h => h
    | cons s l ih => exact fun t h => ih _ (h.cut s)
  exact key l _ (newN_wf n)
theorem cuts_link (n : Int) (l : List Nat) (p q : Int) : linkN (cuts n l) p q = (atP n p && atP n q && alike l p q) ∧ procN (cuts n l) p = atP n p := by
  unfold cuts alike
  have key : ∀ (l : List Nat) (t : Nt), t.Wf → linkN (l.foldl cutN t) p q = (linkN t p q && l.all fun s => sameN s p q) ∧ procN (l.foldl cutN t) p = procN t p := by
    intro l
    induction l with
    | nil => intro t _; exact ⟨by simp, rfl⟩
    | cons s l ih =>
      intro t h
      obtain ⟨h1, h2⟩ := ih _ (h.cut s)
      refine ⟨?_, h2.trans (procN_cut t s p)⟩
      show linkN (l.foldl cutN (cutN t s)) p q = _
      rw [h1, linkN_cut h]
      simp [Bool.and_assoc]
  obtain ⟨h1, h2⟩ := key l _ (newN_wf n)
  exact ⟨by rw [h1, linkN_new], h2.trans (procN_new n p)⟩
theorem alike_comm (l : List Nat) (p q : Int) : alike l p q = alike l q p := by
  unfold alike sameN
  congr 1
  funext s
  cases hasN s p <;> cases hasN s q <;> rfl
theorem alike_self (l : List Nat) (p : Int) : alike l p p = true := by simp [alike, sameN]
theorem alike_trans {l : List Nat} {p q r : Int} (h1 : alike l p q = true) (h2 : alike l q r = true) : alike l p r = true := by
  unfold alike sameN at *
  rw [List.all_eq_true] at *
  intro s hs
  have a := h1 s hs
  have b := h2 s hs
  rw [beq_iff_eq] at *
  exact a.trans b
/-- What the law asks of a row of cuts. -/
theorem links_law (n : Int) (l : List Nat) (p q r : Int) :
    linkN (cuts n l) q p = linkN (cuts n l) p q ∧ linkN (cuts n l) p p = atP n p ∧ linkN (cuts n l) p q = (atP n p && atP n q && alike l p q) ∧
      (linkN (cuts n l) p q = true → linkN (cuts n l) q r = true → linkN (cuts n l) p r = true) ∧ linkN (healN (cuts n l)) p q = (atP n p && atP n q) := by
  refine ⟨?_, ?_, (cuts_link n l p q).1, ?_, ?_⟩
  · rw [(cuts_link n l q p).1, (cuts_link n l p q).1, alike_comm l q p, Bool.and_comm (atP n q)]
  · rw [(cuts_link n l p p).1, alike_self]
    cases atP n p <;> rfl
  · rw [(cuts_link n l p q).1, (cuts_link n l q r).1, (cuts_link n l p r).1]
    simp only [Bool.and_eq_true]
    rintro ⟨⟨a, b⟩, c⟩ ⟨⟨_, d⟩, e⟩
    exact ⟨⟨a, d⟩, alike_trans c e⟩
  · rw [linkN_heal (cuts_wf n l), (cuts_link n l p p).2, (cuts_link n l q q).2]
end Go.Proofs.YthegooaeehblhaaDoorR

/-
  One companion more: plainly.
-/
import Derived.Test.YtagelhbknbpfhaaDoorPlanQ
import Derived.Test.YtagelhbknbpfhaaDoorRefA
namespace Go.Proofs.YtagelhbknbpfhaaDoor
theorem sameOld_self (m : Ex) : sameOld m m = true := by simp [sameOld]
theorem hasN_bitN {q : Int} (h0 : 0 ≤ q) (h1 : q < 64) (p : Int) : hasN (bitN q) p = decide (p = q) := by
  unfold hasN
  rw [testBit_bitN]
  by_cases e : p = q
  · subst e; simp [h0, h1]
  · have : p.toNat ≠ q.toNat ∨ p < 0 := by omega
    rcases this with h | h
    · simp [e, h0, h1]
      intro h2 h3 h4
      omega
    · have : decide (0 ≤ p) = false := decide_eq_false (by omega)
      rw [this]; simp [e]
/-- What New makes of one exchange more. -/
def MoreP (X Y : List Ex) (x : Ex) : Prop := (hasN (compS Y) x.who = true ∧ Y = X ++ [x] ∧ X ≠ []) ∨ (hasN (compS Y) x.who = false ∧ Y = X)
theorem more_new {me : Int} {l X Y : List Ex} {x : Ex} (hp : newL me l = some X) (hq : newL me (l ++ [x]) = some Y) : MoreP X Y x ∧ (0 ≤ x.who ∧ x.who < 64) ∧ hasN (compS X) x.who = false := by
  obtain ⟨m, hm⟩ := newL_ok hp
  obtain ⟨m', hm'⟩ := newL_ok hq
  have hR := right_new hq
  have he : m = m' := hm'.one m (List.mem_append.2 (.inl hm.mem)) m' hm'.mem (by rw [hm.who, hm'.who])
  subst he
  have hx := hm'.rng x (by simp)
  have hfar : ∀ y ∈ l, y.who ≠ x.who := fun y hy => (List.pairwise_append.1 hR.2.1).2.2 y hy x (by simp)
  have hX : hasN (compS X) x.who = false := by
    cases e : hasN (compS X) x.who
    · rfl
    · obtain ⟨_, y, hy, e2⟩ := has_comp.1 e
      rw [hm.la] at hy
      exact absurd e2 (hfar y (List.mem_filter.1 hy).1)
  have hY : Y = X ++ (if sameOld x m then [x] else []) := by
    rw [hm'.la, hm.la, List.filter_append]
    cases e : sameOld x m <;> simp [e]
  refine ⟨?_, hx, hX⟩
  cases e : sameOld x m
  · rw [e] at hY
    have hY2 : Y = X := by rw [hY]; simp
    exact .inr ⟨by rw [hY2]; exact hX, hY2⟩
  · rw [e] at hY
    have hY2 : Y = X ++ [x] := by rw [hY]; simp
    refine .inl ⟨has_comp.2 ⟨hx, x, by rw [hY2]; simp, rfl⟩, hY2, fun h => ?_⟩
    have : m ∈ X := by rw [hm.la]; exact List.mem_filter.2 ⟨hm.mem, sameOld_self m⟩
    rw [h] at this; simp at this
theorem more_comp {X Y : List Ex} {x : Ex} (h : MoreP X Y x) (hx : 0 ≤ x.who ∧ x.who < 64) (hX : hasN (compS X) x.who = false) : butN (compS Y) (bitN x.who) = compS X := by
  refine eq_of_hasN (butN_lt (compS_lt _) _) (compS_lt _) fun p _ => ?_
  rw [hasN_butN, hasN_bitN hx.1 hx.2]
  rcases h with ⟨_, rfl, _⟩ | ⟨_, rfl⟩
  · rw [compS_snoc, hasN_or, hasN_bitN hx.1 hx.2]
    by_cases e : (p : Int) = x.who
    · rw [e, hX]; simp
    · simp [e]
  · by_cases e : (p : Int) = x.who
    · rw [e, hX]; simp
    · simp [e]
theorem Ky.cmp_self (b : Ky) : b.cmp b = 0 := by simp [Ky.cmp, or2, cmpI]
theorem upK_cmp (b y : Ky) : 0 ≤ (upK b y).cmp b := by
  unfold upK
  split
  · omega
  · rw [Ky.cmp_self]; omega
theorem more_bnd {X Y : List Ex} {x : Ex} (h : MoreP X Y x) : 0 ≤ (bndL Y).cmp (bndL X) := by
  rcases h with ⟨_, rfl, hne⟩ | ⟨_, rfl⟩
  · unfold bndL
    rw [List.map_append, List.map_singleton, bestK_snoc _ _ (by simpa using hne)]
    exact upK_cmp _ _
  · rw [Ky.cmp_self]; omega
theorem more_whole {X Y : List Ex} {x : Ex} (h : MoreP X Y x) (q : Int) : wholeL X q ≤ wholeL Y q := by
  rcases h with ⟨_, rfl, _⟩ | ⟨_, rfl⟩
  · unfold wholeL
    split
    · rw [wholeF_snoc]; exact Nat.le_max_left _ _
    · exact Nat.le_refl _
  · exact Nat.le_refl _
end Go.Proofs.YtagelhbknbpfhaaDoor

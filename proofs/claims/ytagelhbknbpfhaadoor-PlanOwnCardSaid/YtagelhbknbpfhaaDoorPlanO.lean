/-
  Arguments opened, leaf by leaf, with the reach of what lies inside: exchanges, messages, numbers.
-/
import Derived.Test.YtagelhbknbpfhaaDoorFlat
import Derived.Test.YtagelhbknbpfhaaDoorPlanM
import Derived.SizedLaws
namespace Go.Proofs.YtagelhbknbpfhaaDoor
open Go.ChangeShapes Go.WideShapes Go.ChangeAt Go.RowKit Go.Deep
section
variable {H : Type} {enc : TypeId × Value → H} {P : Program} {w : World} {base : Nat} {spare : Nat → Bool} {held : Bool}
theorem weightsAll_mem {e : TypeId} : ∀ {l : List (DataW H)} {d : DataW H}, d ∈ l → ∀ n ∈ d.weights P e, n ∈ DataW.weightsAll P e l
  | d' :: r, d, hd, n, hn => by
    simp only [DataW.weightsAll, List.mem_append]
    rcases List.mem_cons.1 hd with rfl | h
    · exact Or.inl hn
    · exact Or.inr (weightsAll_mem h n hn)
/-- The leaves of a value, and that what they weigh is weighed. -/
theorem leafW_of : ∀ (k : Nat) (t : TypeId) (j : Nat) (tj : TypeId) (fuel : Nat) (cs : List Value) (x : DataW H × List MemPlace), leafAt P k t j = some tj → cs.length = P.cellsOf t → DataW.trod enc P w base spare held fuel t cs = some x →
    ∃ (v : Value) (y : DataW H × List MemPlace) (n : Nat), cs[j]? = some v ∧ DataW.trod enc P w base spare held n tj [v] = some y ∧ ∀ b ∈ y.1.weights P tj, b ∈ x.1.weights P t
  | 0, _, _, _, _, _, _, h, _, _ => by cases h
  | k + 1, t, j, tj, fuel, cs, x, h, hl, hx => by
    unfold leafAt at h
    split at h
    · rename_i fs hfs
      split at h
      · rename_i f hf
        have hc := List.find?_some hf
        simp only [Bool.and_eq_true, decide_eq_true_eq] at hc
        obtain ⟨⟨h1, h2⟩, h3⟩ := hc
        obtain ⟨i, hi, hif⟩ := List.getElem_of_mem (List.mem_of_find?_eq_some hf)
        obtain ⟨ys, n, _, rfl, _, hyl, hF⟩ := DataW.trod_struct hfs hx
        have hfi : fs[i]? = some f := by rw [← Array.getElem?_toList, List.getElem?_eq_getElem hi, hif]
        have h4 := hF i f hfi
        have hys : ys[i]? = some (ys[i]'(by rw [hyl]; simpa using hi)) := List.getElem?_eq_getElem _
        rw [hys] at h4
        obtain ⟨v, y, m, hv, hy, hw⟩ := leafW_of k f.type (j - f.offset) tj n _ _ h (by simp; omega) h4
        refine ⟨v, y, m, ?_, hy, fun b hb => ?_⟩
        · rw [List.getElem?_take_of_lt (by omega), List.getElem?_drop, show f.offset + (j - f.offset) = j by omega] at hv
          exact hv
        · simp only [DataW.weights, hfs]
          exact DataW.weights_mem_each (j := i) (t := f.type) (d := (ys[i]'(by rw [hyl]; simpa using hi)).1) (by rw [List.getElem?_map, List.getElem?_eq_getElem hi, hif]; rfl) (by rw [List.getElem?_map, hys]; rfl) b (hw b hb)
      · cases h
    · split at h
      · rename_i hj
        obtain ⟨rfl, hc⟩ := hj
        obtain rfl := Option.some.inj h
        rw [hc] at hl
        match cs, hl with
        | [v], _ => exact ⟨v, x, fuel, rfl, hx, fun b hb => hb⟩
      · cases h
/-- A slice whose elements are structs: its cells, leaf by leaf, and the weights. -/
theorem openW_leaves {t e : TypeId} {fuel z : Nat} {cs : List Value} {x : DataW H × List MemPlace} (ht : P.underlying t = some (.slice e)) (hC : P.cellsOf e = z) (h0 : 0 < z) (h : DataW.trod enc P w base spare held fuel t cs = some x) :
    ∃ (a : Option Addr) (len cap b o : Nat), cs = [.slice a len cap] ∧ len ≤ maxLen ∧ (0 < len → a = some ⟨b, o, none⟩ ∧ b < w.heap.size ∧ len * P.bytesOf e ≤ len * P.bytesOf e) ∧ (0 < len → ∃ m, len ≤ m ∧ m * P.bytesOf e ∈ x.1.weights P t) ∧
      ∀ i, i < len → ∀ (k j : Nat) (tj : TypeId), leafAt P k e j = some tj → ∃ (v : Value) (y : DataW H × List MemPlace) (n : Nat), w.cell? ⟨b, o + i * z + j, none⟩ = some v ∧ DataW.trod enc P w base spare held n tj [v] = some y ∧ ∀ b ∈ y.1.weights P tj, b ∈ x.1.weights P t := by
  rcases open_slice ht h with h1 | ⟨a, len, cap, m, n, D, Pl, hcs, hb, hl, hm, hmm, hx, hi⟩
  · exact ⟨none, 0, 0, 0, 0, h1.1, Nat.zero_le _, fun h => absurd h (Nat.lt_irrefl _), fun h => absurd h (Nat.lt_irrefl _), fun i hi => absurd hi (Nat.not_lt_zero _)⟩
  · obtain ⟨b, o, spot⟩ := a
    have hlm : len ≤ maxLen := Nat.le_trans hl hm
    have key : ∀ i, i < len → ∃ (vs : List Value) (n : Nat), vs.length = z ∧ (∀ j v, vs[j]? = some v → w.cell? ((⟨b, o, spot⟩ : Addr).add (i * z + j)) = some v) ∧ DataW.trod enc P w base spare held n e vs = some (D i, Pl i) := by
      intro i hil
      have him : i < m := by rw [hmm]; split <;> omega
      obtain ⟨cs', hc, ht'⟩ := hi i him
      rw [hC] at hc
      obtain ⟨_, hcl, hat⟩ := World.cells?_some hc
      refine ⟨cs', _, hcl, fun j v hv => ?_, ht'⟩
      have hj : j < z := by rw [← hcl]; exact (List.getElem?_eq_some_iff.1 hv).1
      rw [← Go.Deep.add_add, hat j hj, hv]
    by_cases hz : 0 < len
    · obtain ⟨vs, n0, hvl, hv, _⟩ := key 0 hz
      have hv0 := hv 0 (vs[0]'(by omega)) (List.getElem?_eq_getElem (by omega))
      have e0 : (⟨b, o, spot⟩ : Addr).add (0 * z + 0) = ⟨b, o, spot⟩ := by simp [Addr.add]
      rw [e0] at hv0
      have hs : spot = none := World.cell?_spot hv0
      subst hs
      refine ⟨some ⟨b, o, none⟩, len, cap, b, o, hcs, hlm, fun _ => ⟨rfl, World.block_lt_of_cell? w _ hv0, Nat.le_refl _⟩, fun _ => ⟨len + (m - len), by omega, ?_⟩, fun i hil k j tj hj => ?_⟩
      · rw [hx]
        simp only [DataW.weights, ht, List.length_map, List.length_range]
        exact List.mem_cons_self ..
      · obtain ⟨vs, n1, hvl, hv, ht1⟩ := key i hil
        obtain ⟨v, y, n2, hv', hy', hw'⟩ := leafW_of k e j tj n1 vs (D i, Pl i) hj (by rw [hvl, hC]) ht1
        refine ⟨v, y, n2, ?_, hy', fun b hb => ?_⟩
        · have e1 : (⟨b, o, none⟩ : Addr).add (i * z + j) = ⟨b, o + i * z + j, none⟩ := by
            unfold Addr.add
            split
            · simp
            · simp; omega
          rw [← e1]; exact hv j v hv'
        · rw [hx]
          simp only [DataW.weights, ht]
          refine List.mem_cons_of_mem _ (List.mem_append_left _ (weightsAll_mem (d := D i) ?_ b (hw' b hb)))
          exact List.mem_map.2 ⟨i, List.mem_range.2 hil, rfl⟩
    · exact ⟨some ⟨b, o, spot⟩, len, cap, b, o, hcs, hlm, fun h => absurd h hz, fun h => absurd h hz, fun i hil => absurd (Nat.lt_of_le_of_lt (Nat.zero_le _) hil) hz⟩
end
theorem u32_lit {z : Int} (h : (Lit.int .u32 z).wf = true) : 0 ≤ z ∧ z < 4294967296 := by simp [Lit.wf, IntKind.min, IntKind.max, IntKind.signed, IntKind.bits] at h; omega
/-- A slice of numbers. -/
theorem open_u32s {H : Type} {enc : TypeId × Value → H} {w : World} {base : Nat} {spare : Nat → Bool} {held : Bool} {v : Value} {n : Nat} {x : DataW H × List MemPlace} (hf : DataW.trod enc Tryd.prog w base spare held n 23 [v] = some x) (R : Nat) (hR : ∀ b ∈ x.1.weights Tryd.prog 23, b ≤ R) :
    ∃ l a c b o, RowAt u32v w v l a c b o ∧ (∀ n ∈ l, n < 4294967296) ∧ l.length * 4 ≤ R ∧ l.length ≤ maxLen := by
  obtain ⟨a, len, cap, b, o, hcs, hml, ha, hwt, hcell⟩ := openW_leaves Tryd.underlying23 (z := 1) (by kernel_rfl) (by decide) hf
  simp only [List.cons.injEq, and_true] at hcs
  subst hcs
  have hex : ∀ i, ∃ z : Nat, i < len → w.cell? ⟨b, o + i, none⟩ = some (.int .u32 z) ∧ z < 4294967296 := by
    intro i
    by_cases hi : i < len
    · obtain ⟨v0, y0, n0, g0, r0, _⟩ := hcell i hi 1 0 35 (by kernel_rfl)
      obtain ⟨z0, e0, _, w0⟩ := DataW.trod_int Tryd.underlying35 r0
      simp only [List.cons.injEq, and_true] at e0
      subst e0
      have b0 := u32_lit w0
      obtain ⟨z, rfl⟩ := Int.eq_ofNat_of_zero_le b0.1
      exact ⟨z, fun _ => ⟨by simpa using g0, by have := b0.2; omega⟩⟩
    · exact ⟨0, fun h => absurd h hi⟩
  obtain ⟨f, hf'⟩ := Classical.axiomOfChoice hex
  have hl : ((List.range len).map f).length = len := by simp
  refine ⟨(List.range len).map f, a, cap, b, o, ⟨by rw [hl], fun h => ⟨(ha (by rw [hl] at h; exact h)).1, (ha (by rw [hl] at h; exact h)).2.1⟩, fun j u hj => ?_⟩, fun z hz => ?_, ?_, by rw [hl]; exact hml⟩
  · have hjl : j < len := by
      have := (List.getElem?_eq_some_iff.1 hj).1
      rw [rowOf_length u32v_len, hl, Nat.mul_one] at this; exact this
    have h1 := rowOf_at u32v_len ((List.range len).map f) j 0 (by rw [hl]; exact hjl) (by decide)
    rw [Nat.mul_one, Nat.add_zero] at h1
    rw [h1] at hj
    rw [← hj, (hf' j hjl).1]
    simp [u32v]
  · simp only [List.mem_map, List.mem_range] at hz
    obtain ⟨i, hi, rfl⟩ := hz
    exact (hf' i hi).2
  · rw [hl]
    by_cases h0 : 0 < len
    · obtain ⟨m, hm, hmem⟩ := hwt h0
      have h2 := hR _ hmem
      have h3 : Tryd.prog.bytesOf 35 = 4 := by kernel_rfl
      rw [h3] at h2
      omega
    · omega
theorem open_exs {H : Type} {enc : TypeId × Value → H} {w : World} {base : Nat} {spare : Nat → Bool} {held : Bool} {v : Value} {d : DataW H} {ps : List MemPlace}
    (hok : ∃ a len cap, v = .slice a len cap) (h : DataW.Trod enc Tryd.prog w base spare held 22 v d ps) (R : Nat) (hR : ∀ b ∈ d.weights Tryd.prog 22, b ≤ R) :
    ∃ (l : List XE) (a : Option Addr) (c b o : Nat), RowAt XE.vals w v l a c b o ∧ (∀ y ∈ l, y.Ok w) ∧ (∀ y ∈ l, y.x.cnt.length * 4 ≤ R) ∧ l.length ≤ maxLen := by
  obtain ⟨a0, l0, c0, rfl⟩ := hok
  obtain ⟨fuel, hf⟩ := h
  obtain ⟨a, len, cap, b, o, hcs, hml, ha, _, hcell⟩ := openW_leaves Tryd.underlying22 (z := 6) (by kernel_rfl) (by decide) hf
  have hcs' : [Value.slice a0 l0 c0] = [.slice a len cap] := hcs
  simp only [List.cons.injEq, Value.slice.injEq, and_true] at hcs'
  obtain ⟨rfl, rfl, rfl⟩ := hcs'
  have hex : ∀ i, ∃ y : XE, i < l0 → w.rangeAt b (o + i * 6) y.vals ∧ y.Ok w ∧ y.x.cnt.length * 4 ≤ R := by
    intro i
    by_cases hi : i < l0
    · obtain ⟨v0, y0, n0, g0, r0, _⟩ := hcell i hi 4 0 3 (by kernel_rfl)
      obtain ⟨v1, y1, n1, g1, r1, _⟩ := hcell i hi 4 1 31 (by kernel_rfl)
      obtain ⟨v2, y2, n2, g2, r2, _⟩ := hcell i hi 4 2 3 (by kernel_rfl)
      obtain ⟨v3, y3, n3, g3, r3, w3⟩ := hcell i hi 4 3 23 (by kernel_rfl)
      obtain ⟨v4, y4, n4, g4, r4, _⟩ := hcell i hi 4 4 31 (by kernel_rfl)
      obtain ⟨v5, y5, n5, g5, r5, _⟩ := hcell i hi 4 5 3 (by kernel_rfl)
      obtain ⟨z0, e0, _, w0⟩ := DataW.trod_int Tryd.underlying3 r0
      obtain ⟨z1, e1, _, w1⟩ := DataW.trod_int Tryd.underlying31 r1
      obtain ⟨z2, e2, _, w2⟩ := DataW.trod_int Tryd.underlying3 r2
      obtain ⟨z4, e4, _, w4⟩ := DataW.trod_int Tryd.underlying31 r4
      obtain ⟨z5, e5, _, w5⟩ := DataW.trod_int Tryd.underlying3 r5
      simp only [List.cons.injEq, and_true] at e0 e1 e2 e4 e5
      subst e0 e1 e2 e4 e5
      have b1 := u64_lit w1
      have b4 := u64_lit w4
      obtain ⟨z1, rfl⟩ := Int.eq_ofNat_of_zero_le b1.1
      obtain ⟨z4, rfl⟩ := Int.eq_ofNat_of_zero_le b4.1
      obtain ⟨cl, ca, cc, cb, co, hrow, hlt, hcl, _⟩ := open_u32s r3 R (fun b hb => hR b (w3 b hb))
      refine ⟨⟨⟨z0, z1, z2, cl, z4, z5⟩, v3⟩, fun _ => ⟨?_, ⟨⟨_, _, _, _, hrow⟩, hlt, by have := b1.2; show z1 < _; omega, by have := b4.2; show z4 < _; omega⟩, hcl⟩⟩
      intro j u hv
      have hj : j < 6 := (List.getElem?_eq_some_iff.1 hv).1
      match j, hj with
      | 0, _ => rw [← hv]; exact g0
      | 1, _ => rw [← hv]; exact g1
      | 2, _ => rw [← hv]; exact g2
      | 3, _ => rw [← hv]; exact g3
      | 4, _ => rw [← hv]; exact g4
      | 5, _ => rw [← hv]; exact g5
    · exact ⟨⟨⟨0, 0, 0, [], 0, 0⟩, .slice none 0 0⟩, fun h => absurd h hi⟩
  obtain ⟨f, hf'⟩ := Classical.axiomOfChoice hex
  have hl : ((List.range l0).map f).length = l0 := by simp
  refine ⟨(List.range l0).map f, a0, c0, b, o, ⟨by rw [hl], fun h => ⟨(ha (by rw [hl] at h; exact h)).1, (ha (by rw [hl] at h; exact h)).2.1⟩, fun j u hj => ?_⟩, ?_, ?_, by rw [hl]; exact hml⟩
  · have hjl : j < l0 * 6 := by
      have := (List.getElem?_eq_some_iff.1 hj).1
      rw [rowOf_length XE.len, hl] at this; exact this
    have e1 : j = (j / 6) * 6 + j % 6 := by omega
    have hq : j / 6 < l0 := by omega
    have h1 := rowOf_at XE.len ((List.range l0).map f) (j / 6) (j % 6) (by rw [hl]; exact hq) (by omega)
    rw [← e1] at h1
    rw [h1] at hj
    have h2 := (hf' (j / 6) hq).1 (j % 6) u (by simpa using hj)
    rw [show o + j = o + j / 6 * 6 + j % 6 by omega]
    exact h2
  · intro y hy
    simp only [List.mem_map, List.mem_range] at hy
    obtain ⟨i, hi, rfl⟩ := hy
    exact (hf' i hi).2.1
  · intro y hy
    simp only [List.mem_map, List.mem_range] at hy
    obtain ⟨i, hi, rfl⟩ := hy
    exact (hf' i hi).2.2
theorem open_msgs {H : Type} {enc : TypeId × Value → H} {w : World} {base : Nat} {spare : Nat → Bool} {held : Bool} {v : Value} {d : DataW H} {ps : List MemPlace}
    (hok : ∃ a len cap, v = .slice a len cap) (h : DataW.Trod enc Tryd.prog w base spare held 50 v d ps) (R : Nat) (hR : ∀ b ∈ d.weights Tryd.prog 50, b ≤ R) :
    ∃ (l : List MsE) (a : Option Addr) (c b o : Nat), MsgsAt w v l a c b o ∧ l.length ≤ maxLen ∧ ∀ y ∈ l, y.m.deps.length * 4 ≤ R := by
  obtain ⟨a0, l0, c0, rfl⟩ := hok
  obtain ⟨fuel, hf⟩ := h
  obtain ⟨a, len, cap, b, o, hcs, hml, ha, _, hcell⟩ := openW_leaves Tryd.underlying50 (z := 6) (by kernel_rfl) (by decide) hf
  have hcs' : [Value.slice a0 l0 c0] = [.slice a len cap] := hcs
  simp only [List.cons.injEq, Value.slice.injEq, and_true] at hcs'
  obtain ⟨rfl, rfl, rfl⟩ := hcs'
  have hex : ∀ i, ∃ y : MsE, i < l0 → w.rangeAt b (o + i * 6) y.vals ∧ y.Ok w ∧ y.m.deps.length * 4 ≤ R := by
    intro i
    by_cases hi : i < l0
    · obtain ⟨v0, y0, n0, g0, r0, _⟩ := hcell i hi 4 0 3 (by kernel_rfl)
      obtain ⟨v1, y1, n1, g1, r1, _⟩ := hcell i hi 4 1 35 (by kernel_rfl)
      obtain ⟨v2, y2, n2, g2, r2, _⟩ := hcell i hi 4 2 31 (by kernel_rfl)
      obtain ⟨v3, y3, n3, g3, r3, _⟩ := hcell i hi 4 3 3 (by kernel_rfl)
      obtain ⟨v4, y4, n4, g4, r4, w4⟩ := hcell i hi 4 4 23 (by kernel_rfl)
      obtain ⟨v5, y5, n5, g5, r5, _⟩ := hcell i hi 4 5 9 (by kernel_rfl)
      obtain ⟨z0, e0, _, w0⟩ := DataW.trod_int Tryd.underlying3 r0
      obtain ⟨z1, e1, _, w1⟩ := DataW.trod_int Tryd.underlying35 r1
      obtain ⟨z2, e2, _, w2⟩ := DataW.trod_int Tryd.underlying31 r2
      obtain ⟨z3, e3, _, w3⟩ := DataW.trod_int Tryd.underlying3 r3
      obtain ⟨z5, e5, _, w5⟩ := DataW.trod_string Tryd.underlying9 r5
      simp only [List.cons.injEq, and_true] at e0 e1 e2 e3 e5
      subst e0 e1 e2 e3 e5
      have b1 := u32_lit w1
      have b2 := u64_lit w2
      obtain ⟨z1, rfl⟩ := Int.eq_ofNat_of_zero_le b1.1
      obtain ⟨z2, rfl⟩ := Int.eq_ofNat_of_zero_le b2.1
      obtain ⟨cl, ca, cc, cb, co, hrow, hlt, hcl, hcm⟩ := open_u32s r4 R (fun b hb => hR b (w4 b hb))
      have g5' : w.cell? ⟨b, o + i * 6 + 5, none⟩ = some (str z5.data.toList) := g5
      refine ⟨⟨⟨z0, z1, z2, z3, cl, z5.data.toList⟩, v4⟩, fun _ => ⟨?_, ⟨⟨_, _, _, _, hrow⟩, hlt, by have := b1.2; show z1 < _; omega, by have := b2.2; show z2 < _; omega, ?_, hcm⟩, hcl⟩⟩
      · intro j u hv
        have hj : j < 6 := (List.getElem?_eq_some_iff.1 hv).1
        match j, hj with
        | 0, _ => rw [← hv]; exact g0
        | 1, _ => rw [← hv]; exact g1
        | 2, _ => rw [← hv]; exact g2
        | 3, _ => rw [← hv]; exact g3
        | 4, _ => rw [← hv]; exact g4
        | 5, _ => rw [← hv]; exact g5'
      · show z5.data.toList.length ≤ _
        have : z5.data.toList.length = z5.size := Array.length_toList
        rw [this]
        exact Nat.le_trans w5 (by decide)
    · exact ⟨⟨⟨0, 0, 0, 0, [], []⟩, .slice none 0 0⟩, fun h => absurd h hi⟩
  obtain ⟨f, hf'⟩ := Classical.axiomOfChoice hex
  have hl : ((List.range l0).map f).length = l0 := by simp
  refine ⟨(List.range l0).map f, a0, c0, b, o, ⟨⟨by rw [hl], fun h => ⟨(ha (by rw [hl] at h; exact h)).1, (ha (by rw [hl] at h; exact h)).2.1⟩, fun j u hj => ?_⟩, ?_⟩, by rw [hl]; exact hml, ?_⟩
  · have hjl : j < l0 * 6 := by
      have := (List.getElem?_eq_some_iff.1 hj).1
      rw [rowOf_length MsE.len, hl] at this; exact this
    have e1 : j = (j / 6) * 6 + j % 6 := by omega
    have hq : j / 6 < l0 := by omega
    have h1 := rowOf_at MsE.len ((List.range l0).map f) (j / 6) (j % 6) (by rw [hl]; exact hq) (by omega)
    rw [← e1] at h1
    rw [h1] at hj
    have h2 := (hf' (j / 6) hq).1 (j % 6) u (by simpa using hj)
    rw [show o + j = o + j / 6 * 6 + j % 6 by omega]
    exact h2
  · intro y hy
    simp only [List.mem_map, List.mem_range] at hy
    obtain ⟨i, hi, rfl⟩ := hy
    exact (hf' i hi).2.1
  · intro y hy
    simp only [List.mem_map, List.mem_range] at hy
    obtain ⟨i, hi, rfl⟩ := hy
    exact (hf' i hi).2.2
end Go.Proofs.YtagelhbknbpfhaaDoor

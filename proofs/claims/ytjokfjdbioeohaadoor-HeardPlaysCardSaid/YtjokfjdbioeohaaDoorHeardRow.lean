/-
  The argument []consortlaw09.Act, opened.
-/
import Derived.Test.YtjokfjdbioeohaaDoorFlat
import Derived.Test.YtjokfjdbioeohaaDoorHeardActs
namespace Go.Proofs.YtjokfjdbioeohaaDoor
open Go.ChangeShapes Go.WideShapes Go.ChangeAt Go.RowKit Go.Deep
theorem open_hacts {H : Type} {enc : TypeId × Value → H} {w : World} {base : Nat} {spare : Nat → Bool} {held : Bool} {v : Value} {d : DataW H} {ps : List MemPlace}
    (hok : ∃ a len cap, v = .slice a len cap) (h : DataW.Trod enc Tryd.prog w base spare held 58 v d ps) : ∃ (l : List HAct) (a : Option Addr) (c b o : Nat), HActsAt w v l a c b o := by
  obtain ⟨a0, l0, c0, rfl⟩ := hok
  obtain ⟨fuel, hf⟩ := h
  obtain ⟨a, len, cap, b, o, hcs, ha, hcell⟩ := open_leaves Tryd.underlying58 (z := 8) (by kernel_rfl) (by decide) hf
  have hcs' : [Value.slice a0 l0 c0] = [.slice a len cap] := hcs
  simp only [List.cons.injEq, Value.slice.injEq, and_true] at hcs'
  obtain ⟨rfl, rfl, rfl⟩ := hcs'
  have hex : ∀ i, ∃ x : HAct, i < l0 → w.rangeAt b (o + i * 8) x.vals ∧ x.s < 18446744073709551616 := by
    intro i
    by_cases hi : i < l0
    · obtain ⟨v0, y0, n0, g0, r0⟩ := hcell i hi 4 0 3 (by kernel_rfl)
      obtain ⟨v1, y1, n1, g1, r1⟩ := hcell i hi 4 1 3 (by kernel_rfl)
      obtain ⟨v2, y2, n2, g2, r2⟩ := hcell i hi 4 2 22 (by kernel_rfl)
      obtain ⟨v3, y3, n3, g3, r3⟩ := hcell i hi 4 3 3 (by kernel_rfl)
      obtain ⟨v4, y4, n4, g4, r4⟩ := hcell i hi 4 4 22 (by kernel_rfl)
      obtain ⟨v5, y5, n5, g5, r5⟩ := hcell i hi 4 5 3 (by kernel_rfl)
      obtain ⟨v6, y6, n6, g6, r6⟩ := hcell i hi 4 6 22 (by kernel_rfl)
      obtain ⟨v7, y7, n7, g7, r7⟩ := hcell i hi 4 7 22 (by kernel_rfl)
      obtain ⟨z0, e0, _, w0⟩ := DataW.trod_int Tryd.underlying3 r0
      obtain ⟨z1, e1, _, w1⟩ := DataW.trod_int Tryd.underlying3 r1
      obtain ⟨z2, e2, _, w2⟩ := DataW.trod_int Tryd.underlying22 r2
      obtain ⟨z3, e3, _, w3⟩ := DataW.trod_int Tryd.underlying3 r3
      obtain ⟨z4, e4, _, w4⟩ := DataW.trod_int Tryd.underlying22 r4
      obtain ⟨z5, e5, _, w5⟩ := DataW.trod_int Tryd.underlying3 r5
      obtain ⟨z6, e6, _, w6⟩ := DataW.trod_int Tryd.underlying22 r6
      obtain ⟨z7, e7, _, w7⟩ := DataW.trod_int Tryd.underlying22 r7
      simp only [List.cons.injEq, and_true] at e0 e1 e2 e3 e4 e5 e6 e7
      subst e0 e1 e2 e3 e4 e5 e6 e7
      have b2 := u64_lit w2
      have b4 := u64_lit w4
      have b6 := u64_lit w6
      have b7 := u64_lit w7
      obtain ⟨z2, rfl⟩ := Int.eq_ofNat_of_zero_le b2.1
      obtain ⟨z4, rfl⟩ := Int.eq_ofNat_of_zero_le b4.1
      obtain ⟨z6, rfl⟩ := Int.eq_ofNat_of_zero_le b6.1
      obtain ⟨z7, rfl⟩ := Int.eq_ofNat_of_zero_le b7.1
      refine ⟨⟨z0, z1, ⟨z2, z3, z4, z5, z6⟩, z7⟩, fun _ => ⟨?_, by have := b7.2; show z7 < _; omega⟩⟩
      intro j v hv
      have hj : j < 8 := (List.getElem?_eq_some_iff.1 hv).1
      match j, hj with
      | 0, _ => rw [← hv]; exact g0
      | 1, _ => rw [← hv]; exact g1
      | 2, _ => rw [← hv]; exact g2
      | 3, _ => rw [← hv]; exact g3
      | 4, _ => rw [← hv]; exact g4
      | 5, _ => rw [← hv]; exact g5
      | 6, _ => rw [← hv]; exact g6
      | 7, _ => rw [← hv]; exact g7
    · exact ⟨HAct.zero, fun h => absurd h hi⟩
  obtain ⟨f, hf⟩ := Classical.axiomOfChoice hex
  have hl : ((List.range l0).map f).length = l0 := by simp
  refine ⟨(List.range l0).map f, a0, c0, b, o, by rw [hl], fun h => ha (by rw [hl] at h; exact h), ?_, ?_⟩
  · intro i hi
    have := (hf i (by rw [hl] at hi; exact hi)).1
    simpa using this
  · intro x hx
    simp only [List.mem_map, List.mem_range] at hx
    obtain ⟨i, hi, rfl⟩ := hx
    exact (hf i hi).2
set_option maxRecDepth 100000 in
/-- A configuration's name. -/
theorem open_conf {H : Type} {enc : TypeId × Value → H} {w : World} {base b0 : Nat} {r : Reach} {spare : Nat → Bool} {held : Bool} {v : Value} {d : DataW H} {ps : List MemPlace}
    (hv : Value.okWide Tryd.prog w r b0 60 v) (h : DataW.Trod enc Tryd.prog w base spare held 60 v d ps) : ∃ (ce : Nat) (cr : Int), v = .agg #[.int .u64 ce, .int .i64 cr] ∧ ce < 18446744073709551616 := by
  obtain ⟨cs, rfl, hsz, hl⟩ := open_struct Tryd.underlying60 (z := 2) (by kernel_rfl) hv h
  obtain ⟨v0, y0, n0, g0, r0⟩ := hl 4 0 22 (by kernel_rfl)
  obtain ⟨v1, y1, n1, g1, r1⟩ := hl 4 1 3 (by kernel_rfl)
  obtain ⟨z0, e0, _, w0⟩ := DataW.trod_int Tryd.underlying22 r0
  obtain ⟨z1, e1, _, w1⟩ := DataW.trod_int Tryd.underlying3 r1
  simp only [List.cons.injEq, and_true] at e0 e1
  subst e0 e1
  have b0 := u64_lit w0
  obtain ⟨z0, rfl⟩ := Int.eq_ofNat_of_zero_le b0.1
  refine ⟨z0, z1, ?_, by omega⟩
  congr 1
  apply Array.ext_getElem?
  intro i
  match i with
  | 0 => exact g0
  | 1 => exact g1
  | i + 2 => rw [Array.getElem?_eq_none (by omega), Array.getElem?_eq_none (by simp)]
end Go.Proofs.YtjokfjdbioeohaaDoor

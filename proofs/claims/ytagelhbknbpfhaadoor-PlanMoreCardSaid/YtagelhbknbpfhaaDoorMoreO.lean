/-
  An argument that is an exchange.
-/
import Derived.Test.YtagelhbknbpfhaaDoorPlanO
namespace Go.Proofs.YtagelhbknbpfhaaDoor
open Go.ChangeShapes Go.WideShapes Go.ChangeAt Go.RowKit Go.Deep
theorem bounded (l : List Nat) : ∃ R, ∀ b ∈ l, b ≤ R := by
  induction l with
  | nil => exact ⟨0, fun b h => by simp at h⟩
  | cons x l ih =>
    obtain ⟨R, h⟩ := ih
    refine ⟨x + R, fun b hb => ?_⟩
    rcases List.mem_cons.1 hb with rfl | hb
    · omega
    · have := h b hb; omega
set_option maxRecDepth 100000 in
theorem open_exarg {H : Type} {enc : TypeId × Value → H} {w : World} {base b0 : Nat} {r : Reach} {spare : Nat → Bool} {held : Bool} {v : Value} {d : DataW H} {ps : List MemPlace}
    (hv : Value.okWide Tryd.prog w r b0 64 v) (h : DataW.Trod enc Tryd.prog w base spare held 64 v d ps) : ∃ y : XE, v = .agg y.vals.toArray ∧ y.Ok w ∧ y.x.cnt.length ≤ maxLen := by
  obtain ⟨cs, rfl, hsz, hl⟩ := open_struct Tryd.underlying64 (z := 6) (by kernel_rfl) hv h
  obtain ⟨v0, y0, n0, g0, r0⟩ := hl 4 0 3 (by kernel_rfl)
  obtain ⟨v1, y1, n1, g1, r1⟩ := hl 4 1 31 (by kernel_rfl)
  obtain ⟨v2, y2, n2, g2, r2⟩ := hl 4 2 3 (by kernel_rfl)
  obtain ⟨v3, y3, n3, g3, r3⟩ := hl 4 3 23 (by kernel_rfl)
  obtain ⟨v4, y4, n4, g4, r4⟩ := hl 4 4 31 (by kernel_rfl)
  obtain ⟨v5, y5, n5, g5, r5⟩ := hl 4 5 3 (by kernel_rfl)
  obtain ⟨z0, e0, _, w0⟩ := DataW.trod_int Tryd.underlying3 r0
  obtain ⟨z1, e1, _, w1⟩ := DataW.trod_int Tryd.underlying31 r1
  obtain ⟨z2, e2, _, w2⟩ := DataW.trod_int Tryd.underlying3 r2
  obtain ⟨z4, e4, _, w4⟩ := DataW.trod_int Tryd.underlying31 r4
  obtain ⟨z5, e5, _, w5⟩ := DataW.trod_int Tryd.underlying3 r5
  simp only [List.cons.injEq, and_true] at e0 e1 e2 e4 e5
  subst e0 e1 e2 e4 e5
  have b1 := u64_lit w1
  have b4 := u64_lit w4
  obtain ⟨z1, rfl⟩ := Int.eq_ofNat_of_zero_le b1.1
  obtain ⟨z4, rfl⟩ := Int.eq_ofNat_of_zero_le b4.1
  obtain ⟨R, hR⟩ := bounded (y3.1.weights Tryd.prog 23)
  obtain ⟨cl, ca, cc, cb, co, hrow, hlt, _, hcm⟩ := open_u32s r3 R hR
  refine ⟨⟨⟨z0, z1, z2, cl, z4, z5⟩, v3⟩, ?_, ⟨⟨_, _, _, _, hrow⟩, hlt, by have := b1.2; show z1 < _; omega, by have := b4.2; show z4 < _; omega⟩, hcm⟩
  congr 1
  apply Array.ext_getElem?
  intro i
  match i with
  | 0 => exact g0
  | 1 => exact g1
  | 2 => exact g2
  | 3 => exact g3
  | 4 => exact g4
  | 5 => exact g5
  | i + 6 => rw [Array.getElem?_eq_none (by omega), Array.getElem?_eq_none (by simp [XE.vals])]
end Go.Proofs.YtagelhbknbpfhaaDoor

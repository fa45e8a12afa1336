/-
  The argument []consortlaw07.Act, opened.
-/
import Derived.Test.YthegooaeehblhaaDoorRFlat
import Derived.Test.YthegooaeehblhaaDoorRNetActs
namespace Go.Proofs.YthegooaeehblhaaDoorR
open Go.ChangeShapes Go.WideShapes Go.ChangeAt Go.RowKit Go.Deep
theorem u8_lit {z : Int} (h : (Lit.int .u8 z).wf = true) : 0 ≤ z ∧ z < 256 := by simp [Lit.wf, IntKind.min, IntKind.max, IntKind.signed, IntKind.bits] at h; omega
theorem u8_of {z : Nat} (h : z < 256) : ((UInt8.ofNat z).toNat : Int) = (z : Int) := by
  rw [UInt8.toNat_ofNat_of_lt' (by simpa using h)]
theorem open_nacts {H : Type} {enc : TypeId × Value → H} {w : World} {base : Nat} {spare : Nat → Bool} {held : Bool} {v : Value} {d : DataW H} {ps : List MemPlace}
    (hok : ∃ a len cap, v = .slice a len cap) (h : DataW.Trod enc Tryd.prog w base spare held 32 v d ps) : ∃ (l : List NAct) (a : Option Addr) (c b o : Nat), NActsAt w v l a c b o := by
  obtain ⟨a0, l0, c0, rfl⟩ := hok
  obtain ⟨fuel, hf⟩ := h
  obtain ⟨a, len, cap, b, o, hcs, ha, hcell⟩ := open_leaves Tryd.underlying32 (z := 9) (by kernel_rfl) (by decide) hf
  have hcs' : [Value.slice a0 l0 c0] = [.slice a len cap] := hcs
  simp only [List.cons.injEq, Value.slice.injEq, and_true] at hcs'
  obtain ⟨rfl, rfl, rfl⟩ := hcs'
  have hex : ∀ i, ∃ x : NAct, i < l0 → w.rangeAt b (o + i * 9) x.vals ∧ x.s < 18446744073709551616 ∧ x.d.data.length ≤ 9223372036854775807 := by
    intro i
    by_cases hi : i < l0
    · obtain ⟨v0, y0, n0, g0, r0⟩ := hcell i hi 4 0 3 (by kernel_rfl)
      obtain ⟨v1, y1, n1, g1, r1⟩ := hcell i hi 4 1 3 (by kernel_rfl)
      obtain ⟨v2, y2, n2, g2, r2⟩ := hcell i hi 4 2 3 (by kernel_rfl)
      obtain ⟨v3, y3, n3, g3, r3⟩ := hcell i hi 4 3 9 (by kernel_rfl)
      obtain ⟨v4, y4, n4, g4, r4⟩ := hcell i hi 4 4 4 (by kernel_rfl)
      obtain ⟨v5, y5, n5, g5, r5⟩ := hcell i hi 4 5 3 (by kernel_rfl)
      obtain ⟨v6, y6, n6, g6, r6⟩ := hcell i hi 4 6 3 (by kernel_rfl)
      obtain ⟨v7, y7, n7, g7, r7⟩ := hcell i hi 4 7 5 (by kernel_rfl)
      obtain ⟨v8, y8, n8, g8, r8⟩ := hcell i hi 4 8 28 (by kernel_rfl)
      obtain ⟨z0, e0, _, w0⟩ := DataW.trod_int Tryd.underlying3 r0
      obtain ⟨z1, e1, _, w1⟩ := DataW.trod_int Tryd.underlying3 r1
      obtain ⟨z2, e2, _, w2⟩ := DataW.trod_int Tryd.underlying3 r2
      obtain ⟨z3, e3, _, w3⟩ := DataW.trod_string Tryd.underlying9 r3
      obtain ⟨z4, e4, _⟩ := DataW.trod_bool Tryd.underlying4 r4
      obtain ⟨z5, e5, _, w5⟩ := DataW.trod_int Tryd.underlying3 r5
      obtain ⟨z6, e6, _, w6⟩ := DataW.trod_int Tryd.underlying3 r6
      obtain ⟨z7, e7, _, w7⟩ := DataW.trod_int Tryd.underlying5 r7
      obtain ⟨z8, e8, _, w8⟩ := DataW.trod_int Tryd.underlying28 r8
      simp only [List.cons.injEq, and_true] at e0 e1 e2 e3 e4 e5 e6 e7 e8
      subst e0 e1 e2 e3 e4 e5 e6 e7 e8
      have b7 := u8_lit w7
      have b8 := u64_lit w8
      obtain ⟨z7, rfl⟩ := Int.eq_ofNat_of_zero_le b7.1
      obtain ⟨z8, rfl⟩ := Int.eq_ofNat_of_zero_le b8.1
      have g3' : w.cell? ⟨b, o + i * 9 + 3, none⟩ = some (str z3.data.toList) := g3
      have g7' : w.cell? ⟨b, o + i * 9 + 7, none⟩ = some (.int .u8 ((UInt8.ofNat z7).toNat : Int)) := by rw [u8_of (by omega)]; exact g7
      refine ⟨⟨z0, ⟨z1, z2, z3.data.toList, z4⟩, z5, z6, UInt8.ofNat z7, z8⟩, fun _ => ⟨?_, by have := b8.2; show z8 < _; omega, ?_⟩⟩
      · intro j v hv
        have hj : j < 9 := (List.getElem?_eq_some_iff.1 hv).1
        match j, hj with
        | 0, _ => rw [← hv]; exact g0
        | 1, _ => rw [← hv]; exact g1
        | 2, _ => rw [← hv]; exact g2
        | 3, _ => rw [← hv]; exact g3'
        | 4, _ => rw [← hv]; exact g4
        | 5, _ => rw [← hv]; exact g5
        | 6, _ => rw [← hv]; exact g6
        | 7, _ => rw [← hv]; exact g7'
        | 8, _ => rw [← hv]; exact g8
      · show z3.data.toList.length ≤ _
        have : z3.data.toList.length = z3.size := Array.length_toList
        rw [this]
        exact Nat.le_trans w3 (by decide)
    · exact ⟨NAct.zero, fun h => absurd h hi⟩
  obtain ⟨f, hf⟩ := Classical.axiomOfChoice hex
  have hl : ((List.range l0).map f).length = l0 := by simp
  refine ⟨(List.range l0).map f, a0, c0, b, o, by rw [hl], fun h => ha (by rw [hl] at h; exact h), ?_, ?_⟩
  · intro i hi
    have := (hf i (by rw [hl] at hi; exact hi)).1
    simpa using this
  · intro x hx
    simp only [List.mem_map, List.mem_range] at hx
    obtain ⟨i, hi, rfl⟩ := hx
    exact (hf i hi).2
end Go.Proofs.YthegooaeehblhaaDoorR

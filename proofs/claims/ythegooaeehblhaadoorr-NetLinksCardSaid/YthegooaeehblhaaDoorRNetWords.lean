/-
  The argument []uint64, opened.
-/
import Derived.Test.YthegooaeehblhaaDoorROpen2
import Derived.Test.YthegooaeehblhaaDoorRFlat
import Derived.Test.YthegooaeehblhaaDoorRNetLinks
namespace Go.Proofs.YthegooaeehblhaaDoorR
open Go.ChangeShapes Go.WideShapes Go.ChangeAt Go.RowKit Go.Deep
theorem open_words {H : Type} {enc : TypeId × Value → H} {w : World} {base : Nat} {spare : Nat → Bool} {held : Bool} {v : Value} {d : DataW H} {ps : List MemPlace}
    (hok : ∃ a len cap, v = .slice a len cap) (h : DataW.Trod enc Tryd.prog w base spare held 22 v d ps) : ∃ (l : List Nat) (a : Option Addr) (c b o : Nat), WordsAt w v l a c b o := by
  obtain ⟨a0, l0, c0, rfl⟩ := hok
  obtain ⟨fuel, hf⟩ := h
  obtain ⟨a, len, cap, b, o, hcs, ha, hcell⟩ := open_each Tryd.underlying22 (z := 1) (by kernel_rfl) (by decide) hf
  have hcs' : [Value.slice a0 l0 c0] = [.slice a len cap] := hcs
  simp only [List.cons.injEq, Value.slice.injEq, and_true] at hcs'
  obtain ⟨rfl, rfl, rfl⟩ := hcs'
  have hex : ∀ i, ∃ x : Nat, i < l0 → w.cell? ⟨b, o + i, none⟩ = some (.int .u64 x) ∧ x < 18446744073709551616 := by
    intro i
    by_cases hi : i < l0
    · obtain ⟨vs, y, n, hl, hv, ht⟩ := hcell i hi
      obtain ⟨z, rfl, _, hw⟩ := DataW.trod_int Tryd.underlying28 ht
      have hz : 0 ≤ z ∧ z < 18446744073709551616 := by simp [Lit.wf, IntKind.min, IntKind.max, IntKind.signed, IntKind.bits] at hw; omega
      have h1 := hv 0 _ rfl
      rw [Nat.mul_one, Nat.add_zero] at h1
      exact ⟨z.toNat, fun _ => ⟨by rw [h1, Int.toNat_of_nonneg hz.1], by omega⟩⟩
    · exact ⟨0, fun h => absurd h hi⟩
  obtain ⟨f, hf⟩ := Classical.axiomOfChoice hex
  have hl : ((List.range l0).map f).length = l0 := by simp
  refine ⟨(List.range l0).map f, a0, c0, b, o, by rw [hl], fun h => ha (by rw [hl] at h; exact h), ?_, ?_⟩
  · intro i hi
    rw [(hf i (by rw [hl] at hi; exact hi)).1]; simp
  · intro x hx
    simp only [List.mem_map, List.mem_range] at hx
    obtain ⟨i, hi, rfl⟩ := hx
    exact (hf i hi).2
end Go.Proofs.YthegooaeehblhaaDoorR

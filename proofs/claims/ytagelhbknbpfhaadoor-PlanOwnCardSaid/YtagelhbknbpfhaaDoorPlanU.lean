/-
  An argument that is a slice of numbers.
-/
import Derived.Test.YtagelhbknbpfhaaDoorPlanO
namespace Go.Proofs.YtagelhbknbpfhaaDoor
open Go.ChangeShapes Go.WideShapes Go.ChangeAt Go.RowKit Go.Deep
theorem open_u32arg {H : Type} {enc : TypeId × Value → H} {w : World} {base : Nat} {spare : Nat → Bool} {held : Bool} {v : Value} {d : DataW H} {ps : List MemPlace}
    (hok : ∃ a len cap, v = .slice a len cap) (h : DataW.Trod enc Tryd.prog w base spare held 23 v d ps) (R : Nat) (hR : ∀ b ∈ d.weights Tryd.prog 23, b ≤ R) :
    ∃ l a c b o, RowAt u32v w v l a c b o ∧ (∀ n ∈ l, n < 4294967296) ∧ l.length * 4 ≤ R ∧ l.length ≤ maxLen := by
  obtain ⟨a0, l0, c0, rfl⟩ := hok
  obtain ⟨fuel, hf⟩ := h
  exact open_u32s (x := (d, ps)) hf R hR
end Go.Proofs.YtagelhbknbpfhaaDoor

/-
  An argument that is a slice of whatever has cells, opened to the cells of its elements; bytes.
-/
import Derived.Test.YtagelhbknbpfhaaDoorOpen
namespace Go.Proofs.YtagelhbknbpfhaaDoor
open Go.ChangeShapes Go.WideShapes Go.ChangeAt Go.RowKit Go.Deep
section
variable {H : Type} {enc : TypeId × Value → H} {P : Program} {w : World} {base : Nat} {spare : Nat → Bool} {held : Bool}
theorem open_each {t e : TypeId} {fuel z : Nat} {cs : List Value} {x : DataW H × List MemPlace} (ht : P.underlying t = some (.slice e)) (hC : P.cellsOf e = z) (h0 : 0 < z) (h : DataW.trod enc P w base spare held fuel t cs = some x) :
    ∃ (a : Option Addr) (len cap b o : Nat), cs = [.slice a len cap] ∧ (0 < len → a = some ⟨b, o, none⟩ ∧ b < w.heap.size) ∧
      ∀ i, i < len → ∃ (vs : List Value) (y : DataW H × List MemPlace) (n : Nat), vs.length = z ∧ (∀ j v, vs[j]? = some v → w.cell? ⟨b, o + i * z + j, none⟩ = some v) ∧ DataW.trod enc P w base spare held n e vs = some y := by
  rcases open_slice ht h with h1 | ⟨a, len, cap, m, n, D, Pl, hcs, hb, hl, hm, hmm, hx, hi⟩
  · exact ⟨none, 0, 0, 0, 0, h1.1, fun h => absurd h (Nat.lt_irrefl _), fun i hi => absurd hi (Nat.not_lt_zero _)⟩
  · obtain ⟨b, o, spot⟩ := a
    have key : ∀ i, i < len → ∃ (vs : List Value) (y : DataW H × List MemPlace) (n : Nat), vs.length = z ∧ (∀ j v, vs[j]? = some v → w.cell? ((⟨b, o, spot⟩ : Addr).add (i * z + j)) = some v) ∧ DataW.trod enc P w base spare held n e vs = some y := by
      intro i hil
      have him : i < m := by rw [hmm]; split <;> omega
      obtain ⟨cs', hc, ht'⟩ := hi i him
      rw [hC] at hc
      obtain ⟨_, hcl, hat⟩ := World.cells?_some hc
      refine ⟨cs', _, _, hcl, fun j v hv => ?_, ht'⟩
      have hj : j < z := by rw [← hcl]; exact (List.getElem?_eq_some_iff.1 hv).1
      rw [← Go.Deep.add_add, hat j hj, hv]
    by_cases hz : 0 < len
    · obtain ⟨vs, y, n0, hvl, hv, _⟩ := key 0 hz
      have hv0 := hv 0 (vs[0]'(by omega)) (List.getElem?_eq_getElem (by omega))
      have e : (⟨b, o, spot⟩ : Addr).add (0 * z + 0) = ⟨b, o, spot⟩ := by simp [Addr.add]
      rw [e] at hv0
      have hs : spot = none := World.cell?_spot hv0
      subst hs
      refine ⟨some ⟨b, o, none⟩, len, cap, b, o, hcs, fun _ => ⟨rfl, World.block_lt_of_cell? w _ hv0⟩, fun i hil => ?_⟩
      obtain ⟨vs, y, n1, hvl, hv, ht1⟩ := key i hil
      refine ⟨vs, y, n1, hvl, fun j v hj => ?_, ht1⟩
      have e : (⟨b, o, none⟩ : Addr).add (i * z + j) = ⟨b, o + i * z + j, none⟩ := by
        unfold Addr.add
        split
        · simp
        · simp; omega
      rw [← e]; exact hv j v hj
    · exact ⟨some ⟨b, o, spot⟩, len, cap, b, o, hcs, fun h => absurd h hz, fun i hil => absurd (Nat.lt_of_le_of_lt (Nat.zero_le _) hil) hz⟩
end
end Go.Proofs.YtagelhbknbpfhaaDoor

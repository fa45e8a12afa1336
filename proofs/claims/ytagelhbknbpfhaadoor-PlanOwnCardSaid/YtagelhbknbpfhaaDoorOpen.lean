/-
  An argument that is a slice of structs of one-cell fields, opened to cells.
-/
import Derived.Test.YtagelhbknbpfhaaDoorRow
import Derived.Deep.Slices
import Derived.Deep.Fields
import Derived.ChangeSame
namespace Go.Proofs.YtagelhbknbpfhaaDoor
open Go.ChangeShapes Go.WideShapes Go.ChangeAt Go.RowKit Go.Deep
section
variable {H : Type} {enc : TypeId × Value → H} {P : Program} {w : World} {base : Nat} {spare : Nat → Bool} {held : Bool}
theorem open_rows {t e : TypeId} {fs : Array Field} {fuel : Nat} {cs : List Value} {x : DataW H × List MemPlace} (ht : P.underlying t = some (.slice e)) (he : P.underlying e = some (.struct fs))
    (hone : oneCellFields P fs = true) (hC : P.cellsOf e = fs.size) (h0 : 0 < fs.size) (h : DataW.trod enc P w base spare held fuel t cs = some x) :
    ∃ (a : Option Addr) (len cap b o : Nat), cs = [.slice a len cap] ∧ (0 < len → a = some ⟨b, o, none⟩ ∧ b < w.heap.size) ∧
      ∀ i, i < len → ∀ (j : Nat) (f : Field), fs[j]? = some f → ∃ (v : Value) (y : DataW H × List MemPlace) (n : Nat), w.cell? ⟨b, o + i * fs.size + j, none⟩ = some v ∧ DataW.trod enc P w base spare held n f.type [v] = some y := by
  rcases open_slice ht h with h1 | ⟨a, len, cap, m, n, D, Pl, hcs, hb, hl, hm, hmm, hx, hi⟩
  · exact ⟨none, 0, 0, 0, 0, h1.1, fun h => absurd h (Nat.lt_irrefl _), fun i hi => absurd hi (Nat.not_lt_zero _)⟩
  · obtain ⟨b, o, spot⟩ := a
    have key : ∀ i, i < len → ∀ (j : Nat) (f : Field), fs[j]? = some f → ∃ (v : Value) (y : DataW H × List MemPlace) (n : Nat), w.cell? ((⟨b, o, spot⟩ : Addr).add (i * fs.size + j)) = some v ∧ DataW.trod enc P w base spare held n f.type [v] = some y := by
      intro i hil j f hj
      have him : i < m := by rw [hmm]; split <;> omega
      obtain ⟨cs', hc, ht'⟩ := hi i him
      rw [hC] at hc
      obtain ⟨ys, n', hn', hy, hlen, hyl, hf⟩ := DataW.trod_struct he ht'
      obtain ⟨_, hcl, hat⟩ := World.cells?_some hc
      obtain ⟨ho, hk⟩ := hone_of hone j f hj
      have hjl : j < fs.size := (Array.getElem?_eq_some_iff.1 hj).1
      have hcell := hat j hjl
      have hv : cs'[j]? = some (cs'[j]'(by omega)) := List.getElem?_eq_getElem (by omega)
      have h1 := hf j f hj
      rw [ho, hk] at h1
      have hone' : (cs'.drop j).take 1 = [cs'[j]'(by omega)] := by
        rw [List.drop_eq_getElem_cons (by omega)]
        rfl
      rw [hone'] at h1
      have hys : ys[j]? = some (ys[j]'(by omega)) := List.getElem?_eq_getElem (by omega)
      refine ⟨_, _, _, ?_, h1.trans hys⟩
      rw [← Go.Deep.add_add, hcell, hv]
    by_cases hz : 0 < len
    · obtain ⟨f0, hf0⟩ : ∃ f, fs[0]? = some f := ⟨fs[0], by simp [h0]⟩
      obtain ⟨v, y, n0, hv, _⟩ := key 0 hz 0 f0 hf0
      have e : (⟨b, o, spot⟩ : Addr).add (0 * fs.size + 0) = ⟨b, o, spot⟩ := by simp [Addr.add]
      rw [e] at hv
      have hs : spot = none := by
        cases spot with
        | none => rfl
        | some s =>
          unfold World.cell? at hv
          split at hv <;> simp at hv
      subst hs
      refine ⟨some ⟨b, o, none⟩, len, cap, b, o, hcs, fun _ => ⟨rfl, World.block_lt_of_cell? w _ hv⟩, fun i hil j f hj => ?_⟩
      obtain ⟨v, y, n1, hv, ht1⟩ := key i hil j f hj
      refine ⟨v, y, n1, ?_, ht1⟩
      have e : (⟨b, o, none⟩ : Addr).add (i * fs.size + j) = ⟨b, o + i * fs.size + j, none⟩ := by
        unfold Addr.add
        split
        · simp
        · simp; omega
      rw [← e]; exact hv
    · exact ⟨some ⟨b, o, spot⟩, len, cap, b, o, hcs, fun h => absurd h hz, fun i hil => absurd (Nat.lt_of_le_of_lt (Nat.zero_le _) hil) hz⟩
end
end Go.Proofs.YtagelhbknbpfhaaDoor

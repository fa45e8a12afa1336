/-
  A struct of structs read as data, leaf by leaf.
-/
import Derived.Test.YtagelhbknbpfhaaDoorOpen2
namespace Go.Proofs.YtagelhbknbpfhaaDoor
open Go.ChangeShapes Go.WideShapes Go.ChangeAt Go.RowKit Go.Deep
/-- The type of the cell number j of a value of type t, structs gone into. -/
def leafAt (P : Program) : Nat → TypeId → Nat → Option TypeId
  | 0, _, _ => none
  | k + 1, t, j => match P.underlying t with
    | some (.struct fs) => match fs.toList.find? fun f => decide (f.offset ≤ j) && decide (j < f.offset + P.cellsOf f.type) && decide (f.offset + P.cellsOf f.type ≤ P.cellsOf t) with
      | some f => leafAt P k f.type (j - f.offset)
      | none => none
    | _ => if j = 0 ∧ P.cellsOf t = 1 then some t else none
section
variable {H : Type} {enc : TypeId × Value → H} {P : Program} {w : World} {base : Nat} {spare : Nat → Bool} {held : Bool}
theorem leaf_of : ∀ (k : Nat) (t : TypeId) (j : Nat) (tj : TypeId) (fuel : Nat) (cs : List Value) (x : DataW H × List MemPlace), leafAt P k t j = some tj → cs.length = P.cellsOf t → DataW.trod enc P w base spare held fuel t cs = some x →
    ∃ (v : Value) (y : DataW H × List MemPlace) (n : Nat), cs[j]? = some v ∧ DataW.trod enc P w base spare held n tj [v] = some y
  | 0, _, _, _, _, _, _, h, _, _ => by cases h
  | k + 1, t, j, tj, fuel, cs, x, h, hl, hx => by
    unfold leafAt at h
    split at h
    · rename_i fs hfs
      split at h
      · rename_i f hf
        have hc := List.find?_some hf
        simp only [Bool.and_eq_true, decide_eq_true_eq] at hc
        obtain ⟨⟨h1, h2⟩, h3⟩ := hc
        obtain ⟨i, hi, hif⟩ := List.getElem_of_mem (List.mem_of_find?_eq_some hf)
        obtain ⟨ys, n, _, _, _, hyl, hF⟩ := DataW.trod_struct hfs hx
        have hfi : fs[i]? = some f := by rw [← Array.getElem?_toList, List.getElem?_eq_getElem hi, hif]
        have h4 := hF i f hfi
        have hys : ys[i]? = some (ys[i]'(by rw [hyl]; simpa using hi)) := List.getElem?_eq_getElem _
        rw [hys] at h4
        obtain ⟨v, y, m, hv, hy⟩ := leaf_of k f.type (j - f.offset) tj n _ _ h (by simp; omega) h4
        refine ⟨v, y, m, ?_, hy⟩
        rw [List.getElem?_take_of_lt (by omega), List.getElem?_drop, show f.offset + (j - f.offset) = j by omega] at hv
        exact hv
      · cases h
    · split at h
      · rename_i hj
        obtain ⟨rfl, hc⟩ := hj
        obtain rfl := Option.some.inj h
        rw [hc] at hl
        match cs, hl with
        | [v], _ => exact ⟨v, x, fuel, rfl, hx⟩
      · cases h
/-- A slice whose elements are structs: its cells, leaf by leaf. -/
theorem open_leaves {t e : TypeId} {fuel z : Nat} {cs : List Value} {x : DataW H × List MemPlace} (ht : P.underlying t = some (.slice e)) (hC : P.cellsOf e = z) (h0 : 0 < z) (h : DataW.trod enc P w base spare held fuel t cs = some x) :
    ∃ (a : Option Addr) (len cap b o : Nat), cs = [.slice a len cap] ∧ (0 < len → a = some ⟨b, o, none⟩ ∧ b < w.heap.size) ∧
      ∀ i, i < len → ∀ (k j : Nat) (tj : TypeId), leafAt P k e j = some tj → ∃ (v : Value) (y : DataW H × List MemPlace) (n : Nat), w.cell? ⟨b, o + i * z + j, none⟩ = some v ∧ DataW.trod enc P w base spare held n tj [v] = some y := by
  obtain ⟨a, len, cap, b, o, hcs, ha, hcell⟩ := open_each ht hC h0 h
  refine ⟨a, len, cap, b, o, hcs, ha, fun i hi k j tj hj => ?_⟩
  obtain ⟨vs, y, n, hl, hv, hy⟩ := hcell i hi
  obtain ⟨v, y', m, hv', hy'⟩ := leaf_of k e j tj n vs y hj (by rw [hl, hC]) hy
  exact ⟨v, y', m, hv j v hv', hy'⟩
end
section
variable {H : Type} {enc : TypeId × Value → H} {P : Program} {w : World} {base : Nat} {spare : Nat → Bool} {held : Bool}
/-- An argument that is a struct: its cells, leaf by leaf. -/
theorem open_struct {r : Reach} {b0 z : Nat} {t : TypeId} {fs : Array Field} {v : Value} {d : DataW H} {p : List MemPlace} (hs : P.underlying t = some (.struct fs)) (hC : P.cellsOf t = z) (hv : Value.okWide P w r b0 t v) (h : DataW.Trod enc P w base spare held t v d p) :
    ∃ cs : Array Value, v = .agg cs ∧ cs.size = z ∧ ∀ (k j : Nat) (tj : TypeId), leafAt P k t j = some tj → ∃ (u : Value) (y : DataW H × List MemPlace) (n : Nat), cs[j]? = some u ∧ DataW.trod enc P w base spare held n tj [u] = some y := by
  obtain ⟨cs, rfl, hsz⟩ := okWide_struct hs hv
  obtain ⟨fuel, hf⟩ := h
  refine ⟨cs, rfl, hsz.trans hC, fun k j tj hj => ?_⟩
  obtain ⟨u, y, n, hu, hy⟩ := leaf_of k t j tj fuel cs.toList _ hj (by simpa using hsz) hf
  exact ⟨u, y, n, by simpa using hu, hy⟩
end
theorem u64_lit {z : Int} (h : (Lit.int .u64 z).wf = true) : 0 ≤ z ∧ z < 18446744073709551616 := by simp [Lit.wf, IntKind.min, IntKind.max, IntKind.signed, IntKind.bits] at h; omega
end Go.Proofs.YtagelhbknbpfhaaDoor

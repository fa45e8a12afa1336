/-
  The argument []consortlaw11.Act, opened.
-/
import Derived.Test.YtjokfjdbioeohaaDoorOpen
import Derived.Test.YtjokfjdbioeohaaDoorLinkActs
namespace Go.Proofs.YtjokfjdbioeohaaDoor
open Go.ChangeShapes Go.WideShapes Go.ChangeAt Go.RowKit Go.Deep
theorem fields_act : ∃ fs, Tryd.prog.underlying 35 = some (.struct fs) ∧ oneCellFields Tryd.prog fs = true ∧ fs.size = 3 ∧ (fs[0]?).map (·.type) = some 3 ∧ (fs[1]?).map (·.type) = some 3 ∧ (fs[2]?).map (·.type) = some 29 :=
  ⟨_, Tryd.underlying35, by kernel_rfl, rfl, rfl, rfl, rfl⟩
theorem cells_act : Tryd.prog.cellsOf 35 = 3 := by kernel_rfl
theorem open_acts {H : Type} {enc : TypeId × Value → H} {w : World} {base : Nat} {spare : Nat → Bool} {held : Bool} {v : Value} {d : DataW H} {ps : List MemPlace}
    (hok : ∃ a len cap, v = .slice a len cap) (h : DataW.Trod enc Tryd.prog w base spare held 23 v d ps) : ∃ (l : List LAct) (a : Option Addr) (c b o : Nat), ActsAt w v l a c b o := by
  obtain ⟨a0, l0, c0, rfl⟩ := hok
  obtain ⟨fuel, hf⟩ := h
  obtain ⟨fs, hfs, hone, hsz, hf0, hf1, hf2⟩ := fields_act
  obtain ⟨a, len, cap, b, o, hcs, ha, hcell⟩ := open_rows Tryd.underlying23 hfs hone (by rw [cells_act, hsz]) (by omega) hf
  have hcs' : [Value.slice a0 l0 c0] = [.slice a len cap] := hcs
  simp only [List.cons.injEq, Value.slice.injEq, and_true] at hcs'
  obtain ⟨rfl, rfl, rfl⟩ := hcs'
  rw [hsz] at hcell
  have hex : ∀ i, ∃ x : LAct, i < l0 → w.cell? ⟨b, o + i * 3, none⟩ = some (.int .i64 x.p) ∧ w.cell? ⟨b, o + i * 3 + 1, none⟩ = some (.int .i64 x.n) ∧ w.cell? ⟨b, o + i * 3 + 2, none⟩ = some (.int .u32 x.s) ∧ x.Ok := by
    intro i
    by_cases hi : i < l0
    · obtain ⟨f0, hF0⟩ : ∃ f, fs[0]? = some f := ⟨fs[0], by simp [hsz]⟩
      obtain ⟨f1, hF1⟩ : ∃ f, fs[1]? = some f := ⟨fs[1], by simp [hsz]⟩
      obtain ⟨f2, hF2⟩ : ∃ f, fs[2]? = some f := ⟨fs[2], by simp [hsz]⟩
      have t0 : f0.type = 3 := by simpa [hF0] using hf0
      have t1 : f1.type = 3 := by simpa [hF1] using hf1
      have t2 : f2.type = 29 := by simpa [hF2] using hf2
      obtain ⟨v0, y0, n0, g0, r0⟩ := hcell i hi 0 f0 hF0
      obtain ⟨v1, y1, n1, g1, r1⟩ := hcell i hi 1 f1 hF1
      obtain ⟨v2, y2, n2, g2, r2⟩ := hcell i hi 2 f2 hF2
      rw [t0] at r0
      rw [t1] at r1
      rw [t2] at r2
      obtain ⟨z0, e0, _, w0⟩ := DataW.trod_int Tryd.underlying3 r0
      obtain ⟨z1, e1, _, w1⟩ := DataW.trod_int Tryd.underlying3 r1
      obtain ⟨z2, e2, _, w2⟩ := DataW.trod_int Tryd.underlying29 r2
      simp only [List.cons.injEq, and_true] at e0 e1 e2
      subst e0 e1 e2
      have hb1 := bounds_i64 w1
      have hb2 : 0 ≤ z2 := by simp [Lit.wf, IntKind.min, IntKind.max, IntKind.signed, IntKind.bits] at w2; omega
      exact ⟨⟨z0, z1, z2.toNat⟩, fun _ => ⟨g0, g1, by rw [g2]; simp only [Int.toNat_of_nonneg hb2], ⟨hb1.2⟩⟩⟩
    · exact ⟨⟨0, 0, 0⟩, fun h => absurd h hi⟩
  obtain ⟨f, hf⟩ := Classical.axiomOfChoice hex
  have hl : ((List.range l0).map f).length = l0 := by simp
  refine ⟨(List.range l0).map f, a0, c0, b, o, by rw [hl], fun h => ha (by rw [hl] at h; exact h), ?_, ?_, ?_, ?_⟩
  · intro i hi
    rw [(hf i (by rw [hl] at hi; exact hi)).1]; simp
  · intro i hi
    rw [(hf i (by rw [hl] at hi; exact hi)).2.1]; simp
  · intro i hi
    rw [(hf i (by rw [hl] at hi; exact hi)).2.2.1]; simp
  · intro x hx
    simp only [List.mem_map, List.mem_range] at hx
    obtain ⟨i, hi, rfl⟩ := hx
    exact (hf i hi).2.2.2
end Go.Proofs.YtjokfjdbioeohaaDoor

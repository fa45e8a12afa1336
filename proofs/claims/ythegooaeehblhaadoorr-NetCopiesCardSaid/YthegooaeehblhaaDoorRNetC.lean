/-
  Package net: Copy, and slices.Clone.
-/
import Derived.Test.YthegooaeehblhaaDoorRNetActs
import Derived.Lib.AppendZeros
namespace Go.Proofs.YthegooaeehblhaaDoorR
open Go.RowKit Go.BigFrame
set_option maxHeartbeats 1000000
set_option maxRecDepth 100000
def ClonePost (l : List Dg) (w : World) (e : Ending) (w' : World) : Prop := ∃ v, e = .returned v ∧ w'.ownsRow w.heap.size 35 4 v l.length (rowOf Dg.vals l) ∧ Below w.heap.size w w'
theorem clone_nil (w : World) : Calls Tryd.prog 32 #[.slice none 0 0] w (ClonePost [] w) := by
  have he : (binOp .eql 48 (.slice none 0 0) (.slice none 0 0)).run Tryd.prog w = .ok (.bool true) w := by kernel_rfl
  go_enter Tryd.func32, Tryd.ntmps32
  go_wp2
  go_ret
  exact ⟨_, rfl, World.ownsRow_nil _ _ _ _, Below.refl _ _⟩
theorem run_build0 (w : World) : (Instr.buildSlice 48 0 #[]).run Tryd.prog w = .ok (.slice (some ⟨w.heap.size, 0, none⟩) 0 0) (w.alloc (.cells #[] 35)) := by kernel_rfl
theorem clone_any (w : World) (l : List Dg) (b c : Nat) (hr : w.rangeAt b 0 (rowOf Dg.vals l)) (hb : 0 < l.length → b < w.heap.size) (hl : l.length ≤ 4096) :
    Calls Tryd.prog 32 #[.slice (some ⟨b, 0, none⟩) l.length c] w (ClonePost l w) := by
  obtain ⟨i0, hi, hz0, hz1, hz2⟩ := info_parts info_dg
  obtain ⟨X, hX⟩ : ∃ X, w.heap.size = X := ⟨_, rfl⟩
  obtain ⟨W, hW⟩ : ∃ W : World, w.alloc (.cells #[] 35) = W := ⟨_, rfl⟩
  have hBW : Below w.heap.size w W := by rw [← hW]; exact (Below.refl _ _).alloc (Nat.le_refl _) _
  have own0 : W.ownsRow w.heap.size 35 4 (.slice (some ⟨X, 0, none⟩) 0 0) 0 [] := by
    rw [← hW, ← hX]
    exact World.ownsRow_made w #[] 0 (Nat.le_refl _) (by simp [maxLen]) (by simp)
  have hlen := rowOf_length (f := Dg.vals) Dg.len l
  obtain ⟨v', W2, hrun, hown, hg, hat⟩ := run_append_src W w.heap.size 48 48 35 i0 _ 4 40 Tryd.underlying48 hi hz0 hz1 hz2 rfl (by decide) _ 0 [] own0
    (some ⟨b, 0, none⟩) l.length c (rowOf Dg.vals l) hlen (fun h0 => ⟨_, rfl, fun j u hj => by
      have e : (⟨b, 0, none⟩ : Addr).add j = ⟨b, 0 + j, none⟩ := by simp [Addr.add]; exact fun h => h.symm
      rw [e, hBW.cell (p := ⟨b, 0 + j, none⟩) (hb h0)]
      exact hr j u hj⟩)
    (by
      intro u hu
      unfold rowOf at hu
      simp only [List.mem_flatMap] at hu
      obtain ⟨x, _, hx⟩ := hu
      exact x.oneL u hx) (by unfold maxLen; omega) (by omega) hBW.size
  have HB2 := Lib.hid (show Below w.heap.size w W2 from by
    refine ⟨hg.os.trans hBW.os, hg.tape.trans hBW.tape, hg.output.trans hBW.output, Nat.le_trans hBW.size hg.size, fun q hq => ?_⟩
    rw [hg.block q (Nat.lt_of_lt_of_le hq hBW.size) (by intro e; have e2 : q = X := Option.some.inj e; omega)]
    exact hBW.block q hq)
  rw [← hW] at hrun
  have HR := Lib.hid hrun
  have HO := Lib.hid hown
  have he : (binOp .eql 48 (.slice (some ⟨b, 0, none⟩) l.length c) (.slice none 0 0)).run Tryd.prog w = .ok (.bool false) w := by kernel_rfl
  clear hown hrun hg hat own0 hBW hW hr hb hl hlen
  go_enter Tryd.func32, Tryd.ntmps32
  go_upto_region 3 with fail
  go_wp2_with (guard_target = wpList _ _ _ (Oper.mk _ (Op.call _) _ _ _ none :: _) _ _; refine Lib.wpList_append_run _ rfl _ _ _ _ rfl _ _ rfl rfl _ _ HR.out ?_; simp only [Act.put, List.setIfInBounds_toArray, List.set_cons_zero, List.set_cons_succ])
  go_ret
  exact ⟨_, rfl, by simpa using HO.out, HB2.out⟩
end Go.Proofs.YthegooaeehblhaaDoorR

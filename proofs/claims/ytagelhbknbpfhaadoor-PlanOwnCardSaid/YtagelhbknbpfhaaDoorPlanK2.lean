/-
  Package key: Compare, greatest, Last; plan's Boundary.
-/
import Derived.Test.YtagelhbknbpfhaaDoorPlanK
namespace Go.Proofs.YtagelhbknbpfhaaDoor
open Go.RowKit Go.BigFrame
set_option maxHeartbeats 1000000
set_option maxRecDepth 100000
def Ky.vals (x : Ky) : List Value := [.int .u64 x.st, .int .i64 x.fr]
theorem Ky.len (x : Ky) : x.vals.length = 2 := rfl
theorem Ky.oneL (x : Ky) : ∀ v ∈ x.vals, v.oneCell' = true := by simp [Ky.vals, Value.oneCell']
theorem Ky.oneA (x : Ky) : ∀ v ∈ x.vals.toArray.toList, v.oneCell' = true := by simpa using x.oneL
theorem size_ky : (Tryd.prog.info? 41).map (·.size) = some 2 := by kernel_rfl
theorem info_ky : (Tryd.prog.info? 41).map (fun i => (i.zero, i.size, i.bytes)) = some (some (.agg Ky.zero.vals.toArray), 2, 16) := by kernel_rfl
theorem zero_ky (w : World) : (zeroValue 41).run Tryd.prog w = .ok (.agg Ky.zero.vals.toArray) w := by kernel_rfl
theorem run_build2 (a b : Int) (w : World) : (Instr.buildSlice 85 2 #[(0, .int .i64 a), (1, .int .i64 b)]).run Tryd.prog w = .ok (.slice (some ⟨w.heap.size, 0, none⟩) 2 2) (w.alloc (.cells #[.int .i64 a, .int .i64 b] 3)) := by kernel_rfl
theorem compare_any (x y : Ky) (w : World) :
    Calls Tryd.prog 30 #[.agg x.vals.toArray, .agg y.vals.toArray] w fun e w' => e = .returned (.int .i64 (x.cmp y)) ∧ Below w.heap.size w w' := by
  obtain ⟨n, hn⟩ : ∃ n, w.heap.size = n := ⟨_, rfl⟩
  obtain ⟨W, hW⟩ : ∃ W : World, (w.alloc (.cells x.vals.toArray 41)).alloc (.cells y.vals.toArray 41) = W := ⟨_, rfl⟩
  have B0 := Lib.hid (show W.heap[n]? = some (.cells x.vals.toArray 41 (0, 0)) by
    rw [← hW, heap_alloc_old _ _ (by simp; omega), ← hn]; exact heap_alloc_new _ _)
  have B1 := Lib.hid (show W.heap[n + 1]? = some (.cells y.vals.toArray 41 (0, 0)) by
    rw [← hW, ← hn]
    have := heap_alloc_new (w.alloc (.cells x.vals.toArray 41)) (.cells y.vals.toArray 41)
    simpa using this)
  have BW := Lib.hid (show Below w.heap.size w W by rw [← hW]; exact ((Below.refl _ _).alloc (Nat.le_refl _) _).alloc (by simp) _)
  have HW := Lib.hid hW
  clear hW
  go_enter Tryd.func30, Tryd.ntmps30
  go_upto_region 1 with fail
  rw [HW.out]
  obtain ⟨C, hC⟩ : ∃ C : (Nat → Bool) → World → Prop, C = OneC { W with drawn := W.drawn + 1 } (.cells #[.int .i64 (cmpI x.st y.st), .int .i64 (cmpI x.fr y.fr)] 3) 10 := ⟨_, rfl⟩
  have hC0 : C (fun _ => false) { W with drawn := W.drawn + 1 } := by rw [hC]; exact OneC.first _ _ _
  have hm : ∀ i, i ≠ 10 → ∀ L w, C L w → L i = false → C (addL L i) w := by rw [hC]; exact OneC.more
  have hbel : ∀ L w', C L w' → Below W.heap.size W w' := by rw [hC]; intro L w' h; exact ⟨h.bel.os, h.bel.tape, h.bel.output, h.bel.size, h.bel.block⟩
  have l0 := Lib.hid (show ∀ L w', C L w' → w'.cell? ⟨n, 0, none⟩ = some (.int .u64 x.st) from fun L w' h => by rw [cell_of_row w' n 0 _ _ _ (bblock (hbel L w' h) B0.out)]; rfl)
  have l1 := Lib.hid (show ∀ L w', C L w' → w'.cell? ⟨n + 1, 0, none⟩ = some (.int .u64 y.st) from fun L w' h => by rw [cell_of_row w' (n + 1) 0 _ _ _ (bblock (hbel L w' h) B1.out)]; rfl)
  have l2 := Lib.hid (show ∀ L w', C L w' → w'.cell? ⟨n, 1, none⟩ = some (.int .i64 x.fr) from fun L w' h => by rw [cell_of_row w' n 1 _ _ _ (bblock (hbel L w' h) B0.out)]; rfl)
  have l3 := Lib.hid (show ∀ L w', C L w' → w'.cell? ⟨n + 1, 1, none⟩ = some (.int .i64 y.fr) from fun L w' h => by rw [cell_of_row w' (n + 1) 1 _ _ _ (bblock (hbel L w' h) B1.out)]; rfl)
  have k4 := Lib.hid (show ∀ (L : Nat → Bool) w', C L w' → L 4 = false → Calls Tryd.prog 45 #[.int .u64 x.st, .int .u64 y.st] w' fun e w'' => e = .returned (.int .i64 (cmpI x.st y.st)) ∧ C (addL L 4) w'' from
    fun L w' h hL => (cmpU_any _ _ _).mono fun e w'' ⟨he, hw⟩ => ⟨he, hw ▸ hm 4 (by decide) L w' h hL⟩)
  have k9 := Lib.hid (show ∀ (L : Nat → Bool) w', C L w' → L 9 = false → Calls Tryd.prog 46 #[.int .i64 x.fr, .int .i64 y.fr] w' fun e w'' => e = .returned (.int .i64 (cmpI x.fr y.fr)) ∧ C (addL L 9) w'' from
    fun L w' h hL => (cmpI_any _ _ _).mono fun e w'' ⟨he, hw⟩ => ⟨he, hw ▸ hm 9 (by decide) L w' h hL⟩)
  have k10 := Lib.hid (show ∀ (L : Nat → Bool) w', C L w' → L 10 = false → ∃ w'', (Instr.buildSlice 85 2 #[(0, .int .i64 (cmpI x.st y.st)), (1, .int .i64 (cmpI x.fr y.fr))]).run Tryd.prog w' = .ok (.slice (some ⟨W.heap.size, 0, none⟩) 2 2) w'' ∧ C (addL L 10) w'' by
    rw [hC]; intro L w' h hL
    obtain ⟨rfl, h2⟩ := h.make hL
    exact ⟨_, run_build2 _ _ _, h2⟩)
  have k11 := Lib.hid (show ∀ (L : Nat → Bool) w', C L w' → L 11 = false → L 10 = true → Calls Tryd.prog 44 #[.slice (some ⟨W.heap.size, 0, none⟩) 2 2] w' fun e w'' => e = .returned (.int .i64 (x.cmp y)) ∧ C (addL L 11) w'' by
    intro L w' h hL h10
    have hx : w'.heap[W.heap.size]? = some (.cells #[.int .i64 (cmpI x.st y.st), .int .i64 (cmpI x.fr y.fr)] 3 (0, 0)) := by
      have h' := h
      rw [hC] at h'
      rw [h'.done h10]; exact heap_alloc_new _ _
    exact (or_any _ _ _ _ _ (by rw [cell_of_row _ _ 0 _ _ _ hx]; rfl) (by rw [cell_of_row _ _ 1 _ _ _ hx]; rfl)).mono fun e w'' ⟨he, hw⟩ => ⟨he, hw ▸ hm 11 (by decide) L w' h hL⟩)
  have HBEL := Lib.hid hbel
  clear hC hbel
  refine wp_region_vals (C := C) (by kernel_rfl) (by kernel_rfl) hC0 ?_
  dsimp only []
  repeat (first | (refine wpVals_skip (by rfl) (hm _ (by decide)) ?_; (simp only [Act.put, List.setIfInBounds_toArray, List.set_cons_zero, List.set_cons_succ])) | (refine wpVals_move _ (by rfl) (by rfl) (hm _ (by decide)) ?_; (simp only [Act.put, Act.eval, List.getD_toArray, List.getD_cons_zero, List.getD_cons_succ, List.setIfInBounds_toArray, List.set_cons_zero, List.set_cons_succ])) | (refine wpVals_assign _ (by rfl) (by rfl) (hm _ (by decide)) ?_; (simp only [Act.put, Act.eval, List.getD_toArray, List.getD_cons_zero, List.getD_cons_succ, List.setIfInBounds_toArray, List.set_cons_zero, List.set_cons_succ])) | (refine wpVals_load _ _ (by rfl) (by rfl) (hm _ (by decide)) ?_ _ (by rfl) (by first | exact l0.out | exact l1.out | exact l2.out | exact l3.out) ?_; (· intro w; simp); (simp only [Act.put, List.setIfInBounds_toArray, List.set_cons_zero, List.set_cons_succ])) | (refine wpVals_call 45 _ _ (by rfl) (by rfl) Tryd.call45 _ (by rfl) (fun L w' hC hL _ => k4.out L w' hC hL) ?_; (simp only [Act.put, List.setIfInBounds_toArray, List.set_cons_zero, List.set_cons_succ])) | (refine wpVals_call 46 _ _ (by rfl) (by rfl) Tryd.call46 _ (by rfl) (fun L w' hC hL _ => k9.out L w' hC hL) ?_; (simp only [Act.put, List.setIfInBounds_toArray, List.set_cons_zero, List.set_cons_succ])) | (refine wpVals_build 85 _ _ (by rfl) (by rfl) #[(0, .int .i64 (cmpI x.st y.st)), (1, .int .i64 (cmpI x.fr y.fr))] (by kernel_rfl) (fun L w' hC hL _ => k10.out L w' hC hL) ?_; (simp only [Act.put, List.setIfInBounds_toArray, List.set_cons_zero, List.set_cons_succ])) | (refine wpVals_call 44 _ _ (by rfl) (by rfl) Tryd.call44 _ (by rfl) (fun L w' hC hL hwt => k11.out L w' hC hL (hwt 10 (by kernel_rfl))) ?_; (simp only [Act.put, List.setIfInBounds_toArray, List.set_cons_zero, List.set_cons_succ])) | (refine wpVals_free (v := ?_) (by rfl) (hm _ (by decide)) (fun _ => ?_) ?_; rotate_left; (first | (go_simp; done) | (go_simp; rfl)); (simp only [Act.put, List.setIfInBounds_toArray, List.set_cons_zero, List.set_cons_succ])))
  refine wpVals_nil ?_
  intro w5 hC5
  have H5 := Lib.hid (bthen' BW.out (HBEL.out _ _ hC5))
  clear hC5 hC0 hm l0 l1 l2 l3 k4 k9 k10 k11
  go_wp2
  go_ret
  exact ⟨rfl, H5.out⟩
end Go.Proofs.YtagelhbknbpfhaaDoor

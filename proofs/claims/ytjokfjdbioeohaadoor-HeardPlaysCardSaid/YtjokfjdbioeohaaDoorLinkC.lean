/-
  Package link: a copy of a window, and a new one.
-/
import Derived.Test.YtjokfjdbioeohaaDoorLinkW
namespace Go.Proofs.YtjokfjdbioeohaaDoor
open Go.RowKit Go.BigFrame
set_option maxHeartbeats 400000
set_option maxRecDepth 100000
theorem WinCells.one {cs : Array Value} {m : Win} (h : WinCells cs m) : ∀ v ∈ cs.toList, v.oneCell' = true := by
  intro v hv
  obtain ⟨i, hi, rfl⟩ := List.getElem_of_mem hv
  have hn := h.n
  have hi' : i < cs.size := by simpa using hi
  have e : cs[i]? = some (cs.toList[i]) := by rw [← Array.getElem?_toList]; simp
  by_cases h0 : i = 0
  · subst h0; rw [h.me] at e; rw [← Option.some.inj e]; rfl
  by_cases h1 : i = 1
  · subst h1; rw [h.size] at e; rw [← Option.some.inj e]; rfl
  by_cases h2 : i = 2
  · subst h2; rw [h.others] at e; rw [← Option.some.inj e]; rfl
  by_cases h3 : i = 3
  · subst h3; rw [h.sent] at e; rw [← Option.some.inj e]; rfl
  obtain ⟨j, rfl⟩ : ∃ j, i = 4 + j := ⟨i - 4, by omega⟩
  rw [h.got j (by omega)] at e; rw [← Option.some.inj e]; rfl
def winZero : Array Value := (([.int .i64 0, .int .i64 0, .int .u64 0, .int .u32 0] : List Value) ++ List.replicate 64 (Value.int .u32 0)).toArray
theorem winZero_size : winZero.size = 68 := by simp [winZero]
theorem zero_win (w : World) : (zeroValue 91).run Tryd.prog w = .ok (.agg winZero) w := by kernel_rfl
theorem size_win : (Tryd.prog.info? 91).map (·.size) = some 68 := by kernel_rfl
theorem copy_any (g : Nat) (m : Win) (w : World) (hw : WinAt w g m) :
    Calls Tryd.prog 30 #[.pointer (some ⟨g, 0, none⟩)] w fun e w' =>
      e = .returned (.pointer (some ⟨w.heap.size, 0, none⟩)) ∧ WinAt w' w.heap.size m ∧ Below w.heap.size w w' := by
  obtain ⟨cs, hh, hc⟩ := hw
  have hz := zero_win
  have hi : (Tryd.prog.info? 91).map (·.size) = some cs.size := by rw [hc.n]; exact size_win
  have HI := Lib.hid hi
  have HH := Lib.hid hh
  clear hi hh
  go_enter Tryd.func30, Tryd.ntmps30
  go_wp2_with (first | (refine wpList_load_row rfl 91 _ rfl g (by rfl) 91 cs (0, 0) _ HH.out Tryd.underlying91 rfl HI.out ?_; simp only [Act.put, List.setIfInBounds_toArray, List.set_cons_zero, List.set_cons_succ]) | (refine wpList_store_row rfl 91 _ _ rfl w.heap.size (by rfl) cs (by rfl) winZero 91 (heap_alloc_new _ _) (by rw [winZero_size, hc.n]) HI.out hc.one ?_; intro w1 hw1 hg1))
  go_ret
  exact ⟨rfl, ⟨cs, hw1, hc⟩, ((Below.refl _ _).alloc (Nat.le_refl _) _).grown hg1 (by simp) (fun k hk => by cases hk; exact Nat.le_refl _)⟩
/-- A new window. -/
def newW (me : Int) (members : Nat) (size : Int) : Win := { me := me, size := max 1 (min size 64), others := butN members (bitN me), sent := 0, got := fun _ => 0 }
theorem newW_wf {me : Int} {members : Nat} {size : Int} (h : members < 18446744073709551616) : (newW me members size).Wf :=
  ⟨butN_lt h _, by simp [newW], fun i _ => by simp [newW], by simp [newW]; omega, by simp [newW]; omega⟩
theorem winZero_at {i : Nat} (h : i < 64) : winZero[4 + i]? = some (.int .u32 0) := by
  unfold winZero
  rw [List.getElem?_toArray, List.getElem?_append_right (by simp)]
  show (List.replicate 64 (Value.int .u32 0))[4 + i - 4]? = _
  rw [Nat.add_sub_cancel_left, List.getElem?_replicate, if_pos h]
theorem new_cells (me : Int) (members : Nat) (size sz : Int) (hs : sz = max 1 (min size 64)) :
    WinCells (((winZero.setIfInBounds 0 (.int .i64 me)).setIfInBounds 1 (.int .i64 sz)).setIfInBounds 2 (.int .u64 (butN members (bitN me)))) (newW me members size) := by
  have hz := winZero_size
  subst hs
  refine ⟨by simp [hz], ?_, ?_, ?_, ?_, fun i hi => ?_⟩
  · simp [hz, newW]
  · simp [hz, newW]
  · simp [hz, newW]
  · rw [Array.getElem?_setIfInBounds_ne (by omega), Array.getElem?_setIfInBounds_ne (by omega), Array.getElem?_setIfInBounds_ne (by omega)]; rfl
  · rw [Array.getElem?_setIfInBounds_ne (by omega), Array.getElem?_setIfInBounds_ne (by omega), Array.getElem?_setIfInBounds_ne (by omega), winZero_at hi]; rfl
theorem new_any (me : Int) (members : Nat) (size : Int) (hm : members < 18446744073709551616) (w : World) :
    Calls Tryd.prog 12 #[.int .i64 me, .int .u64 members, .int .i64 size] w fun e w' =>
      e = .returned (.pointer (some ⟨w.heap.size + 1, 0, none⟩)) ∧ WinAt w' (w.heap.size + 1) (newW me members size) ∧ Below w.heap.size w w' := by
  have hz := zero_win
  have hzs := winZero_size
  go_enter Tryd.func12, Tryd.ntmps12
  go_wp2_with (go_at_call 27; refine (less_one _ _ _ _ hm _ (cell_new _ _ _)).mono ?_; rintro e w' ⟨rfl, rfl⟩)
  all_goals go_ret
  all_goals exact ⟨rfl, ⟨_, heap_alloc2_new _ _ _, new_cells me members size _ (by omega)⟩, ((Below.refl _ _).alloc (Nat.le_refl _) _).alloc (by simp) _⟩
end Go.Proofs.YtjokfjdbioeohaaDoor

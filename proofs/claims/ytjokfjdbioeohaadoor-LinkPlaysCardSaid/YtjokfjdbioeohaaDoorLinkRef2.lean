/-
  consortref11: Got, Next and New.
-/
import Derived.Test.YtjokfjdbioeohaaDoorLinkRef
namespace Go.Proofs.YtjokfjdbioeohaaDoor
open Go.RowKit Go.BigFrame
set_option maxHeartbeats 400000
set_option maxRecDepth 100000
def refZero : Array Value := (([.int .i64 0, .int .i64 0] : List Value) ++ List.replicate 64 (Value.bool false) ++ [Value.int .u32 0] ++ List.replicate 64 (Value.int .u32 0)).toArray
theorem refZero_size : refZero.size = 131 := by simp [refZero]
theorem zero_ref (w : World) : (zeroValue 32).run Tryd.prog w = .ok (.agg refZero) w := by kernel_rfl
theorem RefCells.gets {cs : Array Value} {m : Win} (h : RefCells cs m) {q : Nat} (hq : q < 64) (n : Nat) {v : Nat} (hv : v = max (m.got q) (min n m.sent)) : RefCells (cs.setIfInBounds (67 + q) (.int .u32 v)) (m.gets q n) := by
  subst hv
  refine ⟨by simp [h.n], by rw [Array.getElem?_setIfInBounds_ne (by omega)]; exact h.me, by rw [Array.getElem?_setIfInBounds_ne (by omega)]; exact h.size, fun i hi => by rw [Array.getElem?_setIfInBounds_ne (by omega)]; exact h.others i hi,
    by rw [Array.getElem?_setIfInBounds_ne (by omega)]; exact h.sent, fun i hi => ?_⟩
  by_cases e : i = q
  · subst e
    have hn := h.n
    rw [Array.getElem?_setIfInBounds_self_of_lt (by omega)]
    simp [Win.gets]
  · rw [Array.getElem?_setIfInBounds_ne (by omega), h.got i hi]
    have : ¬ (i : Int) = (q : Int) := by omega
    simp [Win.gets, this]
theorem RefCells.gets_same {cs : Array Value} {m : Win} (h : RefCells cs m) {q : Nat} (n : Nat) (hv : m.got q = max (m.got q) (min n m.sent)) : RefCells cs (m.gets q n) := by
  refine ⟨h.n, h.me, h.size, h.others, h.sent, fun i hi => ?_⟩
  rw [h.got i hi]
  by_cases e : (i : Int) = q
  · have e' : i = q := by omega
    subst e'
    simp only [Win.gets, if_true]
    rw [← hv]
  · simp [Win.gets, e]
def RefPost (m : Win) (w : World) (e : Ending) (w' : World) : Prop := ∃ cs, e = .returned (.agg cs) ∧ RefCells cs m ∧ Below w.heap.size w w'
theorem rgot_any (cs : Array Value) (m : Win) (p : Int) (n : Nat) (_ : m.Wf) (hc : RefCells cs m) (w : World) :
    Calls Tryd.prog 19 #[.agg cs, .int .i64 p, .int .u32 n] w (RefPost (gotW m p n) w) := by
  have h66 := hc.sent
  have hz := zero_ref
  have hzs := refZero_size
  have hsz : Hid ((Tryd.prog.info? 32).map (·.size) = some cs.size) := Lib.hid (by rw [hc.n]; exact size_ref)
  have hsz2 : Hid (refZero.size = cs.size) := Lib.hid (by rw [refZero_size, hc.n])
  cases hh : hasN m.others p
  · have E := Lib.hid (show RefCells cs (gotW m p n) by unfold gotW; rw [hh]; exact hc)
    by_cases hr : 0 ≤ p ∧ p < 64
    · obtain ⟨q, rfl⟩ := Int.eq_ofNat_of_zero_le hr.1
      have hq : q < 64 := by omega
      have ho := hc.others q hq
      rw [hasN_nat] at hh
      rw [show m.others.testBit q = false by simpa [hq] using hh] at ho
      have hq' : (q : Int) < 64 := by omega
      have hq0 : 0 ≤ (q : Int) := by omega
      clear hh hc hr
      go_enter Tryd.func19, Tryd.ntmps19
      go_wp2_with (first | (refine wpList_load_row rfl 32 _ rfl w.heap.size (by rfl) 32 _ (0, 0) _ (heap_alloc2_old _ _ _) Tryd.underlying32 rfl hsz.out ?_; simp only [Act.put, List.setIfInBounds_toArray, List.set_cons_zero, List.set_cons_succ]) | (refine wpList_store_row rfl 32 _ _ rfl (w.heap.size + 1) (by rfl) _ (by rfl) refZero 32 (heap_alloc2_new _ _ _) hsz2.out hsz.out E.out.one ?_; intro w1 hw1 hg1))
      all_goals
        refine bodyPost_ret (results_cell_row rfl _ w1 (w.heap.size + 1) 32 _ (0, 0) _ (by rfl) hw1 Tryd.underlying32 rfl hsz.out) rfl ⟨_, rfl, E.out, ?_⟩
        exact (((Below.refl _ _).alloc (Nat.le_refl _) _).alloc (by simp) _).grown hg1 (by simp; omega) (fun k hk => by cases hk; omega)
    · by_cases h1 : 0 ≤ p
      · have h2 : 64 ≤ p := by omega
        clear hh hc hr
        go_enter Tryd.func19, Tryd.ntmps19
        go_wp2_with (first | (refine wpList_load_row rfl 32 _ rfl w.heap.size (by rfl) 32 _ (0, 0) _ (heap_alloc2_old _ _ _) Tryd.underlying32 rfl hsz.out ?_; simp only [Act.put, List.setIfInBounds_toArray, List.set_cons_zero, List.set_cons_succ]) | (refine wpList_store_row rfl 32 _ _ rfl (w.heap.size + 1) (by rfl) _ (by rfl) refZero 32 (heap_alloc2_new _ _ _) hsz2.out hsz.out E.out.one ?_; intro w1 hw1 hg1))
        all_goals
          refine bodyPost_ret (results_cell_row rfl _ w1 (w.heap.size + 1) 32 _ (0, 0) _ (by rfl) hw1 Tryd.underlying32 rfl hsz.out) rfl ⟨_, rfl, E.out, ?_⟩
          exact (((Below.refl _ _).alloc (Nat.le_refl _) _).alloc (by simp) _).grown hg1 (by simp; omega) (fun k hk => by cases hk; omega)
      · have h2 : p < 0 := by omega
        clear hh hc hr h1
        go_enter Tryd.func19, Tryd.ntmps19
        go_wp2_with (first | (refine wpList_load_row rfl 32 _ rfl w.heap.size (by rfl) 32 _ (0, 0) _ (heap_alloc2_old _ _ _) Tryd.underlying32 rfl hsz.out ?_; simp only [Act.put, List.setIfInBounds_toArray, List.set_cons_zero, List.set_cons_succ]) | (refine wpList_store_row rfl 32 _ _ rfl (w.heap.size + 1) (by rfl) _ (by rfl) refZero 32 (heap_alloc2_new _ _ _) hsz2.out hsz.out E.out.one ?_; intro w1 hw1 hg1))
        all_goals
          refine bodyPost_ret (results_cell_row rfl _ w1 (w.heap.size + 1) 32 _ (0, 0) _ (by rfl) hw1 Tryd.underlying32 rfl hsz.out) rfl ⟨_, rfl, E.out, ?_⟩
          exact (((Below.refl _ _).alloc (Nat.le_refl _) _).alloc (by simp) _).grown hg1 (by simp; omega) (fun k hk => by cases hk; omega)
  · obtain ⟨hp0, hp1⟩ := hasN_range hh
    obtain ⟨q, rfl⟩ := Int.eq_ofNat_of_zero_le hp0
    have hq : q < 64 := by omega
    have ho := hc.others q hq
    have hg := hc.got q hq
    have hh2 := hh
    rw [hasN_nat] at hh2
    rw [show m.others.testBit q = true by simpa [hq] using hh2] at ho
    by_cases h1 : m.got q < min n m.sent
    · have hE := fun v (hv : v = max (m.got q) (min n m.sent)) => (show RefCells (cs.setIfInBounds (67 + q) (.int .u32 (v : Nat))) (gotW m q n) by unfold gotW; rw [hh]; exact hc.gets hq n hv)
      have hsz3 : Hid ((Tryd.prog.info? 32).map (·.size) = some (cs.setIfInBounds (67 + q) (.int .u32 (min n m.sent : Nat))).size) := Lib.hid (by rw [Array.size_setIfInBounds]; exact hsz.out)
      by_cases h2 : m.sent < n
      · have e2 : min n m.sent = m.sent := by omega
        rw [e2] at hsz3
        have E := Lib.hid (hE m.sent (by omega))
        have h3 : m.got q < m.sent := by omega
        have hsz4 : Hid (refZero.size = (cs.setIfInBounds (67 + q) (.int .u32 (m.sent : Nat))).size) := Lib.hid (by rw [Array.size_setIfInBounds]; exact hsz2.out)
        clear hh hh2 hc hE h1 e2
        go_enter Tryd.func19, Tryd.ntmps19
        go_wp2_with (first | (refine wpList_load_row rfl 32 _ rfl w.heap.size (by rfl) 32 _ (0, 0) _ (heap_alloc2_old _ _ _) Tryd.underlying32 rfl hsz3.out ?_; simp only [Act.put, List.setIfInBounds_toArray, List.set_cons_zero, List.set_cons_succ]) | (refine wpList_store_row rfl 32 _ _ rfl (w.heap.size + 1) (by rfl) _ (by rfl) refZero 32 (heap_alloc2_new _ _ _) hsz4.out hsz3.out E.out.one ?_; intro w1 hw1 hg1))
        all_goals
          refine bodyPost_ret (results_cell_row rfl _ w1 (w.heap.size + 1) 32 _ (0, 0) _ (by rfl) hw1 Tryd.underlying32 rfl hsz3.out) rfl ⟨_, rfl, E.out, ?_⟩
          exact (((Below.refl _ _).alloc (Nat.le_refl _) _).alloc (by simp) _).grown hg1 (by simp; omega) (fun k hk => by cases hk; omega)
      · have e2 : min n m.sent = n := by omega
        rw [e2] at hsz3
        have E := Lib.hid (hE n (by omega))
        have h3 : m.got q < n := by omega
        have hsz4 : Hid (refZero.size = (cs.setIfInBounds (67 + q) (.int .u32 (n : Nat))).size) := Lib.hid (by rw [Array.size_setIfInBounds]; exact hsz2.out)
        clear hh hh2 hc hE h1 e2
        go_enter Tryd.func19, Tryd.ntmps19
        go_wp2_with (first | (refine wpList_load_row rfl 32 _ rfl w.heap.size (by rfl) 32 _ (0, 0) _ (heap_alloc2_old _ _ _) Tryd.underlying32 rfl hsz3.out ?_; simp only [Act.put, List.setIfInBounds_toArray, List.set_cons_zero, List.set_cons_succ]) | (refine wpList_store_row rfl 32 _ _ rfl (w.heap.size + 1) (by rfl) _ (by rfl) refZero 32 (heap_alloc2_new _ _ _) hsz4.out hsz3.out E.out.one ?_; intro w1 hw1 hg1))
        all_goals
          refine bodyPost_ret (results_cell_row rfl _ w1 (w.heap.size + 1) 32 _ (0, 0) _ (by rfl) hw1 Tryd.underlying32 rfl hsz3.out) rfl ⟨_, rfl, E.out, ?_⟩
          exact (((Below.refl _ _).alloc (Nat.le_refl _) _).alloc (by simp) _).grown hg1 (by simp; omega) (fun k hk => by cases hk; omega)
    · have E := Lib.hid (show RefCells cs (gotW m q n) by unfold gotW; rw [hh]; exact hc.gets_same n (by omega))
      by_cases h2 : m.sent < n
      · have h3 : m.sent ≤ m.got q := by omega
        clear hh hh2 hc h1
        go_enter Tryd.func19, Tryd.ntmps19
        go_wp2_with (first | (refine wpList_load_row rfl 32 _ rfl w.heap.size (by rfl) 32 _ (0, 0) _ (heap_alloc2_old _ _ _) Tryd.underlying32 rfl hsz.out ?_; simp only [Act.put, List.setIfInBounds_toArray, List.set_cons_zero, List.set_cons_succ]) | (refine wpList_store_row rfl 32 _ _ rfl (w.heap.size + 1) (by rfl) _ (by rfl) refZero 32 (heap_alloc2_new _ _ _) hsz2.out hsz.out E.out.one ?_; intro w1 hw1 hg1))
        all_goals
          refine bodyPost_ret (results_cell_row rfl _ w1 (w.heap.size + 1) 32 _ (0, 0) _ (by rfl) hw1 Tryd.underlying32 rfl hsz.out) rfl ⟨_, rfl, E.out, ?_⟩
          exact (((Below.refl _ _).alloc (Nat.le_refl _) _).alloc (by simp) _).grown hg1 (by simp; omega) (fun k hk => by cases hk; omega)
      · have h3 : n ≤ m.got q := by omega
        clear hh hh2 hc h1
        go_enter Tryd.func19, Tryd.ntmps19
        go_wp2_with (first | (refine wpList_load_row rfl 32 _ rfl w.heap.size (by rfl) 32 _ (0, 0) _ (heap_alloc2_old _ _ _) Tryd.underlying32 rfl hsz.out ?_; simp only [Act.put, List.setIfInBounds_toArray, List.set_cons_zero, List.set_cons_succ]) | (refine wpList_store_row rfl 32 _ _ rfl (w.heap.size + 1) (by rfl) _ (by rfl) refZero 32 (heap_alloc2_new _ _ _) hsz2.out hsz.out E.out.one ?_; intro w1 hw1 hg1))
        all_goals
          refine bodyPost_ret (results_cell_row rfl _ w1 (w.heap.size + 1) 32 _ (0, 0) _ (by rfl) hw1 Tryd.underlying32 rfl hsz.out) rfl ⟨_, rfl, E.out, ?_⟩
          exact (((Below.refl _ _).alloc (Nat.le_refl _) _).alloc (by simp) _).grown hg1 (by simp; omega) (fun k hk => by cases hk; omega)
end Go.Proofs.YtjokfjdbioeohaaDoor

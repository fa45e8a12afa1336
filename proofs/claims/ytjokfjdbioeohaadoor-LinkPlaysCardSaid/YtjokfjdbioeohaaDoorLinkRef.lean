/-
  consortref11: the document's window, by value: what its functions come to, said of the same plain windows.
-/
import Derived.Test.YtjokfjdbioeohaaDoorLinkActs
import Derived.Test.YtjokfjdbioeohaaDoorValsOps
namespace Go.Proofs.YtjokfjdbioeohaaDoor
open Go.RowKit Go.BigFrame
set_option maxHeartbeats 400000
set_option maxRecDepth 100000
/-- The cells of a reference window. -/
structure RefCells (cs : Array Value) (m : Win) : Prop where
  n : cs.size = 131
  me : cs[0]? = some (.int .i64 m.me)
  size : cs[1]? = some (.int .i64 m.size)
  others : ∀ i, i < 64 → cs[2 + i]? = some (.bool (m.others.testBit i))
  sent : cs[66]? = some (.int .u32 m.sent)
  got : ∀ i, i < 64 → cs[67 + i]? = some (.int .u32 (m.got i))
theorem RefCells.one {cs : Array Value} {m : Win} (h : RefCells cs m) : ∀ v ∈ cs.toList, v.oneCell' = true := by
  intro v hv
  obtain ⟨i, hi, rfl⟩ := List.getElem_of_mem hv
  have hn := h.n
  have hi' : i < cs.size := by simpa using hi
  have e : cs[i]? = some (cs.toList[i]) := by rw [← Array.getElem?_toList]; simp
  by_cases h0 : i = 0
  · subst h0; rw [h.me] at e; rw [← Option.some.inj e]; rfl
  by_cases h1 : i = 1
  · subst h1; rw [h.size] at e; rw [← Option.some.inj e]; rfl
  by_cases h2 : i < 66
  · obtain ⟨j, rfl⟩ : ∃ j, i = 2 + j := ⟨i - 2, by omega⟩
    rw [h.others j (by omega)] at e; rw [← Option.some.inj e]; rfl
  by_cases h3 : i = 66
  · subst h3; rw [h.sent] at e; rw [← Option.some.inj e]; rfl
  obtain ⟨j, rfl⟩ : ∃ j, i = 67 + j := ⟨i - 67, by omega⟩
  rw [h.got j (by omega)] at e; rw [← Option.some.inj e]; rfl
theorem size_ref : (Tryd.prog.info? 32).map (·.size) = some 131 := by kernel_rfl
/-- The low mark over those below k. -/
def lowK (m : Win) (k : Nat) : Nat := lowL m ((List.range k).filter fun i => m.others.testBit i)
theorem lowK_zero (m : Win) : lowK m 0 = m.sent := rfl
theorem lowK_end (m : Win) : lowK m 64 = lowW m := rfl
theorem lowK_succ (m : Win) (k : Nat) : lowK m (k + 1) = if m.others.testBit k then min (lowK m k) (m.got k) else lowK m k := by
  unfold lowK
  rw [List.range_succ, List.filter_append]
  by_cases h : m.others.testBit k = true
  · rw [List.filter_cons, if_pos h, List.filter_nil, lowL_snoc, if_pos h]
  · rw [List.filter_cons, if_neg h, List.filter_nil, List.append_nil, if_neg h]
theorem below_box (w : World) (cs : Array Value) (t : TypeId) : Below w.heap.size w (w.alloc (.cells cs t)) := (Below.refl _ _).alloc (Nat.le_refl _) _
theorem rlow_any (cs : Array Value) (m : Win) (hc : RefCells cs m) (w : World) :
    Calls Tryd.prog 22 #[.agg cs] w fun e w' => e = .returned (.int .u32 (lowW m)) ∧ Below w.heap.size w w' := by
  have h66 := hc.sent
  have HC := Lib.hid hc
  clear hc
  go_enter Tryd.func22, Tryd.ntmps22
  go_wp2
  go_loop [3, 4] (fun n i => ∃ k : Nat, k ≤ 64 ∧ i = .int .i64 k ∧ n = .int .u32 (lowK m k)) (fun _ i => 64 - (intOf i).toNat)
  case atStart => exact ⟨0, by omega, rfl, rfl⟩
  case round =>
    obtain ⟨k, hk, rfl, rfl⟩ := hrel
    by_cases hlt : k < 64
    · have ho := HC.out.others k hlt
      have hg := HC.out.got k hlt
      have hlt' : (k : Int) < 64 := by omega
      cases hb : m.others.testBit k
      · rw [hb] at ho
        have HS := Lib.hid (show lowK m (k + 1) = lowK m k by rw [lowK_succ, hb]; rfl)
        clear hb
        go_wp2
        go_round
        case rel => exact ⟨k + 1, by omega, by go_num, by rw [HS.out]⟩
        case measure => simp [intOf]; omega
      · rw [hb] at ho
        have HS := Lib.hid (show lowK m (k + 1) = min (lowK m k) (m.got k) by rw [lowK_succ, hb]; rfl)
        clear hb
        go_wp2
        all_goals
          go_round
          case rel => exact ⟨k + 1, by omega, by go_num, by rw [HS.out]; go_num⟩
          case measure => simp [intOf]; omega
    · obtain rfl : k = 64 := by omega
      go_wp2
      go_ret
      exact ⟨rfl, below_box _ _ _⟩
/-- Who lacks some, of those below k. -/
def lagK (m : Win) (k : Nat) : Nat := lagL m ((List.range k).filter fun i => m.others.testBit i)
theorem lagK_end (m : Win) : lagK m 64 = lagW m := rfl
theorem lagK_succ (m : Win) (k : Nat) : lagK m (k + 1) = if m.others.testBit k && decide (m.got k < m.sent) then lagK m k ||| bitN k else lagK m k := by
  unfold lagK
  rw [List.range_succ, List.filter_append]
  by_cases h : m.others.testBit k = true
  · rw [List.filter_cons, if_pos h, List.filter_nil, lagL_snoc, h]
    simp only [Bool.true_and, decide_eq_true_eq]
  · rw [List.filter_cons, if_neg h, List.filter_nil, List.append_nil]
    have h' : m.others.testBit k = false := by simpa using h
    rw [h']; rfl
theorem rlag_any (cs : Array Value) (m : Win) (hc : RefCells cs m) (w : World) :
    Calls Tryd.prog 24 #[.agg cs] w fun e w' => e = .returned (.int .u64 (lagW m)) ∧ Below w.heap.size w w' := by
  have h66 := hc.sent
  have HC := Lib.hid hc
  clear hc
  have HB0 := Lib.hid (below_box w cs 32)
  go_enter Tryd.func24, Tryd.ntmps24
  go_wp2
  go_loopw [3, 4] (fun n i wr => ∃ k : Nat, k ≤ 64 ∧ i = .int .i64 k ∧ n = .int .u64 (lagK m k) ∧ ∃ d, wr = (w.alloc (.cells cs 32)).drewN d) (fun _ i _ => 64 - (intOf i).toNat)
  case atStart => exact ⟨0, by omega, rfl, rfl, 0, rfl⟩
  case round =>
    obtain ⟨k, hk, rfl, rfl, d, rfl⟩ := hrel
    by_cases hlt : k < 64
    · have ho := HC.out.others k hlt
      have hg := HC.out.got k hlt
      have hlt' : (k : Int) < 64 := by omega
      cases hb : m.others.testBit k
      · rw [hb] at ho
        have HS := Lib.hid (show lagK m (k + 1) = lagK m k by rw [lagK_succ, hb]; rfl)
        clear hb
        go_wp2
        go_quiet (fail)
        go_wp2
        go_roundw
        case rel => exact ⟨k + 1, by omega, by go_num, by rw [HS.out], _, rfl⟩
        case measure => simp [intOf]; omega
      · rw [hb] at ho
        by_cases hg2 : m.got k < m.sent
        · have HS := Lib.hid (show lagK m (k + 1) = lagK m k ||| bitN k by rw [lagK_succ, hb, decide_eq_true hg2]; rfl)
          have hd1 : decide (m.got k < m.sent) = true := decide_eq_true hg2
          have hor := bits_or_u64_nat (lagK m k) (bitN k) (lagL_lt _ _) (bitN_lt _)
          have hp := wrap_pow (show (0 : Int) ≤ (k : Int) by omega) hlt'
          rw [Int.toNat_natCast] at hp
          clear hb hg2
          go_wp2
          go_quiet (fail)
          go_wp2
          go_roundw
          case rel => exact ⟨k + 1, by omega, by go_num, by rw [HS.out], _, rfl⟩
          case measure => simp [intOf]; omega
        · have HS := Lib.hid (show lagK m (k + 1) = lagK m k by rw [lagK_succ, hb, decide_eq_false hg2]; rfl)
          have hd1 : decide (m.got k < m.sent) = false := decide_eq_false hg2
          clear hb hg2
          go_wp2
          go_quiet (fail)
          go_wp2
          go_roundw
          case rel => exact ⟨k + 1, by omega, by go_num, by rw [HS.out], _, rfl⟩
          case measure => simp [intOf]; omega
    · obtain rfl : k = 64 := by omega
      go_wp2
      go_ret
      exact ⟨rfl, below_drewN HB0.out _⟩
theorem rof_any (cs : Array Value) (m : Win) (p : Int) (hc : RefCells cs m) (w : World) :
    Calls Tryd.prog 26 #[.agg cs, .int .i64 p] w fun e w' => e = .returned (.int .u32 (ofW m p)) ∧ Below w.heap.size w w' := by
  have h0 := hc.me
  have h66 := hc.sent
  have HB0 := Lib.hid (below_box w cs 32)
  cases hh : hasN m.others p
  · by_cases he : p = m.me
    · have E := Lib.hid (show ofW m p = m.sent by unfold ofW; rw [hh, if_neg (by simp), if_pos he])
      have he' : (p == m.me) = true := beq_iff_eq.2 he
      by_cases hr : 0 ≤ p ∧ p < 64
      · obtain ⟨q, rfl⟩ := Int.eq_ofNat_of_zero_le hr.1
        have hq : q < 64 := by omega
        have ho := hc.others q hq
        rw [hasN_nat] at hh
        rw [show m.others.testBit q = false by simpa [hq] using hh] at ho
        have hq' : (q : Int) < 64 := by omega
        have hq0 : 0 ≤ (q : Int) := by omega
        clear hh hc he hr
        go_enter Tryd.func26, Tryd.ntmps26
        go_wp2
        go_ret
        exact ⟨by rw [E.out]; rfl, HB0.out⟩
      · by_cases h1 : 0 ≤ p
        · have h2 : 64 ≤ p := by omega
          clear hh hc he hr
          go_enter Tryd.func26, Tryd.ntmps26
          go_wp2
          go_ret
          exact ⟨by rw [E.out]; rfl, HB0.out⟩
        · have h2 : p < 0 := by omega
          clear hh hc he hr h1
          go_enter Tryd.func26, Tryd.ntmps26
          go_wp2
          go_ret
          exact ⟨by rw [E.out]; rfl, HB0.out⟩
    · have E := Lib.hid (show ofW m p = 0 by unfold ofW; rw [hh, if_neg (by simp), if_neg he])
      have he' : (p == m.me) = false := beq_eq_false_iff_ne.2 he
      by_cases hr : 0 ≤ p ∧ p < 64
      · obtain ⟨q, rfl⟩ := Int.eq_ofNat_of_zero_le hr.1
        have hq : q < 64 := by omega
        have ho := hc.others q hq
        rw [hasN_nat] at hh
        rw [show m.others.testBit q = false by simpa [hq] using hh] at ho
        have hq' : (q : Int) < 64 := by omega
        have hq0 : 0 ≤ (q : Int) := by omega
        clear hh hc he hr
        go_enter Tryd.func26, Tryd.ntmps26
        go_wp2
        go_ret
        exact ⟨by rw [E.out]; rfl, HB0.out⟩
      · by_cases h1 : 0 ≤ p
        · have h2 : 64 ≤ p := by omega
          clear hh hc he hr
          go_enter Tryd.func26, Tryd.ntmps26
          go_wp2
          go_ret
          exact ⟨by rw [E.out]; rfl, HB0.out⟩
        · have h2 : p < 0 := by omega
          clear hh hc he hr h1
          go_enter Tryd.func26, Tryd.ntmps26
          go_wp2
          go_ret
          exact ⟨by rw [E.out]; rfl, HB0.out⟩
  · obtain ⟨hp0, hp1⟩ := hasN_range hh
    obtain ⟨q, rfl⟩ := Int.eq_ofNat_of_zero_le hp0
    have hq : q < 64 := by omega
    have ho := hc.others q hq
    have hg := hc.got q hq
    have E := Lib.hid (show ofW m q = m.got q by unfold ofW; rw [hh, if_pos rfl, Int.toNat_natCast])
    rw [hasN_nat] at hh
    rw [show m.others.testBit q = true by simpa [hq] using hh] at ho
    clear hh hc
    go_enter Tryd.func26, Tryd.ntmps26
    go_wp2
    go_ret
    exact ⟨by rw [E.out]; rfl, HB0.out⟩
theorem rroom_eq {m : Win} (hb1 : 1 ≤ m.size) (hb2 : m.size ≤ 64) (hlw : lowL m (listN m.others) ≤ m.sent) (hsn : m.sent < 4294967296) {r : Int} (hr : r ≤ 9223372036854775807) {x : Int} (hx : wrap64 (m.size - max r 0) = x) :
    decide (wrap64 (wrap64 (m.sent : Int) - wrap64 (lowW m : Int)) < x) = roomW m r := by
  unfold roomW
  rw [← hx]
  have e1 : wrap64 (m.sent : Int) = m.sent := by unfold wrap64; omega
  have e2 : wrap64 (lowW m : Int) = lowW m := by unfold lowW wrap64; omega
  have e3 : wrap64 ((m.sent : Int) - lowW m) = (m.sent : Int) - lowW m := by unfold lowW wrap64; omega
  have e4 : wrap64 (m.size - max r 0) = m.size - max r 0 := by unfold wrap64; omega
  rw [e1, e2, e3, e4]
theorem rroom_any (cs : Array Value) (m : Win) (r : Int) (hr : r ≤ 9223372036854775807) (wf : m.Wf) (hc : RefCells cs m) (w : World) :
    Calls Tryd.prog 15 #[.agg cs, .int .i64 r] w fun e w' => e = .returned (.bool (roomW m r)) ∧ Below w.heap.size w w' := by
  obtain ⟨W, hW⟩ : ∃ W : World, W = w.alloc (.cells cs 32) := ⟨_, rfl⟩
  have HW := Lib.hid hW
  have HBW := Lib.hid (show Below w.heap.size w W by rw [hW]; exact below_box _ _ _)
  have HHW := Lib.hid (show W.heap[w.heap.size]? = some (.cells cs 32 (0, 0)) by rw [hW]; exact heap_alloc_new _ _)
  obtain ⟨C, hC⟩ : ∃ C : World → Prop, ∀ w', C w' ↔ Below W.heap.size W w' := ⟨_, fun _ => Iff.rfl⟩
  have hblk := Lib.hid (fun w' (h : C w') => bblock ((hC w').1 h) HHW.out)
  have l66 := Lib.hid (fun w' (h : C w') => (show w'.cell? ⟨w.heap.size, 66, none⟩ = some (.int .u32 m.sent) by rw [cell_of_row w' _ 66 _ _ _ (hblk.out w' h)]; exact hc.sent))
  have l1 := Lib.hid (fun w' (h : C w') => (show w'.cell? ⟨w.heap.size, 1, none⟩ = some (.int .i64 m.size) by rw [cell_of_row w' _ 1 _ _ _ (hblk.out w' h)]; exact hc.size))
  have ag := Lib.hid (fun w' (h : C w') => hblk.out w' h)
  have k22 := Lib.hid (fun w' (h : C w') => (rlow_any cs m hc w').mono (fun e w'' (he : e = .returned (.int .u32 (lowW m)) ∧ Below w'.heap.size w' w'') => (⟨he.1, (hC w'').2 (bthen' ((hC w').1 h) he.2)⟩ : e = .returned (.int .u32 (lowW m)) ∧ C w'')))
  have hC0 : C { W with drawn := W.drawn + 1 } := (hC _).2 (Below.drew (Below.refl _ _))
  rw [hW] at hC0
  have HC := Lib.hid hC
  have hsz : Hid ((Tryd.prog.info? 32).map (·.size) = some cs.size) := Lib.hid (by rw [hc.n]; exact size_ref)
  have HE := Lib.hid (fun x (hx : wrap64 (m.size - max r 0) = x) => rroom_eq wf.size0 wf.size1 (lowL_le m (listN m.others)) wf.sent hr (x := x) hx)
  clear hc hC hW wf
  by_cases h0 : r < 0
  · have e0 : max r 0 = 0 := by omega
    clear hr
    go_enter Tryd.func15, Tryd.ntmps15
    go_wp2
    refine wp_region_quiet (C := C) (by kernel_rfl) (by kernel_rfl) hC0 ?_
    dsimp only []
    repeat (first | go_big_quiet_skip | (go_big_quiet_want; first | (refine quiet_load _ _ (by rfl) ?_ _ (by rfl) (by first | exact l66.out | exact l1.out) ?_; (· intro w; simp); (simp only [Act.put, List.setIfInBounds_toArray, List.set_cons_zero, List.set_cons_succ]); go_big_quiet_on) | (refine quiet_load_agg Tryd.underlying32 rfl hsz.out _ (by rfl) _ (by rfl) _ _ ag.out ?_; (simp only [Act.put, List.setIfInBounds_toArray, List.set_cons_zero, List.set_cons_succ]); go_big_quiet_on) | (refine quiet_call 22 _ _ (by rfl) Tryd.call22 _ ?_ k22.out ?_; (· rfl); (simp only [Act.put, List.setIfInBounds_toArray, List.set_cons_zero, List.set_cons_succ]); go_big_quiet_on) | (go_big_quiet_op; go_big_quiet_on) | (go_big_quiet_op; refine Exists.intro _ ⟨fun _ _ => rfl, ?_⟩; go_big_quiet_on)))
    refine wpQuiet_nil ?_
    intro w1 hC1
    go_wp2
    go_ret
    exact ⟨ret_bool (HE.out _ (by rw [e0, Int.sub_zero])), bthen' HBW.out ((HC.out _).1 hC1)⟩
  · have e0 : max r 0 = r := by omega
    have h0' : 0 ≤ r := by omega
    clear hr h0
    go_enter Tryd.func15, Tryd.ntmps15
    go_wp2
    refine wp_region_quiet (C := C) (by kernel_rfl) (by kernel_rfl) hC0 ?_
    dsimp only []
    repeat (first | go_big_quiet_skip | (go_big_quiet_want; first | (refine quiet_load _ _ (by rfl) ?_ _ (by rfl) (by first | exact l66.out | exact l1.out) ?_; (· intro w; simp); (simp only [Act.put, List.setIfInBounds_toArray, List.set_cons_zero, List.set_cons_succ]); go_big_quiet_on) | (refine quiet_load_agg Tryd.underlying32 rfl hsz.out _ (by rfl) _ (by rfl) _ _ ag.out ?_; (simp only [Act.put, List.setIfInBounds_toArray, List.set_cons_zero, List.set_cons_succ]); go_big_quiet_on) | (refine quiet_call 22 _ _ (by rfl) Tryd.call22 _ ?_ k22.out ?_; (· rfl); (simp only [Act.put, List.setIfInBounds_toArray, List.set_cons_zero, List.set_cons_succ]); go_big_quiet_on) | (go_big_quiet_op; go_big_quiet_on) | (go_big_quiet_op; refine Exists.intro _ ⟨fun _ _ => rfl, ?_⟩; go_big_quiet_on)))
    refine wpQuiet_nil ?_
    intro w1 hC1
    go_wp2
    go_ret
    exact ⟨ret_bool (HE.out _ (by rw [e0])), bthen' HBW.out ((HC.out _).1 hC1)⟩
end Go.Proofs.YtjokfjdbioeohaaDoor

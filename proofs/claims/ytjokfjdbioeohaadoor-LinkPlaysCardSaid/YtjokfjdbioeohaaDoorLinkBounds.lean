/-
  LinkBounds: the walk: for every script the law returns true.
-/
import Derived.Test.YtjokfjdbioeohaaDoorLinkP
import Derived.Test.YtjokfjdbioeohaaDoorLinkCopies
namespace Go.Proofs.YtjokfjdbioeohaaDoor
open Go.RowKit Go.BigFrame
set_option maxHeartbeats 1000000
set_option maxRecDepth 100000
def bdW (me : Int) (members : Nat) (size : Int) (l : List LAct) (k : Nat) : Win := runW (newW me members size) (l.take k)
section
variable (me : Int) (members : Nat) (size : Int) (l : List LAct)
theorem bdW_zero : newW me members size = bdW me members size l 0 := rfl
theorem bdW_succ (k : Nat) (h : k < l.length) : bdW me members size l (k + 1) = actW (bdW me members size l k) l[k] := runW_take _ _ _ h
theorem bdW_sent (k : Nat) (h : l.length ≤ 300) : (bdW me members size l k).sent ≤ 300 := by
  have h1 := runW_sent (newW me members size) (l.take k)
  have h2 : (newW me members size).sent = 0 := rfl
  have h4 : (l.take k).length ≤ l.length := List.length_take_le' k l
  unfold bdW
  omega
theorem bdW_fix : ∀ k, k ≤ l.length → (bdW me members size l k).Tight ∧ (bdW me members size l k).others = butN members (bitN me) ∧ (bdW me members size l k).size = max 1 (min size 64) := by
  intro k
  induction k with
  | zero =>
    intro _
    refine ⟨?_, rfl, rfl⟩
    have h1 := lowW_le (newW me members size)
    have h2 : (newW me members size).sent = 0 := rfl
    show (((newW me members size).sent : Nat) : Int) - (lowW (newW me members size) : Nat) ≤ max 1 (min size 64)
    omega
  | succ k ih =>
    intro hk
    have h := ih (by omega)
    rw [bdW_succ me members size l k (by omega)]
    exact ⟨h.1.act _, by rw [actW_others]; exact h.2.1, by rw [actW_size]; exact h.2.2⟩
end
/-- A copy of an act in a block of its own. -/
def BoxAct (w : World) (B : Nat) (a : LAct) : Prop := w.heap[B]? = some (.cells #[.int .i64 a.p, .int .i64 a.n, .int .u32 a.s] 35 (0, 0))
section
variable {w w' : World} {B g : Nat} {a : LAct}
theorem BoxAct.c0 (h : BoxAct w B a) : w.cell? ⟨B, 0, none⟩ = some (.int .i64 a.p) := by rw [cell_of_row w B 0 _ _ _ h]; rfl
theorem BoxAct.c1 (h : BoxAct w B a) : w.cell? ⟨B, 1, none⟩ = some (.int .i64 a.n) := by rw [cell_of_row w B 1 _ _ _ h]; rfl
theorem BoxAct.c2 (h : BoxAct w B a) : w.cell? ⟨B, 2, none⟩ = some (.int .u32 a.s) := by rw [cell_of_row w B 2 _ _ _ h]; rfl
theorem BoxAct.below (h : BoxAct w B a) (hb : Below w.heap.size w w') : BoxAct w' B a := bblock hb h
theorem BoxAct.grown (h : BoxAct w B a) (hg : w.grownBy w' (some g)) (hne : B ≠ g) : BoxAct w' B a := by
  unfold BoxAct
  rw [hg.block B (Array.getElem?_eq_some_iff.1 h).1 (by intro e; exact hne (Option.some.inj e))]; exact h
end
theorem bounds_walk (me : Int) (members : Nat) (size : Int) (l : List LAct) (v : Value) (a : Option Addr) (c b o : Nat) (hm : members < 18446744073709551616) (w : World) (hT : TabOk w) (hA : ActsAt w v l a c b o) :
    Calls Tryd.prog 4 #[.int .i64 me, .int .u64 members, .int .i64 size, v] w fun e w' => e = .returned (.bool true) ∧ Below w.heap.size w w' := by
  obtain rfl := hA.v
  have HT := Lib.hid hT
  have HW := Lib.hid (awake_any w hT)
  have HS := Lib.hid hA
  have HM := Lib.hid hm
  have hpos : 0 < w.heap.size := Nat.lt_of_le_of_lt (Nat.zero_le _) hT.size
  clear hT hA hm
  by_cases h3 : 300 < l.length
  · have h3' : (300 : Int) < (l.length : Int) := by omega
    go_enter Tryd.func4, Tryd.ntmps4
    go_wp2_with (go_at_call 11; refine HW.out.mono ?_; rintro e w1 ⟨rfl, hb⟩; have HB := Lib.hid hb; clear hb)
    go_ret
    exact ⟨rfl, HB.out⟩
  · have h3' : (l.length : Int) ≤ 300 := by omega
    have HL3 := Lib.hid (show l.length ≤ 300 by omega)
    clear h3
    go_enter Tryd.func4, Tryd.ntmps4
    go_wp2_with (first
      | (go_at_call 11; refine HW.out.mono ?_; rintro e w1 ⟨rfl, hb⟩; have HB := Lib.hid hb; clear hb)
      | (go_at_call 12; refine (Lk.make (w0 := w) (HT.out.belowS HB.out) HB.out hpos me members size HM.out).mono ?_; rintro e w2 ⟨g, rfl, hL⟩; have L0 := Lib.hid hL; clear hL)
      | (go_at_call 27; refine (less_one _ _ _ _ HM.out _ (cell_new _ _ _)).mono ?_; rintro e w' ⟨rfl, rfl⟩))
    have L1 := Lib.hid (L0.out.below ((Below.refl _ _).alloc (Nat.le_refl _) (.cells #[.int .i64 me] 3)))
    go_loopw [11, 12, 13, 14, 15, 16, 17] (fun i _ _ _ _ _ _ wr => ∃ k : Nat, k ≤ l.length ∧ i = .int .i64 k ∧ Lk w wr g (bdW me members size l k)) (fun i _ _ _ _ _ _ _ => l.length - (intOf i).toNat)
    case atStart => exact ⟨0, Nat.zero_le _, rfl, L1.out⟩
    case round =>
      obtain ⟨k, hk, rfl, hL⟩ := hrel
      have L2 := Lib.hid hL
      clear hL
      by_cases hlt : k < l.length
      · have hkl' : (k : Int) < (l.length : Int) := by omega
        have S := HS.out.below L2.out.bel
        have c0 := S.p k hlt
        have c1 := S.n k hlt
        have c2 := S.s k hlt
        have hok := Lib.hid (S.ok _ (List.getElem_mem hlt))
        obtain ⟨rfl, _⟩ := HS.out.a (by omega)
        have E := Lib.hid (bdW_succ me members size l k hlt)
        have F1 := Lib.hid (bdW_fix me members size l (k + 1) hlt)
        have HS1 := Lib.hid (bdW_sent me members size l k HL3.out)
        have HS2 := Lib.hid (bdW_sent me members size l (k + 1) HL3.out)
        obtain ⟨x, hx⟩ : ∃ x, l[k] = x := ⟨_, rfl⟩
        rw [hx] at E c0 c1 c2 hok
        obtain ⟨m, hm⟩ : ∃ m, bdW me members size l k = m := ⟨_, rfl⟩
        obtain ⟨m', hm'⟩ : ∃ m', bdW me members size l (k + 1) = m' := ⟨_, rfl⟩
        rw [hm, hm'] at E
        rw [hm] at L2 HS1
        rw [hm'] at F1 HS2
        have HM' := Lib.hid hm'
        clear S hx hm hm'
        obtain ⟨W, hW⟩ : ∃ W : World, W = wr.alloc (.cells #[.int .i64 x.p, .int .i64 x.n, .int .u32 x.s] 35) := ⟨_, rfl⟩
        have HWW := Lib.hid hW
        have LW := Lib.hid (show Lk w W g m by rw [hW]; exact L2.out.below ((Below.refl _ _).alloc (Nat.le_refl _) _))
        have BW := Lib.hid (show BoxAct W wr.heap.size x by rw [hW]; exact heap_alloc_new _ _)
        have hne : Hid (wr.heap.size ≠ g) := Lib.hid (by have := L2.out.at_.lt; omega)
        obtain ⟨C, hC⟩ : ∃ C : World → Prop, ∀ w', C w' ↔ Below W.heap.size W w' := ⟨_, fun _ => Iff.rfl⟩
        have l0 := Lib.hid (fun w' h => (BW.out.below ((hC w').1 h)).c0)
        have k20 := Lib.hid (fun w' (h : C w') => (sent_any g m w' (LW.out.below ((hC w').1 h)).at_).mono (fun e w'' (he : e = .returned (.int .u32 m.sent) ∧ w' = w'') => (⟨he.1, he.2 ▸ h⟩ : e = .returned (.int .u32 m.sent) ∧ C w'')))
        have k21 := Lib.hid (fun w' (h : C w') => (low_any g m w' (LW.out.below ((hC w').1 h)).tab (LW.out.below ((hC w').1 h)).at_ LW.out.wf).mono (fun e w'' (he : e = .returned (.int .u32 (lowW m)) ∧ Below w'.heap.size w' w'') => (⟨he.1, (hC w'').2 (bthen' ((hC w').1 h) he.2)⟩ : e = .returned (.int .u32 (lowW m)) ∧ C w'')))
        have k25 := Lib.hid (fun w' (h : C w') => (of_any g m x.p w' (LW.out.below ((hC w').1 h)).at_ LW.out.wf).mono (fun e w'' (he : e = .returned (.int .u32 (ofW m x.p)) ∧ w' = w'') => (⟨he.1, he.2 ▸ h⟩ : e = .returned (.int .u32 (ofW m x.p)) ∧ C w'')))
        have hC0 : C { W with drawn := W.drawn + 1 } := (hC _).2 (Below.drew (Below.refl _ _))
        have HC := Lib.hid hC
        rw [hW] at hC0
        clear hC hW
        go_wp2
        refine wp_region_quiet (C := C) (by kernel_rfl) (by kernel_rfl) hC0 ?_
        dsimp only []
        repeat (first | go_big_quiet_skip | (go_big_quiet_want; first | (go_big_quiet_op; go_big_quiet_on) | (go_big_quiet_op; refine Exists.intro _ ⟨fun _ _ => rfl, ?_⟩; go_big_quiet_on) | (refine quiet_load _ _ (by rfl) ?_ _ (by rfl) (by first | exact l0.out) ?_; (· intro w; simp); (simp only [Act.put, List.setIfInBounds_toArray, List.set_cons_zero, List.set_cons_succ]); go_big_quiet_on) | (refine quiet_call 20 _ _ (by rfl) Tryd.call20 _ ?_ k20.out ?_; (· rfl); (simp only [Act.put, List.setIfInBounds_toArray, List.set_cons_zero, List.set_cons_succ]); go_big_quiet_on) | (refine quiet_call 21 _ _ (by rfl) Tryd.call21 _ ?_ k21.out ?_; (· rfl); (simp only [Act.put, List.setIfInBounds_toArray, List.set_cons_zero, List.set_cons_succ]); go_big_quiet_on) | (refine quiet_call 25 _ _ (by rfl) Tryd.call25 _ ?_ k25.out ?_; (· rfl); (simp only [Act.put, List.setIfInBounds_toArray, List.set_cons_zero, List.set_cons_succ]); go_big_quiet_on)))
        refine wpQuiet_nil ?_
        intro w3 hC3
        have L3 := Lib.hid (LW.out.below ((HC.out _).1 hC3))
        have B3 := Lib.hid (BW.out.below ((HC.out _).1 hC3))
        clear hC3 hC0 l0 k20 k21 k25 c0 c1 c2
        have T1 := Lib.hid (show decide (lowW m' < lowW m) = false by have := actW_low m x; rw [E.out]; exact decide_eq_false (by omega))
        have T2 := Lib.hid (show decide (ofW m' x.p < ofW m x.p) = false by have := actW_of m x x.p; rw [E.out]; exact decide_eq_false (by omega))
        have WF' := Lib.hid (show m'.Wf by rw [E.out]; exact L3.out.wf.act (by have := HS1.out; omega) x)
        have T3 := Lib.hid (show decide (m'.sent < ofW m' x.p) = false by have := ofW_le WF'.out x.p; exact decide_eq_false (by omega))
        have T4 := Lib.hid (show (m'.sent : Int) - (lowW m' : Int) ≤ max 1 (min size 64) by have := F1.out.1; have := F1.out.2.2; unfold Win.Tight at *; omega)
        have T5 := Lib.hid (show (lowW m' : Int) ≤ (m'.sent : Int) by have := lowW_le m'; omega)
        have T6 := Lib.hid (show lagW m' < 18446744073709551616 from lagL_lt _ _)
        have T7 := Lib.hid (show butN members (bitN me) < 18446744073709551616 from butN_lt HM.out _)
        have T8 := Lib.hid (show butN (lagW m') (butN members (bitN me)) = 0 by rw [← F1.out.2.1]; exact lag_in m')
        have b0 := B3.out.c0
        by_cases hp : x.p < 0
        · have b1 := B3.out.c1
          have E2 := Lib.hid (show m' = nextW m x.n by rw [E.out]; unfold actW; rw [if_pos hp])
          cases hr : roomW m x.n
          · have hv : nextV m x.n = .tuple #[.int .u32 0, .int .i64 6] := by unfold nextV; rw [hr]; rfl
            have E3 := Lib.hid (show m' = m by rw [E2.out]; unfold nextW; rw [hr]; rfl)
            clear hr
            go_wp2_with fail
            refine (next_any g m x.n hok.out.n w3 L3.out.tab L3.out.at_ L3.out.wf (by have := HS1.out; omega)).mono ?_
            rintro e w4 ⟨rfl, hw, hg⟩
            have L4 := Lib.hid (L3.out.grown hg (by rw [E2.out]; exact hw) WF'.out)
            have B4 := Lib.hid (B3.out.grown hg hne.out)
            clear hw hg
            go_wp2_with fail
            refine (sent_any g _ w4 L4.out.at_).mono ?_
            rintro e w' ⟨rfl, rfl⟩
            have e3 : m'.sent = m.sent := by rw [E3.out]
            have b4 := B4.out.c0
            go_wp2_with fail
            clear e3 hv b4 b1 b0
            have t1 := T1.out
            have t2 := T2.out
            have t3 := T3.out
            have b4 := B4.out.c0
            go_wp2_with fail
            refine (low_any g _ w4 L4.out.tab L4.out.at_ L4.out.wf).mono ?_
            rintro e w5 ⟨rfl, hb⟩
            have L5 := Lib.hid (L4.out.below hb)
            have B5 := Lib.hid (B4.out.below hb)
            clear hb
            have b5 := B5.out.c0
            go_wp2_with fail
            refine (of_any g _ x.p w5 L5.out.at_ L5.out.wf).mono ?_
            rintro e w' ⟨rfl, rfl⟩
            go_wp2_with fail
            refine (of_any g _ x.p w5 L5.out.at_ L5.out.wf).mono ?_
            rintro e w' ⟨rfl, rfl⟩
            go_wp2_with fail
            refine (sent_any g _ w5 L5.out.at_).mono ?_
            rintro e w' ⟨rfl, rfl⟩
            go_wp2_with fail
            refine (sent_any g _ w5 L5.out.at_).mono ?_
            rintro e w' ⟨rfl, rfl⟩
            go_wp2_with fail
            refine (low_any g _ w5 L5.out.tab L5.out.at_ L5.out.wf).mono ?_
            rintro e w6 ⟨rfl, hb⟩
            have L6 := Lib.hid (L5.out.below hb)
            clear hb b4 b5 t1 t2 t3
            have t4 := T4.out
            have t5 := T5.out
            have t7 : ((m'.sent : Int) - (lowW m' : Int)) % 4294967296 = (m'.sent : Int) - (lowW m' : Int) := by omega
            have t8 := lag_low_bool m'
            go_wp2_with fail
            all_goals
              refine (lag_any g _ w6 L6.out.tab L6.out.at_ L6.out.wf).mono ?_
              rintro e w7 ⟨rfl, hb⟩
              have L7 := Lib.hid (L6.out.below hb)
              clear hb
              go_wp2_with fail
              refine (low_any g _ w7 L7.out.tab L7.out.at_ L7.out.wf).mono ?_
              rintro e w8 ⟨rfl, hb⟩
              have L8 := Lib.hid (L7.out.below hb)
              clear hb
              go_wp2_with fail
              refine (sent_any g _ w8 L8.out.at_).mono ?_
              rintro e w' ⟨rfl, rfl⟩
              go_wp2_with fail
              refine (lag_any g _ w8 L8.out.tab L8.out.at_ L8.out.wf).mono ?_
              rintro e w9 ⟨rfl, hb⟩
              have L9 := Lib.hid (L8.out.below hb)
              clear hb
              go_wp2_with fail
              refine (in_any _ _ T6.out T7.out w9).mono ?_
              rintro e w' ⟨rfl, rfl⟩
              have t9 := T8.out
              go_wp2_with fail
              exact ⟨⟨k + 1, by omega, by go_num, by rw [HM'.out]; exact L9.out⟩, by simp [intOf]; omega⟩
          · have hv : nextV m x.n = .tuple #[.int .u32 ((m.sent : Int) + 1), .int .i64 0] := by unfold nextV; rw [hr]; rfl
            have hs3 : (m.sent : Int) + 1 < 4294967296 := by have := HS1.out; omega
            clear hr
            go_wp2_with fail
            refine (next_any g m x.n hok.out.n w3 L3.out.tab L3.out.at_ L3.out.wf (by have := HS1.out; omega)).mono ?_
            rintro e w4 ⟨rfl, hw, hg⟩
            have L4 := Lib.hid (L3.out.grown hg (by rw [E2.out]; exact hw) WF'.out)
            have B4 := Lib.hid (B3.out.grown hg hne.out)
            clear hw hg
            have b4 := B4.out.c0
            go_wp2_with fail
            clear hs3 hv b4 b1 b0
            have t1 := T1.out
            have t2 := T2.out
            have t3 := T3.out
            have b4 := B4.out.c0
            go_wp2_with fail
            refine (low_any g _ w4 L4.out.tab L4.out.at_ L4.out.wf).mono ?_
            rintro e w5 ⟨rfl, hb⟩
            have L5 := Lib.hid (L4.out.below hb)
            have B5 := Lib.hid (B4.out.below hb)
            clear hb
            have b5 := B5.out.c0
            go_wp2_with fail
            refine (of_any g _ x.p w5 L5.out.at_ L5.out.wf).mono ?_
            rintro e w' ⟨rfl, rfl⟩
            go_wp2_with fail
            refine (of_any g _ x.p w5 L5.out.at_ L5.out.wf).mono ?_
            rintro e w' ⟨rfl, rfl⟩
            go_wp2_with fail
            refine (sent_any g _ w5 L5.out.at_).mono ?_
            rintro e w' ⟨rfl, rfl⟩
            go_wp2_with fail
            refine (sent_any g _ w5 L5.out.at_).mono ?_
            rintro e w' ⟨rfl, rfl⟩
            go_wp2_with fail
            refine (low_any g _ w5 L5.out.tab L5.out.at_ L5.out.wf).mono ?_
            rintro e w6 ⟨rfl, hb⟩
            have L6 := Lib.hid (L5.out.below hb)
            clear hb b4 b5 t1 t2 t3
            have t4 := T4.out
            have t5 := T5.out
            have t7 : ((m'.sent : Int) - (lowW m' : Int)) % 4294967296 = (m'.sent : Int) - (lowW m' : Int) := by omega
            have t8 := lag_low_bool m'
            go_wp2_with fail
            all_goals
              refine (lag_any g _ w6 L6.out.tab L6.out.at_ L6.out.wf).mono ?_
              rintro e w7 ⟨rfl, hb⟩
              have L7 := Lib.hid (L6.out.below hb)
              clear hb
              go_wp2_with fail
              refine (low_any g _ w7 L7.out.tab L7.out.at_ L7.out.wf).mono ?_
              rintro e w8 ⟨rfl, hb⟩
              have L8 := Lib.hid (L7.out.below hb)
              clear hb
              go_wp2_with fail
              refine (sent_any g _ w8 L8.out.at_).mono ?_
              rintro e w' ⟨rfl, rfl⟩
              go_wp2_with fail
              refine (lag_any g _ w8 L8.out.tab L8.out.at_ L8.out.wf).mono ?_
              rintro e w9 ⟨rfl, hb⟩
              have L9 := Lib.hid (L8.out.below hb)
              clear hb
              go_wp2_with fail
              refine (in_any _ _ T6.out T7.out w9).mono ?_
              rintro e w' ⟨rfl, rfl⟩
              have t9 := T8.out
              go_wp2_with fail
              exact ⟨⟨k + 1, by omega, by go_num, by rw [HM'.out]; exact L9.out⟩, by simp [intOf]; omega⟩
        · have b1 := B3.out.c2
          have hp' : 0 ≤ x.p := by omega
          have E2 := Lib.hid (show m' = gotW m x.p x.s by rw [E.out]; unfold actW; rw [if_neg hp])
          clear hp
          go_wp2_with fail
          refine (got_any g m x.p x.s w3 L3.out.at_ L3.out.wf).mono ?_
          rintro e w4 ⟨rfl, hw, hg⟩
          have L4 := Lib.hid (L3.out.grown hg (by rw [E2.out]; exact hw) WF'.out)
          have B4 := Lib.hid (B3.out.grown hg hne.out)
          clear hw hg
          have t1 := T1.out
          have t2 := T2.out
          have t3 := T3.out
          have b4 := B4.out.c0
          go_wp2_with fail
          refine (low_any g _ w4 L4.out.tab L4.out.at_ L4.out.wf).mono ?_
          rintro e w5 ⟨rfl, hb⟩
          have L5 := Lib.hid (L4.out.below hb)
          have B5 := Lib.hid (B4.out.below hb)
          clear hb
          have b5 := B5.out.c0
          go_wp2_with fail
          refine (of_any g _ x.p w5 L5.out.at_ L5.out.wf).mono ?_
          rintro e w' ⟨rfl, rfl⟩
          go_wp2_with fail
          refine (of_any g _ x.p w5 L5.out.at_ L5.out.wf).mono ?_
          rintro e w' ⟨rfl, rfl⟩
          go_wp2_with fail
          refine (sent_any g _ w5 L5.out.at_).mono ?_
          rintro e w' ⟨rfl, rfl⟩
          go_wp2_with fail
          refine (sent_any g _ w5 L5.out.at_).mono ?_
          rintro e w' ⟨rfl, rfl⟩
          go_wp2_with fail
          refine (low_any g _ w5 L5.out.tab L5.out.at_ L5.out.wf).mono ?_
          rintro e w6 ⟨rfl, hb⟩
          have L6 := Lib.hid (L5.out.below hb)
          clear hb b4 b5 t1 t2 t3
          have t4 := T4.out
          have t5 := T5.out
          have t7 : ((m'.sent : Int) - (lowW m' : Int)) % 4294967296 = (m'.sent : Int) - (lowW m' : Int) := by omega
          have t8 := lag_low_bool m'
          go_wp2_with fail
          all_goals
            refine (lag_any g _ w6 L6.out.tab L6.out.at_ L6.out.wf).mono ?_
            rintro e w7 ⟨rfl, hb⟩
            have L7 := Lib.hid (L6.out.below hb)
            clear hb
            go_wp2_with fail
            refine (low_any g _ w7 L7.out.tab L7.out.at_ L7.out.wf).mono ?_
            rintro e w8 ⟨rfl, hb⟩
            have L8 := Lib.hid (L7.out.below hb)
            clear hb
            go_wp2_with fail
            refine (sent_any g _ w8 L8.out.at_).mono ?_
            rintro e w' ⟨rfl, rfl⟩
            go_wp2_with fail
            refine (lag_any g _ w8 L8.out.tab L8.out.at_ L8.out.wf).mono ?_
            rintro e w9 ⟨rfl, hb⟩
            have L9 := Lib.hid (L8.out.below hb)
            clear hb
            go_wp2_with fail
            refine (in_any _ _ T6.out T7.out w9).mono ?_
            rintro e w' ⟨rfl, rfl⟩
            have t9 := T8.out
            go_wp2_with fail
            exact ⟨⟨k + 1, by omega, by go_num, by rw [HM'.out]; exact L9.out⟩, by simp [intOf]; omega⟩
      · go_wp2
        go_ret
        exact ⟨rfl, L2.out.bel⟩
end Go.Proofs.YtjokfjdbioeohaaDoor

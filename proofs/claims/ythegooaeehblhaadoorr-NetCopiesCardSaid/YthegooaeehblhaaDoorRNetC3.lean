/-
  Package net: act, with what it leaves of other memory.
-/
import Derived.Test.YthegooaeehblhaaDoorRNetC2
namespace Go.Proofs.YthegooaeehblhaaDoorR
open Go.RowKit Go.BigFrame
set_option maxHeartbeats 1000000
set_option maxRecDepth 100000
theorem moves_below {w W : World} {rb rb' : Option Nat} (hb : Below w.heap.size w W) (h : Moves W rb rb') : Moves w rb rb' := by
  rcases h with h | ⟨k, h, hk⟩
  · exact .inl h
  · exact .inr ⟨k, h, Nat.le_trans hb.size hk⟩
theorem post_own {w : World} {B g : Nat} {t' : Nt} {rb : Option Nat} {f : FuncId} {args : Array Value} {v : Value} (h : Calls Tryd.prog f args w fun e w' => e = .returned v ∧ NetAt w' B g t' rb ∧ w.grownBy w' (some g)) : Calls Tryd.prog f args w (ActPost w B g rb t' v) :=
  h.mono fun _ _ ⟨he, hn, hg⟩ => ⟨rb, he, hn, Chg.of_grown hg rb, .inl rfl⟩
theorem act_chg {w : World} {B g : Nat} {t : Nt} {rb : Option Nat} (h : NetAt w B g t rb) (wf : t.Wf) (hB : B ≤ w.heap.size) (hT : TabOk w) (x : NAct) (hs : x.s < 18446744073709551616) :
    Calls Tryd.prog 15 #[.pointer (some ⟨g, 0, none⟩), .agg x.vals.toArray] w (ActPost w B g rb (actN t x) (.tuple #[])) := by
  obtain ⟨X, hX⟩ : ∃ X, w.heap.size = X := ⟨_, rfl⟩
  obtain ⟨W, hW⟩ : ∃ W : World, w.alloc (.cells x.vals.toArray 37) = W := ⟨_, rfl⟩
  have hu : Hid ((Tryd.prog.info? 35).map (·.size) = some (4 : Nat)) := Lib.hid size_dg
  have HBW := Lib.hid (show Below w.heap.size w W by rw [← hW]; exact bel_box _ _ _)
  have L := Lib.hid (h.below HBW.out)
  have WF := Lib.hid wf
  have HBB := Lib.hid (Nat.le_trans hB HBW.out.size)
  have HT := Lib.hid (hT.belowS HBW.out)
  have BX : BoxN W X x := by rw [← hW, ← hX]; exact heap_alloc_new w _
  have c0 := BX.c 0 (u := .int .i64 x.kind) rfl
  have c5 := BX.c 5 (u := .int .i64 x.i) rfl
  have c6 := BX.c 6 (u := .int .i64 x.at_) rfl
  have c7 := BX.c 7 (u := .int .u8 x.m.toNat) rfl
  have c8 := BX.c 8 (u := .int .u64 x.s) rfl
  have RD := Lib.hid BX.rd
  have HSS := Lib.hid hs
  clear BX h hs wf hB hT
  by_cases k0 : x.kind = 0
  · have b0 : (x.kind == 0) = true := beq_iff_eq.2 k0
    have E := Lib.hid (show actN t x = sendN t x.d by unfold actN; rw [if_pos k0])
    clear k0
    go_enter Tryd.func15, Tryd.ntmps15
    go_wp2_with (guard_target = wpList _ _ _ (Oper.mk _ (Op.load _ _) _ _ _ none :: _) _ _; refine wpList_load_mid rfl 35 _ rfl X 1 (by rfl) x.d.vals _ RD.out Tryd.underlying35 rfl hu.out ?_; simp only [Act.put, List.setIfInBounds_toArray, List.set_cons_zero, List.set_cons_succ])
    refine (send_any L.out WF.out HBB.out x.d).mono ?_
    rintro e w1 ⟨rb', rfl, h1, h2, h3⟩
    have L1 := Lib.hid h1
    have L2 := Lib.hid ((Chg.of_below HBW.out g rb).trans h2 (.inl rfl))
    have L3 := Lib.hid (moves_below HBW.out h3)
    clear h1 h2 h3
    go_wp2_with fail
    go_end0
    exact ⟨rb', rfl, by rw [E.out]; exact L1.out, L2.out, L3.out⟩
  have b0 : (x.kind == 0) = false := beq_eq_false_iff_ne.2 k0
  by_cases k1 : x.kind = 1
  · have b1 : (x.kind == 1) = true := beq_iff_eq.2 k1
    have E := Lib.hid (show actN t x = dropN t x.i by unfold actN; rw [if_neg k0, if_pos k1])
    clear k0 k1
    go_enter Tryd.func15, Tryd.ntmps15
    go_wp2_with (guard_target = wpList _ _ _ (Oper.mk _ (Op.load _ _) _ _ _ none :: _) _ _; refine wpList_load_mid rfl 35 _ rfl X 1 (by rfl) x.d.vals _ RD.out Tryd.underlying35 rfl hu.out ?_; simp only [Act.put, List.setIfInBounds_toArray, List.set_cons_zero, List.set_cons_succ])
    refine (take_any L.out WF.out x.i).mono ?_
    rintro e w1 ⟨rb', rfl, h1, h2, h3⟩
    have L1 := Lib.hid h1
    have L2 := Lib.hid ((Chg.of_below HBW.out g rb).trans h2 (.inl rfl))
    have L3 := Lib.hid (moves_below HBW.out h3)
    clear h1 h2 h3
    go_wp2_with fail
    go_end0
    exact ⟨rb', rfl, by rw [E.out]; exact L1.out, L2.out, L3.out⟩
  have b1 : (x.kind == 1) = false := beq_eq_false_iff_ne.2 k1
  by_cases k2 : x.kind = 2
  · have b2 : (x.kind == 2) = true := beq_iff_eq.2 k2
    have E := Lib.hid (show actN t x = dropN t x.i by unfold actN; rw [if_neg k0, if_neg k1, if_pos k2])
    clear k0 k1 k2
    go_enter Tryd.func15, Tryd.ntmps15
    go_wp2_with (guard_target = wpList _ _ _ (Oper.mk _ (Op.load _ _) _ _ _ none :: _) _ _; refine wpList_load_mid rfl 35 _ rfl X 1 (by rfl) x.d.vals _ RD.out Tryd.underlying35 rfl hu.out ?_; simp only [Act.put, List.setIfInBounds_toArray, List.set_cons_zero, List.set_cons_succ])
    refine (drop_any L.out WF.out x.i).mono ?_
    rintro e w1 ⟨rb', rfl, h1, h2, h3⟩
    have L1 := Lib.hid h1
    have L2 := Lib.hid ((Chg.of_below HBW.out g rb).trans h2 (.inl rfl))
    have L3 := Lib.hid (moves_below HBW.out h3)
    clear h1 h2 h3
    go_wp2_with fail
    go_end0
    exact ⟨rb', rfl, by rw [E.out]; exact L1.out, L2.out, L3.out⟩
  have b2 : (x.kind == 2) = false := beq_eq_false_iff_ne.2 k2
  by_cases k3 : x.kind = 3
  · have b3 : (x.kind == 3) = true := beq_iff_eq.2 k3
    have E := Lib.hid (show actN t x = dblN t x.i by unfold actN; rw [if_neg k0, if_neg k1, if_neg k2, if_pos k3])
    clear k0 k1 k2 k3
    go_enter Tryd.func15, Tryd.ntmps15
    go_wp2_with (guard_target = wpList _ _ _ (Oper.mk _ (Op.load _ _) _ _ _ none :: _) _ _; refine wpList_load_mid rfl 35 _ rfl X 1 (by rfl) x.d.vals _ RD.out Tryd.underlying35 rfl hu.out ?_; simp only [Act.put, List.setIfInBounds_toArray, List.set_cons_zero, List.set_cons_succ])
    refine (double_any L.out WF.out HBB.out x.i).mono ?_
    rintro e w1 ⟨rb', rfl, h1, h2, h3⟩
    have L1 := Lib.hid h1
    have L2 := Lib.hid ((Chg.of_below HBW.out g rb).trans h2 (.inl rfl))
    have L3 := Lib.hid (moves_below HBW.out h3)
    clear h1 h2 h3
    go_wp2_with fail
    go_end0
    exact ⟨rb', rfl, by rw [E.out]; exact L1.out, L2.out, L3.out⟩
  have b3 : (x.kind == 3) = false := beq_eq_false_iff_ne.2 k3
  by_cases k4 : x.kind = 4
  · have b4 : (x.kind == 4) = true := beq_iff_eq.2 k4
    have E := Lib.hid (show actN t x = turnN t x.i x.at_ x.m by unfold actN; rw [if_neg k0, if_neg k1, if_neg k2, if_neg k3, if_pos k4])
    clear k0 k1 k2 k3 k4
    go_enter Tryd.func15, Tryd.ntmps15
    go_wp2_with (guard_target = wpList _ _ _ (Oper.mk _ (Op.load _ _) _ _ _ none :: _) _ _; refine wpList_load_mid rfl 35 _ rfl X 1 (by rfl) x.d.vals _ RD.out Tryd.underlying35 rfl hu.out ?_; simp only [Act.put, List.setIfInBounds_toArray, List.set_cons_zero, List.set_cons_succ])
    refine (turn_any L.out WF.out x.i x.at_ x.m).mono ?_
    rintro e w1 ⟨rb', rfl, h1, h2, h3⟩
    have L1 := Lib.hid h1
    have L2 := Lib.hid ((Chg.of_below HBW.out g rb).trans h2 (.inl rfl))
    have L3 := Lib.hid (moves_below HBW.out h3)
    clear h1 h2 h3
    go_wp2_with fail
    go_end0
    exact ⟨rb', rfl, by rw [E.out]; exact L1.out, L2.out, L3.out⟩
  have b4 : (x.kind == 4) = false := beq_eq_false_iff_ne.2 k4
  by_cases k5 : x.kind = 5
  · have b5 : (x.kind == 5) = true := beq_iff_eq.2 k5
    have E := Lib.hid (show actN t x = cutN t x.s by unfold actN; rw [if_neg k0, if_neg k1, if_neg k2, if_neg k3, if_neg k4, if_pos k5])
    clear k0 k1 k2 k3 k4 k5
    go_enter Tryd.func15, Tryd.ntmps15
    go_wp2_with (guard_target = wpList _ _ _ (Oper.mk _ (Op.load _ _) _ _ _ none :: _) _ _; refine wpList_load_mid rfl 35 _ rfl X 1 (by rfl) x.d.vals _ RD.out Tryd.underlying35 rfl hu.out ?_; simp only [Act.put, List.setIfInBounds_toArray, List.set_cons_zero, List.set_cons_succ])
    refine (post_own (cut_any L.out WF.out HT.out x.s HSS.out)).mono ?_
    rintro e w1 ⟨rb', rfl, h1, h2, h3⟩
    have L1 := Lib.hid h1
    have L2 := Lib.hid ((Chg.of_below HBW.out g rb).trans h2 (.inl rfl))
    have L3 := Lib.hid (moves_below HBW.out h3)
    clear h1 h2 h3
    go_wp2_with fail
    go_end0
    exact ⟨rb', rfl, by rw [E.out]; exact L1.out, L2.out, L3.out⟩
  have b5 : (x.kind == 5) = false := beq_eq_false_iff_ne.2 k5
  by_cases k6 : x.kind = 6
  · have b6 : (x.kind == 6) = true := beq_iff_eq.2 k6
    have E := Lib.hid (show actN t x = healN t by unfold actN; rw [if_neg k0, if_neg k1, if_neg k2, if_neg k3, if_neg k4, if_neg k5, if_pos k6])
    clear k0 k1 k2 k3 k4 k5 k6
    go_enter Tryd.func15, Tryd.ntmps15
    go_wp2_with (guard_target = wpList _ _ _ (Oper.mk _ (Op.load _ _) _ _ _ none :: _) _ _; refine wpList_load_mid rfl 35 _ rfl X 1 (by rfl) x.d.vals _ RD.out Tryd.underlying35 rfl hu.out ?_; simp only [Act.put, List.setIfInBounds_toArray, List.set_cons_zero, List.set_cons_succ])
    refine (post_own (heal_any L.out WF.out HT.out)).mono ?_
    rintro e w1 ⟨rb', rfl, h1, h2, h3⟩
    have L1 := Lib.hid h1
    have L2 := Lib.hid ((Chg.of_below HBW.out g rb).trans h2 (.inl rfl))
    have L3 := Lib.hid (moves_below HBW.out h3)
    clear h1 h2 h3
    go_wp2_with fail
    go_end0
    exact ⟨rb', rfl, by rw [E.out]; exact L1.out, L2.out, L3.out⟩
  have b6 : (x.kind == 6) = false := beq_eq_false_iff_ne.2 k6
  have E := Lib.hid (show actN t x = t by unfold actN; rw [if_neg k0, if_neg k1, if_neg k2, if_neg k3, if_neg k4, if_neg k5, if_neg k6])
  clear k0 k1 k2 k3 k4 k5 k6
  go_enter Tryd.func15, Tryd.ntmps15
  go_wp2
  go_end0
  exact ⟨rb, rfl, by rw [E.out]; exact L.out, Chg.of_below HBW.out g rb, .inl rfl⟩
end Go.Proofs.YthegooaeehblhaaDoorR

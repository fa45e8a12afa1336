/-
  NetTrue: the walk: for every n and script the law returns true.
-/
import Derived.Test.YthegooaeehblhaaDoorRNetTrueP
import Derived.Test.YthegooaeehblhaaDoorRQuietB
namespace Go.Proofs.YthegooaeehblhaaDoorR
open Go.RowKit Go.BigFrame
set_option maxHeartbeats 1000000
set_option maxRecDepth 100000
theorem untorn_box {w w' : World} {B : Nat} {x : NAct} (h : BoxN w B x) (hw : w.setCell ⟨B, 4, none⟩ (.bool false) = w') : BoxN w' B (untorn x) := by
  subst hw
  exact rowCell h 4 _
theorem take_cond {l : List NAct} {k : Nat} {d : Dg} (hk : k < l.length) (h : ∀ x ∈ l.take k, cond x d = false) (h1 : cond l[k] d = false) : ∀ x ∈ l.take (k + 1), cond x d = false := by
  rw [← List.take_append_getElem hk]
  intro x hx
  rcases List.mem_append.1 hx with hx | hx
  · exact h x hx
  · rw [List.mem_singleton.1 hx]; exact h1
theorem cond_at {l : List NAct} {k : Nat} {x : NAct} {d : Dg} (h : k < l.length) (hx : l[k] = x) (hc : cond x d = false) : cond l[k] d = false := by rw [hx]; exact hc
theorem takeO_ok {t : Nt} {i : Int} {d : Dg} (h : takeO t i = (d, true)) : d ∈ t.l ∧ linkN (dropN t i) d.frm d.to_ = true := by
  unfold takeO at h
  split at h
  · rename_i hc
    rw [Bool.and_eq_true] at hc
    have e := (Prod.mk.inj h).1
    unfold thereN at hc
    simp only [Bool.and_eq_true, decide_eq_true_eq] at hc
    rw [linkN_drop, ← e]
    refine ⟨?_, hc.2⟩
    rw [List.getD_eq_getElem?_getD, List.getElem?_eq_getElem (by omega)]
    exact List.getElem_mem _
  · cases (Prod.mk.inj h).2
theorem quiet_eql_int {P : Program} {C : World → Prop} {o : Oper} {a : Act} {Kn : Act → Prop} {K : Bool} {u v : Int} (t t' : TypeId) (x y : Operand) (ho : o.op = .binOp .eql t x y t') (hx : a.eval x = .int .i64 u) (hy : a.eval y = .int .i64 v) (hb : (u == v) = K) (hk : Kn (a.put o.dst (.bool K))) : o.quiet P a C Kn :=
  quiet_free (fun w => by
    unfold execOp
    simp only [ho, hx, hy]
    go_simp) hk
theorem rd_of {w : World} {b o : Nat} {x : NAct} (h : w.rangeAt b o x.vals) : w.rangeAt b (o + 1) x.d.vals := by
  intro j v hv
  have hj : j < 4 := (List.getElem?_eq_some_iff.1 hv).1
  have e : o + 1 + j = o + (1 + j) := by omega
  rw [e]
  refine h (1 + j) v ?_
  match j, hj with
  | 0, _ => exact hv
  | 1, _ => exact hv
  | 2, _ => exact hv
  | 3, _ => exact hv
theorem true_walk (n : Int) (l : List NAct) (v : Value) (a : Option Addr) (c b o : Nat) (w : World) (hT : TabOk w) (hA : NActsAt w v l a c b o) :
    Calls Tryd.prog 4 #[.int .i64 n, v] w fun e w' => e = .returned (.bool true) ∧ Below w.heap.size w w' := by
  obtain rfl := hA.v
  have hz := zero_dg
  have hz2 := zero_nact
  have hua : Hid ((Tryd.prog.info? 37).map (·.size) = some (9 : Nat)) := Lib.hid size_nact
  have hu : Hid ((Tryd.prog.info? 35).map (·.size) = some (4 : Nat)) := Lib.hid size_dg
  have HT := Lib.hid hT
  have HW := Lib.hid (awake_any w hT)
  have HS := Lib.hid hA
  clear hT hA
  go_enter Tryd.func4, Tryd.ntmps4
  go_wp2_with fail
  refine HW.out.mono ?_
  rintro e w1 ⟨rfl, hb⟩
  have HB := Lib.hid hb
  clear hb
  go_wp2_with fail
  refine (few_any l _ a c b o w1 (HS.out.below rfl HB.out)).mono ?_
  rintro e w2 ⟨r, rfl, rfl, hr⟩
  cases r with
  | false =>
    clear hr
    go_wp2_with fail
    go_ret
    exact ⟨rfl, HB.out⟩
  | true =>
  have h4 : (l.length : Int) ≤ 400 := by have := hr rfl; omega
  clear hr
  go_wp2_with fail
  refine (Nk.make (w0 := w) HT.out HB.out n).mono ?_
  rintro e w2 ⟨g, rfl, hL⟩
  have L0 := Lib.hid hL
  have S0 := Lib.hid (show Sent l 0 (newN n) from fun d hd => by
    rw [show (newN n).l = [] from (healL_keeps _ _ _).2.1] at hd
    cases hd)
  clear hL
  go_wp2_with fail
  go_loopw [6] (fun i wr => ∃ (k : Nat) (t : Nt), k ≤ l.length ∧ i = .int .i64 k ∧ Nk w wr g t ∧ Sent l k t) (fun i _ => l.length - (intOf i).toNat)
  case atStart => exact ⟨0, _, Nat.zero_le _, rfl, L0.out, S0.out⟩
  case round =>
    obtain ⟨k, t, hk, rfl, hL, hSent⟩ := hrel
    have L2 := Lib.hid hL
    have SN := Lib.hid hSent
    clear hL hSent
    by_cases hlt : k < l.length
    · have hkl' : (k : Int) < (l.length : Int) := by omega
      obtain ⟨rfl, _⟩ := HS.out.a (by omega)
      obtain ⟨x, hx⟩ : ∃ x, l[k] = x := ⟨_, rfl⟩
      have hok := HS.out.ok _ (List.getElem_mem hlt)
      rw [hx] at hok
      have HOK := Lib.hid hok
      have HXV := Lib.hid (show wr.rangeAt b (o + k * 9) x.vals by rw [← hx]; exact (HS.out.below rfl L2.out.bel).x k hlt)
      have NX := Lib.hid (show Sent l (k + 1) (actN t (untorn x)) by rw [← hx]; exact SN.out.next hlt)
      clear hx hok
      obtain ⟨B, hB⟩ : ∃ B, wr.heap.size = B := ⟨_, rfl⟩
      go_upto_region 10 with (first
        | (guard_target = wpList _ _ _ (Oper.mk _ (Op.load _ _) _ _ _ none :: _) _ _; refine wpList_load_mid rfl 37 _ rfl b (o + k * 9) (by rfl) x.vals _ HXV.out Tryd.underlying37 rfl hua.out ?_; simp only [Act.put, List.setIfInBounds_toArray, List.set_cons_zero, List.set_cons_succ])
        | (guard_target = wpList _ _ _ (Oper.mk none (Op.store _ _ _) _ _ _ none :: _) _ _; refine wpList_store_row rfl 37 _ _ rfl B (by rfl) x.vals.toArray (by rfl) NAct.zero.vals.toArray 37 (by rw [← hB]; exact heap_alloc_new _ _) rfl hua.out x.oneL ?_; intro w3 hw3 hg3))
      have hb3 : Below wr.heap.size wr w3 := bel_new (hB ▸ hg3)
      have BX3 : BoxN w3 B x := hw3
      have c4 : w3.cell? ⟨B, 4, none⟩ = some (.bool x.d.torn) := BX3.c 4 rfl
      have f4 : w3.frozen? ⟨B, 4, none⟩ = false := by simp [World.frozen?, hw3]
      obtain ⟨W, hW⟩ : ∃ W, w3.setCell ⟨B, 4, none⟩ (.bool false) = W := ⟨_, rfl⟩
      have BW := Lib.hid (untorn_box BX3 hW)
      have hgW : w3.grownBy W (some B) := by rw [← hW]; exact grown_set (grown_of_below (Below.refl _ _) B) _ _
      have HBW := Lib.hid (show Below wr.heap.size wr W from ⟨hgW.os.trans hb3.os, hgW.tape.trans hb3.tape, hgW.output.trans hb3.output, Nat.le_trans hb3.size hgW.size, fun q hq => by
        rw [hgW.block q (Nat.lt_of_lt_of_le hq hb3.size) (by intro e; have := Option.some.inj e; omega)]; exact hb3.block q hq⟩)
      have L3 := Lib.hid (L2.out.below HBW.out)
      clear hw3 hg3 hb3 BX3 hgW
      go_upto_region 11 with fail
      clear c4 f4 hW hB
      obtain ⟨y, hy⟩ : ∃ y, untorn x = y := ⟨_, rfl⟩
      rw [hy] at BW NX
      have hys : y.s < 18446744073709551616 ∧ y.d.data.length ≤ 9223372036854775807 := by rw [← hy]; exact HOK.out
      have HYS := Lib.hid hys
      have k0 := BW.out.c 0 (u := .int .i64 y.kind) rfl
      have k5 := BW.out.c 5 (u := .int .i64 y.i) rfl
      clear hys hy
      by_cases hk1 : y.kind = 1
      · have e1 : (y.kind == 1) = true := beq_iff_eq.2 hk1
        have e2 : (y.kind != 1) = false := by unfold bne; rw [e1]; rfl
        have EN : actN t y = dropN t y.i := by unfold actN; rw [if_neg (by omega), if_pos hk1]
        rw [EN] at NX
        clear hk1 EN
        go_wp2_with fail
        refine (L3.out.take y.i).mono ?_
        rintro e w4 ⟨rfl, hL⟩
        have L4 := Lib.hid hL
        clear hL k0 k5 e1 e2
        obtain ⟨d, ok, hd⟩ : ∃ d ok, takeO t y.i = (d, ok) := ⟨_, _, rfl⟩
        unfold takeV
        rw [hd]
        obtain ⟨D, hD⟩ : ∃ D, w4.heap.size = D := ⟨_, rfl⟩
        go_upto_region 14 with (guard_target = wpList _ _ _ (Oper.mk none (Op.store _ _ _) _ _ _ none :: _) _ _; refine wpList_store_row rfl 35 _ _ rfl D (by rfl) d.vals.toArray (by rfl) Dg.zero.vals.toArray 35 (by rw [← hD]; exact heap_alloc_new _ _) rfl hu.out d.oneA ?_; intro w5 hw5 hg5)
        have L5 := Lib.hid (L4.out.below (bel_new (hD ▸ hg5)))
        have DB := Lib.hid (show w5.heap[D]? = some (.cells d.vals.toArray 35 (0, 0)) from hw5)
        clear hw5 hg5 hD
        cases ok with
        | false =>
          clear hd
          go_wp2
          exact ⟨⟨k + 1, _, by omega, by go_num, L5.out, NX.out⟩, by simp [intOf]; omega⟩
        | true =>
          have OK := Lib.hid (takeO_ok hd)
          have OC := Lib.hid (SN.out d OK.out.1)
          have hdl : d.data.length ≤ 9223372036854775807 := L2.out.wf.d d OK.out.1
          have HDL := Lib.hid hdl
          clear hd hdl
          go_wp2_with fail
          go_loopw [10, 11] (fun fd i wi => ∃ (k2 : Nat) (f : Bool), k2 ≤ k ∧ i = .int .i64 k2 ∧ fd = .bool f ∧ Below w5.heap.size w5 wi ∧ (f = false → ∀ x ∈ l.take k2, cond x d = false)) (fun _ i _ => k - (intOf i).toNat)
          case atStart => exact ⟨0, false, Nat.zero_le _, rfl, rfl, Below.refl _ _, fun _ x hx => by cases hx⟩
          case round =>
            obtain ⟨k2, f, hk2, rfl, rfl, hb, hall⟩ := hrel
            have HB2 := Lib.hid hb
            have HALL := Lib.hid hall
            clear hb hall
            cases f with
            | true =>
              have L6 := Lib.hid (L5.out.below HB2.out)
              have d0 : wr.cell? ⟨D, 0, none⟩ = some (.int .i64 d.frm) := by rw [cell_of_row wr D 0 _ _ _ (bblock HB2.out DB.out)]; rfl
              have d1 : wr.cell? ⟨D, 1, none⟩ = some (.int .i64 d.to_) := by rw [cell_of_row wr D 1 _ _ _ (bblock HB2.out DB.out)]; rfl
              by_cases hlt2 : k2 < k
              · have hkk : (k2 : Int) < (k : Int) := by omega
                go_wp2_with fail
                refine (L6.out.linked d.frm d.to_).mono ?_
                rintro e w7 ⟨rfl, hL⟩
                have L7 := Lib.hid hL
                rw [OK.out.2]
                clear hL d0 d1
                go_wp2
                exact ⟨⟨k + 1, _, by omega, by go_num, L7.out, NX.out⟩, by simp [intOf]; omega⟩
              · obtain rfl : k2 = k := by omega
                go_wp2_with fail
                refine (L6.out.linked d.frm d.to_).mono ?_
                rintro e w7 ⟨rfl, hL⟩
                have L7 := Lib.hid hL
                rw [OK.out.2]
                clear hL d0 d1
                go_wp2
                exact ⟨⟨k2 + 1, _, by omega, by go_num, L7.out, NX.out⟩, by simp [intOf]; omega⟩
            | false =>
            have HALL2 := Lib.hid (HALL.out rfl)
            clear HALL
            by_cases hlt2 : k2 < k
            · have hkk : (k2 : Int) < (k : Int) := by omega
              have hk2l : k2 < l.length := by omega
              have HK2 := Lib.hid hk2l
              have hkl2 : (k2 : Int) < (l.length : Int) := by omega
              obtain ⟨x2, hx2⟩ : ∃ x2, l[k2] = x2 := ⟨_, rfl⟩
              have HX2 := Lib.hid hx2
              have S6 := Lib.hid (HS.out.below rfl (bthen' L5.out.bel HB2.out))
              have RD := Lib.hid (show wr.rangeAt b (o + k2 * 9 + 1) x2.d.vals from rd_of (by rw [← hx2]; exact S6.out.x k2 hk2l))
              have hxl : x2.d.data.length ≤ 9223372036854775807 := by rw [← hx2]; exact (HS.out.ok _ (List.getElem_mem hk2l)).2
              have HXL := Lib.hid hxl
              clear hx2 hk2l hxl
              obtain ⟨E, hE⟩ : ∃ E, wr.heap.size = E := ⟨_, rfl⟩
              go_upto_region 20 with (first
                | (guard_target = wpList _ _ _ (Oper.mk _ (Op.load _ _) _ _ _ none :: _) _ _; refine wpList_load_mid rfl 35 _ rfl b (o + k2 * 9 + 1) (by rfl) x2.d.vals _ RD.out Tryd.underlying35 rfl hu.out ?_; simp only [Act.put, List.setIfInBounds_toArray, List.set_cons_zero, List.set_cons_succ])
                | (guard_target = wpList _ _ _ (Oper.mk none (Op.store _ _ _) _ _ _ none :: _) _ _; refine wpList_store_row rfl 35 _ _ rfl E (by rfl) x2.d.vals.toArray (by rfl) Dg.zero.vals.toArray 35 (by rw [← hE]; exact heap_alloc_new _ _) rfl hu.out x2.d.oneA ?_; intro w6 hw6 hg6))
              have HB6 := Lib.hid (bthen' HB2.out (bel_new (hE ▸ hg6)))
              have EB := Lib.hid (show w6.heap[E]? = some (.cells x2.d.vals.toArray 35 (0, 0)) from hw6)
              have s1 : w6.cell? ⟨E, 2, none⟩ = some (str x2.d.data) := by rw [cell_of_row w6 E 2 _ _ _ EB.out]; rfl
              have s2 : w6.cell? ⟨D, 2, none⟩ = some (str d.data) := by rw [cell_of_row w6 D 2 _ _ _ (bblock HB6.out DB.out)]; rfl
              clear hw6 hg6 hE
              go_wp2_with fail
              refine (differ_any x2.d.data d.data HXL.out HDL.out _).mono ?_
              rintro e w7 ⟨rfl, hb7⟩
              have HB7 := Lib.hid (bthen' HB6.out hb7)
              have EB7 := Lib.hid (bblock hb7 EB.out)
              have DB7 := Lib.hid (bblock HB7.out DB.out)
              have S7 := Lib.hid (HS.out.below rfl (bthen' L5.out.bel HB7.out))
              clear hb7 s1 s2
              have hc : cond x2 d = ((x2.kind == 0) && ((x2.d.frm == d.frm) && ((x2.d.to_ == d.to_) && ((gapN x2.d.data d.data == 0) && !d.torn || (gapN x2.d.data d.data == 1) && d.torn)))) := rfl
              obtain ⟨gp, hgp⟩ : ∃ gp, gapN x2.d.data d.data = gp := ⟨_, rfl⟩
              rw [hgp] at hc ⊢
              clear hgp
              go_upto_region 21 with fail
              obtain ⟨C, hC⟩ : ∃ C : World → Prop, ∀ w', C w' ↔ w' = w7 := ⟨_, fun _ => Iff.rfl⟩
              have hC0 : C w7 := (hC _).2 rfl
              have l0 := Lib.hid (fun w' (h : C w') => (show w'.cell? ⟨b, o + k2 * 9, none⟩ = some (.int .i64 x2.kind) by rw [(hC w').1 h]; exact S7.out.cell HK2.out HX2.out 0 rfl))
              have l1 := Lib.hid (fun w' (h : C w') => (show w'.cell? ⟨E, 0, none⟩ = some (.int .i64 x2.d.frm) by rw [(hC w').1 h, cell_of_row w7 E 0 _ _ _ EB7.out]; rfl))
              have l2 := Lib.hid (fun w' (h : C w') => (show w'.cell? ⟨E, 1, none⟩ = some (.int .i64 x2.d.to_) by rw [(hC w').1 h, cell_of_row w7 E 1 _ _ _ EB7.out]; rfl))
              have l3 := Lib.hid (fun w' (h : C w') => (show w'.cell? ⟨D, 0, none⟩ = some (.int .i64 d.frm) by rw [(hC w').1 h, cell_of_row w7 D 0 _ _ _ DB7.out]; rfl))
              have l4 := Lib.hid (fun w' (h : C w') => (show w'.cell? ⟨D, 1, none⟩ = some (.int .i64 d.to_) by rw [(hC w').1 h, cell_of_row w7 D 1 _ _ _ DB7.out]; rfl))
              have l5 := Lib.hid (fun w' (h : C w') => (show w'.cell? ⟨D, 3, none⟩ = some (.bool d.torn) by rw [(hC w').1 h, cell_of_row w7 D 3 _ _ _ DB7.out]; rfl))
              have HC := Lib.hid hC
              clear hC
              obtain ⟨TN, tn⟩ : ∃ TN, d.torn = TN := ⟨_, rfl⟩
              rw [tn] at hc l5
              obtain ⟨K, bk⟩ : ∃ K, (x2.kind == 0) = K := ⟨_, rfl⟩
              obtain ⟨F, bf⟩ : ∃ K, (x2.d.frm == d.frm) = K := ⟨_, rfl⟩
              obtain ⟨T, bt⟩ : ∃ K, (x2.d.to_ == d.to_) = K := ⟨_, rfl⟩
              obtain ⟨G0, b0⟩ : ∃ K, (gp == 0) = K := ⟨_, rfl⟩
              obtain ⟨G1, b1⟩ : ∃ K, (gp == 1) = K := ⟨_, rfl⟩
              rw [bk, bf, bt, b0, b1] at hc
              have HCN := Lib.hid hc
              clear hc tn
              cases K
              ·
                refine wp_region_plain (C := C) hC0 ?_
                dsimp only []
                repeat (first | go_big_quiet_skip | (go_big_quiet_want; first | (refine quiet_load _ _ (by rfl) ?_ _ (by rfl) (by first | exact l0.out | exact l1.out | exact l2.out | exact l3.out | exact l4.out | exact l5.out) ?_; (· intro w; simp); (simp only [Act.put, List.setIfInBounds_toArray, List.set_cons_zero, List.set_cons_succ]); go_big_quiet_on) | (refine quiet_eql_int _ _ _ _ (by rfl) (by rfl) (by rfl) bk ?_; (simp only [Act.put, List.setIfInBounds_toArray, List.set_cons_zero, List.set_cons_succ]); go_big_quiet_on) | (refine quiet_eql_int _ _ _ _ (by rfl) (by rfl) (by rfl) bf ?_; (simp only [Act.put, List.setIfInBounds_toArray, List.set_cons_zero, List.set_cons_succ]); go_big_quiet_on) | (refine quiet_eql_int _ _ _ _ (by rfl) (by rfl) (by rfl) bt ?_; (simp only [Act.put, List.setIfInBounds_toArray, List.set_cons_zero, List.set_cons_succ]); go_big_quiet_on) | (refine quiet_eql_int _ _ _ _ (by rfl) (by rfl) (by rfl) b0 ?_; (simp only [Act.put, List.setIfInBounds_toArray, List.set_cons_zero, List.set_cons_succ]); go_big_quiet_on) | (refine quiet_eql_int _ _ _ _ (by rfl) (by rfl) (by rfl) b1 ?_; (simp only [Act.put, List.setIfInBounds_toArray, List.set_cons_zero, List.set_cons_succ]); go_big_quiet_on) | (go_big_quiet_op; go_big_quiet_on) | (go_big_quiet_op; refine Exists.intro _ ⟨fun _ _ => rfl, ?_⟩; go_big_quiet_on)))
                refine wpQuiet_nil ?_
                intro w8 hC8
                obtain rfl := (HC.out _).1 hC8
                clear hC0 hC8 HC l0 l1 l2 l3 l4 l5
                go_wp2
                exact ⟨⟨k2 + 1, false, by omega, by go_num, by first | rfl | simp, HB7.out, by intro h; first | exact absurd h (by decide) | exact take_cond HK2.out HALL2.out (cond_at _ HX2.out (by rw [HCN.out]; first | rfl | simp))⟩, by simp [intOf]; omega⟩
              cases F
              ·
                refine wp_region_plain (C := C) hC0 ?_
                dsimp only []
                repeat (first | go_big_quiet_skip | (go_big_quiet_want; first | (refine quiet_load _ _ (by rfl) ?_ _ (by rfl) (by first | exact l0.out | exact l1.out | exact l2.out | exact l3.out | exact l4.out | exact l5.out) ?_; (· intro w; simp); (simp only [Act.put, List.setIfInBounds_toArray, List.set_cons_zero, List.set_cons_succ]); go_big_quiet_on) | (refine quiet_eql_int _ _ _ _ (by rfl) (by rfl) (by rfl) bk ?_; (simp only [Act.put, List.setIfInBounds_toArray, List.set_cons_zero, List.set_cons_succ]); go_big_quiet_on) | (refine quiet_eql_int _ _ _ _ (by rfl) (by rfl) (by rfl) bf ?_; (simp only [Act.put, List.setIfInBounds_toArray, List.set_cons_zero, List.set_cons_succ]); go_big_quiet_on) | (refine quiet_eql_int _ _ _ _ (by rfl) (by rfl) (by rfl) bt ?_; (simp only [Act.put, List.setIfInBounds_toArray, List.set_cons_zero, List.set_cons_succ]); go_big_quiet_on) | (refine quiet_eql_int _ _ _ _ (by rfl) (by rfl) (by rfl) b0 ?_; (simp only [Act.put, List.setIfInBounds_toArray, List.set_cons_zero, List.set_cons_succ]); go_big_quiet_on) | (refine quiet_eql_int _ _ _ _ (by rfl) (by rfl) (by rfl) b1 ?_; (simp only [Act.put, List.setIfInBounds_toArray, List.set_cons_zero, List.set_cons_succ]); go_big_quiet_on) | (go_big_quiet_op; go_big_quiet_on) | (go_big_quiet_op; refine Exists.intro _ ⟨fun _ _ => rfl, ?_⟩; go_big_quiet_on)))
                refine wpQuiet_nil ?_
                intro w8 hC8
                obtain rfl := (HC.out _).1 hC8
                clear hC0 hC8 HC l0 l1 l2 l3 l4 l5
                go_wp2
                exact ⟨⟨k2 + 1, false, by omega, by go_num, by first | rfl | simp, HB7.out, by intro h; first | exact absurd h (by decide) | exact take_cond HK2.out HALL2.out (cond_at _ HX2.out (by rw [HCN.out]; first | rfl | simp))⟩, by simp [intOf]; omega⟩
              cases T
              ·
                refine wp_region_plain (C := C) hC0 ?_
                dsimp only []
                repeat (first | go_big_quiet_skip | (go_big_quiet_want; first | (refine quiet_load _ _ (by rfl) ?_ _ (by rfl) (by first | exact l0.out | exact l1.out | exact l2.out | exact l3.out | exact l4.out | exact l5.out) ?_; (· intro w; simp); (simp only [Act.put, List.setIfInBounds_toArray, List.set_cons_zero, List.set_cons_succ]); go_big_quiet_on) | (refine quiet_eql_int _ _ _ _ (by rfl) (by rfl) (by rfl) bk ?_; (simp only [Act.put, List.setIfInBounds_toArray, List.set_cons_zero, List.set_cons_succ]); go_big_quiet_on) | (refine quiet_eql_int _ _ _ _ (by rfl) (by rfl) (by rfl) bf ?_; (simp only [Act.put, List.setIfInBounds_toArray, List.set_cons_zero, List.set_cons_succ]); go_big_quiet_on) | (refine quiet_eql_int _ _ _ _ (by rfl) (by rfl) (by rfl) bt ?_; (simp only [Act.put, List.setIfInBounds_toArray, List.set_cons_zero, List.set_cons_succ]); go_big_quiet_on) | (refine quiet_eql_int _ _ _ _ (by rfl) (by rfl) (by rfl) b0 ?_; (simp only [Act.put, List.setIfInBounds_toArray, List.set_cons_zero, List.set_cons_succ]); go_big_quiet_on) | (refine quiet_eql_int _ _ _ _ (by rfl) (by rfl) (by rfl) b1 ?_; (simp only [Act.put, List.setIfInBounds_toArray, List.set_cons_zero, List.set_cons_succ]); go_big_quiet_on) | (go_big_quiet_op; go_big_quiet_on) | (go_big_quiet_op; refine Exists.intro _ ⟨fun _ _ => rfl, ?_⟩; go_big_quiet_on)))
                refine wpQuiet_nil ?_
                intro w8 hC8
                obtain rfl := (HC.out _).1 hC8
                clear hC0 hC8 HC l0 l1 l2 l3 l4 l5
                go_wp2
                exact ⟨⟨k2 + 1, false, by omega, by go_num, by first | rfl | simp, HB7.out, by intro h; first | exact absurd h (by decide) | exact take_cond HK2.out HALL2.out (cond_at _ HX2.out (by rw [HCN.out]; first | rfl | simp))⟩, by simp [intOf]; omega⟩
              cases G0
              · cases G1
                ·
                  refine wp_region_plain (C := C) hC0 ?_
                  dsimp only []
                  repeat (first | go_big_quiet_skip | (go_big_quiet_want; first | (refine quiet_load _ _ (by rfl) ?_ _ (by rfl) (by first | exact l0.out | exact l1.out | exact l2.out | exact l3.out | exact l4.out | exact l5.out) ?_; (· intro w; simp); (simp only [Act.put, List.setIfInBounds_toArray, List.set_cons_zero, List.set_cons_succ]); go_big_quiet_on) | (refine quiet_eql_int _ _ _ _ (by rfl) (by rfl) (by rfl) bk ?_; (simp only [Act.put, List.setIfInBounds_toArray, List.set_cons_zero, List.set_cons_succ]); go_big_quiet_on) | (refine quiet_eql_int _ _ _ _ (by rfl) (by rfl) (by rfl) bf ?_; (simp only [Act.put, List.setIfInBounds_toArray, List.set_cons_zero, List.set_cons_succ]); go_big_quiet_on) | (refine quiet_eql_int _ _ _ _ (by rfl) (by rfl) (by rfl) bt ?_; (simp only [Act.put, List.setIfInBounds_toArray, List.set_cons_zero, List.set_cons_succ]); go_big_quiet_on) | (refine quiet_eql_int _ _ _ _ (by rfl) (by rfl) (by rfl) b0 ?_; (simp only [Act.put, List.setIfInBounds_toArray, List.set_cons_zero, List.set_cons_succ]); go_big_quiet_on) | (refine quiet_eql_int _ _ _ _ (by rfl) (by rfl) (by rfl) b1 ?_; (simp only [Act.put, List.setIfInBounds_toArray, List.set_cons_zero, List.set_cons_succ]); go_big_quiet_on) | (go_big_quiet_op; go_big_quiet_on) | (go_big_quiet_op; refine Exists.intro _ ⟨fun _ _ => rfl, ?_⟩; go_big_quiet_on)))
                  refine wpQuiet_nil ?_
                  intro w8 hC8
                  obtain rfl := (HC.out _).1 hC8
                  clear hC0 hC8 HC l0 l1 l2 l3 l4 l5
                  go_wp2
                  exact ⟨⟨k2 + 1, false, by omega, by go_num, by first | rfl | simp, HB7.out, by intro h; first | exact absurd h (by decide) | exact take_cond HK2.out HALL2.out (cond_at _ HX2.out (by rw [HCN.out]; first | rfl | simp))⟩, by simp [intOf]; omega⟩
                cases TN
                ·
                  refine wp_region_plain (C := C) hC0 ?_
                  dsimp only []
                  repeat (first | go_big_quiet_skip | (go_big_quiet_want; first | (refine quiet_load _ _ (by rfl) ?_ _ (by rfl) (by first | exact l0.out | exact l1.out | exact l2.out | exact l3.out | exact l4.out | exact l5.out) ?_; (· intro w; simp); (simp only [Act.put, List.setIfInBounds_toArray, List.set_cons_zero, List.set_cons_succ]); go_big_quiet_on) | (refine quiet_eql_int _ _ _ _ (by rfl) (by rfl) (by rfl) bk ?_; (simp only [Act.put, List.setIfInBounds_toArray, List.set_cons_zero, List.set_cons_succ]); go_big_quiet_on) | (refine quiet_eql_int _ _ _ _ (by rfl) (by rfl) (by rfl) bf ?_; (simp only [Act.put, List.setIfInBounds_toArray, List.set_cons_zero, List.set_cons_succ]); go_big_quiet_on) | (refine quiet_eql_int _ _ _ _ (by rfl) (by rfl) (by rfl) bt ?_; (simp only [Act.put, List.setIfInBounds_toArray, List.set_cons_zero, List.set_cons_succ]); go_big_quiet_on) | (refine quiet_eql_int _ _ _ _ (by rfl) (by rfl) (by rfl) b0 ?_; (simp only [Act.put, List.setIfInBounds_toArray, List.set_cons_zero, List.set_cons_succ]); go_big_quiet_on) | (refine quiet_eql_int _ _ _ _ (by rfl) (by rfl) (by rfl) b1 ?_; (simp only [Act.put, List.setIfInBounds_toArray, List.set_cons_zero, List.set_cons_succ]); go_big_quiet_on) | (go_big_quiet_op; go_big_quiet_on) | (go_big_quiet_op; refine Exists.intro _ ⟨fun _ _ => rfl, ?_⟩; go_big_quiet_on)))
                  refine wpQuiet_nil ?_
                  intro w8 hC8
                  obtain rfl := (HC.out _).1 hC8
                  clear hC0 hC8 HC l0 l1 l2 l3 l4 l5
                  go_wp2
                  exact ⟨⟨k2 + 1, false, by omega, by go_num, by first | rfl | simp, HB7.out, by intro h; first | exact absurd h (by decide) | exact take_cond HK2.out HALL2.out (cond_at _ HX2.out (by rw [HCN.out]; first | rfl | simp))⟩, by simp [intOf]; omega⟩
                ·
                  refine wp_region_plain (C := C) hC0 ?_
                  dsimp only []
                  repeat (first | go_big_quiet_skip | (go_big_quiet_want; first | (refine quiet_load _ _ (by rfl) ?_ _ (by rfl) (by first | exact l0.out | exact l1.out | exact l2.out | exact l3.out | exact l4.out | exact l5.out) ?_; (· intro w; simp); (simp only [Act.put, List.setIfInBounds_toArray, List.set_cons_zero, List.set_cons_succ]); go_big_quiet_on) | (refine quiet_eql_int _ _ _ _ (by rfl) (by rfl) (by rfl) bk ?_; (simp only [Act.put, List.setIfInBounds_toArray, List.set_cons_zero, List.set_cons_succ]); go_big_quiet_on) | (refine quiet_eql_int _ _ _ _ (by rfl) (by rfl) (by rfl) bf ?_; (simp only [Act.put, List.setIfInBounds_toArray, List.set_cons_zero, List.set_cons_succ]); go_big_quiet_on) | (refine quiet_eql_int _ _ _ _ (by rfl) (by rfl) (by rfl) bt ?_; (simp only [Act.put, List.setIfInBounds_toArray, List.set_cons_zero, List.set_cons_succ]); go_big_quiet_on) | (refine quiet_eql_int _ _ _ _ (by rfl) (by rfl) (by rfl) b0 ?_; (simp only [Act.put, List.setIfInBounds_toArray, List.set_cons_zero, List.set_cons_succ]); go_big_quiet_on) | (refine quiet_eql_int _ _ _ _ (by rfl) (by rfl) (by rfl) b1 ?_; (simp only [Act.put, List.setIfInBounds_toArray, List.set_cons_zero, List.set_cons_succ]); go_big_quiet_on) | (go_big_quiet_op; go_big_quiet_on) | (go_big_quiet_op; refine Exists.intro _ ⟨fun _ _ => rfl, ?_⟩; go_big_quiet_on)))
                  refine wpQuiet_nil ?_
                  intro w8 hC8
                  obtain rfl := (HC.out _).1 hC8
                  clear hC0 hC8 HC l0 l1 l2 l3 l4 l5
                  go_wp2
                  exact ⟨⟨k2 + 1, true, by omega, by go_num, by first | rfl | simp, HB7.out, by intro h; first | exact absurd h (by decide) | exact take_cond HK2.out HALL2.out (cond_at _ HX2.out (by rw [HCN.out]; first | rfl | simp))⟩, by simp [intOf]; omega⟩
              · cases TN
                ·
                  refine wp_region_plain (C := C) hC0 ?_
                  dsimp only []
                  repeat (first | go_big_quiet_skip | (go_big_quiet_want; first | (refine quiet_load _ _ (by rfl) ?_ _ (by rfl) (by first | exact l0.out | exact l1.out | exact l2.out | exact l3.out | exact l4.out | exact l5.out) ?_; (· intro w; simp); (simp only [Act.put, List.setIfInBounds_toArray, List.set_cons_zero, List.set_cons_succ]); go_big_quiet_on) | (refine quiet_eql_int _ _ _ _ (by rfl) (by rfl) (by rfl) bk ?_; (simp only [Act.put, List.setIfInBounds_toArray, List.set_cons_zero, List.set_cons_succ]); go_big_quiet_on) | (refine quiet_eql_int _ _ _ _ (by rfl) (by rfl) (by rfl) bf ?_; (simp only [Act.put, List.setIfInBounds_toArray, List.set_cons_zero, List.set_cons_succ]); go_big_quiet_on) | (refine quiet_eql_int _ _ _ _ (by rfl) (by rfl) (by rfl) bt ?_; (simp only [Act.put, List.setIfInBounds_toArray, List.set_cons_zero, List.set_cons_succ]); go_big_quiet_on) | (refine quiet_eql_int _ _ _ _ (by rfl) (by rfl) (by rfl) b0 ?_; (simp only [Act.put, List.setIfInBounds_toArray, List.set_cons_zero, List.set_cons_succ]); go_big_quiet_on) | (refine quiet_eql_int _ _ _ _ (by rfl) (by rfl) (by rfl) b1 ?_; (simp only [Act.put, List.setIfInBounds_toArray, List.set_cons_zero, List.set_cons_succ]); go_big_quiet_on) | (go_big_quiet_op; go_big_quiet_on) | (go_big_quiet_op; refine Exists.intro _ ⟨fun _ _ => rfl, ?_⟩; go_big_quiet_on)))
                  refine wpQuiet_nil ?_
                  intro w8 hC8
                  obtain rfl := (HC.out _).1 hC8
                  clear hC0 hC8 HC l0 l1 l2 l3 l4 l5
                  go_wp2
                  exact ⟨⟨k2 + 1, true, by omega, by go_num, by first | rfl | simp, HB7.out, by intro h; first | exact absurd h (by decide) | exact take_cond HK2.out HALL2.out (cond_at _ HX2.out (by rw [HCN.out]; first | rfl | simp))⟩, by simp [intOf]; omega⟩
                cases G1
                ·
                  refine wp_region_plain (C := C) hC0 ?_
                  dsimp only []
                  repeat (first | go_big_quiet_skip | (go_big_quiet_want; first | (refine quiet_load _ _ (by rfl) ?_ _ (by rfl) (by first | exact l0.out | exact l1.out | exact l2.out | exact l3.out | exact l4.out | exact l5.out) ?_; (· intro w; simp); (simp only [Act.put, List.setIfInBounds_toArray, List.set_cons_zero, List.set_cons_succ]); go_big_quiet_on) | (refine quiet_eql_int _ _ _ _ (by rfl) (by rfl) (by rfl) bk ?_; (simp only [Act.put, List.setIfInBounds_toArray, List.set_cons_zero, List.set_cons_succ]); go_big_quiet_on) | (refine quiet_eql_int _ _ _ _ (by rfl) (by rfl) (by rfl) bf ?_; (simp only [Act.put, List.setIfInBounds_toArray, List.set_cons_zero, List.set_cons_succ]); go_big_quiet_on) | (refine quiet_eql_int _ _ _ _ (by rfl) (by rfl) (by rfl) bt ?_; (simp only [Act.put, List.setIfInBounds_toArray, List.set_cons_zero, List.set_cons_succ]); go_big_quiet_on) | (refine quiet_eql_int _ _ _ _ (by rfl) (by rfl) (by rfl) b0 ?_; (simp only [Act.put, List.setIfInBounds_toArray, List.set_cons_zero, List.set_cons_succ]); go_big_quiet_on) | (refine quiet_eql_int _ _ _ _ (by rfl) (by rfl) (by rfl) b1 ?_; (simp only [Act.put, List.setIfInBounds_toArray, List.set_cons_zero, List.set_cons_succ]); go_big_quiet_on) | (go_big_quiet_op; go_big_quiet_on) | (go_big_quiet_op; refine Exists.intro _ ⟨fun _ _ => rfl, ?_⟩; go_big_quiet_on)))
                  refine wpQuiet_nil ?_
                  intro w8 hC8
                  obtain rfl := (HC.out _).1 hC8
                  clear hC0 hC8 HC l0 l1 l2 l3 l4 l5
                  go_wp2
                  exact ⟨⟨k2 + 1, false, by omega, by go_num, by first | rfl | simp, HB7.out, by intro h; first | exact absurd h (by decide) | exact take_cond HK2.out HALL2.out (cond_at _ HX2.out (by rw [HCN.out]; first | rfl | simp))⟩, by simp [intOf]; omega⟩
                ·
                  refine wp_region_plain (C := C) hC0 ?_
                  dsimp only []
                  repeat (first | go_big_quiet_skip | (go_big_quiet_want; first | (refine quiet_load _ _ (by rfl) ?_ _ (by rfl) (by first | exact l0.out | exact l1.out | exact l2.out | exact l3.out | exact l4.out | exact l5.out) ?_; (· intro w; simp); (simp only [Act.put, List.setIfInBounds_toArray, List.set_cons_zero, List.set_cons_succ]); go_big_quiet_on) | (refine quiet_eql_int _ _ _ _ (by rfl) (by rfl) (by rfl) bk ?_; (simp only [Act.put, List.setIfInBounds_toArray, List.set_cons_zero, List.set_cons_succ]); go_big_quiet_on) | (refine quiet_eql_int _ _ _ _ (by rfl) (by rfl) (by rfl) bf ?_; (simp only [Act.put, List.setIfInBounds_toArray, List.set_cons_zero, List.set_cons_succ]); go_big_quiet_on) | (refine quiet_eql_int _ _ _ _ (by rfl) (by rfl) (by rfl) bt ?_; (simp only [Act.put, List.setIfInBounds_toArray, List.set_cons_zero, List.set_cons_succ]); go_big_quiet_on) | (refine quiet_eql_int _ _ _ _ (by rfl) (by rfl) (by rfl) b0 ?_; (simp only [Act.put, List.setIfInBounds_toArray, List.set_cons_zero, List.set_cons_succ]); go_big_quiet_on) | (refine quiet_eql_int _ _ _ _ (by rfl) (by rfl) (by rfl) b1 ?_; (simp only [Act.put, List.setIfInBounds_toArray, List.set_cons_zero, List.set_cons_succ]); go_big_quiet_on) | (go_big_quiet_op; go_big_quiet_on) | (go_big_quiet_op; refine Exists.intro _ ⟨fun _ _ => rfl, ?_⟩; go_big_quiet_on)))
                  refine wpQuiet_nil ?_
                  intro w8 hC8
                  obtain rfl := (HC.out _).1 hC8
                  clear hC0 hC8 HC l0 l1 l2 l3 l4 l5
                  go_wp2
                  exact ⟨⟨k2 + 1, true, by omega, by go_num, by first | rfl | simp, HB7.out, by intro h; first | exact absurd h (by decide) | exact take_cond HK2.out HALL2.out (cond_at _ HX2.out (by rw [HCN.out]; first | rfl | simp))⟩, by simp [intOf]; omega⟩
            · obtain rfl : k2 = k := by omega
              obtain ⟨x2, h1, h2⟩ := OC.out
              rw [HALL2.out x2 h1] at h2
              cases h2
      · have e1 : (y.kind == 1) = false := beq_eq_false_iff_ne.2 hk1
        have e2 : (y.kind != 1) = true := by unfold bne; rw [e1]; rfl
        clear hk1
        go_wp2_with (guard_target = wpList _ _ _ (Oper.mk _ (Op.load 37 _) _ _ _ none :: _) _ _; refine wpList_load_row rfl 37 _ rfl B (by rfl) 37 y.vals.toArray (0, 0) _ BW.out Tryd.underlying37 rfl hua.out ?_; simp only [Act.put, List.setIfInBounds_toArray, List.set_cons_zero, List.set_cons_succ])
        refine (act_any L3.out y HYS.out.1 HYS.out.2).mono ?_
        rintro e w4 ⟨rfl, hL⟩
        have L4 := Lib.hid hL
        clear hL k0 k5
        go_wp2
        exact ⟨⟨k + 1, _, by omega, by go_num, L4.out, NX.out⟩, by simp [intOf]; omega⟩
    · obtain rfl : k = l.length := by omega
      go_wp2
      go_ret
      exact ⟨rfl, L2.out.bel⟩
end Go.Proofs.YthegooaeehblhaaDoorR

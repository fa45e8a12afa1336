/-
  HeardEpoch: the walk: for every me, n and script the law returns true.
-/
import Derived.Test.YtjokfjdbioeohaaDoorHeardEpochP
import Derived.Test.YtjokfjdbioeohaaDoorPlain
import Derived.Deep.CutBlock
import Derived.Deep.DeepCutAuto
import Derived.BigGuard
namespace Go.Proofs.YtjokfjdbioeohaaDoor
open Go.RowKit Go.BigFrame
set_option maxHeartbeats 2000000
set_option maxRecDepth 100000
def epAct (m : Ear) (x : HAct) : Ear := if x.kind = 3 then forgetE m x.s else beatE m x.p x.b
section
variable {w : World} {B : Nat} {b : Bt} {t : TypeId} {fr : Nat × Nat}
theorem Bt.c0 (h : w.heap[B]? = some (.cells b.vals.toArray t fr)) : w.cell? ⟨B, 0, none⟩ = some (.int .u64 b.ce) := by rw [cell_of_row w B 0 _ _ _ h]; rfl
theorem Bt.c4 (h : w.heap[B]? = some (.cells b.vals.toArray t fr)) : w.cell? ⟨B, 4, none⟩ = some (.int .u64 b.ep) := by rw [cell_of_row w B 4 _ _ _ h]; rfl
end
theorem epoch_walk (me n : Int) (l : List HAct) (v : Value) (a : Option Addr) (c b o : Nat) (w : World) (hT : TabOk w) (hA : HActsAt w v l a c b o) :
    Calls Tryd.prog 9 #[.int .i64 me, .int .i64 n, v] w fun e w' => e = .returned (.bool true) ∧ Below w.heap.size w w' := by
  obtain rfl := hA.v
  have hz := zero_beat
  have hz2 := zero_hact
  have hub : Hid ((Tryd.prog.info? 67).map (·.size) = some (5 : Nat)) := Lib.hid size_beat
  have hua : Hid ((Tryd.prog.info? 69).map (·.size) = some (8 : Nat)) := Lib.hid size_hact
  have HT := Lib.hid hT
  have HW := Lib.hid (hawake_any w hT)
  have HS := Lib.hid hA
  have hpos : 0 < w.heap.size := Nat.lt_of_le_of_lt (Nat.zero_le _) hT.size
  clear hT hA
  by_cases h3 : 100 < l.length
  · have h3' : (100 : Int) < (l.length : Int) := by omega
    go_enter Tryd.func9, Tryd.ntmps9
    go_wp2_with fail
    refine HW.out.mono ?_
    rintro e w1 ⟨rfl, hb⟩
    have HB := Lib.hid hb
    clear hb
    go_wp2_with fail
    go_ret
    exact ⟨rfl, HB.out⟩
  have h3' : (l.length : Int) ≤ 100 := by omega
  clear h3
  go_enter Tryd.func9, Tryd.ntmps9
  go_wp2_with fail
  refine HW.out.mono ?_
  rintro e w1 ⟨rfl, hb⟩
  have HB := Lib.hid hb
  clear hb
  go_wp2_with fail
  refine (Ek.make (w0 := w) (HT.out.belowS HB.out) HB.out hpos me n 3).mono ?_
  rintro e w2 ⟨g, rfl, hL, -, -⟩
  have L0 := Lib.hid hL
  clear hL
  have B0 := Lib.hid (newE_bare me n 3)
  go_wp2_with fail
  generalize newE me n 3 = m0 at L0 B0
  go_loopw [8, 9, 10, 11, 12, 13, 14] (fun i _ _ _ _ _ _ wr => ∃ (k : Nat) (m : Ear), k ≤ l.length ∧ i = .int .i64 k ∧ Ek w wr g m ∧ m.Bare) (fun i _ _ _ _ _ _ _ => l.length - (intOf i).toNat)
  case atStart => exact ⟨0, m0, Nat.zero_le _, rfl, L0.out, B0.out⟩
  case round =>
    obtain ⟨k, m, hk, rfl, hL, hBr⟩ := hrel
    have L2 := Lib.hid hL
    have HBr := Lib.hid hBr
    clear hL hBr
    by_cases hlt : k < l.length
    · have hkl' : (k : Int) < (l.length : Int) := by omega
      have S := HS.out.below rfl L2.out.bel
      have hxv := S.x k hlt
      have hx := S.ok _ (List.getElem_mem hlt)
      obtain ⟨rfl, _⟩ := HS.out.a (by omega)
      obtain ⟨x, hxx⟩ : ∃ x, l[k] = x := ⟨_, rfl⟩
      rw [hxx] at hxv hx
      have HXV := Lib.hid hxv
      have HXS := Lib.hid hx
      have HR := Lib.hid (show wr.heap.size ≠ g from Nat.ne_of_gt L2.out.at_.lt)
      have LA := Lib.hid (L2.out.below ((Below.refl _ _).alloc (Nat.le_refl _) (.cells HAct.zero.vals.toArray 69)))
      clear S hxx hxv hx
      go_upto_region 10 with (first
        | (guard_target = wpList _ _ _ (Oper.mk _ (Op.load _ _) _ _ _ none :: _) _ _; refine wpList_load_mid rfl 69 _ rfl b (o + k * 8) (by rfl) x.vals _ HXV.out Tryd.underlying69 rfl hua.out ?_; simp only [Act.put, List.setIfInBounds_toArray, List.set_cons_zero, List.set_cons_succ])
        | (guard_target = wpList _ _ _ (Oper.mk none (Op.store _ _ _) _ _ _ none :: _) _ _; refine wpList_store_row rfl 69 _ _ rfl wr.heap.size (by rfl) x.vals.toArray (by rfl) HAct.zero.vals.toArray 69 (heap_alloc_new _ _) rfl hua.out x.oneL ?_; intro w3 hw3 hg3))
      have BX := Lib.hid (show BoxH w3 wr.heap.size x from hw3)
      have L3 := Lib.hid (LA.out.keep hg3 (Ne.symm HR.out) L2.out.bel.size)
      clear hw3 hg3
      obtain ⟨B, hB⟩ : ∃ B, wr.heap.size = B := ⟨_, rfl⟩
      rw [hB] at BX HR ⊢
      clear hB L2 LA HXV
      have k0 := BX.out.c0
      go_upto_if 35 with fail
      go_cut [9] (fun s9 wx => ∃ m' : Ear, s9 = .pointer (some ⟨B, 0, none⟩) ∧ Ek w wx g m' ∧ m'.Bare)
      case first =>
        have k1 := BX.out.c1
        have k7 := BX.out.c7
        by_cases h3k : x.kind = 3
        · have hk3 : (x.kind == 3) = true := beq_iff_eq.2 h3k
          clear h3k
          go_wp2_with fail
          refine (L3.out.forget x.s HXS.out).mono ?_
          rintro e w4 ⟨rfl, hL, -⟩
          go_wp2_with fail
          go_meet
          case rel => exact ⟨_, rfl, hL, HBr.out.forget x.s⟩
        · have hk3 : (x.kind == 3) = false := beq_eq_false_iff_ne.2 h3k
          clear h3k
          go_wp2_with (guard_target = wpList _ _ _ (Oper.mk _ (Op.load _ _) _ _ _ none :: _) _ _; refine wpList_load_mid rfl 67 _ rfl B 2 (by rfl) x.b.vals _ BX.out.rb Tryd.underlying67 rfl hub.out ?_; simp only [Act.put, List.setIfInBounds_toArray, List.set_cons_zero, List.set_cons_succ])
          refine (L3.out.beat x.p x.b).mono ?_
          rintro e w4 ⟨rfl, hL, -⟩
          go_wp2_with fail
          go_meet
          case rel => exact ⟨_, rfl, hL, HBr.out.beat x.p x.b⟩
      case rest =>
        obtain ⟨m', rfl, hL4, hB'⟩ := hcut
        have L4 := Lib.hid hL4
        have HB' := Lib.hid hB'
        clear hL4 hB' k0 BX HBr L3 HR
        go_wp2_with fail
        refine (L4.out.epoch).mono ?_
        rintro e w5 ⟨rfl, hL, -⟩
        have L5 := Lib.hid hL
        clear hL
        go_wp2_with fail
        rw [show (((epochE m' : Nat) : Int) == 0) = foundK m' 0 by rw [eq0, foundK_zero]; rfl]
        obtain ⟨best, hbest⟩ : ∃ best, epochE m' = best := ⟨_, rfl⟩
        have HBEST := Lib.hid hbest
        rw [hbest]
        clear hbest
        go_loopw [11, 12, 13, 14] (fun f i _ _ wi => ∃ k2 : Nat, k2 ≤ 64 ∧ i = .int .i64 k2 ∧ f = .bool (foundK m' k2) ∧ Ek w wi g m') (fun _ i _ _ _ => 64 - (intOf i).toNat)
        case atStart => exact ⟨0, by omega, rfl, rfl, L5.out⟩
        case round =>
          obtain ⟨k2, hk2, rfl, rfl, hL⟩ := hrel
          have L5 := Lib.hid hL
          clear hL
          by_cases hlt2 : k2 < 64
          · have hkn : (k2 : Int) < 64 := by omega
            have HF := Lib.hid (foundK_succ m' k2)
            have HLE := Lib.hid (ofE_le m' hlt2)
            rw [HBEST.out] at HF HLE
            generalize foundK m' k2 = f at HF ⊢
            go_wp2_with fail
            refine (L5.out.of k2).mono ?_
            rintro e w5 ⟨rfl, hL, -⟩
            have L6 := Lib.hid hL
            clear hL
            unfold ofV
            unfold isBest at HF
            generalize ofE m' k2 = bo at HF HLE ⊢
            obtain ⟨bt, ok⟩ := bo
            try dsimp only at HF HLE ⊢
            unfold Bt.v
            have q1 : decide (best < bt.ep) = false := decide_eq_false (by have := HLE.out.1; omega)
            have q2 : decide (best < bt.ce) = false := decide_eq_false (by have := HLE.out.2.1; omega)
            have q3 : decide (best < bt.pe) = false := decide_eq_false (by have := HLE.out.2.2; omega)
            clear HLE
            go_upto_region 19 with (guard_target = wpList _ _ _ (Oper.mk none (Op.store _ _ _) _ _ _ none :: _) _ _; refine wpList_store_row rfl 67 _ _ rfl w5.heap.size (by rfl) bt.vals.toArray (by rfl) Bt.zero.vals.toArray 67 (heap_alloc_new _ _) rfl hub.out bt.oneL ?_; intro w6 hw6 hg6)
            have y0 := Bt.c0 hw6
            have y2 := Bt.c2 hw6
            have y4 := Bt.c4 hw6
            have L7 := Lib.hid ((L6.out.below ((Below.refl _ _).alloc (Nat.le_refl _) _)).keep hg6 (Nat.ne_of_lt L6.out.at_.lt) L6.out.bel.size)
            clear hw6 hg6
            obtain ⟨Y, hY⟩ : ∃ Y, w5.heap.size = Y := ⟨_, rfl⟩
            rw [hY] at y0 y2 y4 ⊢
            clear hY
            obtain ⟨C, hC⟩ : ∃ C : World → Prop, ∀ w', C w' ↔ w' = w6 := ⟨_, fun _ => Iff.rfl⟩
            have l0 := Lib.hid (fun w' (h : C w') => (show w'.cell? ⟨Y, 0, none⟩ = some (.int .u64 bt.ce) by rw [(hC w').1 h]; exact y0))
            have l2 := Lib.hid (fun w' (h : C w') => (show w'.cell? ⟨Y, 2, none⟩ = some (.int .u64 bt.pe) by rw [(hC w').1 h]; exact y2))
            have l4 := Lib.hid (fun w' (h : C w') => (show w'.cell? ⟨Y, 4, none⟩ = some (.int .u64 bt.ep) by rw [(hC w').1 h]; exact y4))
            have hC0 : C w6 := (hC _).2 rfl
            have HC := Lib.hid hC
            clear hC y0 y2 y4
            cases f
            · cases ok
              ·
                refine wp_region_plain (C := C) hC0 ?_
                dsimp only []
                repeat (first | go_big_quiet_skip | (go_big_quiet_want; first | (refine quiet_load _ _ (by rfl) ?_ _ (by rfl) (by first | exact l0.out | exact l2.out | exact l4.out) ?_; (· intro w; simp); (simp only [Act.put, List.setIfInBounds_toArray, List.set_cons_zero, List.set_cons_succ]); go_big_quiet_on) | (go_big_quiet_op; go_big_quiet_on) | (go_big_quiet_op; refine Exists.intro _ ⟨fun _ _ => rfl, ?_⟩; go_big_quiet_on)))
                refine wpQuiet_nil ?_
                intro w7 hC7
                obtain rfl := (HC.out _).1 hC7
                go_upto_region 21 with fail
                refine wp_region_plain (C := C) hC0 ?_
                dsimp only []
                repeat (first | go_big_quiet_skip | (go_big_quiet_want; first | (refine quiet_load _ _ (by rfl) ?_ _ (by rfl) (by first | exact l0.out | exact l2.out | exact l4.out) ?_; (· intro w; simp); (simp only [Act.put, List.setIfInBounds_toArray, List.set_cons_zero, List.set_cons_succ]); go_big_quiet_on) | (go_big_quiet_op; go_big_quiet_on) | (go_big_quiet_op; refine Exists.intro _ ⟨fun _ _ => rfl, ?_⟩; go_big_quiet_on)))
                refine wpQuiet_nil ?_
                intro w7 hC7
                obtain rfl := (HC.out _).1 hC7
                go_wp2
                exact ⟨⟨k2 + 1, by omega, by go_num, (by rw [HF.out]; first | done | rfl), L7.out⟩, by simp [intOf]; omega⟩
              · by_cases e1 : bt.ep = best
                · rw [decide_eq_true e1] at HF
                  have e1' : ((bt.ep : Int) == (best : Int)) = true := by rw [e1]; simp
                  clear e1
                  refine wp_region_plain (C := C) hC0 ?_
                  dsimp only []
                  repeat (first | go_big_quiet_skip | (go_big_quiet_want; first | (refine quiet_load _ _ (by rfl) ?_ _ (by rfl) (by first | exact l0.out | exact l2.out | exact l4.out) ?_; (· intro w; simp); (simp only [Act.put, List.setIfInBounds_toArray, List.set_cons_zero, List.set_cons_succ]); go_big_quiet_on) | (go_big_quiet_op; go_big_quiet_on) | (go_big_quiet_op; refine Exists.intro _ ⟨fun _ _ => rfl, ?_⟩; go_big_quiet_on)))
                  refine wpQuiet_nil ?_
                  intro w7 hC7
                  obtain rfl := (HC.out _).1 hC7
                  go_upto_region 21 with fail
                  refine wp_region_plain (C := C) hC0 ?_
                  dsimp only []
                  repeat (first | go_big_quiet_skip | (go_big_quiet_want; first | (refine quiet_load _ _ (by rfl) ?_ _ (by rfl) (by first | exact l0.out | exact l2.out | exact l4.out) ?_; (· intro w; simp); (simp only [Act.put, List.setIfInBounds_toArray, List.set_cons_zero, List.set_cons_succ]); go_big_quiet_on) | (go_big_quiet_op; go_big_quiet_on) | (go_big_quiet_op; refine Exists.intro _ ⟨fun _ _ => rfl, ?_⟩; go_big_quiet_on)))
                  refine wpQuiet_nil ?_
                  intro w7 hC7
                  obtain rfl := (HC.out _).1 hC7
                  go_wp2
                  exact ⟨⟨k2 + 1, by omega, by go_num, (by rw [HF.out]; first | done | rfl), L7.out⟩, by simp [intOf]; omega⟩
                · rw [decide_eq_false e1] at HF
                  have e1' : ((bt.ep : Int) == (best : Int)) = false := beq_eq_false_iff_ne.2 (by omega)
                  clear e1
                  by_cases e2 : bt.ce = best
                  · rw [decide_eq_true e2] at HF
                    have e2' : ((bt.ce : Int) == (best : Int)) = true := by rw [e2]; simp
                    clear e2
                    refine wp_region_plain (C := C) hC0 ?_
                    dsimp only []
                    repeat (first | go_big_quiet_skip | (go_big_quiet_want; first | (refine quiet_load _ _ (by rfl) ?_ _ (by rfl) (by first | exact l0.out | exact l2.out | exact l4.out) ?_; (· intro w; simp); (simp only [Act.put, List.setIfInBounds_toArray, List.set_cons_zero, List.set_cons_succ]); go_big_quiet_on) | (go_big_quiet_op; go_big_quiet_on) | (go_big_quiet_op; refine Exists.intro _ ⟨fun _ _ => rfl, ?_⟩; go_big_quiet_on)))
                    refine wpQuiet_nil ?_
                    intro w7 hC7
                    obtain rfl := (HC.out _).1 hC7
                    go_upto_region 21 with fail
                    refine wp_region_plain (C := C) hC0 ?_
                    dsimp only []
                    repeat (first | go_big_quiet_skip | (go_big_quiet_want; first | (refine quiet_load _ _ (by rfl) ?_ _ (by rfl) (by first | exact l0.out | exact l2.out | exact l4.out) ?_; (· intro w; simp); (simp only [Act.put, List.setIfInBounds_toArray, List.set_cons_zero, List.set_cons_succ]); go_big_quiet_on) | (go_big_quiet_op; go_big_quiet_on) | (go_big_quiet_op; refine Exists.intro _ ⟨fun _ _ => rfl, ?_⟩; go_big_quiet_on)))
                    refine wpQuiet_nil ?_
                    intro w7 hC7
                    obtain rfl := (HC.out _).1 hC7
                    go_wp2
                    exact ⟨⟨k2 + 1, by omega, by go_num, (by rw [HF.out]; first | done | rfl), L7.out⟩, by simp [intOf]; omega⟩
                  · rw [decide_eq_false e2] at HF
                    have e2' : ((bt.ce : Int) == (best : Int)) = false := beq_eq_false_iff_ne.2 (by omega)
                    clear e2
                    by_cases e3 : bt.pe = best
                    · rw [decide_eq_true e3] at HF
                      have e3' : ((bt.pe : Int) == (best : Int)) = true := by rw [e3]; simp
                      clear e3
                      refine wp_region_plain (C := C) hC0 ?_
                      dsimp only []
                      repeat (first | go_big_quiet_skip | (go_big_quiet_want; first | (refine quiet_load _ _ (by rfl) ?_ _ (by rfl) (by first | exact l0.out | exact l2.out | exact l4.out) ?_; (· intro w; simp); (simp only [Act.put, List.setIfInBounds_toArray, List.set_cons_zero, List.set_cons_succ]); go_big_quiet_on) | (go_big_quiet_op; go_big_quiet_on) | (go_big_quiet_op; refine Exists.intro _ ⟨fun _ _ => rfl, ?_⟩; go_big_quiet_on)))
                      refine wpQuiet_nil ?_
                      intro w7 hC7
                      obtain rfl := (HC.out _).1 hC7
                      go_upto_region 21 with fail
                      refine wp_region_plain (C := C) hC0 ?_
                      dsimp only []
                      repeat (first | go_big_quiet_skip | (go_big_quiet_want; first | (refine quiet_load _ _ (by rfl) ?_ _ (by rfl) (by first | exact l0.out | exact l2.out | exact l4.out) ?_; (· intro w; simp); (simp only [Act.put, List.setIfInBounds_toArray, List.set_cons_zero, List.set_cons_succ]); go_big_quiet_on) | (go_big_quiet_op; go_big_quiet_on) | (go_big_quiet_op; refine Exists.intro _ ⟨fun _ _ => rfl, ?_⟩; go_big_quiet_on)))
                      refine wpQuiet_nil ?_
                      intro w7 hC7
                      obtain rfl := (HC.out _).1 hC7
                      go_wp2
                      exact ⟨⟨k2 + 1, by omega, by go_num, (by rw [HF.out]; first | done | rfl), L7.out⟩, by simp [intOf]; omega⟩
                    · rw [decide_eq_false e3] at HF
                      have e3' : ((bt.pe : Int) == (best : Int)) = false := beq_eq_false_iff_ne.2 (by omega)
                      clear e3
                      refine wp_region_plain (C := C) hC0 ?_
                      dsimp only []
                      repeat (first | go_big_quiet_skip | (go_big_quiet_want; first | (refine quiet_load _ _ (by rfl) ?_ _ (by rfl) (by first | exact l0.out | exact l2.out | exact l4.out) ?_; (· intro w; simp); (simp only [Act.put, List.setIfInBounds_toArray, List.set_cons_zero, List.set_cons_succ]); go_big_quiet_on) | (go_big_quiet_op; go_big_quiet_on) | (go_big_quiet_op; refine Exists.intro _ ⟨fun _ _ => rfl, ?_⟩; go_big_quiet_on)))
                      refine wpQuiet_nil ?_
                      intro w7 hC7
                      obtain rfl := (HC.out _).1 hC7
                      go_upto_region 21 with fail
                      refine wp_region_plain (C := C) hC0 ?_
                      dsimp only []
                      repeat (first | go_big_quiet_skip | (go_big_quiet_want; first | (refine quiet_load _ _ (by rfl) ?_ _ (by rfl) (by first | exact l0.out | exact l2.out | exact l4.out) ?_; (· intro w; simp); (simp only [Act.put, List.setIfInBounds_toArray, List.set_cons_zero, List.set_cons_succ]); go_big_quiet_on) | (go_big_quiet_op; go_big_quiet_on) | (go_big_quiet_op; refine Exists.intro _ ⟨fun _ _ => rfl, ?_⟩; go_big_quiet_on)))
                      refine wpQuiet_nil ?_
                      intro w7 hC7
                      obtain rfl := (HC.out _).1 hC7
                      go_wp2
                      exact ⟨⟨k2 + 1, by omega, by go_num, (by rw [HF.out]; first | done | rfl), L7.out⟩, by simp [intOf]; omega⟩
            · cases ok
              ·
                refine wp_region_plain (C := C) hC0 ?_
                dsimp only []
                repeat (first | go_big_quiet_skip | (go_big_quiet_want; first | (refine quiet_load _ _ (by rfl) ?_ _ (by rfl) (by first | exact l0.out | exact l2.out | exact l4.out) ?_; (· intro w; simp); (simp only [Act.put, List.setIfInBounds_toArray, List.set_cons_zero, List.set_cons_succ]); go_big_quiet_on) | (go_big_quiet_op; go_big_quiet_on) | (go_big_quiet_op; refine Exists.intro _ ⟨fun _ _ => rfl, ?_⟩; go_big_quiet_on)))
                refine wpQuiet_nil ?_
                intro w7 hC7
                obtain rfl := (HC.out _).1 hC7
                go_upto_region 21 with fail
                refine wp_region_plain (C := C) hC0 ?_
                dsimp only []
                repeat (first | go_big_quiet_skip | (go_big_quiet_want; first | (refine quiet_load _ _ (by rfl) ?_ _ (by rfl) (by first | exact l0.out | exact l2.out | exact l4.out) ?_; (· intro w; simp); (simp only [Act.put, List.setIfInBounds_toArray, List.set_cons_zero, List.set_cons_succ]); go_big_quiet_on) | (go_big_quiet_op; go_big_quiet_on) | (go_big_quiet_op; refine Exists.intro _ ⟨fun _ _ => rfl, ?_⟩; go_big_quiet_on)))
                refine wpQuiet_nil ?_
                intro w7 hC7
                obtain rfl := (HC.out _).1 hC7
                go_wp2
                exact ⟨⟨k2 + 1, by omega, by go_num, (by rw [HF.out]; first | done | rfl), L7.out⟩, by simp [intOf]; omega⟩
              ·
                refine wp_region_plain (C := C) hC0 ?_
                dsimp only []
                repeat (first | go_big_quiet_skip | (go_big_quiet_want; first | (refine quiet_load _ _ (by rfl) ?_ _ (by rfl) (by first | exact l0.out | exact l2.out | exact l4.out) ?_; (· intro w; simp); (simp only [Act.put, List.setIfInBounds_toArray, List.set_cons_zero, List.set_cons_succ]); go_big_quiet_on) | (go_big_quiet_op; go_big_quiet_on) | (go_big_quiet_op; refine Exists.intro _ ⟨fun _ _ => rfl, ?_⟩; go_big_quiet_on)))
                refine wpQuiet_nil ?_
                intro w7 hC7
                obtain rfl := (HC.out _).1 hC7
                go_upto_region 21 with fail
                refine wp_region_plain (C := C) hC0 ?_
                dsimp only []
                repeat (first | go_big_quiet_skip | (go_big_quiet_want; first | (refine quiet_load _ _ (by rfl) ?_ _ (by rfl) (by first | exact l0.out | exact l2.out | exact l4.out) ?_; (· intro w; simp); (simp only [Act.put, List.setIfInBounds_toArray, List.set_cons_zero, List.set_cons_succ]); go_big_quiet_on) | (go_big_quiet_op; go_big_quiet_on) | (go_big_quiet_op; refine Exists.intro _ ⟨fun _ _ => rfl, ?_⟩; go_big_quiet_on)))
                refine wpQuiet_nil ?_
                intro w7 hC7
                obtain rfl := (HC.out _).1 hC7
                go_wp2
                exact ⟨⟨k2 + 1, by omega, by go_num, (by rw [HF.out]; first | done | rfl), L7.out⟩, by simp [intOf]; omega⟩
          · obtain rfl : k2 = 64 := by omega
            have hf := foundK_end HB'.out
            go_wp2
            exact ⟨⟨k + 1, m', by omega, by go_num, L5.out, HB'.out⟩, by simp [intOf]; omega⟩
    · go_wp2
      go_ret
      exact ⟨rfl, L2.out.bel⟩
end Go.Proofs.YtjokfjdbioeohaaDoor

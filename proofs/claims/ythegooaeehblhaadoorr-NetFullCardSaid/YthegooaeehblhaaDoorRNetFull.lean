/-
  NetFull: the walk: for every n, script and number the law returns true.
-/
import Derived.Test.YthegooaeehblhaaDoorRNetActs
import Derived.Test.YthegooaeehblhaaDoorRQuietB
namespace Go.Proofs.YthegooaeehblhaaDoorR
open Go.RowKit Go.BigFrame
set_option maxHeartbeats 1000000
set_option maxRecDepth 100000
theorem send_len (t : Nt) (d : Dg) : (sendN t d).l.length = t.l.length ∨ (sendN t d).l.length = t.l.length + 1 := by
  unfold sendN
  split
  · right; simp [Nt.app]
  · left; rfl
theorem dbl_len (t : Nt) (i : Int) : (dblN t i).l.length = t.l.length ∨ (dblN t i).l.length = t.l.length + 1 := by
  unfold dblN
  split
  · right; simp [Nt.app]
  · left; rfl
theorem drop_len (t : Nt) (i : Int) : (thereN t i = true ∧ 0 < t.l.length ∧ (dropN t i).l.length = t.l.length - 1) ∨ (thereN t i = false ∧ (dropN t i).l.length = t.l.length) := by
  unfold dropN
  cases h : thereN t i
  · right; exact ⟨rfl, rfl⟩
  · left
    unfold thereN at h
    simp only [Bool.and_eq_true, decide_eq_true_eq] at h
    refine ⟨rfl, by omega, ?_⟩
    rw [if_pos rfl]
    show (t.l.eraseIdx _).length = _
    rw [List.length_eraseIdx, if_pos (by omega)]
theorem turn_len (t : Nt) (i a : Int) (m : UInt8) : (turnN t i a m).l.length = t.l.length := by
  unfold turnN
  split
  · exact List.length_set ..
  · rfl
/-- How the number under way goes on. -/
theorem act_len (t : Nt) (x : NAct) :
    ((x.kind = 0 ∨ x.kind = 3) ∧ ((actN t x).l.length = t.l.length ∨ (actN t x).l.length = t.l.length + 1)) ∨
    ((x.kind = 1 ∨ x.kind = 2) ∧ ((0 < t.l.length ∧ (actN t x).l.length + 1 = t.l.length) ∨ ((actN t x).l.length = t.l.length ∧ (x.i < 0 ∨ 0 ≤ x.i ∧ (t.l.length : Int) ≤ x.i)))) ∨
    (x.kind ≠ 0 ∧ x.kind ≠ 3 ∧ x.kind ≠ 1 ∧ x.kind ≠ 2 ∧ (actN t x).l.length = t.l.length) := by
  have hd : ∀ i : Int, (0 < t.l.length ∧ (dropN t i).l.length + 1 = t.l.length) ∨ ((dropN t i).l.length = t.l.length ∧ (i < 0 ∨ 0 ≤ i ∧ (t.l.length : Int) ≤ i)) := by
    intro i
    rcases drop_len t i with ⟨_, h2, h3⟩ | ⟨h1, h2⟩
    · left; omega
    · right
      refine ⟨h2, ?_⟩
      unfold thereN at h1
      simp only [Bool.and_eq_false_iff, decide_eq_false_iff_not] at h1
      omega
  unfold actN
  split
  · rename_i k; exact .inl ⟨.inl k, send_len ..⟩
  split
  · rename_i k; exact .inr (.inl ⟨.inl k, hd _⟩)
  split
  · rename_i k; exact .inr (.inl ⟨.inr k, hd _⟩)
  split
  · rename_i k; exact .inl ⟨.inr k, dbl_len ..⟩
  rename_i k0 k1 k2 k3
  refine .inr (.inr ⟨k0, k3, k1, k2, ?_⟩)
  split
  · exact turn_len ..
  split
  · exact congrArg List.length (cutL_keeps _ _ (listN_nodup _) _).2.1
  split
  · exact congrArg List.length (healL_keeps _ _ _).2.1
  · rfl
theorem full_walk (n : Int) (l : List NAct) (v : Value) (many : Nat) (hmany : many < 65536) (a : Option Addr) (c b o : Nat) (w : World) (hT : TabOk w) (hA : NActsAt w v l a c b o) :
    Calls Tryd.prog 5 #[.int .i64 n, v, .int .u16 many] w fun e w' => e = .returned (.bool true) ∧ Below w.heap.size w w' := by
  obtain rfl := hA.v
  have hz := zero_dg
  have hua : Hid ((Tryd.prog.info? 37).map (·.size) = some (9 : Nat)) := Lib.hid size_nact
  have HT := Lib.hid hT
  have HW := Lib.hid (awake_any w hT)
  have HS := Lib.hid hA
  have HM := Lib.hid hmany
  clear hT hA hmany
  go_enter Tryd.func5, Tryd.ntmps5
  go_wp2_with fail
  refine HW.out.mono ?_
  rintro e w1 ⟨rfl, hb⟩
  have HB := Lib.hid hb
  clear hb
  go_wp2_with fail
  refine (few_any l _ a c b o w1 (HS.out.below rfl HB.out)).mono ?_
  rintro e w2 ⟨r, rfl, rfl, hr⟩
  cases r with
  | false =>
    clear hr
    go_wp2_with fail
    go_ret
    exact ⟨rfl, HB.out⟩
  | true =>
  have h4 : (l.length : Int) ≤ 400 := by have := hr rfl; omega
  clear hr
  go_wp2_with fail
  refine (Nk.make (w0 := w) HT.out HB.out n).mono ?_
  rintro e w2 ⟨g, rfl, hL⟩
  have L0 := Lib.hid hL
  clear hL
  go_wp2_with fail
  have hm0 : (many : Int) < 65536 := by have := HM.out; omega
  go_loopw [8] (fun i wr => ∃ (k : Nat) (t : Nt), k ≤ many ∧ i = .int .i64 k ∧ Nk w wr g t) (fun i _ => many - (intOf i).toNat)
  case atStart => exact ⟨0, _, Nat.zero_le _, rfl, L0.out⟩
  case round =>
    obtain ⟨k, t, hk, rfl, hL⟩ := hrel
    have L1 := Lib.hid hL
    clear hL
    by_cases hlt : k < many
    · have hkl' : (k : Int) < (many : Int) := by omega
      go_wp2_with fail
      refine (L1.out.send Dg.zero (by decide)).mono ?_
      rintro e w3 ⟨rfl, hL⟩
      have L2 := Lib.hid hL
      clear hL
      go_wp2
      exact ⟨⟨k + 1, _, by omega, by go_num, L2.out⟩, by simp [intOf]; omega⟩
    · obtain rfl : k = many := by omega
      go_wp2_with fail
      clear hm0
      go_loopw [9] (fun i wr => ∃ (k : Nat) (t : Nt), k ≤ l.length ∧ i = .int .i64 k ∧ Nk w wr g t) (fun i _ => l.length - (intOf i).toNat)
      case atStart => exact ⟨0, _, Nat.zero_le _, rfl, L1.out⟩
      case round =>
        obtain ⟨k, t, hk, rfl, hL⟩ := hrel
        have L2 := Lib.hid hL
        clear hL
        by_cases hlt : k < l.length
        · have hkl' : (k : Int) < (l.length : Int) := by omega
          obtain ⟨rfl, _⟩ := HS.out.a (by omega)
          obtain ⟨x, hx⟩ : ∃ x, l[k] = x := ⟨_, rfl⟩
          have SS := Lib.hid (HS.out.below rfl L2.out.bel)
          have hok := HS.out.ok _ (List.getElem_mem hlt)
          rw [hx] at hok
          have HOK := Lib.hid hok
          have HXV := Lib.hid (show wr.rangeAt b (o + k * 9) x.vals by rw [← hx]; exact SS.out.x k hlt)
          have AL := Lib.hid (act_len t x)
          have t0 : (t.l.length : Int) ≤ 4096 := by have := L2.out.wf.l; omega
          have HXX := Lib.hid hx
          clear hx hok
          go_wp2_with fail
          refine (L2.out.len).mono ?_
          rintro e w3 ⟨rfl, hL⟩
          have L3 := Lib.hid hL
          have HX3 := Lib.hid (show w3.rangeAt b (o + k * 9) x.vals by rw [← HXX.out]; exact (HS.out.below rfl L3.out.bel).x k hlt)
          clear hL
          go_wp2_with (guard_target = wpList _ _ _ (Oper.mk _ (Op.load _ _) _ _ _ none :: _) _ _; refine wpList_load_mid rfl 37 _ rfl b (o + k * 9) (by rfl) x.vals _ HX3.out Tryd.underlying37 rfl hua.out ?_; simp only [Act.put, List.setIfInBounds_toArray, List.set_cons_zero, List.set_cons_succ])
          refine (act_any L3.out x HOK.out.1 HOK.out.2).mono ?_
          rintro e w4 ⟨rfl, hL⟩
          have L4 := Lib.hid hL
          have t1 : ((actN t x).l.length : Int) ≤ 4096 := by have := hL.wf.l; omega
          clear hL
          go_wp2_with fail
          refine (L4.out.len).mono ?_
          rintro e w5 ⟨rfl, hL⟩
          have L5 := Lib.hid hL
          have S5 := Lib.hid (HS.out.below rfl L5.out.bel)
          clear hL
          obtain ⟨n1, hn1⟩ : ∃ n1, (actN t x).l.length = n1 := ⟨_, rfl⟩
          obtain ⟨n0, hn0⟩ : ∃ n0, t.l.length = n0 := ⟨_, rfl⟩
          rw [hn0] at t0 ⊢
          rw [hn1] at t1 ⊢
          have HN1 := Lib.hid hn1
          rw [hn0, hn1] at AL
          clear hn0 hn1
          have c0 : w5.cell? ⟨b, o + k * 9, none⟩ = some (.int .i64 x.kind) := S5.out.cell hlt HXX.out 0 rfl
          have c5 := S5.out.cell hlt HXX.out 5 (u := .int .i64 x.i) rfl
          rcases AL.out with ⟨hk0, hg⟩ | ⟨hk1, hg⟩ | ⟨k0, k3, k1, k2, hg⟩
          · obtain ⟨gp, hgap, hgp⟩ : ∃ gp : Int, (n1 : Int) - (n0 : Int) = gp ∧ (gp = 0 ∨ gp = 1) := ⟨_, rfl, by omega⟩
            rcases hk0 with hk0 | hk0
            · have b0 : (x.kind == 0) = true := beq_iff_eq.2 hk0
              clear hk0 hg
              rcases hgp with rfl | rfl
              ·
                go_wp2_with fail
                refine (L5.out.len).mono ?_
                rintro e w6 ⟨rfl, hL⟩
                have L6 := Lib.hid hL
                clear hL
                rw [HN1.out]
                go_wp2
                exact ⟨⟨k + 1, _, by omega, by go_num, L6.out⟩, by simp [intOf]; omega⟩
              ·
                go_wp2_with fail
                refine (L5.out.len).mono ?_
                rintro e w6 ⟨rfl, hL⟩
                have L6 := Lib.hid hL
                clear hL
                rw [HN1.out]
                go_wp2
                exact ⟨⟨k + 1, _, by omega, by go_num, L6.out⟩, by simp [intOf]; omega⟩
            · have b0 : (x.kind == 0) = false := by rw [hk0]; rfl
              have b3 : (x.kind == 3) = true := beq_iff_eq.2 hk0
              clear hk0 hg
              rcases hgp with rfl | rfl
              ·
                go_wp2_with fail
                refine (L5.out.len).mono ?_
                rintro e w6 ⟨rfl, hL⟩
                have L6 := Lib.hid hL
                clear hL
                rw [HN1.out]
                go_wp2
                exact ⟨⟨k + 1, _, by omega, by go_num, L6.out⟩, by simp [intOf]; omega⟩
              ·
                go_wp2_with fail
                refine (L5.out.len).mono ?_
                rintro e w6 ⟨rfl, hL⟩
                have L6 := Lib.hid hL
                clear hL
                rw [HN1.out]
                go_wp2
                exact ⟨⟨k + 1, _, by omega, by go_num, L6.out⟩, by simp [intOf]; omega⟩
          · have b0 : (x.kind == 0) = false := by rcases hk1 with e | e <;> rw [e] <;> rfl
            have b3 : (x.kind == 3) = false := by rcases hk1 with e | e <;> rw [e] <;> rfl
            rcases hk1 with hk1 | hk1
            · have b1 : (x.kind == 1) = true := beq_iff_eq.2 hk1
              clear hk1
              rcases hg with ⟨_, hg⟩ | ⟨hg, hi⟩
              · have hgap : (n1 : Int) - (n0 : Int) = -1 := by omega
                clear hg
                go_upto_region 25 with fail
                obtain ⟨C, hC⟩ : ∃ C : World → Prop, ∀ w', C w' ↔ w' = w5 := ⟨_, fun _ => Iff.rfl⟩
                have hC0 : C w5 := (hC _).2 rfl
                have l5 := Lib.hid (fun w' (h : C w') => (show w'.cell? ⟨b, o + k * 9 + 5, none⟩ = some (.int .i64 x.i) by rw [(hC w').1 h]; exact c5))
                have HC := Lib.hid hC
                clear hC
                refine wp_region_plain (C := C) hC0 ?_
                dsimp only []
                repeat (first | go_big_quiet_skip | (go_big_quiet_want; first | (refine quiet_load _ _ (by rfl) ?_ _ (by rfl) (by first | exact l5.out) ?_; (· intro w; simp); (simp only [Act.put, List.setIfInBounds_toArray, List.set_cons_zero, List.set_cons_succ]); go_big_quiet_on) | (go_big_quiet_op; go_big_quiet_on) | (go_big_quiet_op; refine Exists.intro _ ⟨fun _ _ => rfl, ?_⟩; go_big_quiet_on)))
                refine wpQuiet_nil ?_
                intro w7 hC7
                obtain rfl := (HC.out _).1 hC7
                clear hC0 l5 hC7 HC
                go_wp2_with fail
                refine (L5.out.len).mono ?_
                rintro e w6 ⟨rfl, hL⟩
                have L6 := Lib.hid hL
                clear hL
                rw [HN1.out]
                go_wp2
                exact ⟨⟨k + 1, _, by omega, by go_num, L6.out⟩, by simp [intOf]; omega⟩
              · have hgap : (n1 : Int) - (n0 : Int) = 0 := by omega
                clear hg
                rcases hi with hi | ⟨hi, hj⟩
                · obtain ⟨I, hI⟩ := Int.eq_negSucc_of_lt_zero hi
                  rw [hI] at c5
                  clear hI hi
                  go_upto_region 25 with fail
                  obtain ⟨C, hC⟩ : ∃ C : World → Prop, ∀ w', C w' ↔ w' = w5 := ⟨_, fun _ => Iff.rfl⟩
                  have hC0 : C w5 := (hC _).2 rfl
                  have l5 := Lib.hid (fun w' (h : C w') => (show w'.cell? ⟨b, o + k * 9 + 5, none⟩ = some (.int .i64 (Int.negSucc I)) by rw [(hC w').1 h]; exact c5))
                  have HC := Lib.hid hC
                  clear hC
                  refine wp_region_plain (C := C) hC0 ?_
                  dsimp only []
                  repeat (first | go_big_quiet_skip | (go_big_quiet_want; first | (refine quiet_load _ _ (by rfl) ?_ _ (by rfl) (by first | exact l5.out) ?_; (· intro w; simp); (simp only [Act.put, List.setIfInBounds_toArray, List.set_cons_zero, List.set_cons_succ]); go_big_quiet_on) | (go_big_quiet_op; go_big_quiet_on) | (go_big_quiet_op; refine Exists.intro _ ⟨fun _ _ => rfl, ?_⟩; go_big_quiet_on)))
                  refine wpQuiet_nil ?_
                  intro w7 hC7
                  obtain rfl := (HC.out _).1 hC7
                  clear hC0 l5 hC7 HC
                  go_wp2_with fail
                  refine (L5.out.len).mono ?_
                  rintro e w6 ⟨rfl, hL⟩
                  have L6 := Lib.hid hL
                  clear hL
                  rw [HN1.out]
                  go_wp2
                  exact ⟨⟨k + 1, _, by omega, by go_num, L6.out⟩, by simp [intOf]; omega⟩
                · obtain ⟨I, hI⟩ := Int.eq_ofNat_of_zero_le hi
                  rw [hI] at c5 hj
                  clear hI hi
                  have hj2 : ¬ ((I : Int) < (n0 : Int)) := by omega
                  go_upto_region 25 with fail
                  obtain ⟨C, hC⟩ : ∃ C : World → Prop, ∀ w', C w' ↔ w' = w5 := ⟨_, fun _ => Iff.rfl⟩
                  have hC0 : C w5 := (hC _).2 rfl
                  have l5 := Lib.hid (fun w' (h : C w') => (show w'.cell? ⟨b, o + k * 9 + 5, none⟩ = some (.int .i64 (I : Int)) by rw [(hC w').1 h]; exact c5))
                  have HC := Lib.hid hC
                  clear hC
                  refine wp_region_plain (C := C) hC0 ?_
                  dsimp only []
                  repeat (first | go_big_quiet_skip | (go_big_quiet_want; first | (refine quiet_load _ _ (by rfl) ?_ _ (by rfl) (by first | exact l5.out) ?_; (· intro w; simp); (simp only [Act.put, List.setIfInBounds_toArray, List.set_cons_zero, List.set_cons_succ]); go_big_quiet_on) | (go_big_quiet_op; go_big_quiet_on) | (go_big_quiet_op; refine Exists.intro _ ⟨fun _ _ => rfl, ?_⟩; go_big_quiet_on)))
                  refine wpQuiet_nil ?_
                  intro w7 hC7
                  obtain rfl := (HC.out _).1 hC7
                  clear hC0 l5 hC7 HC
                  go_wp2_with fail
                  refine (L5.out.len).mono ?_
                  rintro e w6 ⟨rfl, hL⟩
                  have L6 := Lib.hid hL
                  clear hL
                  rw [HN1.out]
                  go_wp2
                  exact ⟨⟨k + 1, _, by omega, by go_num, L6.out⟩, by simp [intOf]; omega⟩
            · have b1 : (x.kind == 1) = false := by rw [hk1]; rfl
              have b2 : (x.kind == 2) = true := beq_iff_eq.2 hk1
              clear hk1
              rcases hg with ⟨_, hg⟩ | ⟨hg, hi⟩
              · have hgap : (n1 : Int) - (n0 : Int) = -1 := by omega
                clear hg
                go_upto_region 25 with fail
                obtain ⟨C, hC⟩ : ∃ C : World → Prop, ∀ w', C w' ↔ w' = w5 := ⟨_, fun _ => Iff.rfl⟩
                have hC0 : C w5 := (hC _).2 rfl
                have l5 := Lib.hid (fun w' (h : C w') => (show w'.cell? ⟨b, o + k * 9 + 5, none⟩ = some (.int .i64 x.i) by rw [(hC w').1 h]; exact c5))
                have HC := Lib.hid hC
                clear hC
                refine wp_region_plain (C := C) hC0 ?_
                dsimp only []
                repeat (first | go_big_quiet_skip | (go_big_quiet_want; first | (refine quiet_load _ _ (by rfl) ?_ _ (by rfl) (by first | exact l5.out) ?_; (· intro w; simp); (simp only [Act.put, List.setIfInBounds_toArray, List.set_cons_zero, List.set_cons_succ]); go_big_quiet_on) | (go_big_quiet_op; go_big_quiet_on) | (go_big_quiet_op; refine Exists.intro _ ⟨fun _ _ => rfl, ?_⟩; go_big_quiet_on)))
                refine wpQuiet_nil ?_
                intro w7 hC7
                obtain rfl := (HC.out _).1 hC7
                clear hC0 l5 hC7 HC
                go_wp2_with fail
                refine (L5.out.len).mono ?_
                rintro e w6 ⟨rfl, hL⟩
                have L6 := Lib.hid hL
                clear hL
                rw [HN1.out]
                go_wp2
                exact ⟨⟨k + 1, _, by omega, by go_num, L6.out⟩, by simp [intOf]; omega⟩
              · have hgap : (n1 : Int) - (n0 : Int) = 0 := by omega
                clear hg
                rcases hi with hi | ⟨hi, hj⟩
                · obtain ⟨I, hI⟩ := Int.eq_negSucc_of_lt_zero hi
                  rw [hI] at c5
                  clear hI hi
                  go_upto_region 25 with fail
                  obtain ⟨C, hC⟩ : ∃ C : World → Prop, ∀ w', C w' ↔ w' = w5 := ⟨_, fun _ => Iff.rfl⟩
                  have hC0 : C w5 := (hC _).2 rfl
                  have l5 := Lib.hid (fun w' (h : C w') => (show w'.cell? ⟨b, o + k * 9 + 5, none⟩ = some (.int .i64 (Int.negSucc I)) by rw [(hC w').1 h]; exact c5))
                  have HC := Lib.hid hC
                  clear hC
                  refine wp_region_plain (C := C) hC0 ?_
                  dsimp only []
                  repeat (first | go_big_quiet_skip | (go_big_quiet_want; first | (refine quiet_load _ _ (by rfl) ?_ _ (by rfl) (by first | exact l5.out) ?_; (· intro w; simp); (simp only [Act.put, List.setIfInBounds_toArray, List.set_cons_zero, List.set_cons_succ]); go_big_quiet_on) | (go_big_quiet_op; go_big_quiet_on) | (go_big_quiet_op; refine Exists.intro _ ⟨fun _ _ => rfl, ?_⟩; go_big_quiet_on)))
                  refine wpQuiet_nil ?_
                  intro w7 hC7
                  obtain rfl := (HC.out _).1 hC7
                  clear hC0 l5 hC7 HC
                  go_wp2_with fail
                  refine (L5.out.len).mono ?_
                  rintro e w6 ⟨rfl, hL⟩
                  have L6 := Lib.hid hL
                  clear hL
                  rw [HN1.out]
                  go_wp2
                  exact ⟨⟨k + 1, _, by omega, by go_num, L6.out⟩, by simp [intOf]; omega⟩
                · obtain ⟨I, hI⟩ := Int.eq_ofNat_of_zero_le hi
                  rw [hI] at c5 hj
                  clear hI hi
                  have hj2 : ¬ ((I : Int) < (n0 : Int)) := by omega
                  go_upto_region 25 with fail
                  obtain ⟨C, hC⟩ : ∃ C : World → Prop, ∀ w', C w' ↔ w' = w5 := ⟨_, fun _ => Iff.rfl⟩
                  have hC0 : C w5 := (hC _).2 rfl
                  have l5 := Lib.hid (fun w' (h : C w') => (show w'.cell? ⟨b, o + k * 9 + 5, none⟩ = some (.int .i64 (I : Int)) by rw [(hC w').1 h]; exact c5))
                  have HC := Lib.hid hC
                  clear hC
                  refine wp_region_plain (C := C) hC0 ?_
                  dsimp only []
                  repeat (first | go_big_quiet_skip | (go_big_quiet_want; first | (refine quiet_load _ _ (by rfl) ?_ _ (by rfl) (by first | exact l5.out) ?_; (· intro w; simp); (simp only [Act.put, List.setIfInBounds_toArray, List.set_cons_zero, List.set_cons_succ]); go_big_quiet_on) | (go_big_quiet_op; go_big_quiet_on) | (go_big_quiet_op; refine Exists.intro _ ⟨fun _ _ => rfl, ?_⟩; go_big_quiet_on)))
                  refine wpQuiet_nil ?_
                  intro w7 hC7
                  obtain rfl := (HC.out _).1 hC7
                  clear hC0 l5 hC7 HC
                  go_wp2_with fail
                  refine (L5.out.len).mono ?_
                  rintro e w6 ⟨rfl, hL⟩
                  have L6 := Lib.hid hL
                  clear hL
                  rw [HN1.out]
                  go_wp2
                  exact ⟨⟨k + 1, _, by omega, by go_num, L6.out⟩, by simp [intOf]; omega⟩
          · have b0 : (x.kind == 0) = false := beq_eq_false_iff_ne.2 k0
            have b1 : (x.kind == 1) = false := beq_eq_false_iff_ne.2 k1
            have b2 : (x.kind == 2) = false := beq_eq_false_iff_ne.2 k2
            have b3 : (x.kind == 3) = false := beq_eq_false_iff_ne.2 k3
            clear k0 k1 k2 k3
            subst hg
            go_wp2_with fail
            refine (L5.out.len).mono ?_
            rintro e w6 ⟨rfl, hL⟩
            have L6 := Lib.hid hL
            clear hL
            rw [HN1.out]
            go_wp2
            exact ⟨⟨k + 1, _, by omega, by go_num, L6.out⟩, by simp [intOf]; omega⟩
        · obtain rfl : k = l.length := by omega
          have h9 : (t.l.length : Int) ≤ 4096 := by have := L2.out.wf.l; omega
          go_wp2_with fail
          refine (L2.out.len).mono ?_
          rintro e w3 ⟨rfl, hL⟩
          have L3 := Lib.hid hL
          clear hL
          go_wp2
          go_ret
          exact ⟨by simp, L3.out.bel⟩
end Go.Proofs.YthegooaeehblhaaDoorR

/-
  PlanPlans: the walk.
-/
import Derived.Test.YtagelhbknbpfhaaDoorPlanA
import Derived.Test.YtagelhbknbpfhaaDoorPlanE
import Derived.Test.YtagelhbknbpfhaaDoorRefC
namespace Go.Proofs.YtagelhbknbpfhaaDoor
open Go.RowKit Go.BigFrame
set_option maxHeartbeats 1000000
set_option maxRecDepth 100000
theorem exec_neq_ky_self {o : Oper} {x y : Operand} {r : TypeId} (ho : o.op = .binOp .neq 41 x y r) (ev : Operand → Value) (d : Ky) (hx : ev x = .agg d.vals.toArray) (hy : ev y = .agg d.vals.toArray) (w : World) :
    (execOp ev o).run Tryd.prog w = .ok (.value (.bool false)) w := by
  obtain ⟨dst, op, type, pos, after, guard⟩ := o
  dsimp only at ho
  subst ho
  unfold Ky.vals at hx hy
  unfold execOp
  simp only [hx, hy]
  go_simp
theorem exec_neq_gp_self {o : Oper} {x y : Operand} {r : TypeId} (ho : o.op = .binOp .neq 48 x y r) (ev : Operand → Value) (d : Gp) (hx : ev x = .agg d.vals.toArray) (hy : ev y = .agg d.vals.toArray) (w : World) :
    (execOp ev o).run Tryd.prog w = .ok (.value (.bool false)) w := by
  obtain ⟨dst, op, type, pos, after, guard⟩ := o
  dsimp only at ho
  subst ho
  unfold Gp.vals at hx hy
  unfold execOp
  simp only [hx, hy]
  go_simp
theorem run_gp (k H : Int) (a b : Nat) (w : World) : (Instr.build 48 #[(0, .int .i64 k), (1, .int .i64 H), (2, .int .u32 a), (3, .int .u32 b)]).run Tryd.prog w = .ok (.agg (Gp.vals ⟨k, H, a, b⟩).toArray) w := by kernel_rfl
theorem lacks_prefix (l : List Ex) (count : List Nat) (k : Nat) : ∀ d, ∃ t, lacksK l count (k + d) = lacksK l count k ++ t
  | 0 => ⟨[], by simp⟩
  | d + 1 => by
    obtain ⟨t, ht⟩ := lacks_prefix l count k d
    exact ⟨t ++ gapAt l count (k + d), by rw [show k + (d + 1) = (k + d) + 1 by omega, lacksK_succ, ht, List.append_assoc]⟩
theorem lacks_at {l : List Ex} {count : List Nat} {k : Nat} (hk : k < 64) (h : atL count k < wholeL l k) : ∃ h2 : (lacksK l count k).length < (lacksK l count 64).length, (lacksK l count 64)[(lacksK l count k).length]'h2 = ⟨k, holdL l k, atL count k + 1, wholeL l k⟩ := by
  obtain ⟨t, ht⟩ := lacks_prefix l count (k + 1) (64 - (k + 1))
  rw [show k + 1 + (64 - (k + 1)) = 64 by omega, lacksK_succ l count k] at ht
  have hg : gapAt l count k = [⟨k, holdL l k, atL count k + 1, wholeL l k⟩] := by unfold gapAt; rw [if_pos h]
  rw [hg] at ht
  have h2 : (lacksK l count k).length < (lacksK l count 64).length := by rw [ht]; simp
  refine ⟨h2, ?_⟩
  simp only [ht, List.append_assoc]
  rw [List.getElem_append_right (Nat.le_refl _)]
  simp
theorem exs_filter (l : List XE) (m : Ex) : exs (l.filter fun z => sameOld z.x m) = (exs l).filter fun x => sameOld x m := by
  unfold exs
  rw [List.filter_map]
  rfl
theorem plans_walk (me : Int) (l : List XE) (v : Value) (count : List Nat) (v2 : Value) (q : Int) (a : Option Addr) (c b o : Nat) (a2 : Option Addr) (c2 b2 o2 : Nat) (w : World) (hT : TabOk w) (hr : RowAt XE.vals w v l a c b o) (hok : ∀ y ∈ l, y.Ok w) (hcl : ∀ y ∈ l, y.x.cnt.length * 4 ≤ 140737488351232) (hml : l.length ≤ 9223372036854775807)
    (hc : RowAt u32v w v2 count a2 c2 b2 o2) (hml2 : count.length ≤ 9223372036854775807) :
    Calls Tryd.prog 3 #[.int .i64 me, v, v2, .int .i64 q] w fun e w' => e = .returned (.bool true) ∧ Below w.heap.size w w' := by
  have hv := hr.v
  subst hv
  have hv2 := hc.v
  subst hv2
  have HT := Lib.hid hT
  have HR := Lib.hid hr
  have HOKL := Lib.hid hok
  have HCL := Lib.hid hcl
  have HCT := Lib.hid hc
  have HAW := Lib.hid (awake_any w hT)
  have hml2' : (count.length : Int) ≤ 9223372036854775807 := by omega
  clear hT hr hok hcl hc
  go_enter Tryd.func3, Tryd.ntmps3
  go_wp2_with fail
  refine HAW.out.mono ?_
  rintro e w1 ⟨rfl, h1⟩
  have B1 := Lib.hid h1
  clear h1 HAW
  go_wp2_with fail
  refine (few_any w1 _ l a c b o (HR.out.below rfl B1.out) (fun y hy => (HOKL.out y hy).below rfl B1.out) hml).mono ?_
  rintro e w2 ⟨r, rfl, h2, hf1⟩
  have B2 := Lib.hid (bthen' B1.out h2)
  clear h2
  cases r with
  | false =>
    clear hf1
    go_wp2
    go_ret
    exact ⟨rfl, B2.out⟩
  | true =>
  have hl80 : l.length ≤ 80 := hf1 rfl
  clear hf1
  by_cases h200 : 200 < count.length
  · have h200' : 200 < (count.length : Int) := by omega
    go_wp2
    go_ret
    exact ⟨rfl, B2.out⟩
  · have h200' : (count.length : Int) ≤ 200 := by omega
    have HL80 := Lib.hid hl80
    clear hl80 h200 hml hml2
    go_wp2_with fail
    clear h200'
    refine (new_any me ⟨HR.out.below rfl B2.out, fun y hy => (HOKL.out y hy).below rfl B2.out, by have := HL80.out; omega⟩ HCL.out).mono ?_
    rintro e w4 ⟨h4, hp⟩
    have B4 := Lib.hid (bthen' B2.out h4)
    clear h4
    have HE4 := Lib.hid (show ExsAt w4 (.slice a l.length c) l a c b o from ⟨HR.out.below rfl B4.out, fun y hy => (HOKL.out y hy).below rfl B4.out, by have := HL80.out; omega⟩)
    rcases hp with ⟨hpn, rfl⟩ | ⟨g, ys, hps, rfl, hpl, hg⟩
    · have NR := Lib.hid (newL_none_iff hpn)
      clear hpn
      go_wp2_with fail
      refine (right_any HE4.out me).mono ?_
      rintro e w5 ⟨r, rfl, h5, hr⟩
      have B5 := Lib.hid (bthen' B4.out h5)
      obtain rfl : r = false := by
        cases r
        · rfl
        · exact absurd (hr.1 rfl) NR.out
      clear h5 hr
      go_wp2
      go_ret
      exact ⟨rfl, B5.out⟩
    · have RN := Lib.hid (right_new hps)
      obtain ⟨m, hm⟩ := newL_ok hps
      have HNM := Lib.hid hm
      have HP := Lib.hid hpl
      clear hps hpl hg hm
      go_wp2_with fail
      refine (right_any HE4.out me).mono ?_
      rintro e w5 ⟨r, rfl, h5, hr⟩
      have B5 := Lib.hid (bthen' B4.out h5)
      have HP5 := Lib.hid (HP.out.below h5)
      have HE5 := Lib.hid (HE4.out.below rfl h5)
      obtain rfl : r = true := hr.2 RN.out
      clear h5 hr HP HE4
      go_wp2_with fail
      refine (rcomp_any HE5.out me HNM.out).mono ?_
      rintro e w6 ⟨zv, rfl, hzv, h6⟩
      have B6 := Lib.hid (bthen' B5.out h6)
      have HP6 := Lib.hid (HP5.out.below h6)
      have HE6 := Lib.hid (HE5.out.below rfl h6)
      clear HP5 HE5
      obtain ⟨zs, hzs⟩ : ∃ zs, l.filter (fun z => sameOld z.x m) = zs := ⟨_, rfl⟩
      rw [hzs] at hzv
      obtain ⟨X, hX⟩ : ∃ X, exs ys = X := ⟨_, rfl⟩
      have HX := Lib.hid hX
      have HZX := Lib.hid (show exs zs = X by rw [← hzs, exs_filter, ← HNM.out.la]; exact hX)
      have HRG := Lib.hid (show ∀ x ∈ exs zs, 0 ≤ x.who ∧ x.who < 64 from fun x hx => HNM.out.rng x (by rw [← hzs, exs_filter] at hx; exact (List.mem_filter.1 hx).1))
      have HRGY := Lib.hid (show ∀ y ∈ zs, 0 ≤ y.x.who ∧ y.x.who < 64 from fun y hy => HRG.out _ (List.mem_map.2 ⟨y, hy, rfl⟩))
      have hzok : ∀ y ∈ zs, y.Ok w6 := fun y hy => HE6.out.ok y (by rw [← hzs] at hy; exact (List.mem_filter.1 hy).1)
      have hzl : zs.length ≤ 1000 := by rw [← hzs]; exact Nat.le_trans (List.length_filter_le _ _) HE6.out.len
      obtain ⟨za, zc, zb, hzr, _⟩ := RowAt.own hzv rfl XE.len
      have ZE := Lib.hid (show ExsAt w6 zv zs za zc zb 0 from ⟨hzr, hzok, hzl⟩)
      have hzvv := hzr.v
      subst hzvv
      clear h6 hzs hX hzok hzl hzr hzv HNM RN
      obtain ⟨C, hC⟩ : ∃ C : World → Prop, ∀ w', C w' ↔ Below w6.heap.size w6 w' := ⟨_, fun _ => Iff.rfl⟩
      have hC0 : C w6 := (hC _).2 (Below.refl _ _)
      obtain ⟨S, hS⟩ : ∃ S, compS X = S := ⟨_, rfl⟩
      obtain ⟨N, hN⟩ : ∃ N, wholeL X q = N := ⟨_, rfl⟩
      obtain ⟨H, hH⟩ : ∃ H, holdL X q = H := ⟨_, rfl⟩
      obtain ⟨D, hD⟩ : ∃ D, bndL X = D := ⟨_, rfl⟩
      have k1 := Lib.hid (show ∀ w', C w' → Calls Tryd.prog 14 #[.pointer (some ⟨g, 0, none⟩)] w' fun e w'' => e = .returned (.int .u64 S) ∧ C w'' from
        fun w' h => (companions_any (HP6.out.below ((hC w').1 h))).mono fun e w'' ⟨he, hw⟩ => ⟨by rw [← hS, ← HX.out]; exact he, (hC w'').2 (bthen' ((hC w').1 h) hw)⟩)
      have k2 := Lib.hid (show ∀ w', C w' → Calls Tryd.prog 15 #[.slice za zs.length zc] w' fun e w'' => e = .returned (.int .u64 S) ∧ C w'' from
        fun w' h => (rset_any (ZE.out.below rfl ((hC w').1 h)) HRGY.out).mono fun e w'' ⟨he, hw⟩ => ⟨by rw [← hS, ← HZX.out]; exact he, hw ▸ h⟩)
      have k3 := Lib.hid (show ∀ w', C w' → Calls Tryd.prog 16 #[.pointer (some ⟨g, 0, none⟩), .int .i64 q] w' fun e w'' => e = .returned (.int .u32 N) ∧ C w'' from
        fun w' h => (whole_any (HP6.out.below ((hC w').1 h)) _).mono fun e w'' ⟨he, hw⟩ => ⟨by rw [← hN, ← HX.out]; exact he, (hC w'').2 (bthen' ((hC w').1 h) hw)⟩)
      have k4 := Lib.hid (show ∀ w', C w' → Calls Tryd.prog 17 #[.slice za zs.length zc, .int .i64 q] w' fun e w'' => e = .returned (.int .u32 N) ∧ C w'' from
        fun w' h => (rwhole_any (ZE.out.below rfl ((hC w').1 h)) q).mono fun e w'' ⟨he, hw⟩ => ⟨by rw [← hN, ← HZX.out]; exact he, hw ▸ h⟩)
      have k5 := Lib.hid (show ∀ w', C w' → Calls Tryd.prog 18 #[.pointer (some ⟨g, 0, none⟩), .int .i64 q] w' fun e w'' => e = .returned (.int .i64 H) ∧ C w'' from
        fun w' h => (holder_any (HP6.out.below ((hC w').1 h)) ((HT.out.belowS B6.out).belowS ((hC w').1 h)) _).mono fun e w'' ⟨he, hw⟩ => ⟨by rw [← hH, ← HX.out]; exact he, (hC w'').2 (bthen' ((hC w').1 h) hw)⟩)
      have k6 := Lib.hid (show ∀ w', C w' → Calls Tryd.prog 19 #[.slice za zs.length zc, .int .i64 q] w' fun e w'' => e = .returned (.int .i64 H) ∧ C w'' from
        fun w' h => (rhold_any (ZE.out.below rfl ((hC w').1 h)) HRG.out q).mono fun e w'' ⟨he, hw⟩ => ⟨by rw [← hH, ← HZX.out]; exact he, hw ▸ h⟩)
      have k7 := Lib.hid (show ∀ w', C w' → Calls Tryd.prog 20 #[.pointer (some ⟨g, 0, none⟩)] w' fun e w'' => e = .returned (.agg D.vals.toArray) ∧ C w'' from
        fun w' h => (boundary_any (HP6.out.below ((hC w').1 h))).mono fun e w'' ⟨he, hw⟩ => ⟨by rw [← hD, ← HX.out]; exact he, (hC w'').2 (bthen' ((hC w').1 h) hw)⟩)
      have k8 := Lib.hid (show ∀ w', C w' → Calls Tryd.prog 21 #[.slice za zs.length zc] w' fun e w'' => e = .returned (.agg D.vals.toArray) ∧ C w'' from
        fun w' h => (rbnd_any (ZE.out.below rfl ((hC w').1 h))).mono fun e w'' ⟨he, hw⟩ => ⟨by rw [← hD, ← HZX.out]; exact he, (hC w'').2 (bthen' ((hC w').1 h) hw)⟩)
      have bs := Lib.hid (show ((S : Int) != (S : Int)) = false by simp)
      have bn := Lib.hid (show ((N : Int) != (N : Int)) = false by simp)
      have bh := Lib.hid (show (H != H) = false by simp)
      have HC := Lib.hid hC
      clear hC hS hN hH hD
      go_upto_region 11 with fail
      refine wp_region_plain (C := C) hC0 ?_
      dsimp only []
      repeat (first | go_big_quiet_skip | (go_big_quiet_want; first | (refine quiet_call 14 _ _ (by rfl) Tryd.call14 _ ?_ k1.out ?_; (· rfl); (simp only [Act.put, List.setIfInBounds_toArray, List.set_cons_zero, List.set_cons_succ]); go_big_quiet_on) | (refine quiet_call 15 _ _ (by rfl) Tryd.call15 _ ?_ k2.out ?_; (· rfl); (simp only [Act.put, List.setIfInBounds_toArray, List.set_cons_zero, List.set_cons_succ]); go_big_quiet_on) | (refine quiet_call 16 _ _ (by rfl) Tryd.call16 _ ?_ k3.out ?_; (· rfl); (simp only [Act.put, List.setIfInBounds_toArray, List.set_cons_zero, List.set_cons_succ]); go_big_quiet_on) | (refine quiet_call 17 _ _ (by rfl) Tryd.call17 _ ?_ k4.out ?_; (· rfl); (simp only [Act.put, List.setIfInBounds_toArray, List.set_cons_zero, List.set_cons_succ]); go_big_quiet_on) | (refine quiet_call 18 _ _ (by rfl) Tryd.call18 _ ?_ k5.out ?_; (· rfl); (simp only [Act.put, List.setIfInBounds_toArray, List.set_cons_zero, List.set_cons_succ]); go_big_quiet_on) | (refine quiet_call 19 _ _ (by rfl) Tryd.call19 _ ?_ k6.out ?_; (· rfl); (simp only [Act.put, List.setIfInBounds_toArray, List.set_cons_zero, List.set_cons_succ]); go_big_quiet_on) | (refine quiet_call 20 _ _ (by rfl) Tryd.call20 _ ?_ k7.out ?_; (· rfl); (simp only [Act.put, List.setIfInBounds_toArray, List.set_cons_zero, List.set_cons_succ]); go_big_quiet_on) | (refine quiet_call 21 _ _ (by rfl) Tryd.call21 _ ?_ k8.out ?_; (· rfl); (simp only [Act.put, List.setIfInBounds_toArray, List.set_cons_zero, List.set_cons_succ]); go_big_quiet_on) | (refine quiet_neq_int _ _ _ _ (by rfl) (by rfl) (by rfl) bs.out ?_; (simp only [Act.put, List.setIfInBounds_toArray, List.set_cons_zero, List.set_cons_succ]); go_big_quiet_on) | (refine quiet_neq_int _ _ _ _ (by rfl) (by rfl) (by rfl) bn.out ?_; (simp only [Act.put, List.setIfInBounds_toArray, List.set_cons_zero, List.set_cons_succ]); go_big_quiet_on) | (refine quiet_neq_int _ _ _ _ (by rfl) (by rfl) (by rfl) bh.out ?_; (simp only [Act.put, List.setIfInBounds_toArray, List.set_cons_zero, List.set_cons_succ]); go_big_quiet_on) | (refine quiet_exec (v := .bool false) (fun w => exec_neq_ky_self (by rfl) _ D (by rfl) (by rfl) w) ?_; (simp only [Act.put, List.setIfInBounds_toArray, List.set_cons_zero, List.set_cons_succ]); go_big_quiet_on) | (go_big_quiet_op; go_big_quiet_on) | (go_big_quiet_op; refine Exists.intro _ ⟨fun _ _ => rfl, ?_⟩; go_big_quiet_on)))
      refine wpQuiet_nil ?_
      intro w7 hC7
      have H7 := Lib.hid ((HC.out _).1 hC7)
      have B7 := Lib.hid (bthen' B6.out H7.out)
      have HP7 := Lib.hid (HP6.out.below H7.out)
      have ZE7 := Lib.hid (ZE.out.below rfl H7.out)
      clear hC7 hC0 k1 k2 k3 k4 k5 k6 k7 k8 HC HP6 ZE HE6 bs bn bh
      go_wp2_with fail
      refine (lacks_any HP7.out (HT.out.belowS B7.out) (HCT.out.below rfl B7.out)).mono ?_
      rintro e w8 ⟨gv, rfl, hgv, h8⟩
      rw [HX.out] at hgv
      have B8 := Lib.hid (bthen' B7.out h8)
      have ZE8 := Lib.hid (ZE7.out.below rfl h8)
      obtain ⟨G, hG⟩ : ∃ G, lacksK X count 64 = G := ⟨_, rfl⟩
      rw [hG] at hgv
      obtain ⟨ga, gc, gb, hgr, _⟩ := RowAt.own hgv rfl Gp.len
      have hgvv := hgr.v
      subst hgvv
      have HG := Lib.hid hgr
      have HGK := Lib.hid hG
      have hG64 : (G.length : Int) ≤ 64 := by have := lacksK_len X count 64; rw [hG] at this; omega
      have hug : Hid ((Tryd.prog.info? 48).map (·.size) = some (4 : Nat)) := Lib.hid (by kernel_rfl)
      have HWL := Lib.hid (show ∀ k : Int, wholeL X k < 4294967296 from fun k => wholeL_lt (by rw [← HX.out]; exact HP7.out.lt) k)
      clear h8 hgv hgr hG HP7 ZE7
      go_wp2
      go_loopw [13, 14] (fun nv i wr => ∃ k : Nat, k ≤ 64 ∧ i = .int .i64 k ∧ nv = .int .i64 (lacksK X count k).length ∧ Below w8.heap.size w8 wr) (fun _ i _ => 64 - (intOf i).toNat)
      case atStart => exact ⟨0, Nat.zero_le _, rfl, rfl, Below.refl _ _⟩
      case round =>
        obtain ⟨k, hk, rfl, rfl, hb⟩ := hrel
        have HB := Lib.hid hb
        clear hb
        by_cases hlt : k < 64
        · have hlt' : (k : Int) < 64 := by omega
          obtain ⟨N, hN⟩ : ∃ N, wholeL X k = N := ⟨_, rfl⟩
          obtain ⟨A, hA⟩ : ∃ A, atL count k = A := ⟨_, rfl⟩
          obtain ⟨M, hM⟩ : ∃ M, (lacksK X count k).length = M := ⟨_, rfl⟩
          have HN := Lib.hid hN
          have HA := Lib.hid hA
          have HNL := Lib.hid (show N < 4294967296 by rw [← hN]; exact HWL.out k)
          have HM64 := Lib.hid (show M ≤ k by rw [← hM]; exact lacksK_len X count k)
          rw [hM]
          go_wp2_with fail
          refine (rwhole_any (ZE8.out.below rfl HB.out) _).mono ?_
          rintro e w9 ⟨rfl, rfl⟩
          rw [HZX.out, HN.out]
          go_wp2_with fail
          refine (rat_any _ _ _ _ _ _ _ (HCT.out.below rfl (bthen' B8.out HB.out)) _).mono ?_
          rintro e w10 ⟨rfl, rfl⟩
          rw [HA.out]
          by_cases hAN : A < N
          · have hAN' : (A : Int) < (N : Int) := by omega
            obtain ⟨hgl, hge⟩ := lacks_at (l := X) (count := count) hlt (by rw [hA, hN]; exact hAN)
            simp only [hM, HGK.out, hA, hN] at hgl hge
            obtain ⟨H, hH⟩ : ∃ H, holdL X k = H := ⟨_, rfl⟩
            rw [hH] at hge
            obtain ⟨rfl, _⟩ := HG.out.a (by omega)
            have hMl : (M : Int) < (G.length : Int) := by omega
            obtain ⟨C, hC⟩ : ∃ C : World → Prop, ∀ w', C w' ↔ Below w8.heap.size w8 w' := ⟨_, fun _ => Iff.rfl⟩
            have hC0 : C { wr with drawn := wr.drawn + 1 } := (hC _).2 (Below.drew HB.out)
            have mg := Lib.hid (show ∀ w', C w' → w'.rangeAt gb (M * 4) (Gp.vals ⟨k, H, A + 1, N⟩) from fun w' h => by
              have := (HG.out.below rfl ((hC w').1 h)).at_ Gp.len hgl
              rw [Nat.zero_add] at this
              have e : G[M] = ⟨k, H, A + 1, N⟩ := by simpa using hge
              rw [← e]; exact this)
            have kh := Lib.hid (show ∀ w', C w' → Calls Tryd.prog 19 #[.slice za zs.length zc, .int .i64 k] w' fun e w'' => e = .returned (.int .i64 H) ∧ C w'' from
              fun w' h => (rhold_any (ZE8.out.below rfl ((hC w').1 h)) HRG.out k).mono fun e w'' ⟨he, hw⟩ => ⟨by rw [← hH, ← HZX.out]; exact he, hw ▸ h⟩)
            have ka := Lib.hid (show ∀ w', C w' → Calls Tryd.prog 23 #[.slice a2 count.length c2, .int .i64 k] w' fun e w'' => e = .returned (.int .u32 A) ∧ C w'' from
              fun w' h => (rat_any _ _ _ _ _ _ _ (HCT.out.below rfl (bthen' B8.out ((hC w').1 h))) _).mono fun e w'' ⟨he, hw⟩ => ⟨by rw [← hA]; exact he, hw ▸ h⟩)
            have bg := Lib.hid (show decide ((G.length : Int) ≤ (M : Int)) = false from decide_eq_false (by omega))
            have hA1 : (A : Int) + 1 < 4294967296 := by have := HNL.out; omega
            have HS := Lib.hid (show (lacksK X count (k + 1)).length = M + 1 by
              rw [lacksK_succ, List.length_append, hM]
              unfold gapAt
              rw [hA, hN, if_pos hAN]; rfl)
            have HC := Lib.hid hC
            clear hC hN hA hM hAN hgl hge hH
            go_upto_region 20 with fail
            refine wp_region_quiet (C := C) (by kernel_rfl) (by kernel_rfl) hC0 ?_
            dsimp only []
            repeat (first | go_big_quiet_skip | (go_big_quiet_want; first | (refine quiet_call 19 _ _ (by rfl) Tryd.call19 _ ?_ kh.out ?_; (· rfl); (simp only [Act.put, List.setIfInBounds_toArray, List.set_cons_zero, List.set_cons_succ]); go_big_quiet_on) | (refine quiet_call 23 _ _ (by rfl) Tryd.call23 _ ?_ ka.out ?_; (· rfl); (simp only [Act.put, List.setIfInBounds_toArray, List.set_cons_zero, List.set_cons_succ]); go_big_quiet_on) | (refine quiet_geq_int _ _ _ _ (by rfl) (by rfl) (by rfl) bg.out ?_; (simp only [Act.put, List.setIfInBounds_toArray, List.set_cons_zero, List.set_cons_succ]); go_big_quiet_on) | (refine quiet_load_mid (cs := Gp.vals ⟨k, H, A + 1, N⟩) Tryd.underlying48 rfl hug.out _ (by rfl) gb (M * 4) (by rfl) mg.out ?_; (simp only [Act.put, List.setIfInBounds_toArray, List.set_cons_zero, List.set_cons_succ]); go_big_quiet_on) | (refine quiet_build _ _ (by rfl) #[(0, .int .i64 k), (1, .int .i64 H), (2, .int .u32 ((A + 1 : Nat) : Int)), (3, .int .u32 N)] (by kernel_rfl) (run_gp k H (A + 1) N) ?_; (simp only [Act.put, List.setIfInBounds_toArray, List.set_cons_zero, List.set_cons_succ]); go_big_quiet_on) | (refine quiet_exec (v := .bool false) (fun w => exec_neq_gp_self (by rfl) _ ⟨k, H, A + 1, N⟩ (by rfl) (by rfl) w) ?_; (simp only [Act.put, List.setIfInBounds_toArray, List.set_cons_zero, List.set_cons_succ]); go_big_quiet_on) | (go_big_quiet_op; go_big_quiet_on) | (go_big_quiet_op; refine Exists.intro _ ⟨fun _ _ => rfl, ?_⟩; go_big_quiet_on)))
            refine wpQuiet_nil ?_
            intro w11 hC11
            have HB11 := Lib.hid ((HC.out _).1 hC11)
            clear hC11 hC0 mg kh ka HC bg
            go_wp2
            go_roundw
            case rel => exact ⟨k + 1, by omega, by go_num, by rw [HS.out]; go_num, HB11.out⟩
            case measure => simp [intOf]; omega
          · have hAN' : (N : Int) ≤ (A : Int) := by omega
            have HS := Lib.hid (show (lacksK X count (k + 1)).length = M by
              rw [lacksK_succ, List.length_append, hM]
              unfold gapAt
              rw [hA, hN, if_neg hAN]; rfl)
            clear hN hA hM hAN
            go_wp2
            go_roundw
            case rel => exact ⟨k + 1, by omega, by go_num, by rw [HS.out], HB.out⟩
            case measure => simp [intOf]; omega
        · obtain rfl : k = 64 := by omega
          rw [HGK.out]
          have eg : ((G.length : Int) == (G.length : Int)) = true := by simp
          go_wp2
          go_ret
          exact ⟨rfl, bthen' B8.out HB.out⟩
end Go.Proofs.YtagelhbknbpfhaaDoor

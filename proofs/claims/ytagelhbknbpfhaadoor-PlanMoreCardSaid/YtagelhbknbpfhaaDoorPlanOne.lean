/-
  PlanOne: the walk.
-/
import Derived.Test.YtagelhbknbpfhaaDoorPlanA
import Derived.Test.YtagelhbknbpfhaaDoorPlanE
import Derived.Test.YtagelhbknbpfhaaDoorPlanS
import Derived.Test.YtagelhbknbpfhaaDoorPlanQ
namespace Go.Proofs.YtagelhbknbpfhaaDoor
open Go.RowKit Go.BigFrame
set_option maxHeartbeats 1000000
set_option maxRecDepth 100000
theorem exec_eql_ky_self {o : Oper} {x y : Operand} {r : TypeId} (ho : o.op = .binOp .eql 41 x y r) (ev : Operand → Value) (d : Ky) (hx : ev x = .agg d.vals.toArray) (hy : ev y = .agg d.vals.toArray) (w : World) :
    (execOp ev o).run Tryd.prog w = .ok (.value (.bool true)) w := by
  have := exec_eql_ky ho ev d d hx hy w
  simpa using this
theorem keep_msgs {w : World} {B : Nat} {kv : Value} {ks : List MsE} (hrow : w.ownsRow B 59 6 kv ks.length (rowOf MsE.vals ks)) (hok : ∀ y ∈ ks, y.Ok w) : ∃ a c b, MsgsAt w kv ks a c b 0 := by
  obtain ⟨a, c, b, hr, _⟩ := RowAt.own hrow rfl MsE.len
  exact ⟨a, c, b, hr, hok⟩
theorem one_walk (l : List XE) (v : Value) (rest : List MsE) (v2 : Value) (x y : Int) (a : Option Addr) (c b o : Nat) (a2 : Option Addr) (c2 b2 o2 : Nat) (w : World) (hT : TabOk w) (hr : RowAt XE.vals w v l a c b o) (hok : ∀ y ∈ l, y.Ok w) (hcl : ∀ y ∈ l, y.x.cnt.length * 4 ≤ 140737488351232) (hml : l.length ≤ 9223372036854775807)
    (hm : MsgsAt w v2 rest a2 c2 b2 o2) (hml2 : rest.length ≤ 9223372036854775807) :
    Calls Tryd.prog 5 #[v, v2, .int .i64 x, .int .i64 y] w fun e w' => e = .returned (.bool true) ∧ Below w.heap.size w w' := by
  have hv := hr.v
  subst hv
  have hv2 := hm.r.v
  subst hv2
  have HT := Lib.hid hT
  have HR := Lib.hid hr
  have HOK := Lib.hid hok
  have HCL := Lib.hid hcl
  have HM := Lib.hid hm
  have HAW := Lib.hid (awake_any w hT)
  clear hT hr hok hcl hm
  go_enter Tryd.func5, Tryd.ntmps5
  go_wp2_with fail
  refine HAW.out.mono ?_
  rintro e w1 ⟨rfl, h1⟩
  have B1 := Lib.hid h1
  clear h1 HAW
  go_wp2_with fail
  refine (few_any w1 _ l a c b o (HR.out.below rfl B1.out) (fun y hy => (HOK.out y hy).below rfl B1.out) hml).mono ?_
  rintro e w2 ⟨r, rfl, h2, hf1⟩
  have B2 := Lib.hid (bthen' B1.out h2)
  clear h2
  cases r with
  | false =>
    clear hf1
    go_wp2
    go_ret
    exact ⟨rfl, B2.out⟩
  | true =>
  have hl80 : l.length ≤ 80 := hf1 rfl
  clear hf1
  go_wp2_with fail
  refine (few3_any w2 _ rest a2 c2 b2 o2 (HM.out.below rfl B2.out) hml2).mono ?_
  rintro e w3 ⟨r, rfl, h3, hf2⟩
  have B3 := Lib.hid (bthen' B2.out h3)
  clear h3
  cases r with
  | false =>
    clear hf2
    go_wp2
    go_ret
    exact ⟨rfl, B3.out⟩
  | true =>
  have hr300 : rest.length ≤ 300 := hf2 rfl
  clear hf2
  by_cases h60 : 60 < rest.length
  · have h60' : 60 < (rest.length : Int) := by omega
    go_wp2
    go_ret
    exact ⟨rfl, B3.out⟩
  · have h60' : (rest.length : Int) ≤ 60 := by omega
    have HL60 := Lib.hid (show rest.length ≤ 60 by omega)
    have HL80 := Lib.hid hl80
    clear hl80 hr300 h60 hml hml2
    go_wp2_with fail
    clear h60'
    refine (new_any x ⟨HR.out.below rfl B3.out, fun y hy => (HOK.out y hy).below rfl B3.out, by have := HL80.out; omega⟩ HCL.out).mono ?_
    rintro e w4 ⟨h4, hp⟩
    have B4 := Lib.hid (bthen' B3.out h4)
    have H4 := Lib.hid h4
    clear h4
    rcases hp with ⟨hpn, rfl⟩ | ⟨g, ys, hps, rfl, hpl, hg⟩
    · go_wp2_with fail
      refine (new_any y ⟨HR.out.below rfl B4.out, fun y hy => (HOK.out y hy).below rfl B4.out, by have := HL80.out; omega⟩ HCL.out).mono ?_
      rintro e w5 ⟨h5, hq⟩
      have B5 := Lib.hid (bthen' B4.out h5)
      clear h5
      rcases hq with ⟨hqn, rfl⟩ | ⟨g2, zs, hqs, rfl, hql, hg2⟩
      · clear hpn hqn
        go_wp2
        go_ret
        exact ⟨rfl, B5.out⟩
      · clear hpn hqs hql hg2
        go_wp2
        go_ret
        exact ⟨rfl, B5.out⟩
    · have HP := Lib.hid hpl
      have HPS := Lib.hid hps
      clear hps hpl hg
      go_wp2_with fail
      refine (new_any y ⟨HR.out.below rfl B4.out, fun y hy => (HOK.out y hy).below rfl B4.out, by have := HL80.out; omega⟩ HCL.out).mono ?_
      rintro e w5 ⟨h5, hq⟩
      have B5 := Lib.hid (bthen' B4.out h5)
      have HP5 := Lib.hid (HP.out.below h5)
      clear h5 HP
      rcases hq with ⟨hqn, rfl⟩ | ⟨g2, zs, hqs, rfl, hql, hg2⟩
      · clear hqn
        go_wp2
        go_ret
        exact ⟨rfl, B5.out⟩
      · have HQ5 := Lib.hid hql
        have HQS := Lib.hid hqs
        clear hqs hql hg2
        go_wp2_with fail
        refine (companions_any HP5.out).mono ?_
        rintro e w6 ⟨rfl, h6⟩
        have B6 := Lib.hid (bthen' B5.out h6)
        have HP6 := Lib.hid (HP5.out.below h6)
        have HQ6 := Lib.hid (HQ5.out.below h6)
        have HCS := Lib.hid (compS_lt (exs ys))
        clear h6 HP5 HQ5
        go_wp2_with fail
        refine (has_any _ _ HCS.out _).mono ?_
        rintro e w7 ⟨rfl, rfl⟩
        cases hh : hasN (compS (exs ys)) y with
        | false =>
          clear hh
          go_wp2
          go_ret
          exact ⟨rfl, B6.out⟩
        | true =>
        obtain ⟨m, hm⟩ := newL_ok HPS.out
        obtain ⟨m2, hm2⟩ := newL_ok HQS.out
        have EQ := Lib.hid (hm.same hm2 hh)
        have SELF := Lib.hid hm.self
        clear hh hm hm2
        go_wp2
        obtain ⟨X, hX⟩ : ∃ X, exs ys = X := ⟨_, rfl⟩
        have HX := Lib.hid hX
        have HZX := Lib.hid (show exs zs = X by rw [← EQ.out]; exact hX)
        have HHOLD := Lib.hid (show ∀ q, 0 ≤ holdL X q → hasN (compS X) (holdL X q) = true from fun q h => hold_comp h)
        have HCX := Lib.hid (compS_lt X)
        rw [hX] at SELF
        clear hX
        go_loopw [13] (fun i wr => ∃ k : Nat, k ≤ 64 ∧ i = .int .i64 k ∧ Below w6.heap.size w6 wr) (fun i _ => 64 - (intOf i).toNat)
        case atStart => exact ⟨0, Nat.zero_le _, rfl, Below.refl _ _⟩
        case round =>
          obtain ⟨k, hk, rfl, hb⟩ := hrel
          have HB := Lib.hid hb
          clear hb
          by_cases hlt : k < 64
          · have hlt' : (k : Int) < 64 := by omega
            obtain ⟨N, hN⟩ : ∃ N, wholeL X k = N := ⟨_, rfl⟩
            obtain ⟨H, hH⟩ : ∃ H, holdL X k = H := ⟨_, rfl⟩
            obtain ⟨S, hS⟩ : ∃ S, compS X = S := ⟨_, rfl⟩
            obtain ⟨C, hC⟩ : ∃ C : World → Prop, ∀ w', C w' ↔ Below w6.heap.size w6 w' := ⟨_, fun _ => Iff.rfl⟩
            have hC0 : C wr := (hC _).2 HB.out
            have kwp := Lib.hid (show ∀ w', C w' → Calls Tryd.prog 16 #[.pointer (some ⟨g, 0, none⟩), .int .i64 k] w' fun e w'' => e = .returned (.int .u32 N) ∧ C w'' from
              fun w' h => (whole_any (HP6.out.below ((hC w').1 h)) _).mono fun e w'' ⟨he, hw⟩ => ⟨by rw [← hN, ← HX.out]; exact he, (hC w'').2 (bthen' ((hC w').1 h) hw)⟩)
            have kwq := Lib.hid (show ∀ w', C w' → Calls Tryd.prog 16 #[.pointer (some ⟨g2, 0, none⟩), .int .i64 k] w' fun e w'' => e = .returned (.int .u32 N) ∧ C w'' from
              fun w' h => (whole_any (HQ6.out.below ((hC w').1 h)) _).mono fun e w'' ⟨he, hw⟩ => ⟨by rw [← hN, ← HZX.out]; exact he, (hC w'').2 (bthen' ((hC w').1 h) hw)⟩)
            have khp := Lib.hid (show ∀ w', C w' → Calls Tryd.prog 18 #[.pointer (some ⟨g, 0, none⟩), .int .i64 k] w' fun e w'' => e = .returned (.int .i64 H) ∧ C w'' from
              fun w' h => (holder_any (HP6.out.below ((hC w').1 h)) ((HT.out.belowS B6.out).belowS ((hC w').1 h)) _).mono fun e w'' ⟨he, hw⟩ => ⟨by rw [← hH, ← HX.out]; exact he, (hC w'').2 (bthen' ((hC w').1 h) hw)⟩)
            have khq := Lib.hid (show ∀ w', C w' → Calls Tryd.prog 18 #[.pointer (some ⟨g2, 0, none⟩), .int .i64 k] w' fun e w'' => e = .returned (.int .i64 H) ∧ C w'' from
              fun w' h => (holder_any (HQ6.out.below ((hC w').1 h)) ((HT.out.belowS B6.out).belowS ((hC w').1 h)) _).mono fun e w'' ⟨he, hw⟩ => ⟨by rw [← hH, ← HZX.out]; exact he, (hC w'').2 (bthen' ((hC w').1 h) hw)⟩)
            have kcp := Lib.hid (show ∀ w', C w' → Calls Tryd.prog 14 #[.pointer (some ⟨g, 0, none⟩)] w' fun e w'' => e = .returned (.int .u64 S) ∧ C w'' from
              fun w' h => (companions_any (HP6.out.below ((hC w').1 h))).mono fun e w'' ⟨he, hw⟩ => ⟨by rw [← hS, ← HX.out]; exact he, (hC w'').2 (bthen' ((hC w').1 h) hw)⟩)
            have bn := Lib.hid (show ((N : Int) != (N : Int)) = false by simp)
            have bh := Lib.hid (show (H != H) = false by simp)
            have HC := Lib.hid hC
            by_cases hpos : 0 ≤ H
            · have khs := Lib.hid (show ∀ w', C w' → Calls Tryd.prog 28 #[.int .u64 S, .int .i64 H] w' fun e w'' => e = .returned (.bool true) ∧ C w'' from
                fun w' h => (has_any S H (by rw [← hS]; exact HCX.out) _).mono fun e w'' ⟨he, hw⟩ => ⟨by
                  have h1 := HHOLD.out k (by rw [hH]; exact hpos)
                  rw [hH, hS] at h1
                  rw [← h1]; exact he, hw ▸ h⟩)
              have bg := Lib.hid (show decide ((0 : Int) ≤ H) = true from decide_eq_true hpos)
              clear hC hN hH hS hpos
              go_upto_region 12 with fail
              refine wp_region_plain (C := C) hC0 ?_
              dsimp only []
              repeat (first | go_big_quiet_skip | (go_big_quiet_want; first | (refine quiet_call 16 _ _ (by rfl) Tryd.call16 _ ?_ kwp.out ?_; (· rfl); (simp only [Act.put, List.setIfInBounds_toArray, List.set_cons_zero, List.set_cons_succ]); go_big_quiet_on) | (refine quiet_call 16 _ _ (by rfl) Tryd.call16 _ ?_ kwq.out ?_; (· rfl); (simp only [Act.put, List.setIfInBounds_toArray, List.set_cons_zero, List.set_cons_succ]); go_big_quiet_on) | (refine quiet_call 18 _ _ (by rfl) Tryd.call18 _ ?_ khp.out ?_; (· rfl); (simp only [Act.put, List.setIfInBounds_toArray, List.set_cons_zero, List.set_cons_succ]); go_big_quiet_on) | (refine quiet_call 18 _ _ (by rfl) Tryd.call18 _ ?_ khq.out ?_; (· rfl); (simp only [Act.put, List.setIfInBounds_toArray, List.set_cons_zero, List.set_cons_succ]); go_big_quiet_on) | (refine quiet_call 14 _ _ (by rfl) Tryd.call14 _ ?_ kcp.out ?_; (· rfl); (simp only [Act.put, List.setIfInBounds_toArray, List.set_cons_zero, List.set_cons_succ]); go_big_quiet_on) | (refine quiet_call 28 _ _ (by rfl) Tryd.call28 _ ?_ khs.out ?_; (· rfl); (simp only [Act.put, List.setIfInBounds_toArray, List.set_cons_zero, List.set_cons_succ]); go_big_quiet_on) | (refine quiet_neq_int _ _ _ _ (by rfl) (by rfl) (by rfl) bn.out ?_; (simp only [Act.put, List.setIfInBounds_toArray, List.set_cons_zero, List.set_cons_succ]); go_big_quiet_on) | (refine quiet_neq_int _ _ _ _ (by rfl) (by rfl) (by rfl) bh.out ?_; (simp only [Act.put, List.setIfInBounds_toArray, List.set_cons_zero, List.set_cons_succ]); go_big_quiet_on) | (refine quiet_geq_int _ _ _ _ (by rfl) (by rfl) (by rfl) bg.out ?_; (simp only [Act.put, List.setIfInBounds_toArray, List.set_cons_zero, List.set_cons_succ]); go_big_quiet_on) | (refine quiet_not (K := true) (K' := false) _ _ (by rfl) (by rfl) rfl ?_; (simp only [Act.put, List.setIfInBounds_toArray, List.set_cons_zero, List.set_cons_succ]); go_big_quiet_on) | (go_big_quiet_op; go_big_quiet_on) | (go_big_quiet_op; refine Exists.intro _ ⟨fun _ _ => rfl, ?_⟩; go_big_quiet_on)))
              refine wpQuiet_nil ?_
              intro w8 hC8
              have HB8 := Lib.hid ((HC.out _).1 hC8)
              clear hC8 hC0 kwp kwq khp khq kcp khs HC
              go_wp2
              go_roundw
              case rel => exact ⟨k + 1, by omega, by go_num, HB8.out⟩
              case measure => simp [intOf]; omega
            · have bg := Lib.hid (show decide ((0 : Int) ≤ H) = false from decide_eq_false hpos)
              clear hC hN hH hS hpos
              go_upto_region 12 with fail
              refine wp_region_plain (C := C) hC0 ?_
              dsimp only []
              repeat (first | go_big_quiet_skip | (go_big_quiet_want; first | (refine quiet_call 16 _ _ (by rfl) Tryd.call16 _ ?_ kwp.out ?_; (· rfl); (simp only [Act.put, List.setIfInBounds_toArray, List.set_cons_zero, List.set_cons_succ]); go_big_quiet_on) | (refine quiet_call 16 _ _ (by rfl) Tryd.call16 _ ?_ kwq.out ?_; (· rfl); (simp only [Act.put, List.setIfInBounds_toArray, List.set_cons_zero, List.set_cons_succ]); go_big_quiet_on) | (refine quiet_call 18 _ _ (by rfl) Tryd.call18 _ ?_ khp.out ?_; (· rfl); (simp only [Act.put, List.setIfInBounds_toArray, List.set_cons_zero, List.set_cons_succ]); go_big_quiet_on) | (refine quiet_call 18 _ _ (by rfl) Tryd.call18 _ ?_ khq.out ?_; (· rfl); (simp only [Act.put, List.setIfInBounds_toArray, List.set_cons_zero, List.set_cons_succ]); go_big_quiet_on) | (refine quiet_neq_int _ _ _ _ (by rfl) (by rfl) (by rfl) bn.out ?_; (simp only [Act.put, List.setIfInBounds_toArray, List.set_cons_zero, List.set_cons_succ]); go_big_quiet_on) | (refine quiet_neq_int _ _ _ _ (by rfl) (by rfl) (by rfl) bh.out ?_; (simp only [Act.put, List.setIfInBounds_toArray, List.set_cons_zero, List.set_cons_succ]); go_big_quiet_on) | (refine quiet_geq_int _ _ _ _ (by rfl) (by rfl) (by rfl) bg.out ?_; (simp only [Act.put, List.setIfInBounds_toArray, List.set_cons_zero, List.set_cons_succ]); go_big_quiet_on) | (go_big_quiet_op; go_big_quiet_on) | (go_big_quiet_op; refine Exists.intro _ ⟨fun _ _ => rfl, ?_⟩; go_big_quiet_on)))
              refine wpQuiet_nil ?_
              intro w8 hC8
              have HB8 := Lib.hid ((HC.out _).1 hC8)
              clear hC8 hC0 kwp kwq khp khq kcp HC
              go_wp2
              go_roundw
              case rel => exact ⟨k + 1, by omega, by go_num, HB8.out⟩
              case measure => simp [intOf]; omega
          · obtain rfl : k = 64 := by omega
            have B7 := Lib.hid (bthen' B6.out HB.out)
            have HP7 := Lib.hid (HP6.out.below HB.out)
            have HQ7 := Lib.hid (HQ6.out.below HB.out)
            obtain ⟨S, hS⟩ : ∃ S, compS X = S := ⟨_, rfl⟩
            have HSS := Lib.hid hS
            clear HB HP6 HQ6 HHOLD hS
            go_wp2_with fail
            refine (companions_any HP7.out).mono ?_
            rintro e w8 ⟨rfl, h8⟩
            rw [HX.out, HSS.out]
            have B8 := Lib.hid (bthen' B7.out h8)
            have HP8 := Lib.hid (HP7.out.below h8)
            have HQ8 := Lib.hid (HQ7.out.below h8)
            clear h8 HP7 HQ7 B7
            go_wp2_with fail
            refine (companions_any HQ8.out).mono ?_
            rintro e w9 ⟨rfl, h9⟩
            rw [HZX.out, HSS.out]
            have B9 := Lib.hid (bthen' B8.out h9)
            have HP9 := Lib.hid (HP8.out.below h9)
            have HQ9 := Lib.hid (HQ8.out.below h9)
            have es : ((S : Int) == (S : Int)) = true := by simp
            clear h9 HP8 HQ8 B8
            go_wp2_with fail
            clear es
            refine (boundary_any HP9.out).mono ?_
            rintro e w10 ⟨rfl, h10⟩
            rw [HX.out]
            have B10 := Lib.hid (bthen' B9.out h10)
            have HP10 := Lib.hid (HP9.out.below h10)
            have HQ10 := Lib.hid (HQ9.out.below h10)
            clear h10 HP9 HQ9 B9
            go_wp2_with fail
            refine (boundary_any HQ10.out).mono ?_
            rintro e w11 ⟨rfl, h11⟩
            rw [HZX.out]
            have B11 := Lib.hid (bthen' B10.out h11)
            have HP11 := Lib.hid (HP10.out.below h11)
            have HQ11 := Lib.hid (HQ10.out.below h11)
            clear h11 HP10 HQ10 B10
            obtain ⟨D, hD⟩ : ∃ D, bndL X = D := ⟨_, rfl⟩
            rw [hD]
            clear hD
            go_wp2_with (guard_target = wpList _ _ _ (Oper.mk _ (Op.binOp .eql 41 _ _ _) _ _ _ _ :: _) _ _; refine wpList_valg (v := .bool true) (by rfl) (exec_eql_ky_self rfl _ D (by rfl) (by rfl) _) ?_; simp only [Act.put, List.setIfInBounds_toArray, List.set_cons_zero, List.set_cons_succ])
            refine (keep_any HP11.out (HM.out.below rfl B11.out) (by have := HL60.out; omega)).mono ?_
            rintro e w12 ⟨kv, kf, rfl, hkf, hkv, h12⟩
            have B12 := Lib.hid (bthen' B11.out h12)
            have HP12 := Lib.hid (HP11.out.below h12)
            have HQ12 := Lib.hid (HQ11.out.below h12)
            rw [HX.out] at hkf hkv
            have KF := Lib.hid hkf
            have KV := Lib.hid hkv
            clear h12 hkf hkv HP11 HQ11
            go_wp2_with fail
            refine (keep_any HQ12.out (HM.out.below rfl B12.out) (by have := HL60.out; omega)).mono ?_
            rintro e w13 ⟨kv2, kf2, rfl, hkf2, hkv2, h13⟩
            have B13 := Lib.hid (bthen' B12.out h13)
            have HP13 := Lib.hid (HP12.out.below h13)
            rw [HZX.out] at hkf2 hkv2
            obtain rfl := KF.out.det hkf2
            obtain ⟨ks, hks⟩ : ∃ ks, rest.filter (fun y => keepM X kf y.m) = ks := ⟨_, rfl⟩
            have hkok : ∀ y ∈ ks, y.Ok w13 := fun y hy => (HM.out.ok y (by rw [← hks] at hy; exact (List.mem_filter.1 hy).1)).below rfl B13.out
            have hkl : ks.length ≤ 60 := by rw [← hks]; exact Nat.le_trans (List.length_filter_le _ _) HL60.out
            rw [hks] at KV hkv2
            obtain ⟨ka, kc, kb, hk1⟩ := keep_msgs (row_below KV.out h13) hkok
            obtain ⟨ka2, kc2, kb2, hk2⟩ := keep_msgs hkv2 hkok
            have HA := Lib.hid (all_any hk1 hk2 (by omega) (by omega))
            clear h13 hkf2 hkv2 hks hkok hkl hk1 hk2 KV KF HP12 HQ12
            go_wp2_with fail
            refine HA.out.mono ?_
            rintro e w14 ⟨r, rfl, h14, hr⟩
            obtain rfl := hr rfl
            have B14 := Lib.hid (bthen' B13.out h14)
            have HP14 := Lib.hid (HP13.out.below h14)
            clear h14 hr HA HP13
            go_wp2_with fail
            refine (companions_any HP14.out).mono ?_
            rintro e w15 ⟨rfl, h15⟩
            rw [HX.out, HSS.out]
            have B15 := Lib.hid (bthen' B14.out h15)
            clear h15 HP14
            go_wp2_with fail
            refine (has_any S x (by rw [← HSS.out]; exact HCX.out) _).mono ?_
            rintro e w16 ⟨rfl, rfl⟩
            rw [← HSS.out, SELF.out]
            go_wp2
            go_ret
            exact ⟨rfl, B15.out⟩
end Go.Proofs.YtagelhbknbpfhaaDoor

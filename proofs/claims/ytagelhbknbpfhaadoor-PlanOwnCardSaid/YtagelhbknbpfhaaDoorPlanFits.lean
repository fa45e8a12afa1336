/-
  PlanFits: the walk.
-/
import Derived.Test.YtagelhbknbpfhaaDoorPlanA
import Derived.Test.YtagelhbknbpfhaaDoorPlanE
import Derived.Test.YtagelhbknbpfhaaDoorPlanFitsP
import Derived.Deep.CutBlock
import Derived.Deep.DeepCutAuto
namespace Go.Proofs.YtagelhbknbpfhaaDoor
open Go.RowKit Go.BigFrame
set_option maxHeartbeats 1000000
set_option maxRecDepth 100000
theorem keep_row {w : World} {B : Nat} {kv : Value} {ks : List MsE} (hrow : w.ownsRow B 59 6 kv ks.length (rowOf MsE.vals ks)) (hok : ∀ y ∈ ks, y.Ok w) : ∃ a c b, MsgsAt w kv ks a c b 0 := by
  obtain ⟨a, c, b, hr, _⟩ := RowAt.own hrow rfl MsE.len
  exact ⟨a, c, b, hr, hok⟩
theorem fits_walk (me : Int) (l : List XE) (v : Value) (rest : List MsE) (v2 : Value) (a : Option Addr) (c b o : Nat) (a2 : Option Addr) (c2 b2 o2 : Nat) (w : World) (hT : TabOk w) (hr : RowAt XE.vals w v l a c b o) (hok : ∀ y ∈ l, y.Ok w) (hcl : ∀ y ∈ l, y.x.cnt.length * 4 ≤ 140737488351232) (hml : l.length ≤ 9223372036854775807)
    (hm : MsgsAt w v2 rest a2 c2 b2 o2) (hml2 : rest.length ≤ 9223372036854775807) :
    Calls Tryd.prog 6 #[.int .i64 me, v, v2] w fun e w' => e = .returned (.bool true) ∧ Below w.heap.size w w' := by
  have hz := zero_ms
  have hu : Hid ((Tryd.prog.info? 59).map (·.size) = some (6 : Nat)) := Lib.hid size_ms
  have hv := hr.v
  subst hv
  have hv2 := hm.r.v
  subst hv2
  have HT := Lib.hid hT
  have HR := Lib.hid hr
  have HOKL := Lib.hid hok
  have HCL := Lib.hid hcl
  have HM := Lib.hid hm
  have HAW := Lib.hid (awake_any w hT)
  clear hT hr hok hcl hm
  go_enter Tryd.func6, Tryd.ntmps6
  go_wp2_with fail
  refine HAW.out.mono ?_
  rintro e w1 ⟨rfl, h1⟩
  have B1 := Lib.hid h1
  clear h1 HAW
  go_wp2_with fail
  refine (few_any w1 _ l a c b o (HR.out.below rfl B1.out) (fun y hy => (HOKL.out y hy).below rfl B1.out) hml).mono ?_
  rintro e w2 ⟨r, rfl, h2, hf1⟩
  have B2 := Lib.hid (bthen' B1.out h2)
  clear h2
  cases r with
  | false =>
    clear hf1
    go_wp2
    go_ret
    exact ⟨rfl, B2.out⟩
  | true =>
  have hl80 : l.length ≤ 80 := hf1 rfl
  clear hf1
  go_wp2_with fail
  refine (few3_any w2 _ rest a2 c2 b2 o2 (HM.out.below rfl B2.out) hml2).mono ?_
  rintro e w3 ⟨r, rfl, h3, hf2⟩
  have B3 := Lib.hid (bthen' B2.out h3)
  clear h3
  cases r with
  | false =>
    clear hf2
    go_wp2
    go_ret
    exact ⟨rfl, B3.out⟩
  | true =>
  clear hf2
  by_cases h60 : 60 < rest.length
  · have h60' : 60 < (rest.length : Int) := by omega
    go_wp2
    go_ret
    exact ⟨rfl, B3.out⟩
  · have h60' : (rest.length : Int) ≤ 60 := by omega
    have HL60 := Lib.hid (show rest.length ≤ 60 by omega)
    have HL80 := Lib.hid hl80
    clear hl80 h60 hml hml2
    go_wp2_with fail
    clear h60'
    refine (new_any me ⟨HR.out.below rfl B3.out, fun y hy => (HOKL.out y hy).below rfl B3.out, by have := HL80.out; omega⟩ HCL.out).mono ?_
    rintro e w4 ⟨h4, hp⟩
    have B4 := Lib.hid (bthen' B3.out h4)
    clear h4
    rcases hp with ⟨hpn, rfl⟩ | ⟨g, ys, hps, rfl, hpl, hg⟩
    · clear hpn
      go_wp2
      go_ret
      exact ⟨rfl, B4.out⟩
    · obtain ⟨X, hX⟩ : ∃ X, exs ys = X := ⟨_, rfl⟩
      have HX0 := Lib.hid hX
      have HP := Lib.hid hpl
      clear hps hpl hg hX
      go_wp2_with fail
      refine (keep_any HP.out (HM.out.below rfl B4.out) (by have := HL60.out; omega)).mono ?_
      rintro e w6 ⟨kv, kf, rfl, hkf, hkv, h6⟩
      have B6 := Lib.hid (bthen' B4.out h6)
      have HP6 := Lib.hid (HP.out.below h6)
      rw [HX0.out] at hkf hkv
      have KF := Lib.hid hkf
      obtain ⟨ks, hks⟩ : ∃ ks, rest.filter (fun y => keepM X kf y.m) = ks := ⟨_, rfl⟩
      have KM := Lib.hid (show ∀ y ∈ ks, y ∈ rest ∧ keepM X kf y.m = true from fun y hy => by rw [← hks] at hy; exact List.mem_filter.1 hy)
      have KIN := Lib.hid (show ∀ x ∈ rest, keepM X kf x.m = true → x ∈ ks from fun x hx h => by rw [← hks]; exact List.mem_filter.2 ⟨hx, h⟩)
      have hkl : ks.length ≤ rest.length := by rw [← hks]; exact List.length_filter_le _ _
      rw [hks] at hkv
      obtain ⟨ka, kc, kb, hk1⟩ := keep_row hkv (fun y hy => (HM.out.ok y (KM.out y hy).1).below rfl B6.out)
      obtain rfl := hk1.r.v
      have KS := Lib.hid hk1
      have hkl' : (ks.length : Int) ≤ (rest.length : Int) := by omega
      have HKL := Lib.hid (show ks.length ≤ 60 from Nat.le_trans hkl HL60.out)
      clear h6 hkf hkv hks hk1 HP
      go_wp2
      clear hkl' hkl
      have hk60 : (ks.length : Int) ≤ 60 := by have := HKL.out; omega
      have hr60 : (rest.length : Int) ≤ 60 := by have := HL60.out; omega
      go_loopw [10] (fun i wr => ∃ k : Nat, k ≤ ks.length ∧ i = .int .i64 k ∧ Below w6.heap.size w6 wr) (fun i _ => ks.length - (intOf i).toNat)
      case atStart => exact ⟨0, Nat.zero_le _, rfl, Below.refl _ _⟩
      case round =>
        obtain ⟨k, hk, rfl, hb⟩ := hrel
        have HB := Lib.hid hb
        clear hb
        by_cases hlt : k < ks.length
        · have hlt' : (k : Int) < (ks.length : Int) := by omega
          obtain ⟨rfl, _⟩ := KS.out.r.a (by omega)
          obtain ⟨y, hy⟩ : ∃ y, ks[k] = y := ⟨_, rfl⟩
          have HX := Lib.hid (show wr.rangeAt kb (0 + k * 6) y.vals from by rw [← hy]; exact (KS.out.r.below rfl HB.out).at_ MsE.len hlt)
          rw [Nat.zero_add] at HX
          have HYM := Lib.hid (show y ∈ rest ∧ keepM X kf y.m = true from by rw [← hy]; exact KM.out _ (List.getElem_mem hlt))
          have HOK := Lib.hid ((HM.out.ok y HYM.out.1).below rfl (bthen' B6.out HB.out))
          clear hy
          obtain ⟨D, hD⟩ : ∃ D, wr.heap.size = D := ⟨_, rfl⟩
          go_upto_region 15 with (first
            | (guard_target = wpList _ _ _ (Oper.mk none (Op.store _ _ _) _ _ _ none :: _) _ _; refine wpList_store_row rfl 59 _ _ rfl D (by rfl) y.vals.toArray (by rfl) msZero.toArray 59 (by rw [← hD]; exact heap_alloc_new _ _) rfl hu.out HOK.out.oneA ?_; intro w7 hw7 hg7)
            | (guard_target = wpList _ _ _ (Oper.mk _ (Op.load 59 _) _ _ _ none :: _) _ _; refine wpList_load_mid rfl 59 _ rfl kb (k * 6) (by rfl) y.vals _ HX.out Tryd.underlying59 rfl hu.out ?_; simp only [Act.put, List.setIfInBounds_toArray, List.set_cons_zero, List.set_cons_succ]))
          have hb7 : Below wr.heap.size wr w7 := bel_new (hD ▸ hg7)
          have B7 := Lib.hid (bthen' (bthen' B6.out HB.out) hb7)
          have H7 := Lib.hid (bthen' HB.out hb7)
          have HP7 := Lib.hid (HP6.out.below H7.out)
          have KS7 := Lib.hid (KS.out.below rfl H7.out)
          have HM7 := Lib.hid (HM.out.below rfl B7.out)
          have DB := Lib.hid hw7
          have HOK7 := Lib.hid (HOK.out.below rfl hb7)
          clear hw7 hg7 hD hb7 HX HOK
          have hcnt := HYM.out.2
          unfold keepM at hcnt
          simp only [Bool.and_eq_true, decide_eq_true_eq] at hcnt
          obtain ⟨hc1, hc2⟩ := hcnt
          unfold cntM at hc1
          simp only [Bool.and_eq_true, decide_eq_true_eq] at hc1
          obtain ⟨S, hS⟩ : ∃ S, y.m.seq = S := ⟨_, rfl⟩
          obtain ⟨N, hN⟩ : ∃ N, wholeL X y.m.frm = N := ⟨_, rfl⟩
          rw [hS, hN] at hc1
          obtain ⟨MF, hMF⟩ : ∃ MF, y.m.frm = MF := ⟨_, rfl⟩
          obtain ⟨L, hL⟩ : ∃ L, y.m.deps = L := ⟨_, rfl⟩
          have b1 := Lib.hid (show decide ((S : Int) < 1) = false from decide_eq_false (by omega))
          have b2' := Lib.hid (show decide ((N : Int) < (S : Int)) = false from decide_eq_false (by omega))
          obtain ⟨ya, yc, yb, yo, hrow⟩ := HOK7.out.r
          have hsl := hrow.v
          rw [hL] at hsl hrow
          have HROW := Lib.hid hrow
          have hLs : (L.length : Int) ≤ 9223372036854775807 := by have := HOK7.out.dl; rw [hL] at this; omega
          obtain ⟨C, hC⟩ : ∃ C : World → Prop, ∀ w', C w' ↔ Below w7.heap.size w7 w' := ⟨_, fun _ => Iff.rfl⟩
          have hC0 : C { w7 with drawn := w7.drawn + 1 } := (hC _).2 (Below.drew (Below.refl _ _))
          have ls := Lib.hid (show ∀ w', C w' → w'.cell? ⟨D, 1, none⟩ = some (.int .u32 S) from fun w' h => by rw [cell_of_row w' D 1 _ _ _ (bblock ((hC w').1 h) DB.out), ← hS]; rfl)
          have lf := Lib.hid (show ∀ w', C w' → w'.cell? ⟨D, 0, none⟩ = some (.int .i64 MF) from fun w' h => by rw [cell_of_row w' D 0 _ _ _ (bblock ((hC w').1 h) DB.out), ← hMF]; rfl)
          have l4 := Lib.hid (show ∀ w', C w' → w'.cell? ⟨D, 4, none⟩ = some (.slice ya L.length yc) from fun w' h => by rw [cell_of_row w' D 4 _ _ _ (bblock ((hC w').1 h) DB.out), ← hsl]; rfl)
          have kw := Lib.hid (show ∀ w', C w' → Calls Tryd.prog 16 #[.pointer (some ⟨g, 0, none⟩), .int .i64 MF] w' fun e w'' => e = .returned (.int .u32 N) ∧ C w'' from
            fun w' h => (whole_any (HP7.out.below ((hC w').1 h)) _).mono fun e w'' ⟨he, hw⟩ => ⟨by rw [← hN, hMF, ← HX0.out]; exact he, (hC w'').2 (bthen' ((hC w').1 h) hw)⟩)
          have HC := Lib.hid hC
          have HMF := Lib.hid hMF
          have HSS := Lib.hid hS
          have HLL := Lib.hid hL
          clear hC hMF hS hL hN hc1 hc2 hrow hsl
          simp only [Act.put]
          refine wp_region_quiet (C := C) (by kernel_rfl) (by kernel_rfl) hC0 ?_
          dsimp only []
          repeat (first | go_big_quiet_skip | (go_big_quiet_want; first | (refine quiet_load _ _ (by rfl) ?_ _ (by rfl) (by first | exact ls.out | exact lf.out) ?_; (· intro w; simp); (simp only [Act.put, List.setIfInBounds_toArray, List.set_cons_zero, List.set_cons_succ]); go_big_quiet_on) | (refine quiet_call 16 _ _ (by rfl) Tryd.call16 _ ?_ kw.out ?_; (· rfl); (simp only [Act.put, List.setIfInBounds_toArray, List.set_cons_zero, List.set_cons_succ]); go_big_quiet_on) | (refine quiet_lss_int _ _ _ _ (by rfl) (by rfl) (by rfl) b1.out ?_; (simp only [Act.put, List.setIfInBounds_toArray, List.set_cons_zero, List.set_cons_succ]); go_big_quiet_on) | (refine quiet_gtr_int _ _ _ _ (by rfl) (by rfl) (by rfl) b2'.out ?_; (simp only [Act.put, List.setIfInBounds_toArray, List.set_cons_zero, List.set_cons_succ]); go_big_quiet_on) | (go_big_quiet_op; go_big_quiet_on) | (go_big_quiet_op; refine Exists.intro _ ⟨fun _ _ => rfl, ?_⟩; go_big_quiet_on)))
          refine wpQuiet_nil ?_
          intro w8 hC8
          clear hC0 kw b1 b2'
          go_wp2
          go_loopw [12] (fun i wr => ∃ q : Nat, q ≤ L.length ∧ i = .int .i64 q ∧ C wr) (fun i _ => L.length - (intOf i).toNat)
          case atStart => exact ⟨0, Nat.zero_le _, rfl, hC8⟩
          case round =>
            obtain ⟨q, hq, rfl, hCr⟩ := hrel
            have c4 := l4.out _ hCr
            by_cases hltq : q < L.length
            · have hltq' : (q : Int) < (L.length : Int) := by omega
              obtain ⟨rfl, _⟩ := HROW.out.a (by omega)
              obtain ⟨d, hd⟩ : ∃ d, L[q] = d := ⟨_, rfl⟩
              obtain ⟨NQ, hNQ⟩ : ∃ NQ, wholeL X q = NQ := ⟨_, rfl⟩
              have hle : d ≤ NQ := by
                have h1 := keep_deps KF.out (m := y.m) (by unfold msgs; exact List.mem_map.2 ⟨y, HYM.out.1, rfl⟩) HYM.out.2 q (by rw [HLL.out]; exact hltq)
                rw [HLL.out, hNQ] at h1
                simp [hltq, hd] at h1
                exact h1
              have hCr0 : C { wr with drawn := wr.drawn + 1 } := (HC.out _).2 (Below.drew ((HC.out _).1 hCr))
              have lx := Lib.hid (show ∀ w', C w' → w'.cell? ⟨yb, yo + q, none⟩ = some (.int .u32 d) from fun w' h => by
                have := (HROW.out.below rfl ((HC.out w').1 h)).at_ u32v_len hltq 0 (.int .u32 L[q]) rfl
                rw [hd, Nat.mul_one, Nat.add_zero] at this; exact this)
              have kwq := Lib.hid (show ∀ w', C w' → Calls Tryd.prog 16 #[.pointer (some ⟨g, 0, none⟩), .int .i64 q] w' fun e w'' => e = .returned (.int .u32 NQ) ∧ C w'' from
                fun w' h => (whole_any (HP7.out.below ((HC.out w').1 h)) _).mono fun e w'' ⟨he, hw⟩ => ⟨by rw [← hNQ, ← HX0.out]; exact he, (HC.out w'').2 (bthen' ((HC.out w').1 h) hw)⟩)
              have bq := Lib.hid (show decide ((NQ : Int) < (d : Int)) = false from decide_eq_false (by omega))
              clear hd hNQ hle
              go_upto_region 20 with fail
              clear c4
              refine wp_region_quiet (C := C) (by kernel_rfl) (by kernel_rfl) hCr0 ?_
              dsimp only []
              repeat (first | go_big_quiet_skip | (go_big_quiet_want; first | (refine quiet_load _ _ (by rfl) ?_ _ (by rfl) (by first | exact l4.out | exact lx.out) ?_; (· intro w; simp); (simp only [Act.put, List.setIfInBounds_toArray, List.set_cons_zero, List.set_cons_succ]); go_big_quiet_on) | (refine quiet_call 16 _ _ (by rfl) Tryd.call16 _ ?_ kwq.out ?_; (· rfl); (simp only [Act.put, List.setIfInBounds_toArray, List.set_cons_zero, List.set_cons_succ]); go_big_quiet_on) | (refine quiet_gtr_int _ _ _ _ (by rfl) (by rfl) (by rfl) bq.out ?_; (simp only [Act.put, List.setIfInBounds_toArray, List.set_cons_zero, List.set_cons_succ]); go_big_quiet_on) | (go_big_quiet_op; go_big_quiet_on) | (go_big_quiet_op; refine Exists.intro _ ⟨fun _ _ => rfl, ?_⟩; go_big_quiet_on)))
              refine wpQuiet_nil ?_
              intro w9 hC9
              clear hCr0 hCr lx kwq bq
              go_wp2
              go_roundw
              case rel => exact ⟨q + 1, by omega, by go_num, hC9⟩
              case measure => simp [intOf]; omega
            · obtain rfl : q = L.length := by omega
              go_wp2
              clear c4
              go_loopw [13] (fun i wr => ∃ r : Nat, r ≤ rest.length ∧ i = .int .i64 r ∧ C wr) (fun i _ => rest.length - (intOf i).toNat)
              case atStart => exact ⟨0, Nat.zero_le _, rfl, hCr⟩
              case round =>
                obtain ⟨r, hr, rfl, hCr2⟩ := hrel
                by_cases hltr : r < rest.length
                · have hltr' : (r : Int) < (rest.length : Int) := by omega
                  obtain ⟨rfl, _⟩ := HM.out.r.a (by omega)
                  obtain ⟨x, hx⟩ : ∃ x, rest[r] = x := ⟨_, rfl⟩
                  have HX := Lib.hid (show wr.rangeAt b2 (o2 + r * 6) x.vals from by rw [← hx]; exact (HM7.out.r.below rfl ((HC.out _).1 hCr2)).at_ MsE.len hltr)
                  have HOK := Lib.hid (show x.Ok wr from by rw [← hx]; exact (HM7.out.ok _ (List.getElem_mem hltr)).below rfl ((HC.out _).1 hCr2))
                  have HXM := Lib.hid (show x ∈ rest from by rw [← hx]; exact List.getElem_mem hltr)
                  clear hx
                  obtain ⟨E, hD⟩ : ∃ D, wr.heap.size = D := ⟨_, rfl⟩
                  go_upto_region 26 with (first
                    | (guard_target = wpList _ _ _ (Oper.mk none (Op.store _ _ _) _ _ _ none :: _) _ _; refine wpList_store_row rfl 59 _ _ rfl E (by rfl) x.vals.toArray (by rfl) msZero.toArray 59 (by rw [← hD]; exact heap_alloc_new _ _) rfl hu.out HOK.out.oneA ?_; intro w9 hw7 hg7)
                    | (guard_target = wpList _ _ _ (Oper.mk _ (Op.load 59 _) _ _ _ none :: _) _ _; refine wpList_load_mid rfl 59 _ rfl b2 (o2 + r * 6) (by rfl) x.vals _ HX.out Tryd.underlying59 rfl hu.out ?_; simp only [Act.put, List.setIfInBounds_toArray, List.set_cons_zero, List.set_cons_succ]))
                  have hb7 : Below wr.heap.size wr w9 := bel_new (hD ▸ hg7)
                  have hC9 : C w9 := (HC.out _).2 (bthen' ((HC.out _).1 hCr2) hb7)
                  have EB := Lib.hid hw7
                  have HOK9 := Lib.hid (HOK.out.below rfl hb7)
                  clear hw7 hg7 hD hb7 HX HOK hCr2
                  simp only [Act.put]
                  obtain ⟨XF, hXF⟩ : ∃ XF, x.m.frm = XF := ⟨_, rfl⟩
                  obtain ⟨XS, hXS⟩ : ∃ XS, x.m.seq = XS := ⟨_, rfl⟩
                  obtain ⟨LN, hLN⟩ : ∃ LN, leansM y.m x.m = LN := ⟨_, rfl⟩
                  have HLN := Lib.hid hLN
                  have HXF := Lib.hid hXF
                  have HXS := Lib.hid hXS
                  have hln : LN = ((decide (XF = MF) && decide (XS ≤ S)) || (decide (0 ≤ XF) && decide (XF < L.length) && decide (XS ≤ atL L XF))) := by
                    rw [← hLN]; unfold leansM; rw [hXF, hXS, HMF.out, HSS.out, HLL.out]
                  obtain ⟨C2, hC2⟩ : ∃ C2 : World → Prop, ∀ w', C2 w' ↔ Below w9.heap.size w9 w' := ⟨_, fun _ => Iff.rfl⟩
                  have hC20 : C2 { w9 with drawn := w9.drawn + 1 } := (hC2 _).2 (Below.drew (Below.refl _ _))
                  have hCC : ∀ w', C2 w' → C w' := fun w' h => (HC.out _).2 (bthen' ((HC.out _).1 hC9) ((hC2 w').1 h))
                  have m0 := Lib.hid (show ∀ w', C2 w' → w'.cell? ⟨D, 0, none⟩ = some (.int .i64 MF) from fun w' h => lf.out w' (hCC w' h))
                  have m1 := Lib.hid (show ∀ w', C2 w' → w'.cell? ⟨D, 1, none⟩ = some (.int .u32 S) from fun w' h => ls.out w' (hCC w' h))
                  have m4 := Lib.hid (show ∀ w', C2 w' → w'.cell? ⟨D, 4, none⟩ = some (.slice ya L.length yc) from fun w' h => l4.out w' (hCC w' h))
                  have x0 := Lib.hid (show ∀ w', C2 w' → w'.cell? ⟨E, 0, none⟩ = some (.int .i64 XF) from fun w' h => by rw [cell_of_row w' E 0 _ _ _ (bblock ((hC2 w').1 h) EB.out), ← hXF]; rfl)
                  have x1 := Lib.hid (show ∀ w', C2 w' → w'.cell? ⟨E, 1, none⟩ = some (.int .u32 XS) from fun w' h => by rw [cell_of_row w' E 1 _ _ _ (bblock ((hC2 w').1 h) EB.out), ← hXS]; rfl)
                  have ax := Lib.hid (fun w' (h : C2 w') => bblock ((hC2 w').1 h) EB.out)
                  have HCC := Lib.hid hCC
                  have HC2 := Lib.hid hC2
                  clear hLN hXF hXS hCC hC2
                  go_cut [15] (fun lv wx => lv = .bool LN ∧ C2 wx)
                  case first =>
                    obtain ⟨K5, hK5⟩ : ∃ K5, decide (XF = MF) = K5 := ⟨_, rfl⟩
                    obtain ⟨K10, hK10⟩ : ∃ K10, decide (XS ≤ S) = K10 := ⟨_, rfl⟩
                    obtain ⟨K14, hK14⟩ : ∃ K14, decide (0 ≤ XF) = K14 := ⟨_, rfl⟩
                    have bk5 := Lib.hid (show (XF == MF) = K5 by rw [← hK5]; by_cases h : XF = MF <;> simp [h])
                    have bk10 := Lib.hid (show decide ((XS : Int) ≤ (S : Int)) = K10 by rw [← hK10, decide_eq_decide]; omega)
                    rw [hK5, hK10, hK14] at hln
                    clear hK5 hK10
                    cases K5 with
                    | true =>
                      cases K10 with
                      | true =>
                        refine wp_region_quiet (C := C2) (by kernel_rfl) (by kernel_rfl) hC20 ?_
                        dsimp only []
                        repeat (first | go_big_quiet_skip | (go_big_quiet_want; first | (refine quiet_load _ _ (by rfl) ?_ _ (by rfl) (by first | exact x0.out | exact x1.out | exact m0.out | exact m1.out | exact m4.out) ?_; (· intro w; simp); (simp only [Act.put, List.setIfInBounds_toArray, List.set_cons_zero, List.set_cons_succ]); go_big_quiet_on) | (refine quiet_eql_int _ _ _ _ (by rfl) (by rfl) (by rfl) bk5.out ?_; (simp only [Act.put, List.setIfInBounds_toArray, List.set_cons_zero, List.set_cons_succ]); go_big_quiet_on) | (refine quiet_leq_int _ _ _ _ (by rfl) (by rfl) (by rfl) bk10.out ?_; (simp only [Act.put, List.setIfInBounds_toArray, List.set_cons_zero, List.set_cons_succ]); go_big_quiet_on) | (go_big_quiet_op; go_big_quiet_on) | (go_big_quiet_op; refine Exists.intro _ ⟨fun _ _ => rfl, ?_⟩; go_big_quiet_on)))
                        refine wpQuiet_nil ?_
                        intro w10 hC10
                        go_wp2
                        go_meet
                        case rel => exact ⟨by rw [hln]; simp, hC10⟩
                      | false =>
                        cases K14 with
                        | false =>
                          have bk14 := Lib.hid hK14
                          clear hK14
                          refine wp_region_quiet (C := C2) (by kernel_rfl) (by kernel_rfl) hC20 ?_
                          dsimp only []
                          repeat (first | go_big_quiet_skip | (go_big_quiet_want; first | (refine quiet_load _ _ (by rfl) ?_ _ (by rfl) (by first | exact x0.out | exact x1.out | exact m0.out | exact m1.out | exact m4.out) ?_; (· intro w; simp); (simp only [Act.put, List.setIfInBounds_toArray, List.set_cons_zero, List.set_cons_succ]); go_big_quiet_on) | (refine quiet_eql_int _ _ _ _ (by rfl) (by rfl) (by rfl) bk5.out ?_; (simp only [Act.put, List.setIfInBounds_toArray, List.set_cons_zero, List.set_cons_succ]); go_big_quiet_on) | (refine quiet_leq_int _ _ _ _ (by rfl) (by rfl) (by rfl) bk10.out ?_; (simp only [Act.put, List.setIfInBounds_toArray, List.set_cons_zero, List.set_cons_succ]); go_big_quiet_on) | (refine quiet_geq_int _ _ _ _ (by rfl) (by rfl) (by rfl) bk14.out ?_; (simp only [Act.put, List.setIfInBounds_toArray, List.set_cons_zero, List.set_cons_succ]); go_big_quiet_on) | (go_big_quiet_op; go_big_quiet_on) | (go_big_quiet_op; refine Exists.intro _ ⟨fun _ _ => rfl, ?_⟩; go_big_quiet_on)))
                          refine wpQuiet_nil ?_
                          intro w10 hC10
                          go_wp2
                          go_meet
                          case rel => exact ⟨by rw [hln]; simp, hC10⟩
                        | true =>
                          have bk14 := Lib.hid hK14
                          obtain ⟨f, rfl⟩ := Int.eq_ofNat_of_zero_le (of_decide_eq_true hK14)
                          clear hK14
                          obtain ⟨K22, hK22⟩ : ∃ K22, decide ((f : Int) < (L.length : Int)) = K22 := ⟨_, rfl⟩
                          rw [hK22] at hln
                          cases K22 with
                          | false =>
                            have bk22 := Lib.hid hK22
                            clear hK22
                            refine wp_region_quiet (C := C2) (by kernel_rfl) (by kernel_rfl) hC20 ?_
                            dsimp only []
                            repeat (first | go_big_quiet_skip | (go_big_quiet_want; first | (refine quiet_load _ _ (by rfl) ?_ _ (by rfl) (by first | exact x0.out | exact x1.out | exact m0.out | exact m1.out | exact m4.out) ?_; (· intro w; simp); (simp only [Act.put, List.setIfInBounds_toArray, List.set_cons_zero, List.set_cons_succ]); go_big_quiet_on) | (refine quiet_eql_int _ _ _ _ (by rfl) (by rfl) (by rfl) bk5.out ?_; (simp only [Act.put, List.setIfInBounds_toArray, List.set_cons_zero, List.set_cons_succ]); go_big_quiet_on) | (refine quiet_leq_int _ _ _ _ (by rfl) (by rfl) (by rfl) bk10.out ?_; (simp only [Act.put, List.setIfInBounds_toArray, List.set_cons_zero, List.set_cons_succ]); go_big_quiet_on) | (refine quiet_geq_int _ _ _ _ (by rfl) (by rfl) (by rfl) bk14.out ?_; (simp only [Act.put, List.setIfInBounds_toArray, List.set_cons_zero, List.set_cons_succ]); go_big_quiet_on) | (refine quiet_lss_int _ _ _ _ (by rfl) (by rfl) (by rfl) bk22.out ?_; (simp only [Act.put, List.setIfInBounds_toArray, List.set_cons_zero, List.set_cons_succ]); go_big_quiet_on) | (go_big_quiet_op; go_big_quiet_on) | (go_big_quiet_op; refine Exists.intro _ ⟨fun _ _ => rfl, ?_⟩; go_big_quiet_on)))
                            refine wpQuiet_nil ?_
                            intro w10 hC10
                            go_wp2
                            go_meet
                            case rel => exact ⟨by rw [hln]; simp, hC10⟩
                          | true =>
                            have hfl : f < L.length := by have := of_decide_eq_true hK22; omega
                            have hfl' : (f : Int) < (L.length : Int) := by omega
                            have bk22 := Lib.hid hK22
                            clear hK22
                            rw [atL_in hfl] at hln
                            obtain ⟨rfl, _⟩ := HROW.out.a (by omega)
                            obtain ⟨d, hd⟩ : ∃ d, L[f] = d := ⟨_, rfl⟩
                            rw [hd] at hln
                            have lx := Lib.hid (show ∀ w', C2 w' → w'.cell? ⟨yb, yo + f, none⟩ = some (.int .u32 d) from fun w' h => by
                              have := (HROW.out.below rfl ((HC.out w').1 (HCC.out w' h))).at_ u32v_len hfl 0 (.int .u32 L[f]) rfl
                              rw [hd, Nat.mul_one, Nat.add_zero] at this; exact this)
                            obtain ⟨K33, hK33⟩ : ∃ K33, decide (XS ≤ d) = K33 := ⟨_, rfl⟩
                            have bk33 := Lib.hid (show decide ((XS : Int) ≤ (d : Int)) = K33 by rw [← hK33, decide_eq_decide]; omega)
                            rw [hK33] at hln
                            clear hd hK33
                            cases K33 with
                            | false =>
                              refine wp_region_quiet (C := C2) (by kernel_rfl) (by kernel_rfl) hC20 ?_
                              dsimp only []
                              repeat (first | go_big_quiet_skip | (go_big_quiet_want; first | (refine quiet_load _ _ (by rfl) ?_ _ (by rfl) (by first | exact x0.out | exact x1.out | exact m0.out | exact m1.out | exact m4.out | exact lx.out) ?_; (· intro w; simp); (simp only [Act.put, List.setIfInBounds_toArray, List.set_cons_zero, List.set_cons_succ]); go_big_quiet_on) | (refine quiet_eql_int _ _ _ _ (by rfl) (by rfl) (by rfl) bk5.out ?_; (simp only [Act.put, List.setIfInBounds_toArray, List.set_cons_zero, List.set_cons_succ]); go_big_quiet_on) | (refine quiet_leq_int _ _ _ _ (by rfl) (by rfl) (by rfl) bk10.out ?_; (simp only [Act.put, List.setIfInBounds_toArray, List.set_cons_zero, List.set_cons_succ]); go_big_quiet_on) | (refine quiet_geq_int _ _ _ _ (by rfl) (by rfl) (by rfl) bk14.out ?_; (simp only [Act.put, List.setIfInBounds_toArray, List.set_cons_zero, List.set_cons_succ]); go_big_quiet_on) | (refine quiet_lss_int _ _ _ _ (by rfl) (by rfl) (by rfl) bk22.out ?_; (simp only [Act.put, List.setIfInBounds_toArray, List.set_cons_zero, List.set_cons_succ]); go_big_quiet_on) | (refine quiet_geq_int _ _ _ _ (by rfl) (by rfl) (by rfl) bk33.out ?_; (simp only [Act.put, List.setIfInBounds_toArray, List.set_cons_zero, List.set_cons_succ]); go_big_quiet_on) | (go_big_quiet_op; go_big_quiet_on) | (go_big_quiet_op; refine Exists.intro _ ⟨fun _ _ => rfl, ?_⟩; go_big_quiet_on)))
                              refine wpQuiet_nil ?_
                              intro w10 hC10
                              go_wp2
                              go_meet
                              case rel => exact ⟨by rw [hln]; simp, hC10⟩
                            | true =>
                              refine wp_region_quiet (C := C2) (by kernel_rfl) (by kernel_rfl) hC20 ?_
                              dsimp only []
                              repeat (first | go_big_quiet_skip | (go_big_quiet_want; first | (refine quiet_load _ _ (by rfl) ?_ _ (by rfl) (by first | exact x0.out | exact x1.out | exact m0.out | exact m1.out | exact m4.out | exact lx.out) ?_; (· intro w; simp); (simp only [Act.put, List.setIfInBounds_toArray, List.set_cons_zero, List.set_cons_succ]); go_big_quiet_on) | (refine quiet_eql_int _ _ _ _ (by rfl) (by rfl) (by rfl) bk5.out ?_; (simp only [Act.put, List.setIfInBounds_toArray, List.set_cons_zero, List.set_cons_succ]); go_big_quiet_on) | (refine quiet_leq_int _ _ _ _ (by rfl) (by rfl) (by rfl) bk10.out ?_; (simp only [Act.put, List.setIfInBounds_toArray, List.set_cons_zero, List.set_cons_succ]); go_big_quiet_on) | (refine quiet_geq_int _ _ _ _ (by rfl) (by rfl) (by rfl) bk14.out ?_; (simp only [Act.put, List.setIfInBounds_toArray, List.set_cons_zero, List.set_cons_succ]); go_big_quiet_on) | (refine quiet_lss_int _ _ _ _ (by rfl) (by rfl) (by rfl) bk22.out ?_; (simp only [Act.put, List.setIfInBounds_toArray, List.set_cons_zero, List.set_cons_succ]); go_big_quiet_on) | (refine quiet_geq_int _ _ _ _ (by rfl) (by rfl) (by rfl) bk33.out ?_; (simp only [Act.put, List.setIfInBounds_toArray, List.set_cons_zero, List.set_cons_succ]); go_big_quiet_on) | (go_big_quiet_op; go_big_quiet_on) | (go_big_quiet_op; refine Exists.intro _ ⟨fun _ _ => rfl, ?_⟩; go_big_quiet_on)))
                              refine wpQuiet_nil ?_
                              intro w10 hC10
                              go_wp2
                              go_meet
                              case rel => exact ⟨by rw [hln]; simp, hC10⟩
                    | false =>
                      cases K14 with
                      | false =>
                        have bk14 := Lib.hid hK14
                        clear hK14
                        refine wp_region_quiet (C := C2) (by kernel_rfl) (by kernel_rfl) hC20 ?_
                        dsimp only []
                        repeat (first | go_big_quiet_skip | (go_big_quiet_want; first | (refine quiet_load _ _ (by rfl) ?_ _ (by rfl) (by first | exact x0.out | exact x1.out | exact m0.out | exact m1.out | exact m4.out) ?_; (· intro w; simp); (simp only [Act.put, List.setIfInBounds_toArray, List.set_cons_zero, List.set_cons_succ]); go_big_quiet_on) | (refine quiet_eql_int _ _ _ _ (by rfl) (by rfl) (by rfl) bk5.out ?_; (simp only [Act.put, List.setIfInBounds_toArray, List.set_cons_zero, List.set_cons_succ]); go_big_quiet_on) | (refine quiet_geq_int _ _ _ _ (by rfl) (by rfl) (by rfl) bk14.out ?_; (simp only [Act.put, List.setIfInBounds_toArray, List.set_cons_zero, List.set_cons_succ]); go_big_quiet_on) | (go_big_quiet_op; go_big_quiet_on) | (go_big_quiet_op; refine Exists.intro _ ⟨fun _ _ => rfl, ?_⟩; go_big_quiet_on)))
                        refine wpQuiet_nil ?_
                        intro w10 hC10
                        go_wp2
                        go_meet
                        case rel => exact ⟨by rw [hln]; simp, hC10⟩
                      | true =>
                        have bk14 := Lib.hid hK14
                        obtain ⟨f, rfl⟩ := Int.eq_ofNat_of_zero_le (of_decide_eq_true hK14)
                        clear hK14
                        obtain ⟨K22, hK22⟩ : ∃ K22, decide ((f : Int) < (L.length : Int)) = K22 := ⟨_, rfl⟩
                        rw [hK22] at hln
                        cases K22 with
                        | false =>
                          have bk22 := Lib.hid hK22
                          clear hK22
                          refine wp_region_quiet (C := C2) (by kernel_rfl) (by kernel_rfl) hC20 ?_
                          dsimp only []
                          repeat (first | go_big_quiet_skip | (go_big_quiet_want; first | (refine quiet_load _ _ (by rfl) ?_ _ (by rfl) (by first | exact x0.out | exact x1.out | exact m0.out | exact m1.out | exact m4.out) ?_; (· intro w; simp); (simp only [Act.put, List.setIfInBounds_toArray, List.set_cons_zero, List.set_cons_succ]); go_big_quiet_on) | (refine quiet_eql_int _ _ _ _ (by rfl) (by rfl) (by rfl) bk5.out ?_; (simp only [Act.put, List.setIfInBounds_toArray, List.set_cons_zero, List.set_cons_succ]); go_big_quiet_on) | (refine quiet_geq_int _ _ _ _ (by rfl) (by rfl) (by rfl) bk14.out ?_; (simp only [Act.put, List.setIfInBounds_toArray, List.set_cons_zero, List.set_cons_succ]); go_big_quiet_on) | (refine quiet_lss_int _ _ _ _ (by rfl) (by rfl) (by rfl) bk22.out ?_; (simp only [Act.put, List.setIfInBounds_toArray, List.set_cons_zero, List.set_cons_succ]); go_big_quiet_on) | (go_big_quiet_op; go_big_quiet_on) | (go_big_quiet_op; refine Exists.intro _ ⟨fun _ _ => rfl, ?_⟩; go_big_quiet_on)))
                          refine wpQuiet_nil ?_
                          intro w10 hC10
                          go_wp2
                          go_meet
                          case rel => exact ⟨by rw [hln]; simp, hC10⟩
                        | true =>
                          have hfl : f < L.length := by have := of_decide_eq_true hK22; omega
                          have hfl' : (f : Int) < (L.length : Int) := by omega
                          have bk22 := Lib.hid hK22
                          clear hK22
                          rw [atL_in hfl] at hln
                          obtain ⟨rfl, _⟩ := HROW.out.a (by omega)
                          obtain ⟨d, hd⟩ : ∃ d, L[f] = d := ⟨_, rfl⟩
                          rw [hd] at hln
                          have lx := Lib.hid (show ∀ w', C2 w' → w'.cell? ⟨yb, yo + f, none⟩ = some (.int .u32 d) from fun w' h => by
                            have := (HROW.out.below rfl ((HC.out w').1 (HCC.out w' h))).at_ u32v_len hfl 0 (.int .u32 L[f]) rfl
                            rw [hd, Nat.mul_one, Nat.add_zero] at this; exact this)
                          obtain ⟨K33, hK33⟩ : ∃ K33, decide (XS ≤ d) = K33 := ⟨_, rfl⟩
                          have bk33 := Lib.hid (show decide ((XS : Int) ≤ (d : Int)) = K33 by rw [← hK33, decide_eq_decide]; omega)
                          rw [hK33] at hln
                          clear hd hK33
                          cases K33 with
                          | false =>
                            refine wp_region_quiet (C := C2) (by kernel_rfl) (by kernel_rfl) hC20 ?_
                            dsimp only []
                            repeat (first | go_big_quiet_skip | (go_big_quiet_want; first | (refine quiet_load _ _ (by rfl) ?_ _ (by rfl) (by first | exact x0.out | exact x1.out | exact m0.out | exact m1.out | exact m4.out | exact lx.out) ?_; (· intro w; simp); (simp only [Act.put, List.setIfInBounds_toArray, List.set_cons_zero, List.set_cons_succ]); go_big_quiet_on) | (refine quiet_eql_int _ _ _ _ (by rfl) (by rfl) (by rfl) bk5.out ?_; (simp only [Act.put, List.setIfInBounds_toArray, List.set_cons_zero, List.set_cons_succ]); go_big_quiet_on) | (refine quiet_geq_int _ _ _ _ (by rfl) (by rfl) (by rfl) bk14.out ?_; (simp only [Act.put, List.setIfInBounds_toArray, List.set_cons_zero, List.set_cons_succ]); go_big_quiet_on) | (refine quiet_lss_int _ _ _ _ (by rfl) (by rfl) (by rfl) bk22.out ?_; (simp only [Act.put, List.setIfInBounds_toArray, List.set_cons_zero, List.set_cons_succ]); go_big_quiet_on) | (refine quiet_geq_int _ _ _ _ (by rfl) (by rfl) (by rfl) bk33.out ?_; (simp only [Act.put, List.setIfInBounds_toArray, List.set_cons_zero, List.set_cons_succ]); go_big_quiet_on) | (go_big_quiet_op; go_big_quiet_on) | (go_big_quiet_op; refine Exists.intro _ ⟨fun _ _ => rfl, ?_⟩; go_big_quiet_on)))
                            refine wpQuiet_nil ?_
                            intro w10 hC10
                            go_wp2
                            go_meet
                            case rel => exact ⟨by rw [hln]; simp, hC10⟩
                          | true =>
                            refine wp_region_quiet (C := C2) (by kernel_rfl) (by kernel_rfl) hC20 ?_
                            dsimp only []
                            repeat (first | go_big_quiet_skip | (go_big_quiet_want; first | (refine quiet_load _ _ (by rfl) ?_ _ (by rfl) (by first | exact x0.out | exact x1.out | exact m0.out | exact m1.out | exact m4.out | exact lx.out) ?_; (· intro w; simp); (simp only [Act.put, List.setIfInBounds_toArray, List.set_cons_zero, List.set_cons_succ]); go_big_quiet_on) | (refine quiet_eql_int _ _ _ _ (by rfl) (by rfl) (by rfl) bk5.out ?_; (simp only [Act.put, List.setIfInBounds_toArray, List.set_cons_zero, List.set_cons_succ]); go_big_quiet_on) | (refine quiet_geq_int _ _ _ _ (by rfl) (by rfl) (by rfl) bk14.out ?_; (simp only [Act.put, List.setIfInBounds_toArray, List.set_cons_zero, List.set_cons_succ]); go_big_quiet_on) | (refine quiet_lss_int _ _ _ _ (by rfl) (by rfl) (by rfl) bk22.out ?_; (simp only [Act.put, List.setIfInBounds_toArray, List.set_cons_zero, List.set_cons_succ]); go_big_quiet_on) | (refine quiet_geq_int _ _ _ _ (by rfl) (by rfl) (by rfl) bk33.out ?_; (simp only [Act.put, List.setIfInBounds_toArray, List.set_cons_zero, List.set_cons_succ]); go_big_quiet_on) | (go_big_quiet_op; go_big_quiet_on) | (go_big_quiet_op; refine Exists.intro _ ⟨fun _ _ => rfl, ?_⟩; go_big_quiet_on)))
                            refine wpQuiet_nil ?_
                            intro w10 hC10
                            go_wp2
                            go_meet
                            case rel => exact ⟨by rw [hln]; simp, hC10⟩
                  case rest =>
                    obtain ⟨rfl, hC10⟩ := hcut
                    clear hln
                    go_upto_region 27 with fail
                    have hux : Hid ((Tryd.prog.info? 59).map (·.size) = some x.vals.toArray.size) := Lib.hid size_ms
                    cases LN with
                    | false =>
                      refine wp_region_quiet (C := C2) (by kernel_rfl) (by kernel_rfl) ((HC2.out _).2 (Below.drew ((HC2.out _).1 hC10))) ?_
                      dsimp only []
                      repeat (first | go_big_quiet_skip | (go_big_quiet_want; first | (refine quiet_load _ _ (by rfl) ?_ _ (by rfl) (by first | exact x0.out | exact x1.out) ?_; (· intro w; simp); (simp only [Act.put, List.setIfInBounds_toArray, List.set_cons_zero, List.set_cons_succ]); go_big_quiet_on) | (go_big_quiet_op; go_big_quiet_on) | (go_big_quiet_op; refine Exists.intro _ ⟨fun _ _ => rfl, ?_⟩; go_big_quiet_on)))
                      refine wpQuiet_nil ?_
                      intro w11 hC11
                      have HB11 := Lib.hid (bthen' ((HC.out _).1 hC9) ((HC2.out _).1 hC11))
                      go_wp2
                      go_roundw
                      case rel => exact ⟨r + 1, by omega, by go_num, (HC.out _).2 HB11.out⟩
                      case measure => simp [intOf]; omega
                    | true =>
                      obtain ⟨K0, hK0⟩ : ∃ K0, decide (0 < XS) = K0 := ⟨_, rfl⟩
                      have bk0 := Lib.hid (show decide ((0 : Int) < (XS : Int)) = K0 by rw [← hK0, decide_eq_decide]; omega)
                      cases K0 with
                      | false =>
                        clear hK0
                        refine wp_region_quiet (C := C2) (by kernel_rfl) (by kernel_rfl) ((HC2.out _).2 (Below.drew ((HC2.out _).1 hC10))) ?_
                        dsimp only []
                        repeat (first | go_big_quiet_skip | (go_big_quiet_want; first | (refine quiet_load _ _ (by rfl) ?_ _ (by rfl) (by first | exact x0.out | exact x1.out) ?_; (· intro w; simp); (simp only [Act.put, List.setIfInBounds_toArray, List.set_cons_zero, List.set_cons_succ]); go_big_quiet_on) | (refine quiet_gtr_int _ _ _ _ (by rfl) (by rfl) (by rfl) bk0.out ?_; (simp only [Act.put, List.setIfInBounds_toArray, List.set_cons_zero, List.set_cons_succ]); go_big_quiet_on) | (go_big_quiet_op; go_big_quiet_on) | (go_big_quiet_op; refine Exists.intro _ ⟨fun _ _ => rfl, ?_⟩; go_big_quiet_on)))
                        refine wpQuiet_nil ?_
                        intro w11 hC11
                        have HB11 := Lib.hid (bthen' ((HC.out _).1 hC9) ((HC2.out _).1 hC11))
                        go_wp2
                        go_roundw
                        case rel => exact ⟨r + 1, by omega, by go_num, (HC.out _).2 HB11.out⟩
                        case measure => simp [intOf]; omega
                      | true =>
                        obtain ⟨NX, hNX⟩ : ∃ NX, wholeL X XF = NX := ⟨_, rfl⟩
                        have kwx := Lib.hid (show ∀ w', C2 w' → Calls Tryd.prog 16 #[.pointer (some ⟨g, 0, none⟩), .int .i64 XF] w' fun e w'' => e = .returned (.int .u32 NX) ∧ C2 w'' from
                          fun w' h => (whole_any (HP7.out.below ((HC.out w').1 (HCC.out w' h))) _).mono fun e w'' ⟨he, hw⟩ => ⟨by rw [← hNX, ← HX0.out]; exact he, (HC2.out w'').2 (bthen' ((HC2.out w').1 h) hw)⟩)
                        obtain ⟨K1, hK1⟩ : ∃ K1, decide (XS ≤ NX) = K1 := ⟨_, rfl⟩
                        have bk1 := Lib.hid (show decide ((XS : Int) ≤ (NX : Int)) = K1 by rw [← hK1, decide_eq_decide]; omega)
                        cases K1 with
                        | false =>
                          clear hK0 hK1 hNX
                          refine wp_region_quiet (C := C2) (by kernel_rfl) (by kernel_rfl) ((HC2.out _).2 (Below.drew ((HC2.out _).1 hC10))) ?_
                          dsimp only []
                          repeat (first | go_big_quiet_skip | (go_big_quiet_want; first | (refine quiet_load _ _ (by rfl) ?_ _ (by rfl) (by first | exact x0.out | exact x1.out) ?_; (· intro w; simp); (simp only [Act.put, List.setIfInBounds_toArray, List.set_cons_zero, List.set_cons_succ]); go_big_quiet_on) | (refine quiet_call 16 _ _ (by rfl) Tryd.call16 _ ?_ kwx.out ?_; (· rfl); (simp only [Act.put, List.setIfInBounds_toArray, List.set_cons_zero, List.set_cons_succ]); go_big_quiet_on) | (refine quiet_gtr_int _ _ _ _ (by rfl) (by rfl) (by rfl) bk0.out ?_; (simp only [Act.put, List.setIfInBounds_toArray, List.set_cons_zero, List.set_cons_succ]); go_big_quiet_on) | (refine quiet_leq_int _ _ _ _ (by rfl) (by rfl) (by rfl) bk1.out ?_; (simp only [Act.put, List.setIfInBounds_toArray, List.set_cons_zero, List.set_cons_succ]); go_big_quiet_on) | (go_big_quiet_op; go_big_quiet_on) | (go_big_quiet_op; refine Exists.intro _ ⟨fun _ _ => rfl, ?_⟩; go_big_quiet_on)))
                          refine wpQuiet_nil ?_
                          intro w11 hC11
                          have HB11 := Lib.hid (bthen' ((HC.out _).1 hC9) ((HC2.out _).1 hC11))
                          go_wp2
                          go_roundw
                          case rel => exact ⟨r + 1, by omega, by go_num, (HC.out _).2 HB11.out⟩
                          case measure => simp [intOf]; omega
                        | true =>
                          have HAS := Lib.hid (show hasM ks x = true from hasM_mem (KIN.out x HXM.out (keep_leans KF.out (m := y.m) (by unfold msgs; exact List.mem_map.2 ⟨y, HYM.out.1, rfl⟩) HYM.out.2 HLN.out (by rw [HXS.out]; exact of_decide_eq_true hK0) (by rw [HXS.out, HXF.out, hNX]; exact of_decide_eq_true hK1))))
                          have khs := Lib.hid (show ∀ w', C2 w' → Calls Tryd.prog 29 #[.slice (some ⟨kb, 0, none⟩) ks.length kc, .agg x.vals.toArray] w' fun e w'' => e = .returned (.bool true) ∧ C2 w'' from
                            fun w' h => (has_msg (KS7.out.below rfl ((HC.out w').1 (HCC.out w' h))) (by have := HKL.out; omega) x (HOK9.out.below rfl ((HC2.out w').1 h))).mono fun e w'' ⟨he, hw⟩ => ⟨by rw [← HAS.out]; exact he, (HC2.out w'').2 (bthen' ((HC2.out w').1 h) hw)⟩)
                          clear hK0 hK1 hNX
                          refine wp_region_quiet (C := C2) (by kernel_rfl) (by kernel_rfl) ((HC2.out _).2 (Below.drew ((HC2.out _).1 hC10))) ?_
                          dsimp only []
                          repeat (first | go_big_quiet_skip | (go_big_quiet_want; first | (refine quiet_load _ _ (by rfl) ?_ _ (by rfl) (by first | exact x0.out | exact x1.out) ?_; (· intro w; simp); (simp only [Act.put, List.setIfInBounds_toArray, List.set_cons_zero, List.set_cons_succ]); go_big_quiet_on) | (refine quiet_load_agg Tryd.underlying59 rfl hux.out _ (by rfl) _ (by rfl) _ _ ax.out ?_; (simp only [Act.put, List.setIfInBounds_toArray, List.set_cons_zero, List.set_cons_succ]); go_big_quiet_on) | (refine quiet_call 16 _ _ (by rfl) Tryd.call16 _ ?_ kwx.out ?_; (· rfl); (simp only [Act.put, List.setIfInBounds_toArray, List.set_cons_zero, List.set_cons_succ]); go_big_quiet_on) | (refine quiet_call 29 _ _ (by rfl) Tryd.call29 _ ?_ khs.out ?_; (· rfl); (simp only [Act.put, List.setIfInBounds_toArray, List.set_cons_zero, List.set_cons_succ]); go_big_quiet_on) | (refine quiet_gtr_int _ _ _ _ (by rfl) (by rfl) (by rfl) bk0.out ?_; (simp only [Act.put, List.setIfInBounds_toArray, List.set_cons_zero, List.set_cons_succ]); go_big_quiet_on) | (refine quiet_leq_int _ _ _ _ (by rfl) (by rfl) (by rfl) bk1.out ?_; (simp only [Act.put, List.setIfInBounds_toArray, List.set_cons_zero, List.set_cons_succ]); go_big_quiet_on) | (refine quiet_not (K := true) (K' := false) _ _ (by rfl) (by rfl) rfl ?_; (simp only [Act.put, List.setIfInBounds_toArray, List.set_cons_zero, List.set_cons_succ]); go_big_quiet_on) | (go_big_quiet_op; go_big_quiet_on) | (go_big_quiet_op; refine Exists.intro _ ⟨fun _ _ => rfl, ?_⟩; go_big_quiet_on)))
                          refine wpQuiet_nil ?_
                          intro w11 hC11
                          have HB11 := Lib.hid (bthen' ((HC.out _).1 hC9) ((HC2.out _).1 hC11))
                          go_wp2
                          go_roundw
                          case rel => exact ⟨r + 1, by omega, by go_num, (HC.out _).2 HB11.out⟩
                          case measure => simp [intOf]; omega
                · obtain rfl : r = rest.length := by omega
                  have HB3 := Lib.hid (bthen' H7.out ((HC.out _).1 hCr2))
                  go_wp2
                  go_roundw
                  case rel => exact ⟨k + 1, by omega, by go_num, HB3.out⟩
                  case measure => simp [intOf]; omega
        · obtain rfl : k = ks.length := by omega
          go_wp2
          go_ret
          exact ⟨rfl, bthen' B6.out HB.out⟩
end Go.Proofs.YtagelhbknbpfhaaDoor

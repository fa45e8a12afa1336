/-
  Package plan: Keep.
-/
import Derived.Test.YtagelhbknbpfhaaDoorPlanG
namespace Go.Proofs.YtagelhbknbpfhaaDoor
open Go.RowKit Go.BigFrame
set_option maxHeartbeats 1000000
set_option maxRecDepth 100000
/-- Keep's frame at its label. -/
def KeepFr (g K : Nat) (v : Value) (a : Act) : Prop := ∃ (u2 u3 u6 u8 u9 u10 u11 u12 u13 u14 u15 u16 u17 u18 u19 u20 u21 u22 u23 u24 u25 u26 u27 u28 u29 u30 u31 u32 u33 u34 u35 u36 u37 u38 u39 u40 u41 u42 u43 u44 u45 u46 u47 u48 u49 u50 u51 u52 u53 u54 u55 u56 u57 u58 u59 u60 u61 u62 u63 u64 u65 u66 u67 u68 u69 u70 u71 u72 u73 u74 u75 u76 : Value), a = { tmps := #[.pointer (some ⟨g, 0, none⟩), v, u2, u3, .slice none 0 0, .pointer (some ⟨K, 0, none⟩), u6, .func (.func 39) #[] #[.pointer (some ⟨K, 0, none⟩)], u8, u9, u10, u11, u12, u13, u14, u15, u16, u17, u18, u19, u20, u21, u22, u23, u24, u25, u26, u27, u28, u29, u30, u31, u32, u33, u34, u35, u36, u37, u38, u39, u40, u41, u42, u43, u44, u45, u46, u47, u48, u49, u50, u51, u52, u53, u54, u55, u56, u57, u58, u59, u60, u61, u62, u63, u64, u65, u66, u67, u68, u69, u70, u71, u72, u73, u74, u75, u76], defers := [] }
def KeepPost (w : World) (l : List Ex) (rest : List MsE) (e : Ending) (w' : World) : Prop :=
  ∃ v kf, e = .returned v ∧ Fin l (msgs rest) (fun i => wholeL l i) kf ∧ w'.ownsRow w.heap.size 59 6 v (rest.filter fun y => keepM l kf y.m).length (rowOf MsE.vals (rest.filter fun y => keepM l kf y.m)) ∧ Below w.heap.size w w'
theorem keep_any {w : World} {g : Nat} {l : List XE} (h : PlanAt w g l) {v : Value} {rest : List MsE} {a : Option Addr} {c b o : Nat} (hm : MsgsAt w v rest a c b o) (hl : rest.length ≤ 1000) :
    Calls Tryd.prog 26 #[.pointer (some ⟨g, 0, none⟩), v] w (KeepPost w (exs l) rest) := by
  have hz := zero_ms
  have hza := zero_arr
  have hu : Hid ((Tryd.prog.info? 59).map (·.size) = some (6 : Nat)) := Lib.hid size_ms
  have HP := Lib.hid h
  have HM := Lib.hid hm
  have hlen : (rest.length : Int) ≤ 1000 := by omega
  have hv := hm.r.v
  subst hv
  obtain ⟨K, hK⟩ : ∃ K, w.heap.size = K := ⟨_, rfl⟩
  have HKN := Lib.hid hK
  clear h hm hK
  go_enter Tryd.func26, Tryd.ntmps26
  go_wp2
  refine wp_scope_loop 0 (fun a' w' => KeepFr g K (.slice a rest.length c) a' ∧ Below w.heap.size w w' ∧ ∃ kept, KeptAt w' K kept ∧ ∀ kf, Fin (exs l) (msgs rest) kept kf → Fin (exs l) (msgs rest) (fun i => wholeL (exs l) i) kf) (fun _ w' => memSum K w') (by rfl) ?_ ?_
  · rintro a1 W ⟨⟨u2, u3, u6, u8, u9, u10, u11, u12, u13, u14, u15, u16, u17, u18, u19, u20, u21, u22, u23, u24, u25, u26, u27, u28, u29, u30, u31, u32, u33, u34, u35, u36, u37, u38, u39, u40, u41, u42, u43, u44, u45, u46, u47, u48, u49, u50, u51, u52, u53, u54, u55, u56, u57, u58, u59, u60, u61, u62, u63, u64, u65, u66, u67, u68, u69, u70, u71, u72, u73, u74, u75, u76, rfl⟩, hbW, kept, hkept, hfin⟩
    have BW := Lib.hid hbW
    have HK := Lib.hid hkept
    have HF := Lib.hid hfin
    have HPW := Lib.hid (HP.out.below hbW)
    have HMW := Lib.hid (HM.out.below rfl hbW)
    clear hbW hkept hfin
    go_wp2
    go_loopw [25] (fun i wr => ∃ k : Nat, k ≤ rest.length ∧ i = .int .i64 k ∧ Below W.heap.size W wr ∧ ∀ j (hj : j < rest.length), j < k → badM (exs l) kept rest[j].m = false) (fun i _ => rest.length - (intOf i).toNat)
    case atStart => exact ⟨0, Nat.zero_le _, rfl, Below.refl _ _, fun j _ h => by omega⟩
    case round =>
      obtain ⟨k, hk, rfl, hb, hgood⟩ := hrel
      have HB := Lib.hid hb
      have HG := Lib.hid hgood
      clear hb hgood
      by_cases hlt : k < rest.length
      · obtain ⟨rfl, _⟩ := HM.out.r.a (by omega)
        obtain ⟨y, hy⟩ : ∃ y, rest[k] = y := ⟨_, rfl⟩
        have hlt' : (k : Int) < (rest.length : Int) := by omega
        have HY := Lib.hid hy
        have HNEXT := Lib.hid (show badM (exs l) kept y.m = false → ∀ j (hj : j < rest.length), j < k + 1 → badM (exs l) kept rest[j].m = false from fun h j hj hlt2 => by
          by_cases e : j = k
          · subst e; rw [hy]; exact h
          · exact HG.out j hj (by omega))
        have HX := Lib.hid (show wr.rangeAt b (o + k * 6) y.vals from by rw [← hy]; exact (HMW.out.r.below rfl HB.out).at_ MsE.len hlt)
        have HOK := Lib.hid (show y.Ok wr from by rw [← hy]; exact (HMW.out.ok _ (List.getElem_mem hlt)).below rfl HB.out)
        obtain ⟨D, hD⟩ : ∃ D, wr.heap.size = D := ⟨_, rfl⟩
        go_upto_region 11 with (first
          | (guard_target = wpList _ _ _ (Oper.mk none (Op.store _ _ _) _ _ _ none :: _) _ _; refine wpList_store_row rfl 59 _ _ rfl D (by rfl) y.vals.toArray (by rfl) msZero.toArray 59 (by rw [← hD]; exact heap_alloc_new _ _) rfl hu.out HOK.out.oneA ?_; intro w7 hw7 hg7)
          | (guard_target = wpList _ _ _ (Oper.mk _ (Op.load 59 _) _ _ _ none :: _) _ _; refine wpList_load_mid rfl 59 _ rfl b (o + k * 6) (by rfl) y.vals _ HX.out Tryd.underlying59 rfl hu.out ?_; simp only [Act.put, List.setIfInBounds_toArray, List.set_cons_zero, List.set_cons_succ]))
        have hb7 : Below wr.heap.size wr w7 := bel_new (hD ▸ hg7)
        have HB7 := Lib.hid (bthen' HB.out hb7)
        have HOK7 := Lib.hid (HOK.out.below rfl hb7)
        have DB := Lib.hid hw7
        clear hw7 hg7 hD hb7 hy
        obtain ⟨C, hC⟩ : ∃ C : World → Prop, ∀ w', C w' ↔ Below w7.heap.size w7 w' := ⟨_, fun _ => Iff.rfl⟩
        have hC0 : C { w7 with drawn := w7.drawn + 1 } := (hC _).2 (Below.drew (Below.refl _ _))
        have a7 := Lib.hid (fun w' (h : C w') => bblock ((hC w').1 h) DB.out)
        have huy : Hid ((Tryd.prog.info? 59).map (·.size) = some y.vals.toArray.size) := Lib.hid size_ms
        have HC := Lib.hid hC
        obtain ⟨K0, hK0⟩ : ∃ K0, cntM (exs l) y.m = K0 := ⟨_, rfl⟩
        have kc := Lib.hid (show ∀ w', C w' → Calls Tryd.prog 40 #[.pointer (some ⟨g, 0, none⟩), .agg y.vals.toArray] w' fun e w'' => e = .returned (.bool K0) ∧ C w'' from
          fun w' h => (counts_any ((HPW.out.below HB7.out).below ((hC w').1 h)) y).mono fun e w'' ⟨he, hw⟩ => ⟨by rw [← hK0]; exact he, (hC w'').2 (bthen' ((hC w').1 h) hw)⟩)
        cases K0 with
        | false =>
          have HNB := Lib.hid (HNEXT.out (by unfold badM; rw [hK0]; rfl))
          clear hC hK0
          simp only [Act.put]
          refine wp_region_quiet (C := C) (by kernel_rfl) (by kernel_rfl) hC0 ?_
          dsimp only []
          repeat (first | go_big_quiet_skip | (go_big_quiet_want; first | (refine quiet_load_agg Tryd.underlying59 rfl huy.out _ (by rfl) _ (by rfl) _ _ a7.out ?_; (simp only [Act.put, List.setIfInBounds_toArray, List.set_cons_zero, List.set_cons_succ]); go_big_quiet_on) | (refine quiet_call 40 _ _ (by rfl) Tryd.call40 _ ?_ kc.out ?_; (· rfl); (simp only [Act.put, List.setIfInBounds_toArray, List.set_cons_zero, List.set_cons_succ]); go_big_quiet_on) | (refine quiet_not (K := false) (K' := true) _ _ (by rfl) (by rfl) rfl ?_; (simp only [Act.put, List.setIfInBounds_toArray, List.set_cons_zero, List.set_cons_succ]); go_big_quiet_on) | (go_big_quiet_op; go_big_quiet_on) | (go_big_quiet_op; refine Exists.intro _ ⟨fun _ _ => rfl, ?_⟩; go_big_quiet_on)))
          refine wpQuiet_nil ?_
          intro w8 hC8
          have HB8 := Lib.hid (bthen' HB7.out ((HC.out _).1 hC8))
          clear hC8 hC0 a7 kc HC
          go_wp2
          go_roundw
          case rel => exact ⟨k + 1, by omega, by go_num, HB8.out, HNB.out⟩
          case measure => simp [intOf]; omega
        | true =>
          obtain ⟨hS0, f, hf, hf64⟩ := cntM_in hK0
          obtain ⟨S, hS⟩ : ∃ S, y.m.seq = S := ⟨_, rfl⟩
          obtain ⟨R, hR⟩ : ∃ R, kept f = R := ⟨_, rfl⟩
          have hf64' : (f : Int) < 64 := by omega
          have ls := Lib.hid (show ∀ w', C w' → w'.cell? ⟨D, 1, none⟩ = some (.int .u32 S) from fun w' h => by rw [cell_of_row w' D 1 _ _ _ (bblock ((hC w').1 h) DB.out), ← hS]; rfl)
          have lf := Lib.hid (show ∀ w', C w' → w'.cell? ⟨D, 0, none⟩ = some (.int .i64 (f : Int)) from fun w' h => by rw [cell_of_row w' D 0 _ _ _ (bblock ((hC w').1 h) DB.out), ← hf]; rfl)
          have lk := Lib.hid (show ∀ w', C w' → w'.cell? ⟨K, f, none⟩ = some (.int .u32 R) from fun w' h => by rw [← hR]; exact ((HK.out.below HB7.out).below ((hC w').1 h)).c f hf64)
          obtain ⟨K1, hK1⟩ : ∃ K1, decide (R < S) = K1 := ⟨_, rfl⟩
          have b1 := Lib.hid (show decide ((R : Int) < (S : Int)) = K1 by rw [← hK1, decide_eq_decide]; omega)
          cases K1 with
          | true =>
            have HNB := Lib.hid (HNEXT.out (by unfold badM; rw [hf, Int.toNat_natCast, hR, hS, decide_eq_false (by have := of_decide_eq_true hK1; omega)]; simp))
            clear hC hK0 hK1 hS hR hf hS0
            simp only [Act.put]
            refine wp_region_quiet (C := C) (by kernel_rfl) (by kernel_rfl) hC0 ?_
            dsimp only []
            repeat (first | go_big_quiet_skip | (go_big_quiet_want; first | (refine quiet_load _ _ (by rfl) ?_ _ (by rfl) (by first | exact ls.out | exact lf.out | exact lk.out) ?_; (· intro w; simp); (simp only [Act.put, List.setIfInBounds_toArray, List.set_cons_zero, List.set_cons_succ]); go_big_quiet_on) | (refine quiet_load_agg Tryd.underlying59 rfl huy.out _ (by rfl) _ (by rfl) _ _ a7.out ?_; (simp only [Act.put, List.setIfInBounds_toArray, List.set_cons_zero, List.set_cons_succ]); go_big_quiet_on) | (refine quiet_call 40 _ _ (by rfl) Tryd.call40 _ ?_ kc.out ?_; (· rfl); (simp only [Act.put, List.setIfInBounds_toArray, List.set_cons_zero, List.set_cons_succ]); go_big_quiet_on) | (refine quiet_not (K := true) (K' := false) _ _ (by rfl) (by rfl) rfl ?_; (simp only [Act.put, List.setIfInBounds_toArray, List.set_cons_zero, List.set_cons_succ]); go_big_quiet_on) | (refine quiet_gtr_int _ _ _ _ (by rfl) (by rfl) (by rfl) b1.out ?_; (simp only [Act.put, List.setIfInBounds_toArray, List.set_cons_zero, List.set_cons_succ]); go_big_quiet_on) | (go_big_quiet_op; go_big_quiet_on) | (go_big_quiet_op; refine Exists.intro _ ⟨fun _ _ => rfl, ?_⟩; go_big_quiet_on)))
            refine wpQuiet_nil ?_
            intro w8 hC8
            have HB8 := Lib.hid (bthen' HB7.out ((HC.out _).1 hC8))
            clear hC8 hC0 a7 kc HC ls lf lk
            go_wp2
            go_roundw
            case rel => exact ⟨k + 1, by omega, by go_num, HB8.out, HNB.out⟩
            case measure => simp [intOf]; omega
          | false =>
            have hSR : S ≤ R := by have := of_decide_eq_false hK1; omega
            obtain ⟨FT, hFT⟩ : ∃ FT, fitK kept y.m.deps = FT := ⟨_, rfl⟩
            have HBAD := Lib.hid (show badM (exs l) kept y.m = !FT by unfold badM; rw [hK0, hf, Int.toNat_natCast, hR, hS, decide_eq_true hSR, hFT]; rfl)
            have HFF := Lib.hid hf
            have HSS := Lib.hid hS
            have HRR := Lib.hid hR
            have HCC := Lib.hid hC
            clear hC hK0 hK1 hS hR hf
            simp only [Act.put]
            refine wp_region_quiet (C := C) (by kernel_rfl) (by kernel_rfl) hC0 ?_
            dsimp only []
            repeat (first | go_big_quiet_skip | (go_big_quiet_want; first | (refine quiet_load _ _ (by rfl) ?_ _ (by rfl) (by first | exact ls.out | exact lf.out | exact lk.out) ?_; (· intro w; simp); (simp only [Act.put, List.setIfInBounds_toArray, List.set_cons_zero, List.set_cons_succ]); go_big_quiet_on) | (refine quiet_load_agg Tryd.underlying59 rfl huy.out _ (by rfl) _ (by rfl) _ _ a7.out ?_; (simp only [Act.put, List.setIfInBounds_toArray, List.set_cons_zero, List.set_cons_succ]); go_big_quiet_on) | (refine quiet_call 40 _ _ (by rfl) Tryd.call40 _ ?_ kc.out ?_; (· rfl); (simp only [Act.put, List.setIfInBounds_toArray, List.set_cons_zero, List.set_cons_succ]); go_big_quiet_on) | (refine quiet_not (K := true) (K' := false) _ _ (by rfl) (by rfl) rfl ?_; (simp only [Act.put, List.setIfInBounds_toArray, List.set_cons_zero, List.set_cons_succ]); go_big_quiet_on) | (refine quiet_gtr_int _ _ _ _ (by rfl) (by rfl) (by rfl) b1.out ?_; (simp only [Act.put, List.setIfInBounds_toArray, List.set_cons_zero, List.set_cons_succ]); go_big_quiet_on) | (go_big_quiet_op; go_big_quiet_on) | (go_big_quiet_op; refine Exists.intro _ ⟨fun _ _ => rfl, ?_⟩; go_big_quiet_on)))
            refine wpQuiet_nil ?_
            intro w8 hC8
            have kf := Lib.hid (show ∀ w', C w' → Calls Tryd.prog 39 #[.agg y.vals.toArray, .pointer (some ⟨K, 0, none⟩)] w' fun e w'' => e = .returned (.bool FT) ∧ C w'' from
              fun w' h => (fits_any ((HK.out.below HB7.out).below ((HCC.out w').1 h)) y (HOK7.out.below rfl ((HCC.out w').1 h))).mono fun e w'' ⟨he, hw⟩ => ⟨by rw [← hFT]; exact he, (HCC.out w'').2 (bthen' ((HCC.out w').1 h) hw)⟩)
            clear hFT
            go_upto_region 12 with fail
            cases FT with
            | true =>
              have HNB := Lib.hid (HNEXT.out HBAD.out)
              refine wp_region_plain (C := C) hC8 ?_
              dsimp only []
              repeat (first | go_big_quiet_skip | (go_big_quiet_want; first | (refine quiet_load_agg Tryd.underlying59 rfl huy.out _ (by rfl) _ (by rfl) _ _ a7.out ?_; (simp only [Act.put, List.setIfInBounds_toArray, List.set_cons_zero, List.set_cons_succ]); go_big_quiet_on) | (refine quiet_callv _ 39 #[.pointer (some ⟨K, 0, none⟩)] _ _ (by rfl) (by rfl) Tryd.call39 _ ?_ kf.out ?_; (· rfl); (simp only [Act.put, List.setIfInBounds_toArray, List.set_cons_zero, List.set_cons_succ]); go_big_quiet_on) | (refine quiet_not (K := true) (K' := false) _ _ (by rfl) (by rfl) rfl ?_; (simp only [Act.put, List.setIfInBounds_toArray, List.set_cons_zero, List.set_cons_succ]); go_big_quiet_on) | (go_big_quiet_op; go_big_quiet_on) | (go_big_quiet_op; refine Exists.intro _ ⟨fun _ _ => rfl, ?_⟩; go_big_quiet_on)))
              refine wpQuiet_nil ?_
              intro w9 hC9
              have HB9 := Lib.hid (bthen' HB7.out ((HC.out _).1 hC9))
              clear hC9 hC8 hC0 a7 kc HC ls lf lk
              go_wp2
              go_roundw
              case rel => exact ⟨k + 1, by omega, by go_num, HB9.out, HNB.out⟩
              case measure => simp [intOf]; omega
            | false =>
              refine wp_region_plain (C := C) hC8 ?_
              dsimp only []
              repeat (first | go_big_quiet_skip | (go_big_quiet_want; first | (refine quiet_load_agg Tryd.underlying59 rfl huy.out _ (by rfl) _ (by rfl) _ _ a7.out ?_; (simp only [Act.put, List.setIfInBounds_toArray, List.set_cons_zero, List.set_cons_succ]); go_big_quiet_on) | (refine quiet_callv _ 39 #[.pointer (some ⟨K, 0, none⟩)] _ _ (by rfl) (by rfl) Tryd.call39 _ ?_ kf.out ?_; (· rfl); (simp only [Act.put, List.setIfInBounds_toArray, List.set_cons_zero, List.set_cons_succ]); go_big_quiet_on) | (refine quiet_not (K := false) (K' := true) _ _ (by rfl) (by rfl) rfl ?_; (simp only [Act.put, List.setIfInBounds_toArray, List.set_cons_zero, List.set_cons_succ]); go_big_quiet_on) | (go_big_quiet_op; go_big_quiet_on) | (go_big_quiet_op; refine Exists.intro _ ⟨fun _ _ => rfl, ?_⟩; go_big_quiet_on)))
              refine wpQuiet_nil ?_
              intro w9 hC9
              have HB9 := Lib.hid (bthen' HB7.out ((HC.out _).1 hC9))
              have cs := ls.out _ hC9
              have cf := lf.out _ hC9
              have ck := lk.out _ hC9
              have HK9 := Lib.hid (HK.out.below HB9.out)
              have nf := HK9.out.nf f
              clear hC9 hC8 hC0 a7 kc HC ls lf lk
              obtain ⟨T, hT⟩ : ∃ T, S = T + 1 := ⟨S - 1, by have := HSS.out; omega⟩
              subst hT
              have hTb : (T : Int) < 4294967295 := by have := HOK7.out.seq; have := HSS.out; omega
              go_wp2
              go_step3
              show (0 : Nat) = 0 ∧ (KeepFr g K _ _ ∧ Below w.heap.size w _ ∧ ∃ kept, KeptAt _ K kept ∧ ∀ kf, Fin (exs l) (msgs rest) kept kf → Fin (exs l) (msgs rest) (fun i => wholeL (exs l) i) kf) ∧ memSum K _ < memSum K W
              have HKS := HK9.out.set f T hf64
              refine ⟨rfl, ⟨?_, ?_, _, HKS, ?_⟩, ?_⟩
              · unfold KeepFr
                repeat (apply Exists.intro)
                rfl
              · exact (bthen' BW.out HB9.out).grown (grown_set (grown_of_below (Below.refl _ _) K) f _) (Nat.le_trans BW.out.size HB9.out.size) (fun j hj => by cases hj; rw [HKN.out]; exact Nat.le_refl _)
              · intro kf hkf
                have hkm : k < (msgs rest).length := by simpa [msgs] using hlt
                have hyk : (msgs rest)[k] = y.m := by simp [msgs, HY.out]
                refine HF.out kf (Fin.step _ _ y.m ?_ ?_)
                · have := find_at (p := badM (exs l) kept) hkm (fun j hj hjk => by simpa [msgs] using HG.out j (by simpa [msgs] using hj) hjk) (by rw [hyk, HBAD.out]; rfl)
                  rw [this, hyk]
                · rw [lowerK_eq kept y.m f HFF.out, HSS.out]
                  exact hkf
              · rw [HKS.sum, HK.out.sum]
                exact sum_lower 64 kept f T hf64 (by rw [HRR.out]; omega)
      · obtain rfl : k = rest.length := by omega
        obtain ⟨V, rfl⟩ : ∃ V, V = wr := ⟨_, rfl⟩
        have HDONE := Lib.hid (HF.out kept (Fin.done kept (find_none fun j hj => by simpa [msgs] using HG.out j (by simpa [msgs] using hj) (by simpa [msgs] using hj))))
        have HPV := Lib.hid (HPW.out.below HB.out)
        have HMV := Lib.hid (HMW.out.below rfl HB.out)
        have HKV := Lib.hid (HK.out.below HB.out)
        have BV := Lib.hid (bthen' BW.out HB.out)
        clear HG HF HPW HMW HK HB BW hlt hk
        go_wp2
        go_loopw [10, 55] (fun kv i wr => ∃ k : Nat, k ≤ rest.length ∧ i = .int .i64 k ∧ Below V.heap.size V wr ∧ wr.ownsRow V.heap.size 59 6 kv ((rest.take k).filter fun y => keepM (exs l) kept y.m).length (rowOf MsE.vals ((rest.take k).filter fun y => keepM (exs l) kept y.m))) (fun _ i _ => rest.length - (intOf i).toNat)
        case atStart => exact ⟨0, Nat.zero_le _, rfl, Below.refl _ _, World.ownsRow_nil _ _ _ _⟩
        case round =>
          obtain ⟨k, hk, rfl, hb, hown⟩ := hrel
          have HB := Lib.hid hb
          have HO := Lib.hid hown
          clear hb hown
          by_cases hlt : k < rest.length
          · obtain ⟨rfl, _⟩ := HM.out.r.a (by omega)
            obtain ⟨y, hy⟩ : ∃ y, rest[k] = y := ⟨_, rfl⟩
            have hlt' : (k : Int) < (rest.length : Int) := by omega
            have HFT := Lib.hid (filter_take (fun y => keepM (exs l) kept y.m) rest k hlt y hy)
            have HX := Lib.hid (show wr.rangeAt b (o + k * 6) y.vals from by rw [← hy]; exact (HMV.out.r.below rfl HB.out).at_ MsE.len hlt)
            have HOK := Lib.hid (show y.Ok wr from by rw [← hy]; exact (HMV.out.ok _ (List.getElem_mem hlt)).below rfl HB.out)
            obtain ⟨D, hD⟩ : ∃ D, wr.heap.size = D := ⟨_, rfl⟩
            go_upto_region 19 with (first
              | (guard_target = wpList _ _ _ (Oper.mk none (Op.store _ _ _) _ _ _ none :: _) _ _; refine wpList_store_row rfl 59 _ _ rfl D (by rfl) y.vals.toArray (by rfl) msZero.toArray 59 (by rw [← hD]; exact heap_alloc_new _ _) rfl hu.out HOK.out.oneA ?_; intro w7 hw7 hg7)
              | (guard_target = wpList _ _ _ (Oper.mk _ (Op.load 59 _) _ _ _ none :: _) _ _; refine wpList_load_mid rfl 59 _ rfl b (o + k * 6) (by rfl) y.vals _ HX.out Tryd.underlying59 rfl hu.out ?_; simp only [Act.put, List.setIfInBounds_toArray, List.set_cons_zero, List.set_cons_succ]))
            have hb7 : Below wr.heap.size wr w7 := bel_new (hD ▸ hg7)
            have H7 := Lib.hid hb7
            have HB7 := Lib.hid (bthen' HB.out hb7)
            have HOK7 := Lib.hid (HOK.out.below rfl hb7)
            have DB := Lib.hid hw7
            clear hw7 hg7 hD hb7 hy
            obtain ⟨C, hC⟩ : ∃ C : World → Prop, ∀ w', C w' ↔ Below w7.heap.size w7 w' := ⟨_, fun _ => Iff.rfl⟩
            have hC0 : C { w7 with drawn := w7.drawn + 1 } := (hC _).2 (Below.drew (Below.refl _ _))
            have a7 := Lib.hid (fun w' (h : C w') => bblock ((hC w').1 h) DB.out)
            have huy : Hid ((Tryd.prog.info? 59).map (·.size) = some y.vals.toArray.size) := Lib.hid size_ms
            have HC := Lib.hid hC
            obtain ⟨K0, hK0⟩ : ∃ K0, cntM (exs l) y.m = K0 := ⟨_, rfl⟩
            have kc := Lib.hid (show ∀ w', C w' → Calls Tryd.prog 40 #[.pointer (some ⟨g, 0, none⟩), .agg y.vals.toArray] w' fun e w'' => e = .returned (.bool K0) ∧ C w'' from
              fun w' h => (counts_any ((HPV.out.below HB7.out).below ((hC w').1 h)) y).mono fun e w'' ⟨he, hw⟩ => ⟨by rw [← hK0]; exact he, (hC w'').2 (bthen' ((hC w').1 h) hw)⟩)
            cases K0 with
            | false =>
              have HNO := Lib.hid (show (rest.take (k + 1)).filter (fun y => keepM (exs l) kept y.m) = (rest.take k).filter (fun y => keepM (exs l) kept y.m) by rw [HFT.out, show keepM (exs l) kept y.m = false by unfold keepM; rw [hK0]; rfl]; simp)
              clear hC hK0
              simp only [Act.put]
              refine wp_region_quiet (C := C) (by kernel_rfl) (by kernel_rfl) hC0 ?_
              dsimp only []
              repeat (first | go_big_quiet_skip | (go_big_quiet_want; first | (refine quiet_load_agg Tryd.underlying59 rfl huy.out _ (by rfl) _ (by rfl) _ _ a7.out ?_; (simp only [Act.put, List.setIfInBounds_toArray, List.set_cons_zero, List.set_cons_succ]); go_big_quiet_on) | (refine quiet_call 40 _ _ (by rfl) Tryd.call40 _ ?_ kc.out ?_; (· rfl); (simp only [Act.put, List.setIfInBounds_toArray, List.set_cons_zero, List.set_cons_succ]); go_big_quiet_on) | (go_big_quiet_op; go_big_quiet_on) | (go_big_quiet_op; refine Exists.intro _ ⟨fun _ _ => rfl, ?_⟩; go_big_quiet_on)))
              refine wpQuiet_nil ?_
              intro w8 hC8
              have h8 := (HC.out _).1 hC8
              have HB8 := Lib.hid (bthen' HB7.out h8)
              have HO8 := Lib.hid (row_below HO.out (bthen' H7.out h8))
              clear hC8 hC0 a7 kc HC h8
              go_wp2
              go_roundw
              case rel => exact ⟨k + 1, by omega, by go_num, HB8.out, by rw [HNO.out]; exact HO8.out⟩
              case measure => simp [intOf]; omega
            | true =>
              obtain ⟨hS0, f, hf, hf64⟩ := cntM_in hK0
              obtain ⟨S, hS⟩ : ∃ S, y.m.seq = S := ⟨_, rfl⟩
              obtain ⟨R, hR⟩ : ∃ R, kept f = R := ⟨_, rfl⟩
              have hf64' : (f : Int) < 64 := by omega
              have ls := Lib.hid (show ∀ w', C w' → w'.cell? ⟨D, 1, none⟩ = some (.int .u32 S) from fun w' h => by rw [cell_of_row w' D 1 _ _ _ (bblock ((hC w').1 h) DB.out), ← hS]; rfl)
              have lf := Lib.hid (show ∀ w', C w' → w'.cell? ⟨D, 0, none⟩ = some (.int .i64 (f : Int)) from fun w' h => by rw [cell_of_row w' D 0 _ _ _ (bblock ((hC w').1 h) DB.out), ← hf]; rfl)
              have lk := Lib.hid (show ∀ w', C w' → w'.cell? ⟨K, f, none⟩ = some (.int .u32 R) from fun w' h => by rw [← hR]; exact ((HKV.out.below HB7.out).below ((hC w').1 h)).c f hf64)
              obtain ⟨K1, hK1⟩ : ∃ K1, decide (S ≤ R) = K1 := ⟨_, rfl⟩
              have b1 := Lib.hid (show decide ((S : Int) ≤ (R : Int)) = K1 by rw [← hK1, decide_eq_decide]; omega)
              have HKM := Lib.hid (show keepM (exs l) kept y.m = K1 by unfold keepM; rw [hK0, hf, Int.toNat_natCast, hR, hS, hK1]; rfl)
              have HFLE := Lib.hid (filter_take_le (fun y => keepM (exs l) kept y.m) rest k)
              clear hK0 hK1 hS hR hf hS0
              cases K1 with
              | false =>
                have HNO := Lib.hid (show (rest.take (k + 1)).filter (fun y => keepM (exs l) kept y.m) = (rest.take k).filter (fun y => keepM (exs l) kept y.m) by rw [HFT.out, HKM.out]; simp)
                clear hC
                simp only [Act.put]
                refine wp_region_quiet (C := C) (by kernel_rfl) (by kernel_rfl) hC0 ?_
                dsimp only []
                repeat (first | go_big_quiet_skip | (go_big_quiet_want; first | (refine quiet_load _ _ (by rfl) ?_ _ (by rfl) (by first | exact ls.out | exact lf.out | exact lk.out) ?_; (· intro w; simp); (simp only [Act.put, List.setIfInBounds_toArray, List.set_cons_zero, List.set_cons_succ]); go_big_quiet_on) | (refine quiet_load_agg Tryd.underlying59 rfl huy.out _ (by rfl) _ (by rfl) _ _ a7.out ?_; (simp only [Act.put, List.setIfInBounds_toArray, List.set_cons_zero, List.set_cons_succ]); go_big_quiet_on) | (refine quiet_call 40 _ _ (by rfl) Tryd.call40 _ ?_ kc.out ?_; (· rfl); (simp only [Act.put, List.setIfInBounds_toArray, List.set_cons_zero, List.set_cons_succ]); go_big_quiet_on) | (refine quiet_leq_int _ _ _ _ (by rfl) (by rfl) (by rfl) b1.out ?_; (simp only [Act.put, List.setIfInBounds_toArray, List.set_cons_zero, List.set_cons_succ]); go_big_quiet_on) | (go_big_quiet_op; go_big_quiet_on) | (go_big_quiet_op; refine Exists.intro _ ⟨fun _ _ => rfl, ?_⟩; go_big_quiet_on)))
                refine wpQuiet_nil ?_
                intro w8 hC8
                have h8 := (HC.out _).1 hC8
                have HB8 := Lib.hid (bthen' HB7.out h8)
                have HO8 := Lib.hid (row_below HO.out (bthen' H7.out h8))
                clear hC8 hC0 a7 kc HC ls lf lk h8
                go_wp2
                go_roundw
                case rel => exact ⟨k + 1, by omega, by go_num, HB8.out, by rw [HNO.out]; exact HO8.out⟩
                case measure => simp [intOf]; omega
              | true =>
                have HYES := Lib.hid (show (rest.take (k + 1)).filter (fun y => keepM (exs l) kept y.m) = (rest.take k).filter (fun y => keepM (exs l) kept y.m) ++ [y] by rw [HFT.out, HKM.out]; simp)
                clear hC
                simp only [Act.put]
                refine wp_region_quiet (C := C) (by kernel_rfl) (by kernel_rfl) hC0 ?_
                dsimp only []
                repeat (first | go_big_quiet_skip | (go_big_quiet_want; first | (refine quiet_load _ _ (by rfl) ?_ _ (by rfl) (by first | exact ls.out | exact lf.out | exact lk.out) ?_; (· intro w; simp); (simp only [Act.put, List.setIfInBounds_toArray, List.set_cons_zero, List.set_cons_succ]); go_big_quiet_on) | (refine quiet_load_agg Tryd.underlying59 rfl huy.out _ (by rfl) _ (by rfl) _ _ a7.out ?_; (simp only [Act.put, List.setIfInBounds_toArray, List.set_cons_zero, List.set_cons_succ]); go_big_quiet_on) | (refine quiet_call 40 _ _ (by rfl) Tryd.call40 _ ?_ kc.out ?_; (· rfl); (simp only [Act.put, List.setIfInBounds_toArray, List.set_cons_zero, List.set_cons_succ]); go_big_quiet_on) | (refine quiet_leq_int _ _ _ _ (by rfl) (by rfl) (by rfl) b1.out ?_; (simp only [Act.put, List.setIfInBounds_toArray, List.set_cons_zero, List.set_cons_succ]); go_big_quiet_on) | (go_big_quiet_op; go_big_quiet_on) | (go_big_quiet_op; refine Exists.intro _ ⟨fun _ _ => rfl, ?_⟩; go_big_quiet_on)))
                refine wpQuiet_nil ?_
                intro w8 hC8
                have h8 := (HC.out _).1 hC8
                have H8 := Lib.hid (bthen' H7.out h8)
                have D8 := Lib.hid (bblock h8 DB.out)
                clear hC8 hC0 a7 kc HC ls lf lk h8
                obtain ⟨v', w9, hrun, hown9, hb9⟩ := own_step (slT := 50) Tryd.underlying50 info_ms rfl (by decide) HB.out HO.out H8.out y.vals rfl HOK7.out.one (by have := HFLE.out; omega) (by decide)
                have HR := Lib.hid hrun
                rw [← rowOf_snoc, ← HYES.out, show ((rest.take k).filter fun y => keepM (exs l) kept y.m).length + 1 = ((rest.take (k + 1)).filter fun y => keepM (exs l) kept y.m).length by rw [HYES.out]; simp] at hown9
                have HO9 := Lib.hid hown9
                have HB9 := Lib.hid hb9
                clear hrun hown9 hb9
                go_wp2_with (first
                  | (guard_target = wpList _ _ _ (Oper.mk _ (Op.load 59 _) _ _ _ none :: _) _ _; refine wpList_load_row rfl 59 _ rfl D (by rfl) 59 y.vals.toArray (0, 0) _ D8.out Tryd.underlying59 rfl hu.out ?_; simp only [Act.put, List.setIfInBounds_toArray, List.set_cons_zero, List.set_cons_succ])
                  | (guard_target = wpList _ _ _ (Oper.mk _ (Op.buildSlice _ _ _) _ _ _ none :: _) _ _; refine wpList_buildSlice rfl 50 1 _ rfl #[(0, .agg y.vals.toArray)] (by kernel_rfl) _ _ (run_buildM y w8) ?_; simp only [Act.put, List.setIfInBounds_toArray, List.set_cons_zero, List.set_cons_succ])
                  | (guard_target = wpList _ _ _ (Oper.mk _ (Op.call _) _ _ _ none :: _) _ _; refine Lib.wpList_append_run _ rfl _ _ _ _ rfl _ _ rfl rfl _ _ HR.out ?_; simp only [Act.put, List.setIfInBounds_toArray, List.set_cons_zero, List.set_cons_succ]))
                go_roundw
                case rel => exact ⟨k + 1, by omega, by go_num, HB9.out, HO9.out⟩
                case measure => simp [intOf]; omega
          · obtain rfl : k = rest.length := by omega
            rw [List.take_length] at HO
            go_wp2
            simp only [Exit.jump]
            go_ret
            exact ⟨_, kept, rfl, HDONE.out, row_mono HO.out BV.out.size, bthen' BV.out HB.out⟩
  · intro Q2 hK2
    have HK2 := Lib.hid hK2
    clear hK2
    go_upto_region 2 with fail
    rw [HKN.out]
    obtain ⟨W, hW⟩ : ∃ W : World, w.alloc (.cells keptZero 76) = W := ⟨_, rfl⟩
    have BW := Lib.hid (show Below w.heap.size w W by rw [← hW]; exact bel_box _ _ _)
    have KN := Lib.hid (show KeptAt W K fun _ => 0 by rw [← hW, ← HKN.out]; exact kept_new w)
    rw [hW]
    clear hW
    go_wp2
    go_loopw [6, 13] (fun _ i wr => ∃ k : Nat, k ≤ 64 ∧ i = .int .i64 k ∧ Below w.heap.size w wr ∧ KeptAt wr K (fun q => if q < k then wholeL (exs l) q else 0)) (fun _ i _ => 64 - (intOf i).toNat)
    case atStart => exact ⟨0, by omega, rfl, BW.out, KN.out.congr (fun i _ => by simp)⟩
    case round =>
      obtain ⟨k, hk, rfl, hb, hkp⟩ := hrel
      have HB := Lib.hid hb
      have HKP := Lib.hid hkp
      clear hb hkp
      by_cases hlt : k < 64
      · have hlt' : (k : Int) < 64 := by omega
        go_wp2_with fail
        refine (whole_any (HP.out.below HB.out) _).mono ?_
        rintro e w2 ⟨rfl, hb2⟩
        have HB2 := Lib.hid hb2
        have HKP2 := Lib.hid (HKP.out.below hb2)
        have hc := HKP2.out.c k hlt
        have hf := HKP2.out.nf k
        obtain ⟨N, hN⟩ : ∃ N, wholeL (exs l) k = N := ⟨_, rfl⟩
        have HN := Lib.hid hN
        rw [hN]
        clear hb2 hN
        rw [if_neg (Nat.lt_irrefl k)] at hc
        go_wp2
        go_roundw
        case rel =>
          refine ⟨k + 1, by omega, by go_num, (bthen' HB.out HB2.out).grown (grown_set (grown_of_below (Below.refl _ _) K) k _) (Nat.le_trans HB.out.size HB2.out.size) (fun j hj => by cases hj; rw [HKN.out]; exact Nat.le_refl _), ?_⟩
          refine (HKP2.out.set k N hlt).congr fun i hi => ?_
          by_cases e : i = k
          · subst e
            rw [if_pos rfl, if_pos (by omega), HN.out]
          · rw [if_neg e]
            by_cases e2 : i < k
            · rw [if_pos e2, if_pos (by omega)]
            · rw [if_neg e2, if_neg (by omega)]
        case measure => simp [intOf]; omega
      · obtain rfl : k = 64 := by omega
        go_wp2
        go_step3
        rename_i hKK
        simp only [Exit.then]
        refine hKK _ _ (HK2.out _ _ ⟨?_, HB.out, _, HKP.out, fun kf hkf => ?_⟩)
        · unfold KeepFr
          repeat (apply Exists.intro)
          rfl
        · rw [show (fun q : Nat => if q < 64 then wholeL (exs l) q else 0) = fun i : Nat => wholeL (exs l) i from by
            funext i
            by_cases e : i < 64
            · rw [if_pos e]
            · rw [if_neg e]; unfold wholeL; rw [if_neg (by omega)]] at hkf
          exact hkf
end Go.Proofs.YtagelhbknbpfhaaDoor

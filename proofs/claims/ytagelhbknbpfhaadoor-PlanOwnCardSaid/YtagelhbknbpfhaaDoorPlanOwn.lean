/-
  PlanOwn: the walk.
-/
import Derived.Test.YtagelhbknbpfhaaDoorPlanFits
import Derived.Test.YtagelhbknbpfhaaDoorOwnR
namespace Go.Proofs.YtagelhbknbpfhaaDoor
open Go.RowKit Go.BigFrame
set_option maxHeartbeats 1000000
set_option maxRecDepth 100000
theorem run_u0 (w : World) : (Instr.buildSlice 23 0 #[]).run Tryd.prog w = .ok (.slice (some ⟨w.heap.size, 0, none⟩) 0 0) (w.alloc (.cells #[] 35)) := by kernel_rfl
theorem run_ky1 (w : World) : (Instr.build 41 #[(0, .int .u64 1)]).run Tryd.prog w = .ok (.agg (Ky.vals ⟨1, 0⟩).toArray) w := by kernel_rfl
theorem run_ownE (i : Nat) (cnt : List Nat) (g M cap : Nat) (w : World) : (Instr.build 64 #[(0, .int .i64 i), (2, .slice (some ⟨g, 0, none⟩) M cap), (3, .agg (Ky.vals ⟨1, 0⟩).toArray)]).run Tryd.prog w = .ok (.agg (XE.vals ⟨⟨i, 0, 0, cnt, 1, 0⟩, .slice (some ⟨g, 0, none⟩) M cap⟩).toArray) w := by kernel_rfl
theorem run_ownM (i s st : Nat) (deps : List Nat) (g M cap : Nat) (w : World) : (Instr.build 59 #[(0, .int .i64 i), (1, .int .u32 s), (2, .int .u64 st), (4, .slice (some ⟨g, 0, none⟩) M cap)]).run Tryd.prog w = .ok (.agg (MsE.vals ⟨⟨i, s, st, 0, deps, []⟩, .slice (some ⟨g, 0, none⟩) M cap⟩).toArray) w := by kernel_rfl
def lenV : Value → Nat
  | .slice _ n _ => n
  | _ => 0
def OwnG (done sent : List Nat) (M S : Nat) (y : MsE) : Prop := OwnM done sent M S y.m ∧ y.m.stamp < 1000 ∧ y.m.payload = []
theorem OwnG.mono {done sent : List Nat} {M S S' : Nat} {y : MsE} (h : OwnG done sent M S y) (hS : S ≤ S') : OwnG done sent M S' y := by
  obtain ⟨⟨i, k, hi, r⟩, h2⟩ := h
  exact ⟨⟨i, k, by omega, r⟩, h2⟩
theorem own_walk (done sent : List Nat) (v v2 : Value) (me : Int) (a : Option Addr) (c b o : Nat) (a2 : Option Addr) (c2 b2 o2 : Nat) (w : World) (hT : TabOk w) (hd : RowAt u32v w v done a c b o) (hdm : done.length ≤ 9223372036854775807)
    (hs : RowAt u32v w v2 sent a2 c2 b2 o2) (hsm : sent.length ≤ 9223372036854775807) :
    Calls Tryd.prog 7 #[v, v2, .int .i64 me] w fun e w' => e = .returned (.bool true) ∧ Below w.heap.size w w' := by
  have hv := hd.v
  subst hv
  have hv2 := hs.v
  subst hv2
  have HT := Lib.hid hT
  have HD := Lib.hid hd
  have HS := Lib.hid hs
  have HAW := Lib.hid (awake_any w hT)
  obtain ⟨S, hSe⟩ : ∃ S, sent.length = S := ⟨_, rfl⟩
  obtain ⟨M, hMe⟩ : ∃ M, max done.length sent.length = M := ⟨_, rfl⟩
  rw [hSe] at hsm hMe ⊢
  have HSE := Lib.hid hSe
  have HME := Lib.hid hMe
  clear hT hd hs hSe hMe
  go_enter Tryd.func7, Tryd.ntmps7
  go_wp2_with fail
  refine HAW.out.mono ?_
  rintro e w1 ⟨rfl, h1⟩
  have B1 := Lib.hid h1
  have HD1 := Lib.hid (HD.out.below rfl h1)
  have HS1 := Lib.hid (HS.out.below rfl h1)
  clear h1 HAW HD HS
  by_cases h8 : 8 < done.length
  · have h8' : 8 < (done.length : Int) := by omega
    go_wp2
    go_ret
    exact ⟨rfl, B1.out⟩
  have h8' : (done.length : Int) ≤ 8 := by omega
  by_cases g8 : 8 < S
  · have g8' : 8 < (S : Int) := by omega
    go_wp2
    go_ret
    exact ⟨rfl, B1.out⟩
  have g8' : (S : Int) ≤ 8 := by omega
  by_cases hm0 : me < 0
  · go_wp2
    go_ret
    exact ⟨rfl, B1.out⟩
  have hm0' : 0 ≤ me := by omega
  by_cases hmS : (S : Int) ≤ me
  · go_wp2
    go_ret
    exact ⟨rfl, B1.out⟩
  have hmS' : me < (S : Int) := by omega
  have HS8 := Lib.hid (show S ≤ M ∧ M ≤ 8 ∧ done.length ≤ M ∧ 0 < S ∧ 0 ≤ me ∧ me < S by have := HME.out; omega)
  go_wp2
  clear h8 g8 hm0 hmS h8' hm0' hmS' hdm hsm
  go_loopw [7, 8, 9, 10] (fun lv rv sv iv wr => ∃ (i st : Nat) (ls : List XE) (ms : List MsE), i ≤ S ∧ iv = .int .i64 i ∧ sv = .int .u64 st ∧ st ≤ 4 * i ∧ ms.length ≤ 4 * i ∧ OwnSt w1 wr lv rv ls ms ∧ exs ls = ownL done sent M i ∧ ∀ y ∈ ms, OwnG done sent M i y) (fun _ _ _ iv _ => S - (intOf iv).toNat)
  case atStart => exact ⟨0, 0, [], [], Nat.zero_le _, rfl, rfl, Nat.zero_le _, Nat.zero_le _, ⟨Below.refl _ _, World.ownsRow_nil _ _ _ _, World.ownsRow_nil _ _ _ _, fun y hy => by simp at hy, fun y hy => by simp at hy⟩, rfl, fun y hy => by simp at hy⟩
  case round =>
    obtain ⟨i, st, ls, ms, hi, rfl, rfl, hst, hml, hown, hls, hms⟩ := hrel
    have ST := Lib.hid hown
    have HLS := Lib.hid hls
    have HMS := Lib.hid hms
    have HST := Lib.hid hst
    have HML := Lib.hid hml
    clear hown hls hms hst hml
    by_cases hlt : i < S
    · have hlt' : (i : Int) < (S : Int) := by omega
      obtain ⟨V, rfl⟩ : ∃ V, V = wr := ⟨_, rfl⟩
      obtain ⟨X, hX⟩ : ∃ X, sent.getD i 0 = X := ⟨_, rfl⟩
      have hil : i < sent.length := by rw [HSE.out]; exact hlt
      obtain ⟨rfl, _⟩ := HS1.out.a (by omega)
      have cX : V.cell? ⟨b2, o2 + i, none⟩ = some (.int .u32 X) := by
        have := (HS1.out.below rfl ST.out.bel).at_ u32v_len hil 0 (.int .u32 sent[i]) rfl
        rw [Nat.mul_one, Nat.add_zero] at this
        rw [this, ← hX]; simp [hil]
      obtain ⟨N, hN⟩ : ∃ N, X % 5 = N := ⟨_, rfl⟩
      have HN := Lib.hid (show ownN sent i = N by unfold ownN; rw [hX]; exact hN)
      have HN4 := Lib.hid (show N ≤ 4 by omega)
      go_upto_region 12 with (guard_target = wpList _ _ _ (Oper.mk _ (Op.binOp .rem _ _ _ _) _ _ _ none :: _) _ _; refine wpList_valg (v := .int .u32 (N : Int)) (by rfl) (by rw [← hN]; exact exec_rem5 _ _ _ _ (by rfl) X (by rfl) (by rfl) _) ?_; simp only [Act.put, List.setIfInBounds_toArray, List.set_cons_zero, List.set_cons_succ])
      clear cX hX hN
      have hBA : Below V.heap.size V (V.alloc (.cells #[] 35)) := bel_box _ _ _
      obtain ⟨cv, wA, hrun, hownA, hgA⟩ := copyU (W := V.alloc (.cells #[] 35)) (B := V.heap.size) (World.ownsRow_made V #[] 0 (Nat.le_refl _) (by simp [maxLen]) (by simp)) hBA.size (HD1.out.below rfl (bthen' ST.out.bel hBA)) (by have := HS8.out; omega)
      have HRUN := Lib.hid hrun
      have HOA := Lib.hid hownA
      have HBA := Lib.hid (hBA.grown hgA hBA.size (fun k hk => by cases hk; exact Nat.le_refl _))
      clear hrun hownA hgA hBA
      go_wp2_with (first
        | (guard_target = wpList _ _ _ (Oper.mk _ (Op.buildSlice _ _ _) _ _ _ none :: _) _ _; refine wpList_buildSlice rfl 23 0 _ rfl #[] (by kernel_rfl) _ _ (run_u0 V) ?_; simp only [Act.put, List.setIfInBounds_toArray, List.set_cons_zero, List.set_cons_succ])
        | (guard_target = wpList _ _ _ (Oper.mk _ (Op.call _) _ _ _ none :: _) _ _; refine Lib.wpList_append_run _ rfl _ _ _ _ rfl _ _ rfl rfl _ _ HRUN.out ?_; simp only [Act.put, List.setIfInBounds_toArray, List.set_cons_zero, List.set_cons_succ]))
      go_loopw [12] (fun cv wx => ∃ j : Nat, done.length + j ≤ M ∧ wx.ownsRow V.heap.size 35 1 cv (done.length + j) (rowOf u32v (done ++ List.replicate j 0)) ∧ Below V.heap.size V wx) (fun cv _ => S - lenV cv)
      case atStart => exact ⟨0, HS8.out.2.2.1, by simpa using HOA.out, HBA.out⟩
      case round =>
        obtain ⟨j, hj, hown, hb⟩ := hrel
        obtain ⟨ca, cc, g, hrow, hge⟩ := RowAt.own (f := u32v) (l := done ++ List.replicate j 0) hown (by simp) u32v_len
        have hv := hrow.v
        have e1 : (done ++ List.replicate j (0 : Nat)).length = done.length + j := by simp
        rw [e1] at hv hge
        obtain ⟨L, hL⟩ : ∃ L, done.length + j = L := ⟨_, rfl⟩
        rw [hL] at hv hown hge
        subst hv
        have HO := Lib.hid hown
        have HB := Lib.hid hb
        have HL := Lib.hid hL
        by_cases hlt2 : L < S
        · have hlt2' : (L : Int) < (S : Int) := by omega
          obtain ⟨v', w8, hrun, hown8, hb8⟩ := own_step (W := V) (slT := 23) Tryd.underlying23 info_u32 rfl (by decide) hb hown (Below.refl _ _) [.int .u32 ((0 : Nat) : Int)] rfl (by simp [Value.oneCell']) (by have := HS8.out; omega) (by decide)
          have HRUN2 := Lib.hid hrun
          have HO8 := Lib.hid (show w8.ownsRow V.heap.size 35 1 v' (done.length + (j + 1)) (rowOf u32v (done ++ List.replicate (j + 1) 0)) by
            rw [List.replicate_succ', ← List.append_assoc, rowOf_snoc, ← Nat.add_assoc, hL]; exact hown8)
          have HB8 := Lib.hid hb8
          clear hrun hown8 hb8 hown hb hL hrow hge e1
          go_wp2_with (first
            | (guard_target = wpList _ _ _ (Oper.mk _ (Op.buildSlice _ _ _) _ _ _ none :: _) _ _; refine wpList_buildSlice rfl 23 1 _ rfl #[(0, .int .u32 0)] (by kernel_rfl) _ _ (run_buildU _) ?_; simp only [Act.put, List.setIfInBounds_toArray, List.set_cons_zero, List.set_cons_succ])
            | (guard_target = wpList _ _ _ (Oper.mk _ (Op.call _) _ _ _ none :: _) _ _; refine Lib.wpList_append_run _ rfl _ _ _ _ rfl _ _ rfl rfl _ _ HRUN2.out ?_; simp only [Act.put, List.setIfInBounds_toArray, List.set_cons_zero, List.set_cons_succ]))
          go_roundw
          case rel => exact ⟨j + 1, by have := HL.out; have := HS8.out; omega, HO8.out, HB8.out⟩
          case measure =>
            have e8 : lenV v' = L + 1 := by
              obtain ⟨_, _, _, h8, _⟩ := RowAt.own (f := u32v) (l := done ++ List.replicate (j + 1) 0) HO8.out (by simp) u32v_len
              rw [h8.v, ← HL.out]; simp [lenV]; omega
            rw [e8]; simp [lenV]; omega
        · obtain rfl : L = M := by have := HL.out; have := HME.out; have := HS8.out; omega
          have hM0 : 0 < L := by have := HS8.out; omega
          have hge2 : (S : Int) ≤ (L : Int) := by omega
          obtain ⟨rfl, hgl⟩ := hrow.a (by rw [e1, hL]; exact hM0)
          have hgB := hge hM0
          rw [midL_zero, hL] at hown
          have HOM := Lib.hid hown
          have HGB := Lib.hid hgB
          clear hown hb hL hrow hge e1 hgl hgB HO hlt2
          obtain ⟨U, rfl⟩ : ∃ U, U = wr := ⟨_, rfl⟩
          go_wp2
          clear hge2
          go_loopw [13] (fun kv wy => ∃ k : Nat, k ≤ L ∧ kv = .int .i64 k ∧ Below V.heap.size V wy ∧ wy.ownsRow V.heap.size 35 1 (.slice (some ⟨g, 0, none⟩) L cc) L (rowOf u32v (midL done L k))) (fun kv _ => L - (intOf kv).toNat)
          case atStart => exact ⟨0, Nat.zero_le _, rfl, HB.out, HOM.out⟩
          case round =>
            obtain ⟨k, hk, rfl, hb, hown⟩ := hrel
            have HB := Lib.hid hb
            have HO := Lib.hid hown
            by_cases hlt3 : k < L
            · have hlt3' : (k : Int) < (L : Int) := by omega
              have hL8 : (L : Int) ≤ 8 := by have := HS8.out; omega
              obtain ⟨Z, hZ⟩ : ∃ Z, done.getD k 0 = Z := ⟨_, rfl⟩
              have cz : wr.cell? ⟨g, k, none⟩ = some (.int .u32 Z) := by rw [hown.cellAt k (by omega), u32_get (by rw [midL_len]; exact hlt3), midL_get hlt3, hZ]
              have fz : wr.frozen? ⟨g, k, none⟩ = false := hown.frozenAt k
              obtain ⟨Z5, hZ5⟩ : ∃ Z5, Z % 5 = Z5 := ⟨_, rfl⟩
              have hst := hown.stored k (.int .u32 (Z5 : Int))
              have HO2 := Lib.hid (show (wr.setCell ⟨g, k, none⟩ (.int .u32 (Z5 : Int))).ownsRow V.heap.size 35 1 (.slice (some ⟨g, 0, none⟩) L cc) L (rowOf u32v (midL done L (k + 1))) by
                have h2 := hst.1
                rw [u32_set] at h2
                rw [← midL_set, hZ, hZ5]; exact h2)
              have HB2 := Lib.hid (hb.grown hst.2 hb.size (fun q hq => by cases hq; exact HGB.out))
              have HZ5 := Lib.hid hZ5
              clear hst hown hb hZ hZ5 HO HB
              go_wp2_with (guard_target = wpList _ _ _ (Oper.mk _ (Op.binOp .rem _ _ _ _) _ _ _ none :: _) _ _; refine wpList_valg (v := .int .u32 (Z5 : Int)) (by rfl) (by rw [← HZ5.out]; exact exec_rem5 _ _ _ _ (by rfl) Z (by rfl) (by rfl) _) ?_; simp only [Act.put, List.setIfInBounds_toArray, List.set_cons_zero, List.set_cons_succ])
              go_roundw
              case rel => exact ⟨k + 1, by omega, by go_num, HB2.out, HO2.out⟩
              case measure => simp [intOf]; omega
            · obtain rfl : k = L := by omega
              rw [midL_full] at hown
              obtain ⟨D, hD⟩ : ∃ D, ownD done k = D := ⟨_, rfl⟩
              have hDL : D.length = k := by rw [← hD]; exact ownD_len
              rw [hD] at hown
              obtain ⟨Y, rfl⟩ : ∃ Y, Y = wr := ⟨_, rfl⟩
              obtain ⟨a', c', g', hr, _⟩ := RowAt.own (f := u32v) (l := D) hown hDL.symm u32v_len
              obtain ⟨dv, wB, hrun, hownB, hgB⟩ := copyU (W := Y) (v0 := .slice none 0 0) (B := Y.heap.size) (World.ownsRow_nil _ _ _ _) (Nat.le_refl _) hr (by have := HS8.out; omega)
              have hbB : Below Y.heap.size Y wB := (Below.refl _ _).grown hgB (Nat.le_refl _) (fun k hk => by cases hk)
              obtain ⟨da, dc, gd, hrd, hgd⟩ := RowAt.own (f := u32v) (l := D) hownB rfl u32v_len
              have hk0 : 0 < k := by have := HS8.out; omega
              obtain ⟨rfl, _⟩ := hrd.a (by rw [hDL]; exact hk0)
              have hgd' := hgd (by rw [hDL]; exact hk0)
              obtain rfl := hrd.v
              rw [hDL] at hrun hownB
              have hgY : g < Y.heap.size := (hown.lt g rfl).2
              have hik : i < k := by have := HS8.out; omega
              obtain ⟨Bs, hBs⟩ : ∃ Bs, D.getD i 0 = Bs := ⟨_, rfl⟩
              have hBs4 : Bs ≤ 4 := by rw [← hBs, ← hD]; exact ownD_le _
              obtain ⟨BN, hBN⟩ : ∃ BN, Bs + N = BN := ⟨_, rfl⟩
              have hBN' : (Bs : Int) + (N : Int) = (BN : Int) := by omega
              have hBNl : (BN : Int) < 4294967296 := by have := HN4.out; omega
              have hcB := row_below hown hbB
              have cB : wB.cell? ⟨g, i, none⟩ = some (.int .u32 Bs) := by
                rw [hcB.cellAt i (by omega), u32_get (by omega), ← hBs]
                simp [show i < D.length by omega]
              have fB : wB.frozen? ⟨g, i, none⟩ = false := hcB.frozenAt i
              have hst := hcB.stored i (.int .u32 (BN : Int))
              have HC := Lib.hid (show (wB.setCell ⟨g, i, none⟩ (.int .u32 (BN : Int))).ownsRow V.heap.size 35 1 (.slice (some ⟨g, 0, none⟩) k cc) k (rowOf u32v (D.set i BN)) by
                have h2 := hst.1
                rw [u32_set] at h2; exact h2)
              have HDD := Lib.hid (show (wB.setCell ⟨g, i, none⟩ (.int .u32 (BN : Int))).ownsRow w1.heap.size 35 1 (.slice (some ⟨gd, 0, none⟩) k dc) k (rowOf u32v D) from
                row_mono' (row_same hownB fun q e => rowOther _ _ _ (by have e2 : gd = q := Option.some.inj e; omega)) (Nat.le_trans ST.out.bel.size (Nat.le_trans hb.size (Nat.le_refl _))))
              have HBC := Lib.hid ((bthen' hb hbB).grown hst.2 (bthen' hb hbB).size (fun q hq => by cases hq; exact HGB.out))
              have HRUNB := Lib.hid hrun
              have HDE := Lib.hid hD
              have HDL := Lib.hid hDL
              have HBS := Lib.hid hBs
              have HBS4 := Lib.hid hBs4
              have HBN := Lib.hid hBN
              have hlt4 : (i : Int) < (k : Int) := by omega
              clear hown hb hD hDL hr hrun hownB hgB hbB hrd hgd hgd' hBs hBs4 hBN hcB hst HO HB hk0 hgY hik hlt3 hk
              go_upto_region 23 with (guard_target = wpList _ _ _ (Oper.mk _ (Op.call _) _ _ _ none :: _) _ _; refine Lib.wpList_append_run _ rfl _ _ _ _ rfl _ _ rfl rfl _ _ HRUNB.out ?_; simp only [Act.put, List.setIfInBounds_toArray, List.set_cons_zero, List.set_cons_succ])
              clear cB fB hBN' hBNl hlt4
              generalize (wB.setCell ⟨g, i, none⟩ (.int .u32 (BN : Int))) = wC at HC HDD HBC ⊢
              have STC := Lib.hid (ST.out.below HBC.out)
              have HCM := Lib.hid (row_mono' HC.out ST.out.bel.size)
              have HLI := Lib.hid (show ls.length = i by have h := congrArg List.length HLS.out; rw [exs_len] at h; rw [h]; simp [ownL])
              obtain ⟨y, hy⟩ : ∃ y : XE, y = ⟨⟨i, 0, 0, D.set i BN, 1, 0⟩, .slice (some ⟨g, 0, none⟩) k cc⟩ := ⟨_, rfl⟩
              have HY := Lib.hid hy
              obtain ⟨lv', wE, hrunE, hrowE, hgE⟩ := own_run (slT := 22) Tryd.underlying22 info_ex rfl (by decide) STC.out.l STC.out.bel.size y.vals rfl (by rw [hy]; simp [XE.vals, Value.oneCell']) (by have := HLI.out; have := HS8.out; omega) (by decide)
              have STE := Lib.hid (STC.out.growL (y := y) (by
                have h2 := HCM.out
                rw [hy]
                show wC.ownsRow w1.heap.size 35 1 (.slice (some ⟨g, 0, none⟩) k cc) (D.set i BN).length (rowOf u32v (D.set i BN))
                rw [List.length_set, HDL.out]; exact h2) hrowE hgE)
              have HD2 := Lib.hid (grown_far STC.out.l hgE HDD.out (by decide))
              have HLS2 := Lib.hid (show exs (ls ++ [y]) = ownL done sent k (i + 1) by
                rw [ownL_snoc, ← HLS.out]
                unfold exs
                rw [List.map_append, List.map_singleton, hy]
                unfold ownE
                rw [HDE.out, HBS.out, HN.out, HBN.out])
              have HRUNE := Lib.hid hrunE
              clear hrunE hrowE hgE hy HC HDD HBC HCM
              go_wp2_with (first
                | (guard_target = wpList _ _ _ (Oper.mk _ (Op.build 41 _) _ _ _ none :: _) _ _; refine wpList_build rfl 41 _ rfl #[(0, .int .u64 1)] (by kernel_rfl) (.agg (Ky.vals ⟨1, 0⟩).toArray) (run_ky1) ?_; simp only [Act.put, List.setIfInBounds_toArray, List.set_cons_zero, List.set_cons_succ])
                | (guard_target = wpList _ _ _ (Oper.mk _ (Op.build 64 _) _ _ _ none :: _) _ _; refine wpList_build rfl 64 _ rfl #[(0, .int .i64 i), (2, .slice (some ⟨g, 0, none⟩) k cc), (3, .agg (Ky.vals ⟨1, 0⟩).toArray)] (by kernel_rfl) (.agg y.vals.toArray) (fun w => by rw [HY.out]; exact run_ownE i (D.set i BN) g k cc w) ?_; simp only [Act.put, List.setIfInBounds_toArray, List.set_cons_zero, List.set_cons_succ])
                | (guard_target = wpList _ _ _ (Oper.mk _ (Op.buildSlice _ _ _) _ _ _ none :: _) _ _; refine wpList_buildSlice rfl 22 1 _ rfl #[(0, .agg y.vals.toArray)] (by kernel_rfl) _ _ (run_buildE y wC) ?_; simp only [Act.put, List.setIfInBounds_toArray, List.set_cons_zero, List.set_cons_succ])
                | (guard_target = wpList _ _ _ (Oper.mk _ (Op.call _) _ _ _ none :: _) _ _; refine Lib.wpList_append_run _ rfl _ _ _ _ rfl _ _ rfl rfl _ _ HRUNE.out ?_; simp only [Act.put, List.setIfInBounds_toArray, List.set_cons_zero, List.set_cons_succ]))
              go_loopw [8, 9, 16] (fun rv2 sv2 kv2 wx => ∃ (q st2 : Nat) (ms2 : List MsE), q ≤ N ∧ kv2 = .int .u32 q ∧ sv2 = .int .u64 st2 ∧ st2 ≤ 4 * i + q ∧ ms2.length ≤ 4 * i + q ∧ OwnSt w1 wx lv' rv2 (ls ++ [y]) ms2 ∧ wx.ownsRow w1.heap.size 35 1 (.slice (some ⟨gd, 0, none⟩) k dc) k (rowOf u32v D) ∧ ∀ z ∈ ms2, OwnG done sent k (i + 1) z) (fun _ _ kv2 _ => N - (intOf kv2).toNat)
              case atStart => exact ⟨0, st, ms, Nat.zero_le _, rfl, rfl, by have := HST.out; omega, by have := HML.out; omega, STE.out, HD2.out, fun z hz => (HMS.out z hz).mono (by omega)⟩
              case round =>
                obtain ⟨q, st2, ms2, hq, rfl, rfl, hst2, hml2, hown2, hdd2, hms2⟩ := hrel
                have ST2 := Lib.hid hown2
                have HD3 := Lib.hid hdd2
                have HMS2 := Lib.hid hms2
                have HST2 := Lib.hid hst2
                have HML2 := Lib.hid hml2
                clear hown2 hdd2 hms2 hst2 hml2
                by_cases hltq : q < N
                · have hltq' : (q : Int) < (N : Int) := by omega
                  have n4 : (N : Int) ≤ 4 := by have := HN4.out; omega
                  have b4 : (Bs : Int) ≤ 4 := by have := HBS4.out; omega
                  have s4 : (st2 : Int) ≤ 100 := by have := HST2.out; have := HS8.out; have := HN4.out; omega
                  obtain ⟨z, hz⟩ : ∃ z : MsE, z = ⟨⟨i, Bs + q + 1, st2 + 1 + 1, 0, D, []⟩, .slice (some ⟨gd, 0, none⟩) k dc⟩ := ⟨_, rfl⟩
                  have HZ := Lib.hid hz
                  obtain ⟨rv', w8, hrun8, hrow8, hg8⟩ := own_run (slT := 50) Tryd.underlying50 info_ms rfl (by decide) ST2.out.r ST2.out.bel.size z.vals rfl (by rw [hz]; simp [MsE.vals, str, Value.oneCell']) (by have := HML2.out; have := HS8.out; have := HN4.out; omega) (by decide)
                  have ST3 := Lib.hid (ST2.out.growR (y := z) (by
                    have h2 := HD3.out
                    rw [hz]
                    show wr.ownsRow w1.heap.size 35 1 (.slice (some ⟨gd, 0, none⟩) k dc) D.length (rowOf u32v D)
                    rw [HDL.out]; exact h2) hrow8 hg8)
                  have HD4 := Lib.hid (grown_far ST2.out.r hg8 HD3.out (by decide))
                  have HG3 := Lib.hid (show ∀ x ∈ ms2 ++ [z], OwnG done sent k (i + 1) x from fun x hx => by
                    rcases List.mem_append.1 hx with hx | hx
                    · exact HMS2.out x hx
                    · obtain rfl := List.mem_singleton.1 hx
                      rw [hz]
                      refine ⟨⟨i, q, by omega, by rw [HN.out]; exact hltq, rfl, ?_, HDE.out.symm⟩, ?_, rfl⟩
                      · show Bs + q + 1 = (ownD done k).getD i 0 + q + 1
                        rw [HDE.out, HBS.out]
                      · show st2 + 1 + 1 < 1000
                        have := HST2.out; have := HS8.out; have := HN4.out; omega)
                  have HRUN8 := Lib.hid hrun8
                  clear hrun8 hrow8 hg8 hz
                  go_wp2_with (first
                    | (guard_target = wpList _ _ _ (Oper.mk _ (Op.build 59 _) _ _ _ none :: _) _ _; refine wpList_build rfl 59 _ rfl #[(0, .int .i64 i), (1, .int .u32 ((Bs + q + 1 : Nat) : Int)), (2, .int .u64 ((st2 + 1 + 1 : Nat) : Int)), (4, .slice (some ⟨gd, 0, none⟩) k dc)] (by kernel_rfl) (.agg z.vals.toArray) (fun w => by rw [HZ.out]; exact run_ownM i (Bs + q + 1) (st2 + 1 + 1) D gd k dc w) ?_; simp only [Act.put, List.setIfInBounds_toArray, List.set_cons_zero, List.set_cons_succ])
                    | (guard_target = wpList _ _ _ (Oper.mk _ (Op.buildSlice _ _ _) _ _ _ none :: _) _ _; refine wpList_buildSlice rfl 50 1 _ rfl #[(0, .agg z.vals.toArray)] (by kernel_rfl) _ _ (run_buildM z wr) ?_; simp only [Act.put, List.setIfInBounds_toArray, List.set_cons_zero, List.set_cons_succ])
                    | (guard_target = wpList _ _ _ (Oper.mk _ (Op.call _) _ _ _ none :: _) _ _; refine Lib.wpList_append_run _ rfl _ _ _ _ rfl _ _ rfl rfl _ _ HRUN8.out ?_; simp only [Act.put, List.setIfInBounds_toArray, List.set_cons_zero, List.set_cons_succ]))
                  go_roundw
                  case rel => exact ⟨q + 1, st2 + 1, ms2 ++ [z], by omega, by go_num, by go_num, by have := HST2.out; omega, by have := HML2.out; simp; omega, ST3.out, HD4.out, HG3.out⟩
                  case measure => simp [intOf]; omega
                · obtain rfl : q = N := by omega
                  have hiS : (i : Int) ≤ 8 := by have := HS8.out; omega
                  go_wp2
                  go_roundw
                  case rel => exact ⟨i + 1, st2, ls ++ [y], ms2, by omega, by go_num, rfl, by have := HST2.out; have := HN4.out; omega, by have := HML2.out; have := HN4.out; omega, ST2.out, HLS2.out, HMS2.out⟩
                  case measure => simp [intOf]; omega
    · obtain rfl : i = S := by omega
      have HLI := Lib.hid (show ls.length = i by have h := congrArg List.length HLS.out; rw [exs_len] at h; rw [h]; simp [ownL])
      have hok : ∀ y ∈ ls, (∀ n ∈ y.x.cnt, n < 4294967296) ∧ y.x.oe < 18446744073709551616 ∧ y.x.ls < 18446744073709551616 ∧ y.x.cnt.length = M := fun y hy => by
        have h : y.x ∈ ownL done sent M i := by rw [← HLS.out]; exact List.mem_map.2 ⟨y, hy, rfl⟩
        obtain ⟨j, _, e⟩ := mem_ownL.1 h
        rw [← e]
        refine ⟨fun n hn => ?_, by show 0 < 18446744073709551616; decide, by show 1 < 18446744073709551616; decide, by show ((ownD done M).set j _).length = M; rw [List.length_set, ownD_len]⟩
        rcases List.mem_or_eq_of_mem_set hn with h1 | h1
        · unfold ownD at h1
          obtain ⟨q, _, e2⟩ := List.mem_map.1 h1
          omega
        · have := ownD_le (done := done) (M := M) j
          have := ownN_le (sent := sent) j
          omega
      obtain ⟨xa, xc, xb, hx⟩ := ST.out.exs (by have := HLI.out; have := HS8.out; omega) (fun y hy => ⟨(hok y hy).1, (hok y hy).2.1, (hok y hy).2.2.1⟩)
      obtain ⟨ra, rc, rb, hrm⟩ := keep_row ST.out.r (fun y hy => by
        obtain ⟨⟨j, q, hj, hq, e1, e2, e3⟩, h2, h3⟩ := HMS.out y hy
        obtain ⟨a', c', b', hr', _⟩ := RowAt.own (ST.out.me y hy) rfl u32v_len
        have := ownD_le (done := done) (M := M) j
        have := ownN_le (sent := sent) j
        refine ⟨⟨a', c', b', 0, hr'⟩, fun n hn => ?_, by omega, by omega, by rw [h3]; exact Nat.zero_le _, ?_⟩
        · rw [e3] at hn
          unfold ownD at hn
          obtain ⟨q, _, e2⟩ := List.mem_map.1 hn
          omega
        · rw [e3, ownD_len]; have := HS8.out; omega)
      obtain rfl := hx.r.v
      obtain rfl := hrm.r.v
      have HX := Lib.hid hx
      have HRM := Lib.hid hrm
      have HCNT := Lib.hid (show ∀ y ∈ ls, y.x.cnt.length * 4 ≤ 140737488351232 from fun y hy => by rw [(hok y hy).2.2.2]; have := HS8.out; omega)
      have HB := Lib.hid (bthen' B1.out ST.out.bel)
      clear hx hrm hok
      go_wp2_with fail
      refine (new_any me HX.out HCNT.out).mono ?_
      rintro e w2 ⟨h2, hp⟩
      have B2 := Lib.hid (bthen' HB.out h2)
      have HRM2 := Lib.hid (HRM.out.below rfl h2)
      clear h2
      have HNEW := Lib.hid (own_new (done := done) (sent := sent) (M := M) (S := i) (by have := HS8.out; omega) HS8.out.2.2.2.2.1 HS8.out.2.2.2.2.2)
      rw [HLS.out] at hp
      rcases hp with ⟨hpn, rfl⟩ | ⟨g, ys, hps, rfl, hpl, hg⟩
      · rw [HNEW.out] at hpn; cases hpn
      · rw [HNEW.out] at hps
        have HYS := Lib.hid (Option.some.inj hps)
        have HP := Lib.hid hpl
        clear hps hpl hg
        go_wp2_with fail
        refine (keep_any HP.out HRM2.out (by have := HML.out; have := HS8.out; omega)).mono ?_
        rintro e w6 ⟨kv, kf, rfl, hkf, hkv, h6⟩
        rw [← HYS.out] at hkf hkv
        obtain rfl := hkf.det (own_fin (rest := msgs ms) HS8.out.1 HS8.out.2.1 (fun m hm => by
          obtain ⟨y, hy, rfl⟩ := List.mem_map.1 hm
          exact (HMS.out y hy).1))
        rw [List.filter_eq_self.2 (fun y hy => own_all HS8.out.1 HS8.out.2.1 (HMS.out y hy).1)] at hkv
        have B6 := Lib.hid (bthen' B2.out h6)
        have HP6 := Lib.hid (HP.out.below h6)
        obtain ⟨ka, kc, kb, hk1⟩ := keep_row hkv (fun y hy => (HRM2.out.ok y hy).below rfl h6)
        obtain rfl := hk1.r.v
        have eg : ((ms.length : Int) == (ms.length : Int)) = true := by simp
        clear hkf hkv h6 hk1
        go_wp2_with fail
        refine (boundary_any HP6.out).mono ?_
        rintro e w7 ⟨rfl, h7⟩
        rw [← HYS.out, own_bnd HS8.out.2.2.2.1]
        have B7 := Lib.hid (bthen' B6.out h7)
        clear h7
        go_wp2_with (guard_target = wpList _ _ _ (Oper.mk _ (Op.build 41 _) _ _ _ _ :: _) _ _; refine wpList_valg (v := .agg (Ky.vals ⟨1, 0⟩).toArray) (by rfl) (by kernel_rfl) ?_; simp only [Act.put, List.setIfInBounds_toArray, List.set_cons_zero, List.set_cons_succ])
        refine (compare_any ⟨1, 0⟩ ⟨1, 0⟩ _).mono ?_
        rintro e w8 ⟨rfl, h8⟩
        rw [show Ky.cmp ⟨1, 0⟩ ⟨1, 0⟩ = 0 by decide]
        have B8 := Lib.hid (bthen' B7.out h8)
        clear h8
        go_wp2
        go_ret
        exact ⟨rfl, B8.out⟩
end Go.Proofs.YtagelhbknbpfhaaDoor

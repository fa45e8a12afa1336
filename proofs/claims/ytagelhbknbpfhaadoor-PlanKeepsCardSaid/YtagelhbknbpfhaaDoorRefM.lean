/-
  consortref15: Keep.
-/
import Derived.Test.YtagelhbknbpfhaaDoorRefL
import Derived.Test.YtagelhbknbpfhaaDoorPlanG
namespace Go.Proofs.YtagelhbknbpfhaaDoor
open Go.RowKit Go.BigFrame
set_option maxHeartbeats 2000000
set_option maxRecDepth 100000
theorem info_bool : (Tryd.prog.info? 4).map (fun i => (i.zero, i.size, i.bytes)) = some (some (.bool false), 1, 1) := by kernel_rfl
theorem giv_new (w : World) (n : Nat) : GivAt (w.alloc (.cells (madeCells #[.bool false] n) 4)) w.heap.size n fun _ => false := by
  refine ⟨⟨_, heap_alloc_new w _, size_madeCells _ _⟩, fun i hi => ?_⟩
  rw [cell_of_row _ w.heap.size i _ _ _ (heap_alloc_new w _), ← Array.getElem?_toList, toList_madeCells_one, List.getElem?_replicate, if_pos hi]
theorem stepG_yes {l : List Ex} {rest : List MsE} {y : MsE} {i : Nat} (h : rest[i]? = some y) {G : Nat → Bool} (hc : cntM l y.m = true) (hl : lostN l rest G y.m = true) : stepG l rest G i = fun j => if j = i then true else G j := by
  rw [stepG_some h, hc, hl]; rfl
theorem stepG_no {l : List Ex} {rest : List MsE} {y : MsE} {i : Nat} (h : rest[i]? = some y) {G : Nat → Bool} (hc : (cntM l y.m && lostN l rest G y.m) = false) : stepG l rest G i = G := by
  rw [stepG_some h, hc]; rfl
def RKeepPost (w : World) (l : List Ex) (rest : List MsE) (kf : Nat → Nat) (e : Ending) (w' : World) : Prop :=
  ∃ v, e = .returned v ∧ w'.ownsRow w.heap.size 59 6 v (rest.filter fun y => keepM l kf y.m).length (rowOf MsE.vals (rest.filter fun y => keepM l kf y.m)) ∧ Below w.heap.size w w'
theorem rkeep_any {w : World} {v v2 : Value} {l : List XE} {a : Option Addr} {c b o : Nat} (h : ExsAt w v l a c b o) {rest : List MsE} {a2 : Option Addr} {c2 b2 o2 : Nat} (hm : MsgsAt w v2 rest a2 c2 b2 o2) (hr : rest.length ≤ 300) {kf : Nat → Nat} (hf : Fin (exs l) (msgs rest) (fun i => wholeL (exs l) i) kf) :
    Calls Tryd.prog 27 #[v, v2] w (RKeepPost w (exs l) rest kf) := by
  have hv := h.r.v
  subst hv
  have hv2 := hm.r.v
  subst hv2
  have hu : Hid ((Tryd.prog.info? 59).map (·.size) = some (6 : Nat)) := Lib.hid size_ms
  obtain ⟨i0, hi0, hz0, hz1, hz2⟩ := info_parts info_bool
  obtain ⟨gb, hgb⟩ : ∃ gb, w.heap.size = gb := ⟨_, rfl⟩
  obtain ⟨W, hW⟩ : ∃ W : World, w.alloc (.cells (madeCells #[.bool false] rest.length) 4) = W := ⟨_, rfl⟩
  have BW := Lib.hid (show Below w.heap.size w W by rw [← hW]; exact bel_box _ _ _)
  have HG0 := Lib.hid (show GivAt W gb rest.length (passes (exs l) rest 0) by rw [← hW, ← hgb]; exact giv_new w _)
  have HW := Lib.hid hW
  have HGB := Lib.hid hgb
  have HE := Lib.hid h
  have HM := Lib.hid hm
  have HF := Lib.hid hf
  have HR300 := Lib.hid hr
  have hrl : (rest.length : Int) ≤ 300 := by omega
  have HI0 := Lib.hid hi0
  have hby : i0.bytes * rest.length ≤ 281474976710656 := by rw [hz2]; omega
  clear hW h hm hf hr hi0 hgb
  go_enter Tryd.func27, Tryd.ntmps27
  go_upto_region 2 with (guard_target = wpList _ _ _ (Oper.mk _ (Op.makeSlice _ _ _) _ _ _ none :: _) _ _; refine wpList_make_row _ rfl _ _ 78 rfl 4 i0 (.bool false) Tryd.underlying78 HI0.out hz0 hz1 rfl .i64 .i64 rest.length (by rfl) (by rfl) hby (by omega) ?_; simp only [Act.put, List.setIfInBounds_toArray, List.set_cons_zero, List.set_cons_succ])
  rw [HW.out, HGB.out]
  clear hby hz0 hz1 hz2
  go_wp2
  go_loopw [6] (fun iv wr => ∃ n : Nat, n ≤ rest.length + 1 ∧ iv = .int .i64 n ∧ Below w.heap.size w wr ∧ GivAt wr gb rest.length (passes (exs l) rest n)) (fun iv _ => rest.length + 1 - (intOf iv).toNat)
  case atStart => exact ⟨0, Nat.zero_le _, rfl, BW.out, HG0.out⟩
  case round =>
    obtain ⟨n, hn, rfl, hb, hgv⟩ := hrel
    have HB := Lib.hid hb
    have HG := Lib.hid hgv
    clear hb hgv
    by_cases hlt : n ≤ rest.length
    · have hlt' : (n : Int) ≤ (rest.length : Int) := by omega
      go_wp2
      go_loopw [7] (fun iv wr => ∃ i : Nat, i ≤ rest.length ∧ iv = .int .i64 i ∧ Below w.heap.size w wr ∧ GivAt wr gb rest.length (passTo (exs l) rest (passes (exs l) rest n) i)) (fun iv _ => rest.length - (intOf iv).toNat)
      case atStart => exact ⟨0, Nat.zero_le _, rfl, by first | exact HB.out | (rw [← HGB.out]; exact HB.out), HG.out⟩
      case round =>
        obtain ⟨i, hi, rfl, hb, hgv⟩ := hrel
        have HBI := Lib.hid (show Below w.heap.size w wr by first | exact hb | (rw [HGB.out]; exact hb))
        have HGI := Lib.hid hgv
        clear hb hgv
        by_cases hlti : i < rest.length
        · have hlti' : (i : Int) < (rest.length : Int) := by omega
          obtain ⟨rfl, _⟩ := HM.out.r.a (by omega)
          obtain ⟨y, hy⟩ : ∃ y, rest[i] = y := ⟨_, rfl⟩
          have HYI := Lib.hid (show rest[i]? = some y by rw [List.getElem?_eq_getElem hlti, hy])
          obtain ⟨G, hG⟩ : ∃ G, passTo (exs l) rest (passes (exs l) rest n) i = G := ⟨_, rfl⟩
          have HSTEP := Lib.hid (show passTo (exs l) rest (passes (exs l) rest n) (i + 1) = stepG (exs l) rest G i by rw [← hG]; rfl)
          rw [hG] at HGI
          obtain ⟨K0, hK0⟩ : ∃ K0, cntM (exs l) y.m = K0 := ⟨_, rfl⟩
          obtain ⟨K1, hK1⟩ : ∃ K1, lostN (exs l) rest G y.m = K1 := ⟨_, rfl⟩
          have HK0 := Lib.hid hK0
          have HK1 := Lib.hid hK1
          obtain ⟨C, hC⟩ : ∃ C : World → Prop, ∀ w', C w' ↔ Below wr.heap.size wr w' := ⟨_, fun _ => Iff.rfl⟩
          have hC0 : C wr := (hC _).2 (Below.refl _ _)
          have mx := Lib.hid (show ∀ w', C w' → w'.rangeAt b2 (o2 + i * 6) y.vals from fun w' h => by rw [← hy]; exact (HM.out.r.below rfl (bthen' HBI.out ((hC w').1 h))).at_ MsE.len hlti)
          have kc := Lib.hid (show ∀ w', C w' → Calls Tryd.prog 41 #[.slice a l.length c, .agg y.vals.toArray] w' fun e w'' => e = .returned (.bool K0) ∧ C w'' from
            fun w' h => (rcounts_any (HE.out.below rfl (bthen' HBI.out ((hC w').1 h))) y).mono fun e w'' ⟨he, hw⟩ => ⟨by rw [← hK0]; exact he, (hC w'').2 (bthen' ((hC w').1 h) hw)⟩)
          have kl := Lib.hid (show ∀ w', C w' → Calls Tryd.prog 42 #[.slice a l.length c, .slice (some ⟨b2, o2, none⟩) rest.length c2, .slice (some ⟨gb, 0, none⟩) rest.length rest.length, .agg y.vals.toArray] w' fun e w'' => e = .returned (.bool K1) ∧ C w'' from
            fun w' h => (lost_any (HE.out.below rfl (bthen' HBI.out ((hC w').1 h))) (HM.out.below rfl (bthen' HBI.out ((hC w').1 h))) (by have := HR300.out; omega) (HGI.out.below ((hC w').1 h)) y (by rw [← hy]; exact (HM.out.ok _ (List.getElem_mem hlti)).below rfl (bthen' HBI.out ((hC w').1 h)))).mono fun e w'' ⟨he, hw⟩ => ⟨by rw [← hK1]; exact he, (hC w'').2 (bthen' ((hC w').1 h) hw)⟩)
          have HC := Lib.hid hC
          clear hC hK0 hK1 hG hy
          cases K0 with
          | false =>
            cases K1 with
            | false =>
              have HNX := Lib.hid (show passTo (exs l) rest (passes (exs l) rest n) (i + 1) = G by rw [HSTEP.out, stepG_no HYI.out (by rw [HK0.out, HK1.out]; rfl)])
              go_upto_region 8 with fail
              refine wp_region_plain (C := C) hC0 ?_
              dsimp only []
              repeat (first | go_big_quiet_skip | (go_big_quiet_want; first | (refine quiet_call 41 _ _ (by rfl) Tryd.call41 _ ?_ kc.out ?_; (· rfl); (simp only [Act.put, List.setIfInBounds_toArray, List.set_cons_zero, List.set_cons_succ]); go_big_quiet_on) | (refine quiet_call 42 _ _ (by rfl) Tryd.call42 _ ?_ kl.out ?_; (· rfl); (simp only [Act.put, List.setIfInBounds_toArray, List.set_cons_zero, List.set_cons_succ]); go_big_quiet_on) | (refine quiet_load_mid (cs := y.vals) Tryd.underlying59 rfl hu.out _ (by rfl) b2 (o2 + i * 6) (by rfl) mx.out ?_; (simp only [Act.put, List.setIfInBounds_toArray, List.set_cons_zero, List.set_cons_succ]); go_big_quiet_on) | (go_big_quiet_op; go_big_quiet_on) | (go_big_quiet_op; refine Exists.intro _ ⟨fun _ _ => rfl, ?_⟩; go_big_quiet_on)))
              refine wpQuiet_nil ?_
              intro w9 hC9
              have h9 := (HC.out _).1 hC9
              have HB9 := Lib.hid (bthen' HBI.out h9)
              have HG9 := Lib.hid (HGI.out.below h9)
              clear hC9 hC0 mx kc kl HC h9
              go_wp2
              go_roundw
              case rel => exact ⟨i + 1, by omega, by go_num, by first | exact HB9.out | (rw [← HGB.out]; exact HB9.out), by rw [HNX.out]; exact HG9.out⟩
              case measure => simp [intOf]; omega
            | true =>
              have HNX := Lib.hid (show passTo (exs l) rest (passes (exs l) rest n) (i + 1) = G by rw [HSTEP.out, stepG_no HYI.out (by rw [HK0.out, HK1.out]; rfl)])
              go_upto_region 8 with fail
              refine wp_region_plain (C := C) hC0 ?_
              dsimp only []
              repeat (first | go_big_quiet_skip | (go_big_quiet_want; first | (refine quiet_call 41 _ _ (by rfl) Tryd.call41 _ ?_ kc.out ?_; (· rfl); (simp only [Act.put, List.setIfInBounds_toArray, List.set_cons_zero, List.set_cons_succ]); go_big_quiet_on) | (refine quiet_call 42 _ _ (by rfl) Tryd.call42 _ ?_ kl.out ?_; (· rfl); (simp only [Act.put, List.setIfInBounds_toArray, List.set_cons_zero, List.set_cons_succ]); go_big_quiet_on) | (refine quiet_load_mid (cs := y.vals) Tryd.underlying59 rfl hu.out _ (by rfl) b2 (o2 + i * 6) (by rfl) mx.out ?_; (simp only [Act.put, List.setIfInBounds_toArray, List.set_cons_zero, List.set_cons_succ]); go_big_quiet_on) | (go_big_quiet_op; go_big_quiet_on) | (go_big_quiet_op; refine Exists.intro _ ⟨fun _ _ => rfl, ?_⟩; go_big_quiet_on)))
              refine wpQuiet_nil ?_
              intro w9 hC9
              have h9 := (HC.out _).1 hC9
              have HB9 := Lib.hid (bthen' HBI.out h9)
              have HG9 := Lib.hid (HGI.out.below h9)
              clear hC9 hC0 mx kc kl HC h9
              go_wp2
              go_roundw
              case rel => exact ⟨i + 1, by omega, by go_num, by first | exact HB9.out | (rw [← HGB.out]; exact HB9.out), by rw [HNX.out]; exact HG9.out⟩
              case measure => simp [intOf]; omega
          | true =>
            cases K1 with
            | false =>
              have HNX := Lib.hid (show passTo (exs l) rest (passes (exs l) rest n) (i + 1) = G by rw [HSTEP.out, stepG_no HYI.out (by rw [HK0.out, HK1.out]; rfl)])
              go_upto_region 8 with fail
              refine wp_region_plain (C := C) hC0 ?_
              dsimp only []
              repeat (first | go_big_quiet_skip | (go_big_quiet_want; first | (refine quiet_call 41 _ _ (by rfl) Tryd.call41 _ ?_ kc.out ?_; (· rfl); (simp only [Act.put, List.setIfInBounds_toArray, List.set_cons_zero, List.set_cons_succ]); go_big_quiet_on) | (refine quiet_call 42 _ _ (by rfl) Tryd.call42 _ ?_ kl.out ?_; (· rfl); (simp only [Act.put, List.setIfInBounds_toArray, List.set_cons_zero, List.set_cons_succ]); go_big_quiet_on) | (refine quiet_load_mid (cs := y.vals) Tryd.underlying59 rfl hu.out _ (by rfl) b2 (o2 + i * 6) (by rfl) mx.out ?_; (simp only [Act.put, List.setIfInBounds_toArray, List.set_cons_zero, List.set_cons_succ]); go_big_quiet_on) | (go_big_quiet_op; go_big_quiet_on) | (go_big_quiet_op; refine Exists.intro _ ⟨fun _ _ => rfl, ?_⟩; go_big_quiet_on)))
              refine wpQuiet_nil ?_
              intro w9 hC9
              have h9 := (HC.out _).1 hC9
              have HB9 := Lib.hid (bthen' HBI.out h9)
              have HG9 := Lib.hid (HGI.out.below h9)
              clear hC9 hC0 mx kc kl HC h9
              go_wp2
              go_roundw
              case rel => exact ⟨i + 1, by omega, by go_num, by first | exact HB9.out | (rw [← HGB.out]; exact HB9.out), by rw [HNX.out]; exact HG9.out⟩
              case measure => simp [intOf]; omega
            | true =>
              have HNX := Lib.hid (show passTo (exs l) rest (passes (exs l) rest n) (i + 1) = fun j => if j = i then true else G j by rw [HSTEP.out, stepG_yes HYI.out HK0.out HK1.out])
              go_upto_region 8 with fail
              refine wp_region_plain (C := C) hC0 ?_
              dsimp only []
              repeat (first | go_big_quiet_skip | (go_big_quiet_want; first | (refine quiet_call 41 _ _ (by rfl) Tryd.call41 _ ?_ kc.out ?_; (· rfl); (simp only [Act.put, List.setIfInBounds_toArray, List.set_cons_zero, List.set_cons_succ]); go_big_quiet_on) | (refine quiet_call 42 _ _ (by rfl) Tryd.call42 _ ?_ kl.out ?_; (· rfl); (simp only [Act.put, List.setIfInBounds_toArray, List.set_cons_zero, List.set_cons_succ]); go_big_quiet_on) | (refine quiet_load_mid (cs := y.vals) Tryd.underlying59 rfl hu.out _ (by rfl) b2 (o2 + i * 6) (by rfl) mx.out ?_; (simp only [Act.put, List.setIfInBounds_toArray, List.set_cons_zero, List.set_cons_succ]); go_big_quiet_on) | (go_big_quiet_op; go_big_quiet_on) | (go_big_quiet_op; refine Exists.intro _ ⟨fun _ _ => rfl, ?_⟩; go_big_quiet_on)))
              refine wpQuiet_nil ?_
              intro w9 hC9
              have h9 := (HC.out _).1 hC9
              have HB9 := Lib.hid (bthen' HBI.out h9)
              have HG9 := Lib.hid (HGI.out.below h9)
              clear hC9 hC0 mx kc kl HC h9
              have gc := HG9.out.c i hlti
              have gf := HG9.out.nf i
              go_wp2
              clear gc gf
              have HG10 := Lib.hid (HG9.out.set i hlti)
              have HB10 := Lib.hid (HB9.out.grown (grown_set (grown_of_below (Below.refl _ w9) gb) i (.bool true)) HB9.out.size (fun k hk => by cases hk; rw [HGB.out]; exact Nat.le_refl _))
              go_roundw
              case rel => exact ⟨i + 1, by omega, by go_num, by first | exact HB10.out | (rw [← HGB.out]; exact HB10.out), by rw [HNX.out]; exact HG10.out⟩
              case measure => simp [intOf]; omega
        · obtain rfl : i = rest.length := by omega
          go_wp2
          go_roundw
          case rel => exact ⟨n + 1, by omega, by go_num, by first | exact HBI.out | (rw [← HGB.out]; exact HBI.out), HGI.out⟩
          case measure => simp [intOf]; omega
    · obtain rfl : n = rest.length + 1 := by omega
      have hge : (rest.length : Int) < ((rest.length + 1 : Nat) : Int) := by omega
      obtain ⟨V, rfl⟩ : ∃ V, V = wr := ⟨_, rfl⟩
      have HBV := Lib.hid (show Below w.heap.size w V by first | exact HB.out | (rw [HGB.out]; exact HB.out))
      have HEV := Lib.hid (HE.out.below rfl HBV.out)
      have HMV := Lib.hid (HM.out.below rfl HBV.out)
      clear HE HM HB hlt hn
      go_wp2
      go_loopw [8, 9] (fun kv iv wr => ∃ k : Nat, k ≤ rest.length ∧ iv = .int .i64 k ∧ Below V.heap.size V wr ∧ wr.ownsRow V.heap.size 59 6 kv ((rest.take k).filter fun y => keepM (exs l) kf y.m).length (rowOf MsE.vals ((rest.take k).filter fun y => keepM (exs l) kf y.m))) (fun _ iv _ => rest.length - (intOf iv).toNat)
      case atStart => exact ⟨0, Nat.zero_le _, rfl, Below.refl _ _, World.ownsRow_nil _ _ _ _⟩
      case round =>
        obtain ⟨k, hk, rfl, hb, hown⟩ := hrel
        have HB := Lib.hid hb
        have HO := Lib.hid hown
        clear hb hown
        by_cases hlt : k < rest.length
        · have hlt' : (k : Int) < (rest.length : Int) := by omega
          obtain ⟨rfl, _⟩ := HMV.out.r.a (by omega)
          obtain ⟨y, hy⟩ : ∃ y, rest[k] = y := ⟨_, rfl⟩
          have HFT := Lib.hid (filter_take (fun y => keepM (exs l) kf y.m) rest k hlt y hy)
          have HFLE := Lib.hid (filter_take_le (fun y => keepM (exs l) kf y.m) rest k)
          obtain ⟨K0, hK0⟩ : ∃ K0, cntM (exs l) y.m = K0 := ⟨_, rfl⟩
          obtain ⟨KG, hKG⟩ : ∃ KG, passes (exs l) rest (rest.length + 1) k = KG := ⟨_, rfl⟩
          have HKM := Lib.hid (show keepM (exs l) kf y.m = (K0 && !KG) by
            unfold keepM
            rw [hK0]
            cases K0 with
            | false => rfl
            | true =>
              have := given_iff HF.out k hlt (by rw [hy]; exact hK0)
              rw [hKG, hy] at this
              rw [this]; simp)
          obtain ⟨C, hC⟩ : ∃ C : World → Prop, ∀ w', C w' ↔ Below wr.heap.size wr w' := ⟨_, fun _ => Iff.rfl⟩
          have hC0 : C wr := (hC _).2 (Below.refl _ _)
          have HOK := Lib.hid (show y.Ok wr from by rw [← hy]; exact (HMV.out.ok _ (List.getElem_mem hlt)).below rfl HB.out)
          have mx := Lib.hid (show ∀ w', C w' → w'.rangeAt b2 (o2 + k * 6) y.vals from fun w' h => by rw [← hy]; exact (HMV.out.r.below rfl (bthen' HB.out ((hC w').1 h))).at_ MsE.len hlt)
          have lg := Lib.hid (show ∀ w', C w' → w'.cell? ⟨gb, k, none⟩ = some (.bool KG) from fun w' h => by rw [← hKG]; exact (HG.out.below (bthen' HB.out ((hC w').1 h))).c k hlt)
          have kc := Lib.hid (show ∀ w', C w' → Calls Tryd.prog 41 #[.slice a l.length c, .agg y.vals.toArray] w' fun e w'' => e = .returned (.bool K0) ∧ C w'' from
            fun w' h => (rcounts_any (HEV.out.below rfl (bthen' HB.out ((hC w').1 h))) y).mono fun e w'' ⟨he, hw⟩ => ⟨by rw [← hK0]; exact he, (hC w'').2 (bthen' ((hC w').1 h) hw)⟩)
          have HC := Lib.hid hC
          clear hC hK0 hKG hy
          cases K0 with
          | false =>
            cases KG with
            | false =>
              have HNO := Lib.hid (show (rest.take (k + 1)).filter (fun y => keepM (exs l) kf y.m) = (rest.take k).filter (fun y => keepM (exs l) kf y.m) by rw [HFT.out, HKM.out]; simp)
              go_upto_region 14 with fail
              refine wp_region_plain (C := C) hC0 ?_
              dsimp only []
              repeat (first | go_big_quiet_skip | (go_big_quiet_want; first | (refine quiet_load _ _ (by rfl) ?_ _ (by rfl) (by first | exact lg.out) ?_; (· intro w; simp); (simp only [Act.put, List.setIfInBounds_toArray, List.set_cons_zero, List.set_cons_succ]); go_big_quiet_on) | (refine quiet_call 41 _ _ (by rfl) Tryd.call41 _ ?_ kc.out ?_; (· rfl); (simp only [Act.put, List.setIfInBounds_toArray, List.set_cons_zero, List.set_cons_succ]); go_big_quiet_on) | (refine quiet_load_mid (cs := y.vals) Tryd.underlying59 rfl hu.out _ (by rfl) b2 (o2 + k * 6) (by rfl) mx.out ?_; (simp only [Act.put, List.setIfInBounds_toArray, List.set_cons_zero, List.set_cons_succ]); go_big_quiet_on) | (refine quiet_not (K := false) (K' := true) _ _ (by rfl) (by rfl) rfl ?_; (simp only [Act.put, List.setIfInBounds_toArray, List.set_cons_zero, List.set_cons_succ]); go_big_quiet_on) | (go_big_quiet_op; go_big_quiet_on) | (go_big_quiet_op; refine Exists.intro _ ⟨fun _ _ => rfl, ?_⟩; go_big_quiet_on)))
              refine wpQuiet_nil ?_
              intro w9 hC9
              have h9 := (HC.out _).1 hC9
              have HB9 := Lib.hid (bthen' HB.out h9)
              have HO9 := Lib.hid (row_below HO.out h9)
              clear hC9 hC0 mx lg kc HC h9
              go_wp2
              go_roundw
              case rel => exact ⟨k + 1, by omega, by go_num, HB9.out, by rw [HNO.out]; exact HO9.out⟩
              case measure => simp [intOf]; omega
            | true =>
              have HNO := Lib.hid (show (rest.take (k + 1)).filter (fun y => keepM (exs l) kf y.m) = (rest.take k).filter (fun y => keepM (exs l) kf y.m) by rw [HFT.out, HKM.out]; simp)
              go_upto_region 14 with fail
              refine wp_region_plain (C := C) hC0 ?_
              dsimp only []
              repeat (first | go_big_quiet_skip | (go_big_quiet_want; first | (refine quiet_load _ _ (by rfl) ?_ _ (by rfl) (by first | exact lg.out) ?_; (· intro w; simp); (simp only [Act.put, List.setIfInBounds_toArray, List.set_cons_zero, List.set_cons_succ]); go_big_quiet_on) | (refine quiet_call 41 _ _ (by rfl) Tryd.call41 _ ?_ kc.out ?_; (· rfl); (simp only [Act.put, List.setIfInBounds_toArray, List.set_cons_zero, List.set_cons_succ]); go_big_quiet_on) | (refine quiet_load_mid (cs := y.vals) Tryd.underlying59 rfl hu.out _ (by rfl) b2 (o2 + k * 6) (by rfl) mx.out ?_; (simp only [Act.put, List.setIfInBounds_toArray, List.set_cons_zero, List.set_cons_succ]); go_big_quiet_on) | (refine quiet_not (K := true) (K' := false) _ _ (by rfl) (by rfl) rfl ?_; (simp only [Act.put, List.setIfInBounds_toArray, List.set_cons_zero, List.set_cons_succ]); go_big_quiet_on) | (go_big_quiet_op; go_big_quiet_on) | (go_big_quiet_op; refine Exists.intro _ ⟨fun _ _ => rfl, ?_⟩; go_big_quiet_on)))
              refine wpQuiet_nil ?_
              intro w9 hC9
              have h9 := (HC.out _).1 hC9
              have HB9 := Lib.hid (bthen' HB.out h9)
              have HO9 := Lib.hid (row_below HO.out h9)
              clear hC9 hC0 mx lg kc HC h9
              go_wp2
              go_roundw
              case rel => exact ⟨k + 1, by omega, by go_num, HB9.out, by rw [HNO.out]; exact HO9.out⟩
              case measure => simp [intOf]; omega
          | true =>
            cases KG with
            | true =>
              have HNO := Lib.hid (show (rest.take (k + 1)).filter (fun y => keepM (exs l) kf y.m) = (rest.take k).filter (fun y => keepM (exs l) kf y.m) by rw [HFT.out, HKM.out]; simp)
              go_upto_region 14 with fail
              refine wp_region_plain (C := C) hC0 ?_
              dsimp only []
              repeat (first | go_big_quiet_skip | (go_big_quiet_want; first | (refine quiet_load _ _ (by rfl) ?_ _ (by rfl) (by first | exact lg.out) ?_; (· intro w; simp); (simp only [Act.put, List.setIfInBounds_toArray, List.set_cons_zero, List.set_cons_succ]); go_big_quiet_on) | (refine quiet_call 41 _ _ (by rfl) Tryd.call41 _ ?_ kc.out ?_; (· rfl); (simp only [Act.put, List.setIfInBounds_toArray, List.set_cons_zero, List.set_cons_succ]); go_big_quiet_on) | (refine quiet_load_mid (cs := y.vals) Tryd.underlying59 rfl hu.out _ (by rfl) b2 (o2 + k * 6) (by rfl) mx.out ?_; (simp only [Act.put, List.setIfInBounds_toArray, List.set_cons_zero, List.set_cons_succ]); go_big_quiet_on) | (refine quiet_not (K := true) (K' := false) _ _ (by rfl) (by rfl) rfl ?_; (simp only [Act.put, List.setIfInBounds_toArray, List.set_cons_zero, List.set_cons_succ]); go_big_quiet_on) | (go_big_quiet_op; go_big_quiet_on) | (go_big_quiet_op; refine Exists.intro _ ⟨fun _ _ => rfl, ?_⟩; go_big_quiet_on)))
              refine wpQuiet_nil ?_
              intro w9 hC9
              have h9 := (HC.out _).1 hC9
              have HB9 := Lib.hid (bthen' HB.out h9)
              have HO9 := Lib.hid (row_below HO.out h9)
              clear hC9 hC0 mx lg kc HC h9
              go_wp2
              go_roundw
              case rel => exact ⟨k + 1, by omega, by go_num, HB9.out, by rw [HNO.out]; exact HO9.out⟩
              case measure => simp [intOf]; omega
            | false =>
              have HYES := Lib.hid (show (rest.take (k + 1)).filter (fun y => keepM (exs l) kf y.m) = (rest.take k).filter (fun y => keepM (exs l) kf y.m) ++ [y] by rw [HFT.out, HKM.out]; simp)
              go_upto_region 14 with fail
              refine wp_region_plain (C := C) hC0 ?_
              dsimp only []
              repeat (first | go_big_quiet_skip | (go_big_quiet_want; first | (refine quiet_load _ _ (by rfl) ?_ _ (by rfl) (by first | exact lg.out) ?_; (· intro w; simp); (simp only [Act.put, List.setIfInBounds_toArray, List.set_cons_zero, List.set_cons_succ]); go_big_quiet_on) | (refine quiet_call 41 _ _ (by rfl) Tryd.call41 _ ?_ kc.out ?_; (· rfl); (simp only [Act.put, List.setIfInBounds_toArray, List.set_cons_zero, List.set_cons_succ]); go_big_quiet_on) | (refine quiet_load_mid (cs := y.vals) Tryd.underlying59 rfl hu.out _ (by rfl) b2 (o2 + k * 6) (by rfl) mx.out ?_; (simp only [Act.put, List.setIfInBounds_toArray, List.set_cons_zero, List.set_cons_succ]); go_big_quiet_on) | (refine quiet_not (K := false) (K' := true) _ _ (by rfl) (by rfl) rfl ?_; (simp only [Act.put, List.setIfInBounds_toArray, List.set_cons_zero, List.set_cons_succ]); go_big_quiet_on) | (go_big_quiet_op; go_big_quiet_on) | (go_big_quiet_op; refine Exists.intro _ ⟨fun _ _ => rfl, ?_⟩; go_big_quiet_on)))
              refine wpQuiet_nil ?_
              intro w9 hC9
              have h9 := (HC.out _).1 hC9
              have HX9 := Lib.hid (mx.out _ hC9)
              have HOK9 := Lib.hid (HOK.out.below rfl h9)
              obtain ⟨v', w10, hrun, hown10, hb10⟩ := own_step (slT := 50) Tryd.underlying50 info_ms rfl (by decide) HB.out HO.out h9 y.vals rfl HOK9.out.one (by have := HFLE.out; omega) (by decide)
              have HR := Lib.hid hrun
              rw [← rowOf_snoc, ← HYES.out, show ((rest.take k).filter fun y => keepM (exs l) kf y.m).length + 1 = ((rest.take (k + 1)).filter fun y => keepM (exs l) kf y.m).length by rw [HYES.out]; simp] at hown10
              have HO10 := Lib.hid hown10
              have HB10 := Lib.hid hb10
              clear hC9 hC0 mx lg kc HC h9 hrun hown10 hb10
              go_wp2_with (first
                | (guard_target = wpList _ _ _ (Oper.mk _ (Op.load 59 _) _ _ _ none :: _) _ _; refine wpList_load_mid rfl 59 _ rfl b2 (o2 + k * 6) (by rfl) y.vals _ HX9.out Tryd.underlying59 rfl hu.out ?_; simp only [Act.put, List.setIfInBounds_toArray, List.set_cons_zero, List.set_cons_succ])
                | (guard_target = wpList _ _ _ (Oper.mk _ (Op.buildSlice _ _ _) _ _ _ none :: _) _ _; refine wpList_buildSlice rfl 50 1 _ rfl #[(0, .agg y.vals.toArray)] (by kernel_rfl) _ _ (run_buildM y w9) ?_; simp only [Act.put, List.setIfInBounds_toArray, List.set_cons_zero, List.set_cons_succ])
                | (guard_target = wpList _ _ _ (Oper.mk _ (Op.call _) _ _ _ none :: _) _ _; refine Lib.wpList_append_run _ rfl _ _ _ _ rfl _ _ rfl rfl _ _ HR.out ?_; simp only [Act.put, List.setIfInBounds_toArray, List.set_cons_zero, List.set_cons_succ]))
              go_roundw
              case rel => exact ⟨k + 1, by omega, by go_num, HB10.out, HO10.out⟩
              case measure => simp [intOf]; omega
        · obtain rfl : k = rest.length := by omega
          rw [List.take_length] at HO
          go_wp2
          go_ret
          exact ⟨_, rfl, row_mono HO.out HBV.out.size, bthen' HBV.out HB.out⟩
end Go.Proofs.YtagelhbknbpfhaaDoor

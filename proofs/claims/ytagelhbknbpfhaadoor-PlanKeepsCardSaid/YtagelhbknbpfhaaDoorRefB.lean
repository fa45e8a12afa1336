/-
  consortref15: Companions, Holder, Boundary.
-/
import Derived.Test.YtagelhbknbpfhaaDoorRefA
import Derived.Test.YtagelhbknbpfhaaDoorPlanC
namespace Go.Proofs.YtagelhbknbpfhaaDoor
open Go.RowKit Go.BigFrame
set_option maxHeartbeats 1000000
set_option maxRecDepth 100000
theorem zero_cfr (w : World) : (zeroValue 62).run Tryd.prog w = .ok (.agg (cfV 0 0)) w := by kernel_rfl
theorem cfV_one (e : Nat) (p : Int) : ∀ v ∈ (cfV e p).toList, v.oneCell' = true := by simp [cfV, Value.oneCell']
theorem run_buildX (y : XE) (w : World) : (Instr.buildSlice 22 1 #[(0, .agg y.vals.toArray)]).run Tryd.prog w = .ok (.slice (some ⟨w.heap.size, 0, none⟩) 1 1) (w.alloc (.cells y.vals.toArray 64)) := by kernel_rfl
theorem conf_mid {w : World} {b k : Nat} {y : XE} (h : w.rangeAt b k y.vals) : w.rangeAt b (k + 1) [.int .u64 y.x.oe, .int .i64 y.x.orp] := by
  intro j u hj
  have h6 := h (1 + j) u
  rw [← Nat.add_assoc] at h6
  refine h6 ?_
  have hj2 : j < 2 := (List.getElem?_eq_some_iff.1 hj).1
  match j, hj2 with
  | 0, _ => exact hj
  | 1, _ => exact hj
theorem filter_takeX {l : List XE} (m : Ex) (k : Nat) (h : k < l.length) (y : XE) (hy : l[k] = y) : (l.take (k + 1)).filter (fun z => sameOld z.x m) = (l.take k).filter (fun z => sameOld z.x m) ++ if sameOld y.x m then [y] else [] := by
  rw [take_snoc l k h, hy, List.filter_append]
  cases e : sameOld y.x m <;> simp [e]
/-- The old configuration, as far as one has looked. -/
def oldK (me : Int) (m : Ex) (l : List XE) : Array Value := if l.any fun y => y.x.who == me then cfV m.oe m.orp else cfV 0 0
theorem rcomp_any {w : World} {v : Value} {l : List XE} {a : Option Addr} {c b o : Nat} (h : ExsAt w v l a c b o) (me : Int) {la : List Ex} {m : Ex} (hN : NewOk me (exs l) la m) :
    Calls Tryd.prog 13 #[.int .i64 me, v] w fun e w' => ∃ v', e = .returned v' ∧ w'.ownsRow w.heap.size 64 6 v' (l.filter fun z => sameOld z.x m).length (rowOf XE.vals (l.filter fun z => sameOld z.x m)) ∧ Below w.heap.size w w' := by
  have hz := zero_cfr
  have huc : Hid ((Tryd.prog.info? 62).map (·.size) = some (2 : Nat)) := Lib.hid size_cf
  have hu : Hid ((Tryd.prog.info? 64).map (·.size) = some (6 : Nat)) := Lib.hid size_ex
  have hv := h.r.v
  subst hv
  have HE := Lib.hid h
  have hlen : (l.length : Int) ≤ 1000 := by have := h.len; omega
  have HONE := Lib.hid (show ∀ k (hk : k < l.length), l[k].x.who = me → l[k].x = m from fun k hk e => hN.one _ (List.mem_map.2 ⟨_, List.getElem_mem hk, rfl⟩) _ hN.mem (e.trans hN.who.symm))
  have HANY := Lib.hid (show (l.any fun y => y.x.who == me) = true from by
    obtain ⟨y, hy, e⟩ := List.mem_map.1 hN.mem
    exact List.any_eq_true.2 ⟨y, hy, by rw [e]; exact beq_iff_eq.2 hN.who⟩)
  obtain ⟨D, hD⟩ : ∃ D, w.heap.size = D := ⟨_, rfl⟩
  obtain ⟨W, hW⟩ : ∃ W : World, w.alloc (.cells (cfV 0 0) 62) = W := ⟨_, rfl⟩
  have B0 := Lib.hid (show W.heap[D]? = some (.cells (cfV 0 0) 62 (0, 0)) by rw [← hW, ← hD]; exact heap_alloc_new _ _)
  have BW := Lib.hid (show Below w.heap.size w W by rw [← hW]; exact bel_box _ _ _)
  have HW := Lib.hid hW
  have HDN := Lib.hid hD
  clear hW h hN
  go_enter Tryd.func13, Tryd.ntmps13
  go_upto_region 2 with fail
  rw [HW.out]
  go_wp2
  go_loopw [6] (fun i wr => ∃ k : Nat, k ≤ l.length ∧ i = .int .i64 k ∧ Below w.heap.size w wr ∧ wr.heap[D]? = some (.cells (oldK me m (l.take k)) 62 (0, 0))) (fun i _ => l.length - (intOf i).toNat)
  case atStart => exact ⟨0, Nat.zero_le _, rfl, BW.out, B0.out⟩
  case round =>
    obtain ⟨k, hk, rfl, hb, hblk⟩ := hrel
    have HB := Lib.hid hb
    have HBK := Lib.hid hblk
    clear hb hblk
    by_cases hlt : k < l.length
    · have hlt' : (k : Int) < (l.length : Int) := by omega
      obtain ⟨rfl, _⟩ := HE.out.r.a (by omega)
      obtain ⟨y, hy⟩ : ∃ y, l[k] = y := ⟨_, rfl⟩
      have HX := Lib.hid (show wr.rangeAt b (o + k * 6) y.vals from by rw [← hy]; exact (HE.out.r.below rfl HB.out).at_ XE.len hlt)
      have c0 : wr.cell? ⟨b, o + k * 6, none⟩ = some (.int .i64 y.x.who) := HX.out 0 _ rfl
      by_cases hme : y.x.who = me
      · have e1 : (y.x.who == me) = true := beq_iff_eq.2 hme
        have hym : y.x = m := by rw [← hy]; exact HONE.out k hlt (by rw [hy]; exact hme)
        have HS := Lib.hid (show oldK me m (l.take (k + 1)) = cfV y.x.oe y.x.orp by
          unfold oldK
          rw [take_snoc l k hlt, hy, List.any_append, hym, if_pos]
          rw [List.any_cons, e1]; simp)
        have MC := Lib.hid (conf_mid HX.out)
        have hsz : (oldK me m (l.take k)).size = 2 := by unfold oldK; split <;> rfl
        clear hy hme hym
        go_wp2_with (first
          | (guard_target = wpList _ _ _ (Oper.mk _ (Op.load 62 _) _ _ _ none :: _) _ _; refine wpList_load_mid rfl 62 _ rfl b (o + k * 6 + 1) (by rfl) [.int .u64 y.x.oe, .int .i64 y.x.orp] _ MC.out Tryd.underlying62 rfl huc.out ?_; simp only [Act.put, List.setIfInBounds_toArray, List.set_cons_zero, List.set_cons_succ])
          | (guard_target = wpList _ _ _ (Oper.mk none (Op.store _ _ _) _ _ _ none :: _) _ _; refine wpList_store_row rfl 62 _ _ rfl D (by rfl) (cfV y.x.oe y.x.orp) (by rfl) (oldK me m (l.take k)) 62 HBK.out hsz huc.out (cfV_one _ _) ?_; intro w9 hw9 hg9))
        have HB9 := Lib.hid (HB.out.grown hg9 HB.out.size (fun k hk => by cases hk; rw [HDN.out]; exact Nat.le_refl _))
        have HK9 := Lib.hid hw9
        clear hw9 hg9 c0 hsz
        go_roundw
        case rel => exact ⟨k + 1, by omega, by go_num, by first | exact HB9.out | (rw [← HDN.out]; exact HB9.out), by rw [HS.out]; exact HK9.out⟩
        case measure => simp [intOf]; omega
      · have e1 : (y.x.who == me) = false := beq_eq_false_iff_ne.2 hme
        have HS := Lib.hid (show oldK me m (l.take (k + 1)) = oldK me m (l.take k) by
          unfold oldK
          rw [take_snoc l k hlt, hy, List.any_append, List.any_cons, e1]; simp)
        clear hy hme
        go_wp2
        go_roundw
        case rel => exact ⟨k + 1, by omega, by go_num, by first | exact HB.out | (rw [← HDN.out]; exact HB.out), by rw [HS.out]; exact HBK.out⟩
        case measure => simp [intOf]; omega
    · obtain rfl : k = l.length := by omega
      have HCF := Lib.hid (show wr.heap[D]? = some (.cells (cfV m.oe m.orp) 62 (0, 0)) by
        have := HBK.out
        rw [List.take_length] at this
        unfold oldK at this
        rw [if_pos HANY.out] at this; exact this)
      obtain ⟨V, rfl⟩ : ∃ V, V = wr := ⟨_, rfl⟩
      have HEV := Lib.hid (HE.out.below rfl (by first | exact HB.out | (rw [← HDN.out]; exact HB.out)))
      have HBV := Lib.hid (show Below w.heap.size w V by first | exact HB.out | (rw [HDN.out]; exact HB.out))
      clear HBK HB HE hk hlt hD
      go_wp2
      go_loopw [7, 8] (fun kv i wr => ∃ k : Nat, k ≤ l.length ∧ i = .int .i64 k ∧ Below V.heap.size V wr ∧ wr.ownsRow V.heap.size 64 6 kv ((l.take k).filter fun z => sameOld z.x m).length (rowOf XE.vals ((l.take k).filter fun z => sameOld z.x m))) (fun _ i _ => l.length - (intOf i).toNat)
      case atStart => exact ⟨0, Nat.zero_le _, rfl, Below.refl _ _, World.ownsRow_nil _ _ _ _⟩
      case round =>
        obtain ⟨k, hk, rfl, hb, hown⟩ := hrel
        have HB := Lib.hid hb
        have HO := Lib.hid hown
        clear hb hown
        by_cases hlt : k < l.length
        · have hlt' : (k : Int) < (l.length : Int) := by omega
          obtain ⟨rfl, _⟩ := HEV.out.r.a (by omega)
          obtain ⟨y, hy⟩ : ∃ y, l[k] = y := ⟨_, rfl⟩
          have HFT := Lib.hid (filter_takeX m k hlt y hy)
          have HFL := Lib.hid (show ((l.take k).filter fun z => sameOld z.x m).length ≤ k from Nat.le_trans (List.length_filter_le _ _) (List.length_take_le _ _))
          obtain ⟨C, hC⟩ : ∃ C : World → Prop, ∀ w', C w' ↔ Below wr.heap.size wr w' := ⟨_, fun _ => Iff.rfl⟩
          have hC0 : C { wr with drawn := wr.drawn + 1 } := (hC _).2 (Below.drew (Below.refl _ _))
          have HOK := Lib.hid (show y.Ok wr from by rw [← hy]; exact (HEV.out.ok _ (List.getElem_mem hlt)).below rfl HB.out)
          have mx := Lib.hid (show ∀ w', C w' → w'.rangeAt b (o + k * 6) y.vals from fun w' h => by rw [← hy]; exact (HEV.out.r.below rfl (bthen' HB.out ((hC w').1 h))).at_ XE.len hlt)
          have mc := Lib.hid (show ∀ w', C w' → w'.rangeAt b (o + k * 6 + 1) [.int .u64 y.x.oe, .int .i64 y.x.orp] from fun w' h => conf_mid (mx.out w' h))
          have a5 := Lib.hid (fun w' (h : C w') => bblock ((hC w').1 h) (bblock HB.out HCF.out))
          have hua : Hid ((Tryd.prog.info? 62).map (·.size) = some (cfV m.oe m.orp).size) := Lib.hid size_cf
          obtain ⟨K, hK⟩ : ∃ K, sameOld y.x m = K := ⟨_, rfl⟩
          have HK := Lib.hid hK
          have HC := Lib.hid hC
          rw [hK] at HFT
          clear hC hK hy
          cases K with
          | false =>
            go_upto_region 11 with fail
            refine wp_region_quiet (C := C) (by kernel_rfl) (by kernel_rfl) hC0 ?_
            dsimp only []
            repeat (first | go_big_quiet_skip | (go_big_quiet_want; first | (refine quiet_load_agg Tryd.underlying62 rfl hua.out _ (by rfl) _ (by rfl) _ _ a5.out ?_; (simp only [Act.put, List.setIfInBounds_toArray, List.set_cons_zero, List.set_cons_succ]); go_big_quiet_on) | (refine quiet_load_mid (cs := [.int .u64 y.x.oe, .int .i64 y.x.orp]) Tryd.underlying62 rfl huc.out _ (by rfl) b (o + k * 6 + 1) (by rfl) mc.out ?_; (simp only [Act.put, List.setIfInBounds_toArray, List.set_cons_zero, List.set_cons_succ]); go_big_quiet_on) | (refine quiet_exec (v := .bool false) (fun w => by rw [← HK.out]; exact exec_eql_cf (by rfl) _ y.x.oe y.x.orp m.oe m.orp (by rfl) (by rfl) w) ?_; (simp only [Act.put, List.setIfInBounds_toArray, List.set_cons_zero, List.set_cons_succ]); go_big_quiet_on) | (go_big_quiet_op; go_big_quiet_on) | (go_big_quiet_op; refine Exists.intro _ ⟨fun _ _ => rfl, ?_⟩; go_big_quiet_on)))
            refine wpQuiet_nil ?_
            intro w8 hC8
            have h8 := (HC.out _).1 hC8
            have HB8 := Lib.hid (bthen' HB.out h8)
            have HO8 := Lib.hid (row_below HO.out h8)
            have HNO := Lib.hid (show (l.take (k + 1)).filter (fun z => sameOld z.x m) = (l.take k).filter (fun z => sameOld z.x m) by rw [HFT.out]; simp)
            clear hC8 hC0 mx mc a5 HC h8 HFT
            go_wp2
            go_roundw
            case rel => exact ⟨k + 1, by omega, by go_num, HB8.out, by rw [HNO.out]; exact HO8.out⟩
            case measure => simp [intOf]; omega
          | true =>
            go_upto_region 11 with fail
            refine wp_region_quiet (C := C) (by kernel_rfl) (by kernel_rfl) hC0 ?_
            dsimp only []
            repeat (first | go_big_quiet_skip | (go_big_quiet_want; first | (refine quiet_load_agg Tryd.underlying62 rfl hua.out _ (by rfl) _ (by rfl) _ _ a5.out ?_; (simp only [Act.put, List.setIfInBounds_toArray, List.set_cons_zero, List.set_cons_succ]); go_big_quiet_on) | (refine quiet_load_mid (cs := [.int .u64 y.x.oe, .int .i64 y.x.orp]) Tryd.underlying62 rfl huc.out _ (by rfl) b (o + k * 6 + 1) (by rfl) mc.out ?_; (simp only [Act.put, List.setIfInBounds_toArray, List.set_cons_zero, List.set_cons_succ]); go_big_quiet_on) | (refine quiet_exec (v := .bool true) (fun w => by rw [← HK.out]; exact exec_eql_cf (by rfl) _ y.x.oe y.x.orp m.oe m.orp (by rfl) (by rfl) w) ?_; (simp only [Act.put, List.setIfInBounds_toArray, List.set_cons_zero, List.set_cons_succ]); go_big_quiet_on) | (go_big_quiet_op; go_big_quiet_on) | (go_big_quiet_op; refine Exists.intro _ ⟨fun _ _ => rfl, ?_⟩; go_big_quiet_on)))
            refine wpQuiet_nil ?_
            intro w8 hC8
            have h8 := (HC.out _).1 hC8
            have HX8 := Lib.hid (mx.out _ hC8)
            have HOK8 := Lib.hid (HOK.out.below rfl h8)
            have HYES := Lib.hid (show (l.take (k + 1)).filter (fun z => sameOld z.x m) = (l.take k).filter (fun z => sameOld z.x m) ++ [y] by rw [HFT.out]; simp)
            obtain ⟨v', w9, hrun, hown9, hb9⟩ := own_step (slT := 22) Tryd.underlying22 info_ex rfl (by decide) HB.out HO.out h8 y.vals rfl HOK8.out.one (by have := HFL.out; omega) (by decide)
            have HR := Lib.hid hrun
            rw [← rowOf_snoc, ← HYES.out, show ((l.take k).filter fun z => sameOld z.x m).length + 1 = ((l.take (k + 1)).filter fun z => sameOld z.x m).length by rw [HYES.out]; simp] at hown9
            have HO9 := Lib.hid hown9
            have HB9 := Lib.hid hb9
            clear hC8 hC0 mx mc a5 HC h8 HFT hrun hown9 hb9 HYES
            go_wp2_with (first
              | (guard_target = wpList _ _ _ (Oper.mk _ (Op.load 64 _) _ _ _ none :: _) _ _; refine wpList_load_mid rfl 64 _ rfl b (o + k * 6) (by rfl) y.vals _ HX8.out Tryd.underlying64 rfl hu.out ?_; simp only [Act.put, List.setIfInBounds_toArray, List.set_cons_zero, List.set_cons_succ])
              | (guard_target = wpList _ _ _ (Oper.mk _ (Op.buildSlice _ _ _) _ _ _ none :: _) _ _; refine wpList_buildSlice rfl 22 1 _ rfl #[(0, .agg y.vals.toArray)] (by kernel_rfl) _ _ (run_buildX y w8) ?_; simp only [Act.put, List.setIfInBounds_toArray, List.set_cons_zero, List.set_cons_succ])
              | (guard_target = wpList _ _ _ (Oper.mk _ (Op.call { callee := Callee.builtin Builtin.append, args := _, argTypes := _ }) _ _ _ none :: _) _ _; refine Lib.wpList_append_run _ rfl _ _ _ _ rfl _ _ rfl rfl _ _ HR.out ?_; simp only [Act.put, List.setIfInBounds_toArray, List.set_cons_zero, List.set_cons_succ]))
            go_roundw
            case rel => exact ⟨k + 1, by omega, by go_num, HB9.out, HO9.out⟩
            case measure => simp [intOf]; omega
        · obtain rfl : k = l.length := by omega
          rw [List.take_length] at HO
          go_wp2
          go_ret
          exact ⟨_, rfl, ⟨HO.out.1, HO.out.2.imp id fun ⟨b, cap, cur, hv, hb, r⟩ => ⟨b, cap, cur, hv, Nat.le_trans HBV.out.size hb, r⟩⟩, bthen' HBV.out HB.out⟩
end Go.Proofs.YtagelhbknbpfhaaDoor

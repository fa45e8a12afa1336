/-
  Package plan: New, walked.
-/
import Derived.Test.YtagelhbknbpfhaaDoorPlanW
namespace Go.Proofs.YtagelhbknbpfhaaDoor
open Go.RowKit Go.BigFrame
set_option maxHeartbeats 1000000
set_option maxRecDepth 100000
theorem run_buildE (y : XE) (w : World) : (Instr.buildSlice 22 1 #[(0, .agg y.vals.toArray)]).run Tryd.prog w = .ok (.slice (some ⟨w.heap.size, 0, none⟩) 1 1) (w.alloc (.cells y.vals.toArray 64)) := by kernel_rfl
theorem row_mono' {w : World} {B B' : Nat} {e : TypeId} {sz : Nat} {kv : Value} {n : Nat} {l : List Value} (h : w.ownsRow B e sz kv n l) (hB : B' ≤ B) : w.ownsRow B' e sz kv n l :=
  ⟨h.1, h.2.imp id fun ⟨b, cap, cur, hv, hb, r⟩ => ⟨b, cap, cur, hv, Nat.le_trans hB hb, r⟩⟩
theorem new_any (me : Int) {w : World} {v : Value} {l : List XE} {a : Option Addr} {c b o : Nat} (h : ExsAt w v l a c b o) (hcnt : ∀ y ∈ l, y.x.cnt.length * 4 ≤ 140737488351232) :
    Calls Tryd.prog 11 #[.int .i64 me, v] w (NewPost me (exs l) w) := by
  have hz := zero_ex
  have hu : Hid ((Tryd.prog.info? 64).map (·.size) = some (6 : Nat)) := Lib.hid size_ex
  have hv := h.r.v
  subst hv
  have HE := Lib.hid h
  have HCNT := Lib.hid hcnt
  have hlen : (l.length : Int) ≤ 1000 := by have := h.len; omega
  clear h hcnt
  go_enter Tryd.func11, Tryd.ntmps11
  go_wp2
  go_loopw [6, 7, 15] (fun sv mv i wr => ∃ (k seen : Nat) (mine : Int), k ≤ l.length ∧ i = .int .i64 k ∧ sv = .int .u64 seen ∧ mv = .int .i64 mine ∧ seen < 18446744073709551616 ∧ scanN me (exs l) 0 0 (-1) = scanN me (exs (l.drop k)) k seen mine ∧ Below w.heap.size w wr) (fun _ _ i _ => l.length - (intOf i).toNat)
  case atStart => exact ⟨0, 0, -1, Nat.zero_le _, rfl, rfl, rfl, by decide, rfl, Below.refl _ _⟩
  case round =>
    obtain ⟨k, seen, mine, hk, rfl, rfl, rfl, hseen, hsc, hb⟩ := hrel
    have HB := Lib.hid hb
    have HSEEN := Lib.hid hseen
    have HSC := Lib.hid hsc
    clear hb hseen hsc
    by_cases hlt : k < l.length
    · obtain ⟨rfl, _⟩ := HE.out.r.a (by omega)
      obtain ⟨y, hy⟩ : ∃ y, l[k] = y := ⟨_, rfl⟩
      have hlt' : (k : Int) < (l.length : Int) := by omega
      have HST := Lib.hid (show scanN me (exs (l.drop k)) k seen mine = if y.x.who < 0 ∨ 64 ≤ y.x.who ∨ hasN seen y.x.who = true then none else scanN me (exs (l.drop (k + 1))) (k + 1) (seen ||| bitN y.x.who) (if y.x.who = me then k else mine) by rw [exs_drop l k hlt, hy]; rfl)
      have HX := Lib.hid (show wr.rangeAt b (o + k * 6) y.vals from by rw [← hy]; exact (HE.out.r.below rfl HB.out).at_ XE.len hlt)
      have HOK := Lib.hid (show y.Ok wr from by rw [← hy]; exact (HE.out.ok _ (List.getElem_mem hlt)).below rfl HB.out)
      obtain ⟨D, hD⟩ : ∃ D, wr.heap.size = D := ⟨_, rfl⟩
      go_upto_region 6 with (first
        | (guard_target = wpList _ _ _ (Oper.mk none (Op.store _ _ _) _ _ _ none :: _) _ _; refine wpList_store_row rfl 64 _ _ rfl D (by rfl) y.vals.toArray (by rfl) exZero.toArray 64 (by rw [← hD]; exact heap_alloc_new _ _) rfl hu.out HOK.out.oneA ?_; intro w7 hw7 hg7)
        | (guard_target = wpList _ _ _ (Oper.mk _ (Op.load 64 _) _ _ _ none :: _) _ _; refine wpList_load_mid rfl 64 _ rfl b (o + k * 6) (by rfl) y.vals _ HX.out Tryd.underlying64 rfl hu.out ?_; simp only [Act.put, List.setIfInBounds_toArray, List.set_cons_zero, List.set_cons_succ]))
      have hb7 : Below wr.heap.size wr w7 := bel_new (hD ▸ hg7)
      have H7 := Lib.hid hb7
      have HB7 := Lib.hid (bthen' HB.out hb7)
      have HOK7 := Lib.hid (HOK.out.below rfl hb7)
      have DB := Lib.hid hw7
      have HDL := Lib.hid (show wr.heap.size ≤ D from by omega)
      clear hw7 hg7 hD hb7
      clear hy
      have c0 : w7.cell? ⟨D, 0, none⟩ = some (.int .i64 y.x.who) := by rw [cell_of_row w7 D 0 _ _ _ DB.out]; rfl
      obtain ⟨q, hq⟩ : ∃ q, y.x.who = q := ⟨_, rfl⟩
      rw [hq] at c0 HST
      clear hq
      by_cases h0 : q < 0
      · have E := Lib.hid (newL_none (me := me) (l := exs l) (by rw [HSC.out, HST.out, if_pos (.inl h0)]))
        go_wp2
        go_ret2
        exact ⟨HB7.out, .inl ⟨E.out, rfl⟩⟩
      · have h0' : 0 ≤ q := by omega
        by_cases h1 : 64 ≤ q
        · have E := Lib.hid (newL_none (me := me) (l := exs l) (by rw [HSC.out, HST.out, if_pos (.inr (.inl h1))]))
          go_wp2
          go_ret2
          exact ⟨HB7.out, .inl ⟨E.out, rfl⟩⟩
        · have h1' : q < 64 := by omega
          cases hh : hasN seen q with
          | true =>
            have E := Lib.hid (newL_none (me := me) (l := exs l) (by rw [HSC.out, HST.out, if_pos (.inr (.inr hh))]))
            have HH := Lib.hid hh
            clear hh
            go_wp2_with fail
            refine (has_any _ _ HSEEN.out _).mono ?_
            rintro e w8 ⟨rfl, rfl⟩
            rw [HH.out]
            go_wp2
            go_ret2
            exact ⟨HB7.out, .inl ⟨E.out, rfl⟩⟩
          | false =>
            have E := Lib.hid (show scanN me (exs l) 0 0 (-1) = scanN me (exs (l.drop (k + 1))) (k + 1) (seen ||| bitN q) (if q = me then k else mine) by rw [HSC.out, HST.out, if_neg (fun h => h.elim h0 (fun h => h.elim h1 (fun h => by rw [hh] at h; cases h)))])
            have HH := Lib.hid hh
            clear hh
            go_wp2_with fail
            refine (has_any _ _ HSEEN.out _).mono ?_
            rintro e w8 ⟨rfl, rfl⟩
            rw [HH.out]
            go_wp2_with fail
            refine (with_one _ _ _ _ HSEEN.out _ (cell_new _ _ _)).mono ?_
            rintro e w8 ⟨rfl, rfl⟩
            have c0' : (w7.alloc (.cells #[.int .i64 q] 3)).cell? ⟨D, 0, none⟩ = some (.int .i64 q) := by
              rw [(bel_box w7 #[.int .i64 q] 3).cell (p := ⟨D, 0, none⟩) (Array.getElem?_eq_some_iff.1 DB.out).1]; exact c0
            have HS2 := Lib.hid (or_lt64 HSEEN.out (bitN_lt q))
            by_cases hme : q = me
            · have e1 : (q == me) = true := beq_iff_eq.2 hme
              rw [if_pos hme] at E
              clear c0 h0 h1 hme
              go_wp2
              go_roundw
              case rel => exact ⟨k + 1, _, _, by omega, by go_num, rfl, rfl, HS2.out, E.out, bthen' HB7.out (bel_box _ _ _)⟩
              case measure => simp [intOf]; omega
            · have e1 : (q == me) = false := beq_eq_false_iff_ne.2 hme
              rw [if_neg hme] at E
              clear c0 h0 h1 hme
              go_wp2
              go_roundw
              case rel => exact ⟨k + 1, _, _, by omega, by go_num, rfl, rfl, HS2.out, E.out, bthen' HB7.out (bel_box _ _ _)⟩
              case measure => simp [intOf]; omega
    · obtain rfl : k = l.length := by omega
      rw [List.drop_length] at HSC
      have HSC2 := Lib.hid (show scanN me (exs l) 0 0 (-1) = some mine by rw [HSC.out]; rfl)
      clear HSC
      by_cases hneg : mine < 0
      · have E := Lib.hid (newL_neg HSC2.out hneg)
        go_wp2
        go_ret2
        exact ⟨HB.out, .inl ⟨E.out, rfl⟩⟩
      · obtain ⟨i, rfl⟩ := Int.eq_ofNat_of_zero_le (show 0 ≤ mine by omega)
        have hi : i < l.length := by
          rcases scan_mine HSC2.out with h1 | ⟨j, hj, h1⟩
          · omega
          · rw [exs_len] at hj; omega
        obtain ⟨m, hm⟩ : ∃ m, l[i] = m := ⟨_, rfl⟩
        have E := Lib.hid (show newL me (exs l) = some ((exs l).filter fun x => sameOld x m.x) by rw [newL_some HSC2.out (by rw [exs_len]; exact hi), exs_get l i hi, hm])
        have hi' : (i : Int) < (l.length : Int) := by omega
        have h0' : (0 : Int) ≤ (i : Int) := by omega
        clear HSC2 hneg
        obtain ⟨rfl, _⟩ := HE.out.r.a (by omega)
        have HMX := Lib.hid (show ∀ w', Below w.heap.size w w' → w'.rangeAt b (o + i * 6) m.vals from fun w' hb => by rw [← hm]; exact (HE.out.r.below rfl hb).at_ XE.len hi)
        clear hm
        obtain ⟨V, rfl⟩ : ∃ V, V = wr := ⟨_, rfl⟩
        obtain ⟨G, hG⟩ : ∃ G, V.heap.size = G := ⟨_, rfl⟩
        obtain ⟨V2, hV2⟩ : ∃ V2 : World, V.alloc (.cells #[.slice none 0 0] 70) = V2 := ⟨_, rfl⟩
        have HV2 := Lib.hid hV2
        have HN := Lib.hid (show NewSt w V2 G (.slice none 0 0) [] from by
          have hb2 : Below V.heap.size V V2 := by rw [← hV2]; exact bel_box _ _ _
          exact ⟨bthen' HB.out hb2, by rw [← hG]; exact HB.out.size, by rw [← hV2, ← hG]; exact heap_alloc_new _ _, World.ownsRow_nil _ _ _ _, fun y hy => (by cases hy), fun y hy => (by cases hy)⟩)
        clear hV2
        go_upto_region 15 with fail
        rw [HV2.out]
        clear hG
        go_wp2
        go_loopw [51] (fun iv wr => ∃ (k : Nat) (kv : Value) (ys : List XE), k ≤ l.length ∧ iv = .int .i64 k ∧ NewSt w wr G kv ys ∧ exs ys = (exs (l.take k)).filter (fun x => sameOld x m.x)) (fun iv _ => l.length - (intOf iv).toNat)
        case atStart => exact ⟨0, _, [], Nat.zero_le _, rfl, HN.out, rfl⟩
        case round =>
          obtain ⟨k, kv, ys, hk, rfl, hst, hys⟩ := hrel
          have ST := Lib.hid hst
          have HB := Lib.hid hst.bel
          have HYS := Lib.hid hys
          clear hst hys HN HV2
          by_cases hlt : k < l.length
          · obtain ⟨y, hy⟩ : ∃ y, l[k] = y := ⟨_, rfl⟩
            have hlt' : (k : Int) < (l.length : Int) := by omega
            have HCY := Lib.hid (show y.x.cnt.length * 4 ≤ 140737488351232 from by rw [← hy]; exact HCNT.out _ (List.getElem_mem hlt))
            have HFT := Lib.hid (show (exs (l.take (k + 1))).filter (fun x => sameOld x m.x) = (exs (l.take k)).filter (fun x => sameOld x m.x) ++ if sameOld y.x m.x then [y.x] else [] by
              rw [exs_take l k hlt, hy, List.filter_append]
              cases e : sameOld y.x m.x <;> simp [e])
            have HX := Lib.hid (show wr.rangeAt b (o + k * 6) y.vals from by rw [← hy]; exact (HE.out.r.below rfl HB.out).at_ XE.len hlt)
            have HOK := Lib.hid (show y.Ok wr from by rw [← hy]; exact (HE.out.ok _ (List.getElem_mem hlt)).below rfl HB.out)
            obtain ⟨D, hD⟩ : ∃ D, wr.heap.size = D := ⟨_, rfl⟩
            go_upto_region 18 with (first
              | (guard_target = wpList _ _ _ (Oper.mk none (Op.store _ _ _) _ _ _ none :: _) _ _; refine wpList_store_row rfl 64 _ _ rfl D (by rfl) y.vals.toArray (by rfl) exZero.toArray 64 (by rw [← hD]; exact heap_alloc_new _ _) rfl hu.out HOK.out.oneA ?_; intro w7 hw7 hg7)
              | (guard_target = wpList _ _ _ (Oper.mk _ (Op.load 64 _) _ _ _ none :: _) _ _; refine wpList_load_mid rfl 64 _ rfl b (o + k * 6) (by rfl) y.vals _ HX.out Tryd.underlying64 rfl hu.out ?_; simp only [Act.put, List.setIfInBounds_toArray, List.set_cons_zero, List.set_cons_succ]))
            have hb7 : Below wr.heap.size wr w7 := bel_new (hD ▸ hg7)
            have H7 := Lib.hid hb7
            have HB7 := Lib.hid (bthen' HB.out hb7)
            have HOK7 := Lib.hid (HOK.out.below rfl hb7)
            have DB := Lib.hid hw7
            have HDL := Lib.hid (show wr.heap.size ≤ D from by omega)
            clear hw7 hg7 hD hb7
            clear hy
            obtain ⟨C, hC⟩ : ∃ C : World → Prop, ∀ w', C w' ↔ Below w7.heap.size w7 w' := ⟨_, fun _ => Iff.rfl⟩
            have hC0 : C { w7 with drawn := w7.drawn + 1 } := (hC _).2 (Below.drew (Below.refl _ _))
            have huc : Hid ((Tryd.prog.info? 62).map (·.size) = some (2 : Nat)) := Lib.hid size_cf
            have m1 := Lib.hid (show ∀ w', C w' → w'.rangeAt D 1 [.int .u64 y.x.oe, .int .i64 y.x.orp] from fun w' h j u hj => by
              rw [cell_of_row w' D (1 + j) _ _ _ (bblock ((hC w').1 h) DB.out)]
              have hj2 : j < 2 := (List.getElem?_eq_some_iff.1 hj).1
              match j, hj2 with
              | 0, _ => exact hj
              | 1, _ => exact hj)
            have m2 := Lib.hid (show ∀ w', C w' → w'.rangeAt b (o + i * 6 + 1) [.int .u64 m.x.oe, .int .i64 m.x.orp] from fun w' h j u hj => by
              have h6 := HMX.out w' (bthen' HB7.out ((hC w').1 h)) (1 + j) u
              rw [← Nat.add_assoc] at h6
              refine h6 ?_
              have hj2 : j < 2 := (List.getElem?_eq_some_iff.1 hj).1
              match j, hj2 with
              | 0, _ => exact hj
              | 1, _ => exact hj)
            obtain ⟨K, hK⟩ : ∃ K, sameOld y.x m.x = K := ⟨_, rfl⟩
            have HK := Lib.hid hK
            have HC := Lib.hid hC
            rw [hK] at HFT
            clear hC hK
            simp only [Act.put]
            cases K with
            | false =>
              refine wp_region_quiet (C := C) (by kernel_rfl) (by kernel_rfl) hC0 ?_
              dsimp only []
              repeat (first | go_big_quiet_skip | (go_big_quiet_want; first | (refine quiet_load_mid (cs := [.int .u64 y.x.oe, .int .i64 y.x.orp]) Tryd.underlying62 rfl huc.out _ (by rfl) D 1 (by rfl) m1.out ?_; (simp only [Act.put, List.setIfInBounds_toArray, List.set_cons_zero, List.set_cons_succ]); go_big_quiet_on) | (refine quiet_load_mid (cs := [.int .u64 m.x.oe, .int .i64 m.x.orp]) Tryd.underlying62 rfl huc.out _ (by rfl) b (o + i * 6 + 1) (by rfl) m2.out ?_; (simp only [Act.put, List.setIfInBounds_toArray, List.set_cons_zero, List.set_cons_succ]); go_big_quiet_on) | (refine quiet_exec (v := .bool false) (fun w => by rw [← HK.out]; exact exec_eql_cf (by rfl) _ y.x.oe y.x.orp m.x.oe m.x.orp (by rfl) (by rfl) w) ?_; (simp only [Act.put, List.setIfInBounds_toArray, List.set_cons_zero, List.set_cons_succ]); go_big_quiet_on) | (go_big_quiet_op; go_big_quiet_on) | (go_big_quiet_op; refine Exists.intro _ ⟨fun _ _ => rfl, ?_⟩; go_big_quiet_on)))
              refine wpQuiet_nil ?_
              intro w8 hC8
              have ST8 := Lib.hid ((ST.out.below H7.out).below ((HC.out _).1 hC8))
              clear hC8 hC0 m1 m2 HC
              go_wp2
              go_roundw
              case rel => exact ⟨k + 1, kv, ys, by omega, by go_num, ST8.out, by rw [HFT.out, HYS.out]; simp⟩
              case measure => simp [intOf]; omega
            | true =>
              refine wp_region_quiet (C := C) (by kernel_rfl) (by kernel_rfl) hC0 ?_
              dsimp only []
              repeat (first | go_big_quiet_skip | (go_big_quiet_want; first | (refine quiet_load_mid (cs := [.int .u64 y.x.oe, .int .i64 y.x.orp]) Tryd.underlying62 rfl huc.out _ (by rfl) D 1 (by rfl) m1.out ?_; (simp only [Act.put, List.setIfInBounds_toArray, List.set_cons_zero, List.set_cons_succ]); go_big_quiet_on) | (refine quiet_load_mid (cs := [.int .u64 m.x.oe, .int .i64 m.x.orp]) Tryd.underlying62 rfl huc.out _ (by rfl) b (o + i * 6 + 1) (by rfl) m2.out ?_; (simp only [Act.put, List.setIfInBounds_toArray, List.set_cons_zero, List.set_cons_succ]); go_big_quiet_on) | (refine quiet_exec (v := .bool true) (fun w => by rw [← HK.out]; exact exec_eql_cf (by rfl) _ y.x.oe y.x.orp m.x.oe m.x.orp (by rfl) (by rfl) w) ?_; (simp only [Act.put, List.setIfInBounds_toArray, List.set_cons_zero, List.set_cons_succ]); go_big_quiet_on) | (go_big_quiet_op; go_big_quiet_on) | (go_big_quiet_op; refine Exists.intro _ ⟨fun _ _ => rfl, ?_⟩; go_big_quiet_on)))
              refine wpQuiet_nil ?_
              intro w8 hC8
              have h8 := (HC.out _).1 hC8
              have H8 := Lib.hid (bthen' H7.out h8)
              have D8 := Lib.hid (bblock h8 DB.out)
              have hok8 := HOK7.out.below rfl h8
              obtain ⟨a', c', b', o', hr⟩ := hok8.r
              have HR := Lib.hid hr
              have c3 : w8.cell? ⟨D, 3, none⟩ = some y.sl := by rw [cell_of_row w8 D 3 _ _ _ D8.out]; rfl
              rw [hr.v] at c3
              clear hC8 hC0 m1 m2 HC hr h8 hok8
              go_wp2_with fail
              rw [← HR.out.v]
              refine (cloneU_any _ _ _ _ _ _ _ HR.out HCY.out).mono ?_
              rintro e w9 ⟨v', rfl, hown9, hb9⟩
              have OWN9 := Lib.hid hown9
              have H9 := Lib.hid (bthen' H8.out hb9)
              have D9 := Lib.hid (bblock hb9 D8.out)
              have DLT := Lib.hid (show D < w8.heap.size from (Array.getElem?_eq_some_iff.1 D8.out).1)
              have LEN8 := Lib.hid (show wr.heap.size ≤ w8.heap.size from H8.out.size)
              obtain ⟨sa, sc, sb, hrow9, _⟩ := RowAt.own (f := u32v) hown9 rfl u32v_len
              have hv' := hrow9.v
              subst hv'
              clear c3 hb9 hown9 hrow9
              have c3 : w9.cell? ⟨D, 3, none⟩ = some y.sl := by rw [cell_of_row w9 D 3 _ _ _ D9.out]; rfl
              have f3 : w9.frozen? ⟨D, 3, none⟩ = false := by simp [World.frozen?, D9.out]
              go_upto_region 20 with fail
              clear c3 f3
              have H10 := H9.out.grown (grown_set (grown_of_below (Below.refl _ w9) D) 3 (.slice sa y.x.cnt.length sc)) H9.out.size (fun k hk => by cases hk; exact HDL.out)
              have D10 := Lib.hid (show (w9.setCell ⟨D, 3, none⟩ (.slice sa y.x.cnt.length sc)).heap[D]? = some (.cells (XE.vals ⟨y.x, .slice sa y.x.cnt.length sc⟩).toArray 64 (0, 0)) by rw [rowCell D9.out 3 _]; rfl)
              have OWN10 := Lib.hid (show (w9.setCell ⟨D, 3, none⟩ (.slice sa y.x.cnt.length sc)).ownsRow w.heap.size 35 1 (.slice sa y.x.cnt.length sc) y.x.cnt.length (rowOf u32v y.x.cnt) from
                row_mono' (row_same OWN9.out fun k e => rowOther _ _ _ (by have := (OWN9.out.lt k e).1; have := DLT.out; omega)) (Nat.le_trans HB.out.size LEN8.out))
              generalize (w9.setCell ⟨D, 3, none⟩ (.slice sa y.x.cnt.length sc)) = w10 at H10 D10 OWN10 ⊢
              obtain ⟨z, hzz⟩ : ∃ z : XE, z = ⟨y.x, .slice sa y.x.cnt.length sc⟩ := ⟨_, rfl⟩
              have hzx : z.x = y.x := by rw [hzz]
              rw [← hzz] at D10
              have OWNZ := Lib.hid (show w10.ownsRow w.heap.size 35 1 z.sl z.x.cnt.length (rowOf u32v z.x.cnt) by rw [hzz]; exact OWN10.out)
              have HONE := Lib.hid (show ∀ v ∈ z.vals, v.oneCell' = true by rw [hzz]; simp [XE.vals, Value.oneCell'])
              have HLTZ := Lib.hid (show (∀ n ∈ z.x.cnt, n < 4294967296) ∧ z.x.oe < 18446744073709551616 ∧ z.x.ls < 18446744073709551616 by rw [hzz]; exact ⟨HOK7.out.lt, HOK7.out.oe, HOK7.out.ls⟩)
              have HZX := Lib.hid hzx
              clear hzx hzz OWN9 OWN10 D9 D8 DB H9 H8 H7
              obtain ⟨W0, hW0⟩ : ∃ W0 : World, W0 = { w10 with drawn := w10.drawn + 1 } := ⟨_, rfl⟩
              have b0 : Below w10.heap.size w10 W0 := by rw [hW0]; exact Below.drew (Below.refl _ _)
              have ST0 := Lib.hid ((ST.out.below H10).below b0)
              have OWN0 := Lib.hid (row_below OWNZ.out b0)
              have D0 := Lib.hid (bblock b0 D10.out)
              have hys : ys.length < 1000000 := by
                have h1 := congrArg List.length HYS.out
                have h2 := List.length_filter_le (fun x => sameOld x m.x) (exs (l.take k))
                rw [exs_len] at h1 h2
                have h3 := List.length_take_le k l
                omega
              obtain ⟨v2, W2, hrun, hrow2, hg2⟩ := own_run (slT := 22) Tryd.underlying22 info_ex rfl (by decide) ST0.out.row ST0.out.bel.size z.vals rfl HONE.out hys (by decide)
              have ST3 := Lib.hid (ST0.out.grow OWN0.out HLTZ.out hrow2 hg2)
              obtain ⟨g2, cap2, hv2, _⟩ := hrow2.form (by omega)
              subst hv2
              obtain ⟨W1, hW1⟩ : ∃ W1 : World, W1 = W0.alloc (.cells z.vals.toArray 64) := ⟨_, rfl⟩
              have b1 : Below W0.heap.size W0 W1 := by rw [hW1]; exact bel_box _ _ _
              have g0 : W0.heap[G]? = some (.cells #[kv] 70 (0, 0)) := ST0.out.blk
              have g1 : W1.heap[G]? = some (.cells #[kv] 70 (0, 0)) := bblock b1 g0
              have gg2 : W2.heap[G]? = some (.cells #[kv] 70 (0, 0)) := by
                rw [hg2.block G (by rw [← hW1]; exact (Array.getElem?_eq_some_iff.1 g1).1) (fun e => far_block ST0.out.row g0 (by decide) e.symm rfl), ← hW1]; exact g1
              obtain ⟨W3, hW3⟩ : ∃ W3 : World, W3 = W2.setCell ⟨G, 0, none⟩ (.slice (some ⟨g2, 0, none⟩) (ys.length + 1) cap2) := ⟨_, rfl⟩
              have g3 : W3.heap[G]? = some (.cells #[.slice (some ⟨g2, 0, none⟩) (ys.length + 1) cap2] 70 (0, 0)) := by rw [hW3, rowCell gg2]; rfl
              rw [← hW3] at ST3
              rw [← hW1] at hrun
              obtain ⟨C, hC⟩ : ∃ C : (Nat → Bool) → World → Prop, C = GrowC W0 W1 W2 W3 4 5 6 7 10 := ⟨_, rfl⟩
              have hC0 : C (fun _ => false) { w10 with drawn := w10.drawn + 1 } := by rw [hC, ← hW0]; exact GrowC.first
              have hm : ∀ i, (i ≠ 6 ∧ i ≠ 7 ∧ i ≠ 10) → ∀ L w, C L w → L i = false → C (addL L i) w := by rw [hC]; exact GrowC.more
              have l4 := Lib.hid (show ∀ L w', C L w' → L 4 = false → w'.cell? ⟨G, 0, none⟩ = some kv by
                rw [hC]; intro L w' h hL
                rcases h.load hL with rfl | rfl
                · rw [cell_of_row _ G 0 _ _ _ g0]; rfl
                · rw [cell_of_row _ G 0 _ _ _ g1]; rfl)
              have a5 := Lib.hid (show ∀ L w', C L w' → L 5 = false → w'.heap[D]? = some (.cells z.vals.toArray 64 (0, 0)) by
                rw [hC]; intro L w' h hL
                rw [h.early hL]; exact D0.out)
              have k6 := Lib.hid (show ∀ (L : Nat → Bool) w', C L w' → L 6 = false → L 5 = true → ∃ w'', (Instr.buildSlice 22 1 #[(0, .agg z.vals.toArray)]).run Tryd.prog w' = .ok (.slice (some ⟨W0.heap.size, 0, none⟩) 1 1) w'' ∧ C (addL L 6) w'' by
                rw [hC]; intro L w' h hL h5
                obtain ⟨rfl, h2⟩ := h.build hL h5 (by decide) (by decide)
                refine ⟨_, run_buildE z _, ?_⟩
                rw [← hW1]; exact h2)
              have k7 := Lib.hid (show ∀ (L : Nat → Bool) w', C L w' → L 7 = false → L 6 = true → L 4 = true → ∃ w'', (Builtin.append_ #[22, 22] 22 #[kv, .slice (some ⟨W0.heap.size, 0, none⟩) 1 1]).run Tryd.prog w' = .ok (.slice (some ⟨g2, 0, none⟩) (ys.length + 1) cap2) w'' ∧ C (addL L 7) w'' by
                rw [hC]; intro L w' h hL h6 h4
                obtain ⟨rfl, h2⟩ := h.app hL h6 h4 (by decide) (by decide)
                exact ⟨_, hrun, h2⟩)
              have k10 := Lib.hid (show ∀ (L : Nat → Bool) w', C L w' → (∃ c, w'.cell? ⟨G, 0, none⟩ = some c) ∧ w'.frozen? ⟨G, 0, none⟩ = false by
                rw [hC]; intro L w' h
                have hx : ∃ u, w'.heap[G]? = some (.cells #[u] 70 (0, 0)) := by
                  rw [h.w]
                  split
                  · exact ⟨_, g3⟩
                  · split
                    · exact ⟨_, gg2⟩
                    · split
                      · exact ⟨_, g1⟩
                      · exact ⟨_, g0⟩
                obtain ⟨u, hx⟩ := hx
                exact ⟨⟨u, by rw [cell_of_row _ G 0 _ _ _ hx]; rfl⟩, by simp [World.frozen?, hx]⟩)
              have s10 := Lib.hid (show ∀ (L : Nat → Bool) w', C L w' → L 10 = false → L 7 = true → C (addL L 10) (w'.setCell ⟨G, 0, none⟩ (.slice (some ⟨g2, 0, none⟩) (ys.length + 1) cap2)) by
                rw [hC]; intro L w' h hL h7
                obtain ⟨rfl, h2⟩ := h.store hL h7
                rw [← hW3]; exact h2)
              have HFIN := Lib.hid (show ∀ w', C (ltL 11) w' → NewSt w w' G (.slice (some ⟨g2, 0, none⟩) (ys.length + 1) cap2) (ys ++ [z]) by
                rw [hC]; intro w' h
                rw [h.fin (by rfl)]; exact ST3.out)
              have huz : Hid ((Tryd.prog.info? 64).map (·.size) = some z.vals.toArray.size) := Lib.hid size_ex
              clear hC hW0 hW1 hW3 g0 g1 gg2 g3 hrun hrow2 hg2 b0 b1 H10
              refine wp_region_vals (C := C) (by kernel_rfl) (by kernel_rfl) hC0 ?_
              dsimp only []
              repeat (first | (refine wpVals_skip (by rfl) (hm _ (by decide)) ?_; (simp only [Act.put, List.setIfInBounds_toArray, List.set_cons_zero, List.set_cons_succ])) | (refine wpVals_move _ (by rfl) (by rfl) (hm _ (by decide)) ?_; (simp only [Act.put, Act.eval, List.getD_toArray, List.getD_cons_zero, List.getD_cons_succ, List.setIfInBounds_toArray, List.set_cons_zero, List.set_cons_succ])) | (refine wpVals_assign _ (by rfl) (by rfl) (hm _ (by decide)) ?_; (simp only [Act.put, Act.eval, List.getD_toArray, List.getD_cons_zero, List.getD_cons_succ, List.setIfInBounds_toArray, List.set_cons_zero, List.set_cons_succ])) | (refine wpVals_loadL _ _ (by rfl) (by rfl) (hm _ (by decide)) ?_ _ (by rfl) (by exact l4.out) ?_; (· intro w; simp); (simp only [Act.put, List.setIfInBounds_toArray, List.set_cons_zero, List.set_cons_succ])) | (refine wpVals_load_aggL Tryd.underlying64 rfl huz.out _ (by rfl) (by rfl) (hm _ (by decide)) _ (by rfl) _ _ a5.out ?_; (simp only [Act.put, List.setIfInBounds_toArray, List.set_cons_zero, List.set_cons_succ])) | (refine wpVals_build 22 _ _ (by rfl) (by rfl) #[(0, .agg z.vals.toArray)] (by kernel_rfl) (fun L w' hC hL hwt => k6.out L w' hC hL (hwt 5 (by kernel_rfl))) ?_; (simp only [Act.put, List.setIfInBounds_toArray, List.set_cons_zero, List.set_cons_succ])) | (refine wpVals_append (.tmp 71) (.tmp 73) _ (by rfl) (by rfl) kv (.slice (some ⟨W0.heap.size, 0, none⟩) 1 1) (by rfl) (by rfl) (fun L w' h hL hwt => k7.out L w' h hL (hwt 6 (by kernel_rfl)) (hwt 4 (by kernel_rfl))) ?_; (simp only [Act.put, List.setIfInBounds_toArray, List.set_cons_zero, List.set_cons_succ])) | (refine wpVals_store 22 _ _ (by rfl) (by rfl) ⟨G, 0, none⟩ (by rfl) (by rfl) (by kernel_rfl) (by rfl) (fun L w' h => k10.out L w' h) (fun L w' h hL hwt => s10.out L w' h hL (hwt 7 (by kernel_rfl))) ?_; (simp only [Act.put])) | (refine wpVals_free (v := ?_) (by rfl) (hm _ (by decide)) (fun _ => ?_) ?_; rotate_left; (first | (go_simp; done) | (go_simp; rfl)); (simp only [Act.put, List.setIfInBounds_toArray, List.set_cons_zero, List.set_cons_succ])))
              refine wpVals_nil ?_
              intro w11 hC11
              have ST11 := Lib.hid (HFIN.out _ hC11)
              clear hC11 hC0 hm l4 a5 k6 k7 k10 s10 HFIN
              go_wp2
              go_roundw
              case rel => exact ⟨k + 1, _, _, by omega, by go_num, ST11.out, by rw [HFT.out, ← HYS.out]; simp [exs, HZX.out]⟩
              case measure => simp [intOf]; omega
          · obtain rfl : k = l.length := by omega
            rw [List.take_length] at HYS
            go_wp2
            go_ret2
            refine ⟨HB.out, .inr ⟨G, ys, by rw [E.out, HYS.out], rfl, ST.out.plan ?_, ST.out.lo⟩⟩
            have h1 := congrArg List.length HYS.out
            have h2 := List.length_filter_le (fun x => sameOld x m.x) (exs l)
            rw [exs_len] at h1 h2
            have h3 := HE.out.len
            omega
end Go.Proofs.YtagelhbknbpfhaaDoor

/-
  NetCopies: the walk.
-/
import Derived.Test.YthegooaeehblhaaDoorRNetEq
import Derived.Test.YthegooaeehblhaaDoorRQuietB
namespace Go.Proofs.YthegooaeehblhaaDoorR
open Go.RowKit Go.BigFrame
set_option maxHeartbeats 1000000
set_option maxRecDepth 100000
theorem wpList_buildSlice {P : Program} {ops : Array Oper} {rest : List Oper} {o : Oper} {a : Act} {w : World} {Q : Exit → Act → World → Prop} (hgd : o.guard = none) (t : TypeId) (len : Nat) (parts : Array (Nat × Operand)) (ho : o.op = .buildSlice t len parts) (ps : Array (Nat × Value)) (hp : (parts.map fun (i, x) => (i, a.eval x)) = ps)
    (v : Value) (w' : World) (hr : (Instr.buildSlice t len ps).run P w = .ok v w') (h : wpList P ops Q rest (a.put o.dst v) w') : wpList P ops Q (o :: rest) a w :=
  wpList_plain hgd fun K hK => by
    unfold Oper.wp execOp
    simp only [ho, hp, Sem.run_bind, hr, Result.andThen_ok, Sem.run_pure]
    exact hK _ _ h
theorem copies_walk (n at_ : Int) (l : List NAct) (v : Value) (a : Option Addr) (c b o : Nat) (w : World) (hT : TabOk w) (hA : NActsAt w v l a c b o) :
    Calls Tryd.prog 6 #[.int .i64 n, v, .int .i64 at_] w fun e w' => e = .returned (.bool true) ∧ Below w.heap.size w w' := by
  obtain rfl := hA.v
  have hz := zero_dg
  have hua : Hid ((Tryd.prog.info? 37).map (·.size) = some (9 : Nat)) := Lib.hid size_nact
  have hu : Hid ((Tryd.prog.info? 35).map (·.size) = some (4 : Nat)) := Lib.hid size_dg
  have HT := Lib.hid hT
  have HW := Lib.hid (awake_any w hT)
  have HS := Lib.hid hA
  clear hT hA
  go_enter Tryd.func6, Tryd.ntmps6
  go_wp2_with fail
  refine HW.out.mono ?_
  rintro e w1 ⟨rfl, hb⟩
  have HB := Lib.hid hb
  clear hb
  go_wp2_with fail
  refine (few_any l _ a c b o w1 (HS.out.below rfl HB.out)).mono ?_
  rintro e w2 ⟨r, rfl, rfl, hr⟩
  cases r with
  | false =>
    clear hr
    go_wp2_with fail
    go_ret
    exact ⟨rfl, HB.out⟩
  | true =>
  have h4 : (l.length : Int) ≤ 400 := by have := hr rfl; omega
  clear hr
  go_wp2_with fail
  refine (Nk.make (w0 := w) HT.out HB.out n).mono ?_
  rintro e w2 ⟨g, rfl, hL⟩
  have L0 := Lib.hid (show Cp w w2 g (newN n) (.pointer none) (.slice none 0 0) false by
    obtain ⟨rb, ha⟩ := hL.at_
    exact ⟨hL.tab, hL.bel, hL.wf, hL.lo, rb, ha, .inl ⟨rfl, rfl⟩⟩)
  clear hL
  go_wp2_with fail
  go_loopw [8, 9, 10, 11] (fun cv kv lk i wr => ∃ (k : Nat) (t : Nt) (f : Bool), k ≤ l.length ∧ i = .int .i64 k ∧ lk = .bool f ∧ Cp w wr g t cv kv f ∧ (cv = .pointer none ∨ at_ < k)) (fun _ _ _ i _ => l.length - (intOf i).toNat)
  case atStart => exact ⟨0, _, false, Nat.zero_le _, rfl, rfl, L0.out, .inl rfl⟩
  case round =>
    obtain ⟨k, t, f, hk, rfl, rfl, hL, hcv⟩ := hrel
    have L1 := Lib.hid hL
    have HCV := Lib.hid hcv
    clear hL hcv
    by_cases hlt : k < l.length
    · have hkl' : (k : Int) < (l.length : Int) := by omega
      obtain ⟨rfl, _⟩ := HS.out.a (by omega)
      obtain ⟨x, hx⟩ : ∃ x, l[k] = x := ⟨_, rfl⟩
      have hok := HS.out.ok _ (List.getElem_mem hlt)
      rw [hx] at hok
      have HOK := Lib.hid hok
      have HX := Lib.hid (show ∀ w', Below w.heap.size w w' → w'.rangeAt b (o + k * 9) x.vals from fun w' hb => by rw [← hx]; exact (HS.out.below rfl hb).x k hlt)
      clear hx hok
      by_cases hat : (k : Int) = at_
      · have e1 : ((k : Int) == at_) = true := beq_iff_eq.2 hat
        have hnil : u8 = .pointer none := HCV.out.resolve_right (by omega)
        obtain ⟨rb, hn, hk0⟩ := L1.out.st
        have hkv : u9 = .slice none 0 0 := by
          rcases hk0 with h | ⟨g2, t2, rb2, h⟩
          · exact h.2
          · rw [h.cv] at hnil; cases hnil
        subst hnil hkv
        have HN := Lib.hid hn
        have WFT := Lib.hid L1.out.wf
        have HAT := Lib.hid hat
        clear hk0 hn hat
        go_wp2_with fail
        refine (copy_any HN.out WFT.out).mono ?_
        rintro e w3 ⟨g2, rb2, rfl, hc2, hb3, hlo⟩
        have HC2 := Lib.hid hc2
        have HB3 := Lib.hid hb3
        have HLO := Lib.hid hlo
        have HN3 := Lib.hid (HN.out.below hb3)
        clear hc2 hb3 hlo
        go_wp2_with fail
        refine (linked_any HN3.out WFT.out 0 1).mono ?_
        rintro e w4 ⟨rfl, rfl⟩
        have hlen : (t.l.length : Int) ≤ 4096 := by have := WFT.out.l; omega
        go_wp2_with fail
        go_loopw [9, 12] (fun kv i wi => ∃ (k2 : Nat), k2 ≤ t.l.length ∧ i = .int .i64 k2 ∧ Below w3.heap.size w3 wi ∧ wi.ownsRow w3.heap.size 35 4 kv k2 (rowOf Dg.vals (t.l.take k2))) (fun _ i _ => t.l.length - (intOf i).toNat)
        case atStart => exact ⟨0, Nat.zero_le _, rfl, Below.refl _ _, World.ownsRow_nil _ _ _ _⟩
        case round =>
          obtain ⟨k2, hk2, rfl, hb, hown⟩ := hrel
          have HBI := Lib.hid hb
          have OWN := Lib.hid hown
          have HNI := Lib.hid (HN3.out.below hb)
          clear hb hown
          by_cases hlt2 : k2 < t.l.length
          · have hkk : (k2 : Int) < (t.l.length : Int) := by omega
            go_wp2_with fail
            refine (len_any HNI.out WFT.out).mono ?_
            rintro e w5 ⟨rfl, rfl⟩
            obtain ⟨d, hd⟩ : ∃ d, t.l[k2] = d := ⟨_, rfl⟩
            have E := Lib.hid (show atN t k2 = (d, true) by
              unfold atN thereN
              rw [decide_eq_true (show (0 : Int) ≤ (k2 : Int) by omega), decide_eq_true hkk]
              simp [hlt2, hd])
            have HT1 := Lib.hid (show t.l.take (k2 + 1) = t.l.take k2 ++ [d] by rw [← hd]; exact (List.take_append_getElem hlt2).symm)
            have HLT := Lib.hid (show (t.l.take k2).length = k2 by rw [List.length_take]; omega)
            have HL4 := Lib.hid (show k2 < 4096 by have := WFT.out.l; omega)
            clear hd
            go_wp2_with fail
            refine (at_any HNI.out WFT.out k2).mono ?_
            rintro e w6 ⟨rfl, hb6⟩
            unfold atV
            rw [E.out]
            obtain ⟨D, hD⟩ : ∃ D, w6.heap.size = D := ⟨_, rfl⟩
            go_upto_region 19 with (guard_target = wpList _ _ _ (Oper.mk none (Op.store _ _ _) _ _ _ none :: _) _ _; refine wpList_store_row rfl 35 _ _ rfl D (by rfl) d.vals.toArray (by rfl) Dg.zero.vals.toArray 35 (by rw [← hD]; exact heap_alloc_new _ _) rfl hu.out d.oneA ?_; intro w7 hw7 hg7)
            have hb7 := bthen' hb6 (bel_new (hD ▸ hg7))
            have DB := Lib.hid (show w7.heap[D]? = some (.cells d.vals.toArray 35 (0, 0)) from hw7)
            obtain ⟨v', w8, hrun, hown8, hg8, hat8⟩ := kept_run w7 w3.heap.size u9 (t.l.take k2) d (row_same (by rw [HLT.out]; exact OWN.out) (fun k e => hb7.block k (OWN.out.lt k e).2)) (Nat.le_trans HBI.out.size hb7.size) (by rw [HLT.out]; exact HL4.out)
            rw [HLT.out, ← HT1.out] at hown8
            have hB1 := bel_box w7 d.vals.toArray 35
            have HB8 := Lib.hid (show Below w3.heap.size w3 w8 from
              ⟨hg8.os.trans (hB1.os.trans (hb7.os.trans HBI.out.os)), hg8.tape.trans (hB1.tape.trans (hb7.tape.trans HBI.out.tape)), hg8.output.trans (hB1.output.trans (hb7.output.trans HBI.out.output)), Nat.le_trans (Nat.le_trans HBI.out.size hb7.size) (Nat.le_trans hB1.size hg8.size), fun q hq => by
                have q1 := Nat.lt_of_lt_of_le hq HBI.out.size
                have q2 := Nat.lt_of_lt_of_le q1 hb7.size
                rw [hg8.block q (Nat.lt_of_lt_of_le q2 hB1.size) (fun e => by have := (OWN.out.lt q e.symm).1; omega), hB1.block q q2, hb7.block q q1, HBI.out.block q hq]⟩)
            have HR := Lib.hid hrun
            have OWN8 := Lib.hid hown8
            clear hrun hown8 hg8 hat8 hB1 hb7 hb6 hw7 hg7 hD
            go_wp2_with (first
              | (guard_target = wpList _ _ _ (Oper.mk _ (Op.load 35 _) _ _ _ none :: _) _ _; refine wpList_load_row rfl 35 _ rfl D (by rfl) 35 d.vals.toArray (0, 0) _ DB.out Tryd.underlying35 rfl hu.out ?_; simp only [Act.put, List.setIfInBounds_toArray, List.set_cons_zero, List.set_cons_succ])
              | (guard_target = wpList _ _ _ (Oper.mk _ (Op.buildSlice _ _ _) _ _ _ none :: _) _ _; refine wpList_buildSlice rfl 48 1 _ rfl #[(0, .agg d.vals.toArray)] (by kernel_rfl) _ _ (run_buildD d w7) ?_; simp only [Act.put, List.setIfInBounds_toArray, List.set_cons_zero, List.set_cons_succ])
              | (guard_target = wpList _ _ _ (Oper.mk _ (Op.call _) _ _ _ none :: _) _ _; refine Lib.wpList_append_run _ rfl _ _ _ _ rfl _ _ rfl rfl _ _ HR.out ?_; simp only [Act.put, List.setIfInBounds_toArray, List.set_cons_zero, List.set_cons_succ]))

            exact ⟨⟨k2 + 1, by omega, by go_num, HB8.out, OWN8.out⟩, by simp [intOf]; omega⟩
          · obtain rfl : k2 = t.l.length := by omega
            rw [List.take_length] at OWN
            go_wp2_with fail
            refine (len_any HNI.out WFT.out).mono ?_
            rintro e w5 ⟨rfl, rfl⟩
            have L2 := Lib.hid (show Cp w wr g t (.pointer (some ⟨g2, 0, none⟩)) u9 (linkN t 0 1) from
              ⟨L1.out.tab, bthen' L1.out.bel (bthen' HB3.out HBI.out), L1.out.wf, L1.out.lo, rb, HNI.out, .inr ⟨g2, t, rb2, rfl, WFT.out, (HC2.out.below HBI.out).mono L1.out.bel.size,
                ⟨OWN.out.1, OWN.out.2.imp id fun ⟨b, cap, cur, hv, hb', r⟩ => ⟨b, cap, cur, hv, Nat.le_trans (Nat.le_trans L1.out.bel.size HB3.out.size) hb', r⟩⟩, rfl, by have := HN.out.lt; have := HLO.out; omega,
                fun k e e2 => by have h1 := (HC2.out.rlt e).1; have h2 := (HN.out.rlt e2).2; omega,
                fun k e e2 => by have h1 := (OWN.out.lt k e).1; have h2 := (HN.out.rlt e2).2; have h3 := HB3.out.size; omega⟩⟩)
            have HCV2 := Lib.hid (show Value.pointer (some ⟨g2, 0, none⟩) = .pointer none ∨ at_ < ((k + 1 : Nat) : Int) from .inr (by have := HAT.out; omega))
            have HXV := Lib.hid (HX.out _ L2.out.bel)
            go_wp2_with (guard_target = wpList _ _ _ (Oper.mk _ (Op.load 37 _) _ _ _ none :: _) _ _; refine wpList_load_mid rfl 37 _ rfl b (o + k * 9) (by rfl) x.vals _ HXV.out Tryd.underlying37 rfl hua.out ?_; simp only [Act.put, List.setIfInBounds_toArray, List.set_cons_zero, List.set_cons_succ])
            refine (L2.out.act x HOK.out.1 HOK.out.2).mono ?_
            rintro e w9 ⟨rfl, hL⟩
            have L9 := Lib.hid hL
            clear hL
            go_wp2
            exact ⟨⟨k + 1, _, _, by omega, by go_num, rfl, L9.out, HCV2.out⟩, by simp [intOf]; omega⟩
      · have e1 : ((k : Int) == at_) = false := beq_eq_false_iff_ne.2 hat
        have HCV2 := Lib.hid (show u8 = .pointer none ∨ at_ < ((k + 1 : Nat) : Int) from HCV.out.imp id (fun h => by omega))
        have L2 := L1
        clear hat
        have HXV := Lib.hid (HX.out _ L2.out.bel)
        go_wp2_with (guard_target = wpList _ _ _ (Oper.mk _ (Op.load 37 _) _ _ _ none :: _) _ _; refine wpList_load_mid rfl 37 _ rfl b (o + k * 9) (by rfl) x.vals _ HXV.out Tryd.underlying37 rfl hua.out ?_; simp only [Act.put, List.setIfInBounds_toArray, List.set_cons_zero, List.set_cons_succ])
        refine (L2.out.act x HOK.out.1 HOK.out.2).mono ?_
        rintro e w9 ⟨rfl, hL⟩
        have L9 := Lib.hid hL
        clear hL
        go_wp2
        exact ⟨⟨k + 1, _, _, by omega, by go_num, rfl, L9.out, HCV2.out⟩, by simp [intOf]; omega⟩
    · obtain rfl : k = l.length := by omega
      obtain ⟨rb, hn, hk0⟩ := L1.out.st
      rcases hk0 with ⟨h1, h2⟩ | ⟨g2, t2, rb2, hk2⟩
      · subst h1 h2
        clear hn
        go_wp2
        go_ret
        exact ⟨rfl, L1.out.bel⟩
      · have KP := Lib.hid hk2
        obtain rfl := hk2.cv
        obtain rfl := hk2.lk
        clear hk2 hn
        obtain ⟨a2, n2, c2, hkv, hn2⟩ : ∃ a2 n2 c2, u9 = .slice a2 n2 c2 ∧ n2 = t2.l.length := by
          rcases KP.out.row.2 with ⟨e, e0⟩ | ⟨b2, cap, cur, e, _⟩
          · exact ⟨_, _, _, e, e0.symm⟩
          · exact ⟨_, _, _, e, rfl⟩
        subst hkv hn2
        have hlen2 : (t2.l.length : Int) ≤ 4096 := by have := KP.out.wf.l; omega
        go_wp2_with fail
        refine (len_any KP.out.at_ KP.out.wf).mono ?_
        rintro e w5 ⟨rfl, rfl⟩
        go_wp2_with fail
        refine (linked_any KP.out.at_ KP.out.wf 0 1).mono ?_
        rintro e w5 ⟨rfl, rfl⟩
        go_wp2_with fail
        obtain ⟨V, rfl⟩ : ∃ V, V = wr := ⟨_, rfl⟩
        go_loopw [15, 16, 17] (fun i _ _ wi => ∃ (k3 : Nat), k3 ≤ t2.l.length ∧ i = .int .i64 k3 ∧ Below V.heap.size V wi) (fun i _ _ _ => t2.l.length - (intOf i).toNat)
        case atStart => exact ⟨0, Nat.zero_le _, rfl, Below.refl _ _⟩
        case round =>
          obtain ⟨k3, hk3, rfl, hb⟩ := hrel
          have HB3 := Lib.hid hb
          clear hb
          by_cases hlt3 : k3 < t2.l.length
          · have hkk : (k3 : Int) < (t2.l.length : Int) := by omega
            obtain ⟨d, hd⟩ : ∃ d, t2.l[k3] = d := ⟨_, rfl⟩
            have E := Lib.hid (show atN t2 k3 = (d, true) by
              unfold atN thereN
              rw [decide_eq_true (show (0 : Int) ≤ (k3 : Int) by omega), decide_eq_true hkk]
              simp [hlt3, hd])
            obtain ⟨a', c', b', h5, _⟩ := RowAt.own KP.out.row rfl Dg.len
            obtain ⟨e1, _, e3⟩ := Value.slice.inj h5.v
            subst e3
            obtain ⟨e2, hltb⟩ := h5.a (by omega)
            rw [← e1] at e2
            subst e2
            have MID := Lib.hid (show ∀ w', Below V.heap.size V w' → w'.rangeAt b' (k3 * 4) d.vals from fun w' hb j u hj => by
              have h6 := h5.at_ Dg.len hlt3
              rw [hd, Nat.zero_add] at h6
              rw [hb.cell (p := ⟨b', k3 * 4 + j, none⟩) hltb]
              exact h6 j u hj)
            clear hd h5 e1
            go_wp2_with fail
            refine (at_any (KP.out.at_.below HB3.out) KP.out.wf k3).mono ?_
            rintro e w6 ⟨rfl, hb6⟩
            unfold atV
            rw [E.out]
            obtain ⟨D, hD⟩ : ∃ D, w6.heap.size = D := ⟨_, rfl⟩
            go_upto_region 29 with (guard_target = wpList _ _ _ (Oper.mk none (Op.store _ _ _) _ _ _ none :: _) _ _; refine wpList_store_row rfl 35 _ _ rfl D (by rfl) d.vals.toArray (by rfl) Dg.zero.vals.toArray 35 (by rw [← hD]; exact heap_alloc_new _ _) rfl hu.out d.oneA ?_; intro w7 hw7 hg7)
            have HB7 := Lib.hid (bthen' HB3.out (bthen' hb6 (bel_new (hD ▸ hg7))))
            have DB := Lib.hid (show w7.heap[D]? = some (.cells d.vals.toArray 35 (0, 0)) from hw7)
            clear hw7 hg7 hb6 hD
            obtain ⟨C, hC⟩ : ∃ C : World → Prop, ∀ w', C w' ↔ Below w7.heap.size w7 w' := ⟨_, fun _ => Iff.rfl⟩
            have hC0 : C { w7 with drawn := w7.drawn + 1 } := (hC _).2 (Below.drew (Below.refl _ _))
            have ag := Lib.hid (fun w' (h : C w') => bblock ((hC w').1 h) DB.out)
            have md := Lib.hid (fun w' (h : C w') => MID.out w' (bthen' HB7.out ((hC w').1 h)))
            have hu1 : Hid ((Tryd.prog.info? 35).map (·.size) = some d.vals.toArray.size) := Lib.hid size_dg
            have hu2 : Hid ((Tryd.prog.info? 35).map (·.size) = some d.vals.length) := Lib.hid size_dg
            have HC := Lib.hid hC
            clear hC
            refine wp_region_quiet (C := C) (by kernel_rfl) (by kernel_rfl) hC0 ?_
            dsimp only []
            repeat (first | go_big_quiet_skip | (go_big_quiet_want; first | (refine quiet_load_agg Tryd.underlying35 rfl hu1.out _ (by rfl) _ (by rfl) _ _ ag.out ?_; (simp only [Act.put, List.setIfInBounds_toArray, List.set_cons_zero, List.set_cons_succ]); go_big_quiet_on) | (refine quiet_load_mid (cs := d.vals) Tryd.underlying35 rfl hu2.out _ (by rfl) b' (k3 * 4) (by rfl) md.out ?_; (simp only [Act.put, List.setIfInBounds_toArray, List.set_cons_zero, List.set_cons_succ]); go_big_quiet_on) | (refine quiet_exec (v := .bool false) (fun w => exec_neq_dg (by rfl) _ d (by rfl) (by rfl) w) ?_; (simp only [Act.put, List.setIfInBounds_toArray, List.set_cons_zero, List.set_cons_succ]); go_big_quiet_on) | (go_big_quiet_op; go_big_quiet_on) | (go_big_quiet_op; refine Exists.intro _ ⟨fun _ _ => rfl, ?_⟩; go_big_quiet_on)))
            refine wpQuiet_nil ?_
            intro w8 hC8
            have HB8 := Lib.hid (bthen' HB7.out ((HC.out _).1 hC8))
            clear hC8 hC0 ag md HC
            go_wp2
            go_roundw
            case rel => exact ⟨k3 + 1, by omega, by go_num, HB8.out⟩
            case measure => simp [intOf]; omega
          · obtain rfl : k3 = t2.l.length := by omega
            go_wp2
            go_ret
            exact ⟨rfl, bthen' L1.out.bel HB3.out⟩
end Go.Proofs.YthegooaeehblhaaDoorR

/-
  consortref09: other, Add.
-/
import Derived.Test.YtjokfjdbioeohaaDoorSaid
namespace Go.Proofs.YtjokfjdbioeohaaDoor
open Go.RowKit Go.BigFrame
set_option maxHeartbeats 1000000
set_option maxRecDepth 100000
theorem other_any (m : REar) (v : Value) (p : Int) (w : World) :
    Calls Tryd.prog 53 #[.agg (m.vals v).toArray, .int .i64 p] w fun e w' => e = .returned (.bool (othR m p)) ∧ Below w.heap.size w w' := by
  have HB := Lib.hid (bel_box w (m.vals v).toArray 65)
  unfold othR
  obtain ⟨me, n, timeout, now, all⟩ := m
  unfold REar.vals at HB ⊢
  dsimp only at HB ⊢
  by_cases h0 : 0 ≤ p
  · by_cases h1 : p < n
    · by_cases h2 : p < 64
      · by_cases h3 : p = me
        · have h3' : (p != me) = false := by simp [h3]
          rw [decide_eq_true h0, decide_eq_true h1, decide_eq_true h2, decide_eq_true h3]
          clear h3
          go_enter Tryd.func53, Tryd.ntmps53
          go_wp2
          go_ret
          exact ⟨rfl, HB.out⟩
        · have h3' : (p != me) = true := by simp [h3]
          rw [decide_eq_true h0, decide_eq_true h1, decide_eq_true h2, decide_eq_false h3]
          clear h3
          go_enter Tryd.func53, Tryd.ntmps53
          go_wp2
          go_ret
          exact ⟨rfl, HB.out⟩
      · have h2' : decide (p < 64) = false := decide_eq_false h2
        rw [decide_eq_true h0, decide_eq_true h1, h2']
        go_enter Tryd.func53, Tryd.ntmps53
        go_wp2
        go_ret
        exact ⟨rfl, HB.out⟩
    · have h1' : decide (p < n) = false := decide_eq_false h1
      rw [decide_eq_true h0, h1']
      go_enter Tryd.func53, Tryd.ntmps53
      go_wp2
      go_ret
      exact ⟨rfl, HB.out⟩
  · have h0' : decide (0 ≤ p) = false := decide_eq_false h0
    rw [h0']
    go_enter Tryd.func53, Tryd.ntmps53
    go_wp2
    go_ret
    exact ⟨rfl, HB.out⟩
theorem rear_one (m : REar) {v : Value} (hv : v.oneCell' = true) : ∀ u ∈ (m.vals v).toArray.toList, u.oneCell' = true := by cases v <;> simp_all [REar.vals, Value.oneCell']
def rearZero : Array Value := #[.int .i64 0, .int .i64 0, .int .i64 0, .int .i64 0, .slice none 0 0]
theorem zero_rear (w : World) : (zeroValue 65).run Tryd.prog w = .ok (.agg rearZero) w := by kernel_rfl
theorem ApN.add : ApN 0 3 5 6 8 := by constructor <;> decide
theorem info3 {i : Option (Option Value × Nat × Nat)} {z : Value} {s b : Nat} (h : i = some (some z, s, b)) : i = some (some z, s, b) := h
def RAddPost (m : REar) (x : Sd) (b : Nat) (w : World) (e : Ending) (w' : World) : Prop :=
  ∃ v' a' c' b' o', e = .returned (.agg ((addR m x).vals v').toArray) ∧ RowAt Sd.vals w' v' (addR m x).all a' c' b' o' ∧ (0 < (addR m x).all.length → (b' = b ∧ 0 < m.all.length) ∨ w.heap.size ≤ b') ∧ Below w.heap.size w w'
theorem radd_any (m : REar) (x : Sd) (v : Value) (a : Option Addr) (c b o : Nat) (hl : m.all.length ≤ 1000000) (w : World) (hr : RowAt Sd.vals w v m.all a c b o) :
    Calls Tryd.prog 36 #[.agg (m.vals v).toArray, .agg x.vals.toArray] w (RAddPost m x b w) := by
  obtain ⟨i0, hi, hz0, hz1, hz2⟩ := info_parts info_said
  obtain rfl := hr.v
  obtain ⟨n, hn⟩ : ∃ n, w.heap.size = n := ⟨_, rfl⟩
  have hz := zero_rear
  obtain ⟨W, hW⟩ : ∃ W : World, ((w.alloc (.cells (m.vals (.slice a m.all.length c)).toArray 65)).alloc (.cells x.vals.toArray 73)).alloc (.cells rearZero 65) = W := ⟨_, rfl⟩
  have B0 := Lib.hid (show W.heap[n]? = some (.cells (m.vals (.slice a m.all.length c)).toArray 65 (0, 0)) by
    rw [← hW, heap_alloc_old _ _ (by simp; omega), heap_alloc_old _ _ (by simp; omega), ← hn]; exact heap_alloc_new _ _)
  have B1 := Lib.hid (show W.heap[n + 1]? = some (.cells x.vals.toArray 73 (0, 0)) by
    rw [← hW, heap_alloc_old _ _ (by simp; omega), ← hn]
    have := heap_alloc_new (w.alloc (.cells (m.vals (.slice a m.all.length c)).toArray 65)) (.cells x.vals.toArray 73)
    simpa using this)
  have B2 := Lib.hid (show W.heap[n + 1 + 1]? = some (.cells rearZero 65 (0, 0)) by
    rw [← hW, ← hn]
    have := heap_alloc_new ((w.alloc (.cells (m.vals (.slice a m.all.length c)).toArray 65)).alloc (.cells x.vals.toArray 73)) (.cells rearZero 65)
    simpa using this)
  have BW := Lib.hid (show Below w.heap.size w W by rw [← hW]; exact (((Below.refl _ _).alloc (Nat.le_refl _) _).alloc (by simp) _).alloc (by simp; omega) _)
  have HW := Lib.hid hW
  have HN := Lib.hid hn
  have HR := Lib.hid hr
  have hue : Hid ((Tryd.prog.info? 65).map (·.size) = some (m.vals (.slice a m.all.length c)).toArray.size) := Lib.hid size_rear
  have x1 : W.cell? ⟨n + 1, 0, none⟩ = some (.int .i64 x.p) := by rw [cell_of_row W (n + 1) 0 _ _ _ B1.out]; rfl
  have HO := Lib.hid (other_any m (.slice a m.all.length c) x.p W)
  clear hr hW
  go_enter Tryd.func36, Tryd.ntmps36
  go_upto_region 1 with fail
  rw [HW.out]
  clear hn hz
  go_wp2_with (guard_target = wpList _ _ _ (Oper.mk _ (Op.load _ _) _ _ _ none :: _) _ _; refine wpList_load_row rfl 65 _ rfl n (by rfl) 65 _ (0, 0) _ B0.out Tryd.underlying65 rfl hue.out ?_; simp only [Act.put, List.setIfInBounds_toArray, List.set_cons_zero, List.set_cons_succ])
  refine HO.out.mono ?_
  rintro e w1 ⟨rfl, hb⟩
  have C0 := Lib.hid (bblock hb B0.out)
  have C1 := Lib.hid (bblock hb B1.out)
  have C2 := Lib.hid (bblock hb B2.out)
  have BW1 := Lib.hid (bthen' BW.out hb)
  have NL := Lib.hid (show n + 1 + 1 < w1.heap.size from (Array.getElem?_eq_some_iff.1 C2.out).1)
  clear hb x1 B0 B1 B2 HO
  cases ho : othR m x.p
  · have E := Lib.hid (show addR m x = m by unfold addR; rw [ho]; rfl)
    clear ho
    go_wp2_with (first
      | (guard_target = wpList _ _ _ (Oper.mk _ (Op.load _ _) _ _ _ none :: _) _ _; refine wpList_load_row rfl 65 _ rfl n (by rfl) 65 _ (0, 0) _ C0.out Tryd.underlying65 rfl hue.out ?_; simp only [Act.put, List.setIfInBounds_toArray, List.set_cons_zero, List.set_cons_succ])
      | (guard_target = wpList _ _ _ (Oper.mk none (Op.store _ _ _) _ _ _ none :: _) _ _; refine wpList_store_row rfl 65 _ _ rfl (n + 1 + 1) (by rfl) (m.vals (.slice a m.all.length c)).toArray (by rfl) rearZero 65 C2.out rfl hue.out (rear_one m rfl) ?_; intro w2 hw2 hg2))
    refine bodyPost_ret (results_cell_row rfl _ w2 (n + 1 + 1) 65 _ (0, 0) _ (by rfl) hw2 Tryd.underlying65 rfl hue.out) rfl ?_
    unfold RAddPost
    rw [E.out]
    have hbl : Below w.heap.size w w2 := BW1.out.grown hg2 BW1.out.size (fun k hk => by cases hk; have := HN.out; omega)
    exact ⟨_, a, c, b, o, rfl, HR.out.below rfl hbl, fun h => .inl ⟨rfl, h⟩, hbl⟩
  · have c3 : w1.cell? ⟨n, 3, none⟩ = some (.int .i64 m.now) := by rw [cell_of_row w1 n 3 _ _ _ C0.out]; rfl
    have c11 : w1.cell? ⟨n + 1, 1, none⟩ = some (.int .i64 x.at_) := by rw [cell_of_row w1 (n + 1) 1 _ _ _ C1.out]; rfl
    have f11 : w1.frozen? ⟨n + 1, 1, none⟩ = false := by simp [World.frozen?, C1.out]
    have E := Lib.hid (show addR m x = { m with all := m.all ++ [{ x with at_ := m.now }] } by unfold addR; rw [ho]; rfl)
    clear ho
    obtain ⟨w2, hw2⟩ : ∃ w2, w1.setCell ⟨n + 1, 1, none⟩ (.int .i64 m.now) = w2 := ⟨_, rfl⟩
    have D0 := Lib.hid (show w2.heap[n]? = some (.cells (m.vals (.slice a m.all.length c)).toArray 65 (0, 0)) by rw [← hw2, rowOther _ _ _ (by omega)]; exact C0.out)
    have D1 := Lib.hid (show w2.heap[n + 1]? = some (.cells ({ x with at_ := m.now } : Sd).vals.toArray 73 (0, 0)) by rw [← hw2]; exact rowCell C1.out 1 _)
    have D2 := Lib.hid (show w2.heap[n + 1 + 1]? = some (.cells rearZero 65 (0, 0)) by rw [← hw2, rowOther _ _ _ (by omega)]; exact C2.out)
    have BW2 := Lib.hid (show Below w.heap.size w w2 by rw [← hw2]; exact BW1.out.grown (grown_set (grown_of_below (Below.refl _ _) _) 1 _) BW1.out.size (fun k hk => by cases hk; have := HN.out; omega))
    have HW2 := Lib.hid hw2
    clear hw2
    generalize hx' : ({ x with at_ := m.now } : Sd) = x' at E D1
    have HX' := Lib.hid hx'
    clear hx' C0 C1 C2
    go_upto_region 3 with fail
    rw [HW2.out]
    obtain ⟨C, hC⟩ : ∃ C : MixC, C = Ap2 73 9 w2 (rowOf Sd.vals m.all) m.all.length x'.vals 0 2 3 5 6 8 (fun v w3 w4 => w4 = w3.setCell ⟨n, 4, none⟩ v) := ⟨_, rfl⟩
    have hC0 : C (fun _ => false) (fun _ => undef) { w2 with drawn := w2.drawn + 1 } := by rw [hC]; exact Ap2.first _ _
    have hm : ∀ i, (i ≠ 0 ∧ i ≠ 3 ∧ i ≠ 5 ∧ i ≠ 6 ∧ i ≠ 8) → ∀ L vs w, C L vs w → L i = false → C (addL L i) vs w := by rw [hC]; exact Ap2.more
    have l4 := Lib.hid (show ∀ (L : Nat → Bool) vs w', C L vs w' → L 2 = false → w'.cell? ⟨n, 4, none⟩ = some (.slice a m.all.length c) by
      rw [hC]; intro L vs w' h h2
      rw [cell_of_row w' n 4 _ _ _ (bblock (h.bel (h.early h2)) D0.out)]; rfl)
    have ag := Lib.hid (show ∀ (L : Nat → Bool) vs w', C L vs w' → L 4 = false → w'.heap[n + 1]? = some (.cells x'.vals.toArray 73 (0, 0)) by
      rw [hC]; intro L vs w' h _
      cases h8 : L 8
      · exact bblock (h.bel h8) D1.out
      · obtain ⟨w3, v, hb, _, rfl⟩ := h.fin h8
        rw [rowOther _ _ _ (by omega)]; exact bblock hb D1.out)
    have hua : Hid ((Tryd.prog.info? 73).map (·.size) = some x'.vals.toArray.size) := Lib.hid size_said
    have k0 := Lib.hid (show ∀ (vs : Nat → Value) (L : Nat → Bool) w', C L vs w' → L 0 = false → ∃ v w'', (Instr.buildSlice 63 0 #[]).run Tryd.prog w' = .ok v w'' ∧ C (addL L 0) (updV vs 0 v) w'' by
      rw [hC]; intro vs L w' h h0
      exact ⟨_, _, run_build0 w', h.s0 ApN.add h0⟩)
    have k5 := Lib.hid (show ∀ (vs : Nat → Value) (L : Nat → Bool) w', C L vs w' → L 5 = false → ∃ v w'', (Instr.buildSlice 63 1 #[(0, .agg x'.vals.toArray)]).run Tryd.prog w' = .ok v w'' ∧ C (addL L 5) (updV vs 5 v) w'' by
      rw [hC]; intro vs L w' h h0
      exact ⟨_, _, run_buildS x' w', h.s5 ApN.add h0⟩)
    have k3 := Lib.hid (show ∀ (vs : Nat → Value) (L : Nat → Bool) w', C L vs w' → L 3 = false → L 0 = true → L 2 = true → ∃ v w'', (Builtin.append_ #[63, 63] 63 #[vs 0, .slice a m.all.length c]).run Tryd.prog w' = .ok v w'' ∧ C (addL L 3) (updV vs 3 v) w'' by
      rw [hC]; intro vs L w' h h3 h0 h2
      refine h.s3 ApN.add _ _ i0 _ 64 Tryd.underlying63 hi hz0 hz1 hz2 rfl (by decide) a c (rowOf_length Sd.len _) (fun h => ?_) (rowOf_one (fun x => by simpa using x.oneL) _) (by unfold maxLen; omega) (by omega) h3 h0 h2
      have hr2 := HR.out.below rfl BW2.out
      exact ⟨b, o, (hr2.a h).1, (hr2.a h).2, hr2.r⟩)
    have k6 := Lib.hid (show ∀ (vs : Nat → Value) (L : Nat → Bool) w', C L vs w' → L 6 = false → L 3 = true → L 5 = true → ∃ v w'', (Builtin.append_ #[63, 63] 63 #[vs 3, vs 5]).run Tryd.prog w' = .ok v w'' ∧ C (addL L 6) (updV vs 6 v) w'' by
      rw [hC]; intro vs L w' h h6 h3 h5
      exact h.s6 ApN.add _ _ i0 _ 64 Tryd.underlying63 hi hz0 hz1 hz2 rfl (by decide) rfl (by simpa using x'.oneL) (by unfold maxLen; omega) (by omega) h6 h3 h5)
    have k8 := Lib.hid (show ∀ (vs : Nat → Value) (L : Nat → Bool) w', C L vs w' → L 8 = false → L 6 = true → (vs 6).oneCell' = true ∧ (∃ c, w'.cell? ⟨n, 4, none⟩ = some c) ∧ w'.frozen? ⟨n, 4, none⟩ = false ∧ C (addL L 8) vs (w'.setCell ⟨n, 4, none⟩ (vs 6)) by
      rw [hC]; intro vs L w' h h8 h6
      have hx := bblock (h.bel h8) D0.out
      refine ⟨?_, ⟨_, by rw [cell_of_row w' n 4 _ _ _ hx]; rfl⟩, by simp [World.frozen?, hx], h.s8 ApN.add h8 h6 rfl⟩
      obtain ⟨g, cap, e, _⟩ := (h.r6 h6 h8).form (by omega)
      rw [e]; rfl)
    have HC := Lib.hid (show ∀ vs w', C (ltL 9) vs w' → ∃ w3 v, Below w2.heap.size w2 w3 ∧ w3.ownsRow w2.heap.size 73 9 v (m.all.length + 1) (rowOf Sd.vals m.all ++ x'.vals) ∧ w' = w3.setCell ⟨n, 4, none⟩ v by
      rw [hC]; intro vs w' h
      exact h.fin (by rfl))
    clear hC
    refine wp_region_mix (C := C) (by kernel_rfl) (by kernel_rfl) hC0 ?_
    dsimp only []
    repeat (first | (refine mix_skip (fun _ => by rfl) (hm _ (by decide)) ?_; (simp only [Act.put, Nat.reduceAdd, List.setIfInBounds_toArray, List.set_cons_zero, List.set_cons_succ])) | (refine mix_move _ (by rfl) (fun _ => by rfl) (hm _ (by decide)) (fun _ => by simp only [Act.eval, Array.getD_eq_getD_getElem?, List.getElem?_toArray, List.getElem?_cons_succ, List.getElem?_cons_zero, Option.getD_some] <;> rfl) ?_; (simp only [Act.put, Nat.reduceAdd, List.setIfInBounds_toArray, List.set_cons_zero, List.set_cons_succ])) | (refine mix_load _ _ (by rfl) (fun _ => by rfl) (hm _ (by decide)) ?_ _ (fun _ => by simp only [Act.eval, Array.getD_eq_getD_getElem?, List.getElem?_toArray, List.getElem?_cons_succ, List.getElem?_cons_zero, Option.getD_some] <;> rfl) (by exact l4.out) ?_; (· intro w; simp); (simp only [Act.put, Nat.reduceAdd, List.setIfInBounds_toArray, List.set_cons_zero, List.set_cons_succ])) | (refine mix_load_agg Tryd.underlying73 rfl hua.out _ (by rfl) (fun _ => by rfl) (hm _ (by decide)) _ (fun _ => by simp only [Act.eval, Array.getD_eq_getD_getElem?, List.getElem?_toArray, List.getElem?_cons_succ, List.getElem?_cons_zero, Option.getD_some] <;> rfl) _ _ ag.out ?_; (simp only [Act.put, Nat.reduceAdd, List.setIfInBounds_toArray, List.set_cons_zero, List.set_cons_succ])) | (refine mix_build 63 0 _ (by rfl) (fun _ => by rfl) (fun _ => #[]) (fun _ => by kernel_rfl) (fun vs L w' h hL _ => k0.out vs L w' h hL) ?_; (simp only [Act.put, Nat.reduceAdd, List.setIfInBounds_toArray, List.set_cons_zero, List.set_cons_succ])) | (refine mix_build 63 1 _ (by rfl) (fun _ => by rfl) (fun _ => #[(0, .agg x'.vals.toArray)]) (fun _ => by kernel_rfl) (fun vs L w' h hL _ => k5.out vs L w' h hL) ?_; (simp only [Act.put, Nat.reduceAdd, List.setIfInBounds_toArray, List.set_cons_zero, List.set_cons_succ])) | (refine mix_append (.tmp 12) (.tmp 14) _ (by rfl) (fun _ => by rfl) (fun vs => vs 0) (fun _ => .slice a m.all.length c) (fun _ => by rfl) (fun _ => by rfl) (fun vs L w' h hL hwt => k3.out vs L w' h hL (hwt 0 (by kernel_rfl)) (hwt 2 (by kernel_rfl))) ?_; (simp only [Act.put, Nat.reduceAdd, List.setIfInBounds_toArray, List.set_cons_zero, List.set_cons_succ])) | (refine mix_append (.tmp 15) (.tmp 17) _ (by rfl) (fun _ => by rfl) (fun vs => vs 3) (fun vs => vs 5) (fun _ => by rfl) (fun _ => by rfl) (fun vs L w' h hL hwt => k6.out vs L w' h hL (hwt 3 (by kernel_rfl)) (hwt 5 (by kernel_rfl))) ?_; (simp only [Act.put, Nat.reduceAdd, List.setIfInBounds_toArray, List.set_cons_zero, List.set_cons_succ])) | (refine mix_store _ _ _ (by rfl) (fun _ => by rfl) ⟨n, 4, none⟩ (fun _ => by rfl) (fun vs => vs 6) (fun _ => by rfl) (by kernel_rfl) (fun vs L w' h hL hwt => k8.out vs L w' h hL (hwt 6 (by kernel_rfl))) ?_; (simp only [Act.put, Nat.reduceAdd])) | (refine mix_free (v := ?_) (fun _ => by rfl) (hm _ (by decide)) (fun _ _ => ?_) ?_; rotate_left; (first | (go_simp; done) | (go_simp; rfl)); (simp only [Act.put, Nat.reduceAdd, List.setIfInBounds_toArray, List.set_cons_zero, List.set_cons_succ])))
    refine wpMix_nil ?_
    intro vs w5 hC5
    obtain ⟨w3, v, hb, hown, rfl⟩ := HC.out vs w5 hC5
    have BX := Lib.hid (bthen' BW2.out hb)
    have N3 := Lib.hid (show n + 1 + 1 < w3.heap.size from (Array.getElem?_eq_some_iff.1 (bblock hb D2.out)).1)
    obtain ⟨g, cap, rfl, hgb, hgl⟩ := hown.form (by omega)
    have hrow := RowAt.own (f := Sd.vals) (l := m.all ++ [x']) (n := m.all.length + 1) (by rw [rowOf_snoc]; exact hown) (by simp) Sd.len
    obtain ⟨a', c', b', hrow, hbb⟩ := hrow
    have E0 := Lib.hid (show (w3.setCell ⟨n, 4, none⟩ (.slice (some ⟨g, 0, none⟩) (m.all.length + 1) cap)).heap[n]? = some (.cells (m.vals (.slice (some ⟨g, 0, none⟩) (m.all.length + 1) cap)).toArray 65 (0, 0)) by
      rw [rowCell (bblock hb D0.out) 4 _]; rfl)
    have E2 := Lib.hid (show (w3.setCell ⟨n, 4, none⟩ (.slice (some ⟨g, 0, none⟩) (m.all.length + 1) cap)).heap[n + 1 + 1]? = some (.cells rearZero 65 (0, 0)) by
      rw [rowOther _ _ _ (by omega)]; exact bblock hb D2.out)
    have hue2 : Hid ((Tryd.prog.info? 65).map (·.size) = some (m.vals (.slice (some ⟨g, 0, none⟩) (m.all.length + 1) cap)).toArray.size) := Lib.hid size_rear
    have BS := Lib.hid (show Below w.heap.size w (w3.setCell ⟨n, 4, none⟩ (.slice (some ⟨g, 0, none⟩) (m.all.length + 1) cap)) from BX.out.grown (grown_set (grown_of_below (Below.refl _ _) _) 4 _) BX.out.size (fun k hk => by cases hk; have := HN.out; omega))
    have HROW := Lib.hid (show RowAt Sd.vals (w3.setCell ⟨n, 4, none⟩ (.slice (some ⟨g, 0, none⟩) (m.all.length + 1) cap)) _ _ a' c' b' 0 from
      hrow.grown (grown_set (grown_of_below (Below.refl _ _) n) 4 _) (fun h => by have h1 := hbb h; have h2 := BW2.out.size; have h3 : n + 1 + 1 < w2.heap.size := (Array.getElem?_eq_some_iff.1 D2.out).1; omega))
    have HBB := Lib.hid (show 0 < (m.all ++ [x']).length → w.heap.size ≤ b' ∧ n + 1 + 1 < b' from fun h => by have h1 := hbb h; have h2 := BW2.out.size; have h3 : n + 1 + 1 < w2.heap.size := (Array.getElem?_eq_some_iff.1 D2.out).1; omega)
    clear hb hown hrow hbb hC5 l4 ag k0 k3 k5 k6 k8 HC hm hC0
    generalize (w3.setCell ⟨n, 4, none⟩ (.slice (some ⟨g, 0, none⟩) (m.all.length + 1) cap)) = w4 at E0 E2 BS HROW ⊢
    dsimp only
    go_wp2_with (first
      | (guard_target = wpList _ _ _ (Oper.mk _ (Op.load _ _) _ _ _ none :: _) _ _; refine wpList_load_row rfl 65 _ rfl n (by rfl) 65 _ (0, 0) _ E0.out Tryd.underlying65 rfl hue2.out ?_; simp only [Act.put, List.setIfInBounds_toArray, List.set_cons_zero, List.set_cons_succ])
      | (guard_target = wpList _ _ _ (Oper.mk none (Op.store _ _ _) _ _ _ none :: _) _ _; refine wpList_store_row rfl 65 _ _ rfl (n + 1 + 1) (by rfl) (m.vals (.slice (some ⟨g, 0, none⟩) (m.all.length + 1) cap)).toArray (by rfl) rearZero 65 E2.out rfl hue2.out (rear_one m rfl) ?_; intro w5 hw5 hg5))
    refine bodyPost_ret (results_cell_row rfl _ w5 (n + 1 + 1) 65 _ (0, 0) _ (by rfl) hw5 Tryd.underlying65 rfl hue2.out) rfl ?_
    unfold RAddPost
    rw [E.out]
    have hbl : Below w.heap.size w w5 := BS.out.grown hg5 BS.out.size (fun k hk => by cases hk; have := HN.out; omega)
    refine ⟨_, a', c', b', 0, rfl, HROW.out.grown hg5 (fun h => by have := (HBB.out h).2; omega), fun h => .inr (HBB.out h).1, hbl⟩
end Go.Proofs.YtjokfjdbioeohaaDoor

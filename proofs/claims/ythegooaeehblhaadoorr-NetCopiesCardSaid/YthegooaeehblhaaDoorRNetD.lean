/-
  Package net: slices.Delete at datagrams; Drop, Take.
-/
import Derived.Test.YthegooaeehblhaaDoorRNetS
namespace Go.Proofs.YthegooaeehblhaaDoorR
open Go.RowKit Go.BigFrame
set_option maxHeartbeats 1000000
set_option maxRecDepth 100000
/-- The row's cells behind the append. -/
def delC1 (cur : Array Value) (i n : Nat) : Array Value := (cur.toList.take (i * 4) ++ (cur.toList.drop ((i + 1) * 4)).take ((n - (i + 1)) * 4) ++ cur.toList.drop (i * 4 + (n - (i + 1)) * 4)).toArray
/-- .. behind the clearing. -/
def delC2 (cur : Array Value) (i n : Nat) : Array Value := ((delC1 cur i n).toList.take ((n - 1) * 4) ++ Dg.zero.vals ++ (delC1 cur i n).toList.drop ((n - 1) * 4 + 4)).toArray
theorem delC1_size {cur : Array Value} {i n : Nat} (hi : i < n) (hs : n * 4 ≤ cur.size) : (delC1 cur i n).size = cur.size := by
  unfold delC1
  simp
  omega
theorem delC2_size {cur : Array Value} {i n : Nat} (hi : i < n) (hs : n * 4 ≤ cur.size) : (delC2 cur i n).size = cur.size := by
  have := delC1_size hi hs
  have h4 : Dg.zero.vals.length = 4 := rfl
  unfold delC2
  simp [this, h4]
  omega
theorem rowOf_app {α : Type} (f : α → List Value) (l m : List α) : rowOf f (l ++ m) = rowOf f l ++ rowOf f m := by simp [rowOf]
theorem rowOf_take (l : List Dg) (i : Nat) : rowOf Dg.vals (l.take i) = (rowOf Dg.vals l).take (i * 4) := by
  by_cases h : i ≤ l.length
  · conv => rhs; rw [← List.take_append_drop i l, rowOf_app]
    have : (rowOf Dg.vals (l.take i)).length = i * 4 := by rw [rowOf_length Dg.len, List.length_take, Nat.min_eq_left h]
    rw [← this, List.take_left]
  · rw [List.take_of_length_le (by omega), List.take_of_length_le (by rw [rowOf_length Dg.len]; omega)]
theorem rowOf_drop (l : List Dg) (i : Nat) (h : i ≤ l.length) : rowOf Dg.vals (l.drop i) = (rowOf Dg.vals l).drop (i * 4) := by
  conv => rhs; rw [← List.take_append_drop i l, rowOf_app]
  have : (rowOf Dg.vals (l.take i)).length = i * 4 := by rw [rowOf_length Dg.len, List.length_take, Nat.min_eq_left h]
  rw [← this, List.drop_left]
theorem delC2_row {cur : Array Value} {l : List Dg} {i : Nat} (hi : i < l.length) (hs : l.length * 4 ≤ cur.size) (hc : cur.toList.take (l.length * 4) = rowOf Dg.vals l) : (delC2 cur i l.length).toList.take ((l.length - 1) * 4) = rowOf Dg.vals (l.eraseIdx i) := by
  have h1 := delC1_size hi hs
  have e1 : (delC2 cur i l.length).toList.take ((l.length - 1) * 4) = (delC1 cur i l.length).toList.take ((l.length - 1) * 4) := by
    unfold delC2
    rw [List.append_assoc, List.take_append_of_le_length (by simp [h1]; omega), List.take_take, Nat.min_self]
  rw [e1, List.eraseIdx_eq_take_drop_succ, rowOf_app, rowOf_take, rowOf_drop _ _ (by omega), ← hc]
  unfold delC1
  have a1 : (cur.toList.take (i * 4)).length = i * 4 := by simp; omega
  have a2 : ((cur.toList.drop ((i + 1) * 4)).take ((l.length - (i + 1)) * 4)).length = (l.length - (i + 1)) * 4 := by simp; omega
  rw [List.take_append_of_le_length (by rw [List.length_append, a1, a2]; omega), List.take_of_length_le (by rw [List.length_append, a1, a2]; omega), List.take_take, Nat.min_eq_left (by omega)]
  congr 1
  rw [List.drop_take, show l.length * 4 - (i + 1) * 4 = (l.length - (i + 1)) * 4 by omega]
/-- slices.Delete's statement s = append(s[:i], s[j:]...), whatever its order. -/
structure DelC (W : World) (b : Nat) (cur C1 : Array Value) (L : Nat → Bool) (w : World) : Prop where
  gr : W.grownBy w (some b)
  r0 : L 6 = false → w.heap[b]? = some (.cells cur 35 (0, 0))
  r1 : L 6 = true → w.heap[b]? = some (.cells C1 35 (0, 0))
section
variable {W : World} {b : Nat} {cur C1 : Array Value}
theorem DelC.first (h : W.heap[b]? = some (.cells cur 35 (0, 0))) (k : Nat) : DelC W b cur C1 (fun _ => false) { W with drawn := k } :=
  ⟨⟨rfl, rfl, rfl, Nat.le_refl _, fun _ _ _ => rfl⟩, fun _ => h, fun h => by cases h⟩
theorem DelC.more : ∀ i, i ≠ 6 → ∀ L w, DelC W b cur C1 L w → L i = false → DelC W b cur C1 (addL L i) w := by
  intro i hi L w h _
  refine ⟨h.gr, ?_, ?_⟩ <;> simp only [adL_ne (Ne.symm hi)]
  · exact h.r0
  · exact h.r1
theorem DelC.s6 {L : Nat → Bool} {w : World} (h : DelC W b cur C1 L w) (h6 : L 6 = false) : DelC W b cur C1 (addL L 6) (w.setRow b C1) := by
  refine ⟨⟨h.gr.os, h.gr.tape, h.gr.output, ?_, fun k hk hne => ?_⟩, fun e => ?_, fun _ => setRow_heap w b cur C1 _ _ (h.r0 h6)⟩
  · simpa using h.gr.size
  · rw [setRow_other w b k C1 (fun e => hne (by rw [e]))]
    exact h.gr.block k hk hne
  · rw [adL_eq] at e; cases e
end
theorem run_clear1 (w : World) (b k c : Nat) (ty : TypeId) (cur : Array Value) (hg : w.heap[b]? = some (.cells cur 35 (0, 0))) (hk : k + 4 ≤ cur.size) :
    (Builtin.clear_ #[48] ty #[.slice (some ⟨b, k, none⟩) 1 c]).run Tryd.prog w = .ok (.tuple #[]) (w.setRow b (cur.toList.take k ++ Dg.zero.vals ++ cur.toList.drop (k + 4)).toArray) := by
  have hz := zero_dg w
  have hst := run_storeCells_at Tryd.prog b k 35 Dg.zero.vals 0 cur w hg (by rw [show Dg.zero.vals.length = 4 from rfl]; omega) Dg.zero.oneL
  simp only [Nat.add_zero] at hst
  have hzc : (Builtin.zeroCells (Value.agg Dg.zero.vals.toArray).cells 1).toList = Dg.zero.vals := by kernel_rfl
  simp only [Builtin.clear_, List.getElem?_toArray, List.getElem?_cons_zero, Sem.run_bind, run_underlying Tryd.underlying48, Result.andThen_ok, hz, hzc]
  rw [hst]
  rfl
theorem slice_hi (b n cap i : Nat) (h : i ≤ cap) (w : World) : (Instr.sliceAt 48 (.slice (some ⟨b, 0, none⟩) n cap) none (some (.int .i64 i)) none).run Tryd.prog w = .ok (.slice (some ⟨b, 0, none⟩) i cap) w := by
  rw [run_sliceAt_slice w _ _ _ _ _ Tryd.underlying48, run_slice_h w _ _ _ _ Tryd.underlying48 .i64 i (by omega) (by omega)]
  have hs : (sizeOf (Tryd.prog.elem 48)).run Tryd.prog w = .ok 4 w := by kernel_rfl
  rw [hs]
  simp [sliced, Addr.add]
theorem slice_lo (b n cap k : Nat) (h : k ≤ n) (w : World) : (Instr.sliceAt 48 (.slice (some ⟨b, 0, none⟩) n cap) (some (.int .i64 k)) none none).run Tryd.prog w = .ok (.slice (some ⟨b, if cap = k then 0 else k * 4, none⟩) (n - k) (cap - k)) w := by
  rw [run_sliceAt_slice w _ _ _ _ _ Tryd.underlying48, run_slice_l w _ _ _ _ Tryd.underlying48 .i64 k (by omega) (by omega)]
  have hs : (sizeOf (Tryd.prog.elem 48)).run Tryd.prog w = .ok 4 w := by kernel_rfl
  rw [hs]
  simp only [sliced, Result.andThen_ok, Int.toNat_natCast, Option.map_some]
  split
  · simp
  · simp [Addr.add]
    intros
    omega
theorem slice_mid (b n cap k m : Nat) (h : k < m) (h2 : m ≤ cap) (w : World) : (Instr.sliceAt 48 (.slice (some ⟨b, 0, none⟩) n cap) (some (.int .i64 k)) (some (.int .i64 m)) none).run Tryd.prog w = .ok (.slice (some ⟨b, k * 4, none⟩) (m - k) (cap - k)) w := by
  rw [run_sliceAt_slice w _ _ _ _ _ Tryd.underlying48, run_slice_lh w _ _ _ _ Tryd.underlying48 .i64 .i64 k m (by omega) (by omega) (by omega)]
  have hs : (sizeOf (Tryd.prog.elem 48)).run Tryd.prog w = .ok 4 w := by kernel_rfl
  rw [hs]
  have hne : ¬ cap = k := by omega
  simp only [sliced, Result.andThen_ok, Int.toNat_natCast, Option.map_some, if_neg hne]
  simp [Addr.add]
  intros
  omega
theorem wpList_slice {P : Program} {ops : Array Oper} {rest : List Oper} {o : Oper} {a : Act} {w : World} {Q : Exit → Act → World → Prop} {v : Value} (hgd : o.guard = none) (t : TypeId) (x : Operand) (lo hi mx : Option Operand) (ho : o.op = .slice t x lo hi mx) (vx : Value) (vl vh vm : Option Value) (hx : a.eval x = vx) (hl : lo.map a.eval = vl) (hh : hi.map a.eval = vh) (hmx : mx.map a.eval = vm)
    (hr : (Instr.sliceAt t vx vl vh vm).run P w = .ok v w) (h : wpList P ops Q rest (a.put o.dst v) w) : wpList P ops Q (o :: rest) a w :=
  wpList_val hgd (by
    unfold execOp
    simp only [ho, hx, hl, hh, hmx, Sem.run_bind, hr, Result.andThen_ok, Sem.run_pure]) h
theorem delete_any (w : World) (B b cap i : Nat) (l : List Dg) (hown : w.ownsRow B 35 4 (.slice (some ⟨b, 0, none⟩) l.length cap) l.length (rowOf Dg.vals l)) (hi : i < l.length) (hl : l.length ≤ 4096) :
    Calls Tryd.prog 36 #[.slice (some ⟨b, 0, none⟩) l.length cap, .int .i64 i, .int .i64 ((i : Int) + 1)] w fun e w' =>
      e = .returned (.slice (some ⟨b, 0, none⟩) (l.length - 1) cap) ∧ w'.ownsRow B 35 4 (.slice (some ⟨b, 0, none⟩) (l.length - 1) cap) (l.length - 1) (rowOf Dg.vals (l.eraseIdx i)) ∧ w.grownBy w' (some b) := by
  obtain ⟨i0, hinfo, hz0, hz1, hz2⟩ := info_parts info_dg
  obtain ⟨hln, hd⟩ := hown
  rcases hd with ⟨e, _⟩ | ⟨b', cap', cur, hv, hB, hg, hcap, hmax, hs, ht⟩
  · cases e
  obtain ⟨e1, _, e3⟩ := Value.slice.inj hv
  have e1' := Option.some.inj e1
  simp only [Addr.mk.injEq, and_true] at e1'
  subst e1' e3
  have HT := Lib.hid ht
  have HS := Lib.hid (show l.length * 4 ≤ cur.size by omega)
  have HI := Lib.hid hi
  have HB := Lib.hid hB
  have HCS := Lib.hid (show cur.size = cap * 4 from hs)
  have HMX := Lib.hid hmax
  obtain ⟨C, hC⟩ : ∃ C : (Nat → Bool) → World → Prop, C = DelC w b cur (delC1 cur i l.length) := ⟨_, rfl⟩
  have hC0 : C (fun _ => false) { w with drawn := w.drawn + 1 } := by rw [hC]; exact DelC.first hg _
  have hm : ∀ i, i ≠ 6 → ∀ L w, C L w → L i = false → C (addL L i) w := by rw [hC]; exact DelC.more
  have hci : (i : Int) + 1 ≤ (l.length : Int) := by omega
  have hcn : (l.length : Int) ≤ (cap : Int) := by omega
  have hn0 : (l.length : Int) ≤ 4096 := by omega
  have hi0 : (0 : Int) ≤ (i : Int) := by omega
  have hne : ((i : Int) == (i : Int) + 1) = false := beq_eq_false_iff_ne.2 (by omega)
  clear hln hv e1 ht hs hi hB hcap hmax hl
  obtain ⟨n, hn⟩ : ∃ n, l.length = n := ⟨_, rfl⟩
  have HN := Lib.hid hn
  rw [hn] at hci hcn hn0 HT HS HI hC ⊢
  clear hn hg
  have s2 := Lib.hid (slice_hi b n cap i (by omega))
  obtain ⟨o5, ho5, s5⟩ : ∃ o5 : Nat, (0 < n - (i + 1) → o5 = (i + 1) * 4) ∧ Hid (∀ w, (Instr.sliceAt 48 (.slice (some ⟨b, 0, none⟩) n cap) (some (.int .i64 ((i : Int) + 1))) none none).run Tryd.prog w = .ok (.slice (some ⟨b, o5, none⟩) (n - (i + 1)) (cap - (i + 1))) w) :=
    ⟨_, fun h => if_neg (by omega), Lib.hid (slice_lo b n cap (i + 1) (by omega))⟩
  have HO5 := Lib.hid ho5
  clear ho5
  have k6 := Lib.hid (show ∀ (L : Nat → Bool) w', C L w' → L 6 = false → ∃ w'', (Builtin.append_ #[48, 48] 48 #[.slice (some ⟨b, 0, none⟩) i cap, .slice (some ⟨b, o5, none⟩) (n - (i + 1)) (cap - (i + 1))]).run Tryd.prog w' = .ok (.slice (some ⟨b, 0, none⟩) (n - 1) cap) w'' ∧ C (addL L 6) w'' by
    rw [hC]; intro L w' h h6
    have hg := h.r0 h6
    have hin := HI.out
    have hsz := HS.out
    have hln : (((cur.toList.drop ((i + 1) * 4)).take ((n - (i + 1)) * 4))).length = (n - (i + 1)) * i0.size := by rw [hz1]; simp; omega
    have hr := run_append_room (P := Tryd.prog) w' 48 48 35 i0 Tryd.underlying48 hinfo b i cap cur hg ⟨b, o5, none⟩ (n - (i + 1)) (cap - (i + 1)) _ hln (fun j u hj => by
      have hj2 := (List.getElem?_eq_some_iff.1 hj).1
      rw [hln, hz1] at hj2
      rw [HO5.out (by omega)]
      have hadd : (⟨b, (i + 1) * 4, none⟩ : Addr).add j = ⟨b, (i + 1) * 4 + j, none⟩ := by unfold Addr.add; split <;> simp_all
      rw [hadd, cell_of_row w' b _ _ _ _ hg]
      rw [List.getElem?_take, if_pos hj2, List.getElem?_drop] at hj
      simpa using hj) (fun u hu => by
      have hu2 := List.mem_of_mem_take hu
      rw [List.mem_iff_getElem?] at hu
      obtain ⟨j, hj⟩ := hu
      have hj2 := (List.getElem?_eq_some_iff.1 hj).1
      rw [hln, hz1] at hj2
      rw [List.getElem?_take, if_pos hj2, List.getElem?_drop] at hj
      refine rowOf_one (fun x => x.oneL) l u ?_
      rw [← HT.out, List.mem_iff_getElem?]
      exact ⟨(i + 1) * 4 + j, by rw [List.getElem?_take, if_pos (by omega)]; exact hj⟩) (by omega) (by rw [hln, hz1]; omega)
    rw [hln, hz1] at hr
    refine ⟨_, by rw [hr, show i + (n - (i + 1)) = n - 1 by omega]; rfl, h.s6 h6⟩)
  have HC := Lib.hid (show ∀ w', C (ltL 8) w' → w.grownBy w' (some b) ∧ w'.heap[b]? = some (.cells (delC1 cur i n) 35 (0, 0)) by
    rw [hC]; intro w' h
    exact ⟨h.gr, h.r1 (by rfl)⟩)
  clear hC
  go_enter Tryd.func36, Tryd.ntmps36
  go_upto_region 5 with fail
  refine wp_region_vals (C := C) (by kernel_rfl) (by kernel_rfl) hC0 ?_
  dsimp only []
  repeat (first | (refine wpVals_skip (by rfl) (hm _ (by decide)) ?_; (simp only [Act.put, List.setIfInBounds_toArray, List.set_cons_zero, List.set_cons_succ])) | (refine wpVals_move _ (by rfl) (by rfl) (hm _ (by decide)) ?_; (simp only [Act.put, Act.eval, List.getD_toArray, List.getD_cons_zero, List.getD_cons_succ, List.setIfInBounds_toArray, List.set_cons_zero, List.set_cons_succ])) | (refine wpVals_assign _ (by rfl) (by rfl) (hm _ (by decide)) ?_; (simp only [Act.put, Act.eval, List.getD_toArray, List.getD_cons_zero, List.getD_cons_succ, List.setIfInBounds_toArray, List.set_cons_zero, List.set_cons_succ])) | (refine wpVals_slice _ _ _ _ _ (by rfl) (by rfl) (hm _ (by decide)) (.slice (some ⟨b, 0, none⟩) n cap) none (some (.int .i64 i)) none (by rfl) (by rfl) (by rfl) (by rfl) s2.out ?_; (simp only [Act.put, List.setIfInBounds_toArray, List.set_cons_zero, List.set_cons_succ])) | (refine wpVals_slice _ _ _ _ _ (by rfl) (by rfl) (hm _ (by decide)) (.slice (some ⟨b, 0, none⟩) n cap) (some (.int .i64 ((i : Int) + 1))) none none (by rfl) (by rfl) (by rfl) (by rfl) s5.out ?_; (simp only [Act.put, List.setIfInBounds_toArray, List.set_cons_zero, List.set_cons_succ])) | (refine wpVals_append (.tmp 22) (.tmp 25) _ (by rfl) (by rfl) (.slice (some ⟨b, 0, none⟩) i cap) (.slice (some ⟨b, o5, none⟩) (n - (i + 1)) (cap - (i + 1))) (by rfl) (by rfl) (fun L w' h hL _ => k6.out L w' h hL) ?_; (simp only [Act.put, List.setIfInBounds_toArray, List.set_cons_zero, List.set_cons_succ])) | (refine wpVals_free (v := ?_) (by rfl) (hm _ (by decide)) (fun _ => ?_) ?_; rotate_left; (first | (go_simp; done) | (go_simp; rfl)); (simp only [Act.put, List.setIfInBounds_toArray, List.set_cons_zero, List.set_cons_succ])))
  refine wpVals_nil ?_
  intro w5 hC5
  obtain ⟨hg5, hh5⟩ := HC.out w5 hC5
  have G5 := Lib.hid hg5
  have H5 := Lib.hid hh5
  have s6 := Lib.hid (slice_mid b (n - 1) cap (n - 1) n (by have := HI.out; omega) (by omega) w5)
  have k7 := Lib.hid (show (Builtin.clear_ #[48] 0 #[.slice (some ⟨b, (n - 1) * 4, none⟩) 1 (cap - (n - 1))]).run Tryd.prog w5 = .ok (.tuple #[]) (w5.setRow b (delC2 cur i n)) from run_clear1 w5 b ((n - 1) * 4) (cap - (n - 1)) 0 (delC1 cur i n) hh5 (by rw [delC1_size HI.out HS.out]; have := HI.out; have := HS.out; omega))
  have e1 : n - (n - 1) = 1 := by have := HI.out; omega
  rw [e1] at s6
  clear e1 hg5 hh5 hC5 hm hC0 k6 HC s2 s5
  go_wp2_with (first
    | (guard_target = wpList _ _ _ (Oper.mk _ (Op.slice _ _ _ _ _) _ _ _ none :: _) _ _; refine wpList_slice rfl _ _ _ _ _ (by rfl) (.slice (some ⟨b, 0, none⟩) (n - 1) cap) (some (.int .i64 (n - 1 : Nat))) (some (.int .i64 n)) none (by rfl) (by rfl) (by rfl) (by rfl) s6.out ?_; simp only [Act.put, List.setIfInBounds_toArray, List.set_cons_zero, List.set_cons_succ])
    | (guard_target = wpList _ _ _ (Oper.mk none (Op.call _) _ _ _ none :: _) _ _; refine wpList_clear rfl _ _ (by rfl) (.slice (some ⟨b, (n - 1) * 4, none⟩) 1 (cap - (n - 1))) (by rfl) k7.out ?_; simp only [Act.put]))
  go_ret
  have hcs : (delC2 cur i n).size = cur.size := delC2_size HI.out HS.out
  have hrow := setRow_heap w5 b (delC1 cur i n) (delC2 cur i n) _ _ H5.out
  have hrw : (delC2 cur i n).toList.take ((n - 1) * 4) = rowOf Dg.vals (l.eraseIdx i) := by
    have h1 := HI.out
    have h2 := HS.out
    have h3 := HT.out
    rw [← HN.out] at h1 h2 h3 ⊢
    exact delC2_row h1 h2 h3
  refine ⟨rfl, ⟨?_, .inr ⟨b, cap, delC2 cur i n, rfl, HB.out, hrow, by omega, HMX.out, by rw [hcs]; exact HCS.out, hrw⟩⟩, ?_⟩
  · rw [rowOf_length Dg.len, List.length_eraseIdx, HN.out, if_pos HI.out]
  · refine ⟨G5.out.os, G5.out.tape, G5.out.output, by simpa using G5.out.size, fun k hk hne => ?_⟩
    rw [setRow_other w5 b k _ (fun e => hne (by rw [e]))]
    exact G5.out.block k hk hne
def dropN (t : Nt) (i : Int) : Nt := if thereN t i then { t with l := t.l.eraseIdx i.toNat } else t
theorem Nt.Wf.drop {t : Nt} (h : t.Wf) (i : Int) : (dropN t i).Wf := by
  unfold dropN
  split
  · exact ⟨h.n, h.links, Nat.le_trans (List.length_eraseIdx_le ..) h.l, fun x hx => h.d x (List.mem_of_mem_eraseIdx hx)⟩
  · exact h
section
variable {w : World} {B g : Nat} {t : Nt} {rb : Option Nat}
theorem drop_any (h : NetAt w B g t rb) (wf : t.Wf) (i : Int) :
    Calls Tryd.prog 30 #[.pointer (some ⟨g, 0, none⟩), .int .i64 i] w (ActPost w B g rb (dropN t i) (.bool (thereN t i))) := by
  have HW := Lib.hid h
  have HT := Lib.hid (there_any h wf i)
  cases ht : thereN t i
  · have E2 := Lib.hid (show dropN t i = t by unfold dropN; rw [ht]; rfl)
    rw [ht] at HT
    clear ht h wf
    go_enter Tryd.func30, Tryd.ntmps30
    go_wp2_with fail
    refine HT.out.mono ?_
    rintro e w' ⟨rfl, rfl⟩
    go_wp2_with fail
    go_ret
    exact ⟨rb, rfl, by rw [E2.out]; exact HW.out, Chg.of_below (Below.refl _ _) g rb, .inl rfl⟩
  · rw [ht] at HT
    have ht2 := ht
    unfold thereN at ht2
    simp only [Bool.and_eq_true, decide_eq_true_eq] at ht2
    obtain ⟨j, rfl⟩ := Int.eq_ofNat_of_zero_le ht2.1
    have hj : j < t.l.length := by have := ht2.2; omega
    have E2 := Lib.hid (show dropN t j = { t with l := t.l.eraseIdx j } by unfold dropN; rw [ht, Int.toNat_natCast]; rfl)
    obtain ⟨a, c, c65, _, hown, hrb⟩ := h.slice
    obtain ⟨b, hab⟩ : ∃ b, a = some ⟨b, 0, none⟩ := by
      rcases hown.2 with ⟨e, e0⟩ | ⟨b, cap, cur, e, _⟩
      · omega
      · exact ⟨b, (Value.slice.inj e).1⟩
    subst hab
    have hrb2 : rb = some b := hrb.symm
    have HD := Lib.hid (delete_any w B b c j t.l hown hj wf.l)
    have HRB := Lib.hid hrb2
    have HJ := Lib.hid hj
    have hlen : (t.l.length : Int) ≤ 4096 := by have := wf.l; omega
    have hjl : (j : Int) < (t.l.length : Int) := by omega
    clear ht ht2 hj h wf hown hrb hrb2
    go_enter Tryd.func30, Tryd.ntmps30
    go_wp2_with fail
    refine HT.out.mono ?_
    rintro e w' ⟨rfl, rfl⟩
    go_wp2_with fail
    refine HD.out.mono ?_
    rintro e w2 ⟨rfl, ho, hg⟩
    have hput := HW.out.put (Below.refl w.heap.size w) (w2 := w2) (by rw [HRB.out]; exact hg) (u := .slice (some ⟨b, 0, none⟩) (t.l.length - 1) c) (l := t.l.eraseIdx j) (n := t.l.length - 1) (by rw [List.length_eraseIdx, if_pos HJ.out]) ho (.inl (by rw [HRB.out]; rfl))
    have HP := Lib.hid hput
    have hg1 : w2.heap[g]? = w.heap[g]? := by rw [hg.block g HW.out.lt (by rw [← HRB.out]; exact HW.out.gne)]
    have c65' : w2.cell? ⟨g, 65, none⟩ = some (.slice (some ⟨b, 0, none⟩) t.l.length c) := by rw [World.cell?_of_block (w := w) (a := ⟨g, 65, none⟩) hg1]; exact c65
    have f65 : w2.frozen? ⟨g, 65, none⟩ = false := by rw [World.frozen?_of_block (w := w) (a := ⟨g, 65, none⟩) hg1]; exact HW.out.nf 65
    clear hput hg hg1 ho
    go_wp2_with fail
    go_ret
    exact ⟨_, rfl, by rw [E2.out]; exact HP.out.1, HP.out.2.1, HP.out.2.2⟩
theorem Chg.fresh {w w' w'' : World} {g X : Nat} {rb : Option Nat} (h : Chg w w' g rb) (hg : w'.grownBy w'' (some X)) (hX : w.heap.size ≤ X) : Chg w w'' g rb :=
  ⟨hg.os.trans h.os, hg.tape.trans h.tape, hg.output.trans h.output, Nat.le_trans h.size hg.size, fun k hk h1 h2 => by
    rw [hg.block k (Nat.lt_of_lt_of_le hk h.size) (by intro e; have := Option.some.inj e; omega), h.block k hk h1 h2]⟩
/-- Take's answer. -/
def takeO (t : Nt) (i : Int) : Dg × Bool := if thereN t i && linkN t (t.l.getD i.toNat Dg.zero).frm (t.l.getD i.toNat Dg.zero).to_ then (t.l.getD i.toNat Dg.zero, true) else (Dg.zero, false)
def takeV (t : Nt) (i : Int) : Value := .tuple #[.agg (takeO t i).1.vals.toArray, .bool (takeO t i).2]
theorem linkN_drop (t : Nt) (i p q : Int) : linkN (dropN t i) p q = linkN t p q := by
  unfold dropN
  split <;> rfl
theorem take_any (h : NetAt w B g t rb) (wf : t.Wf) (i : Int) :
    Calls Tryd.prog 16 #[.pointer (some ⟨g, 0, none⟩), .int .i64 i] w (ActPost w B g rb (dropN t i) (takeV t i)) := by
  have hz := zero_dg
  obtain ⟨X, hX⟩ : ∃ X, w.heap.size = X := ⟨_, rfl⟩
  obtain ⟨W, hW⟩ : ∃ W : World, w.alloc (.cells Dg.zero.vals.toArray 35) = W := ⟨_, rfl⟩
  have HB := Lib.hid (show Below w.heap.size w W by rw [← hW]; exact bel_box _ _ _)
  have BX := Lib.hid (show W.heap[X]? = some (.cells Dg.zero.vals.toArray 35 (0, 0)) by rw [← hW, ← hX]; exact heap_alloc_new _ _)
  have HW := Lib.hid (h.below HB.out)
  have WF := Lib.hid wf
  have HWW := Lib.hid hW
  have HG := Lib.hid (show g < X ∧ ∀ k, rb = some k → k < X from ⟨by rw [← hX]; exact h.lt, fun k hk => by rw [← hX]; exact (h.rlt hk).2⟩)
  have hu : Hid ((Tryd.prog.info? 35).map (·.size) = some (4 : Nat)) := Lib.hid size_dg
  have HA := Lib.hid (at_any HW.out wf i)
  have HXX := Lib.hid hX
  have H0 := Lib.hid h
  clear hW h wf
  go_enter Tryd.func16, Tryd.ntmps16
  go_upto_region 1 with fail
  rw [HWW.out]
  clear hX
  go_wp2_with fail
  refine HA.out.mono ?_
  rintro e w2 ⟨rfl, hb⟩
  have HB2 := Lib.hid hb
  clear hb
  unfold atV
  cases ht : thereN t i
  · have E := Lib.hid (show atN t i = (Dg.zero, false) by unfold atN; rw [ht]; rfl)
    have E2 := Lib.hid (show dropN t i = t by unfold dropN; rw [ht]; rfl)
    have E3 := Lib.hid (show takeO t i = (Dg.zero, false) by unfold takeO; rw [ht]; rfl)
    rw [E.out]
    clear ht
    have X2 := Lib.hid (bblock HB2.out BX.out)
    have HLT := Lib.hid (show X < w2.heap.size from (Array.getElem?_eq_some_iff.1 X2.out).1)
    go_upto_region 2 with (guard_target = wpList _ _ _ (Oper.mk none (Op.store _ _ _) _ _ _ none :: _) _ _; refine wpList_store_row rfl 35 _ _ rfl w2.heap.size (by rfl) Dg.zero.vals.toArray (by rfl) Dg.zero.vals.toArray 35 (heap_alloc_new _ _) rfl hu.out Dg.zero.oneA ?_; intro w3 hw3 hg3)
    have X3 := Lib.hid (bblock (bel_new hg3) X2.out)
    have HB3 := Lib.hid (bthen' HB.out (bthen' HB2.out (bel_new hg3)))
    clear hw3 hg3
    go_wp2_with (guard_target = wpList _ _ _ (Oper.mk none (Op.store _ _ _) _ _ _ none :: _) _ _; refine wpList_store_row rfl 35 _ _ rfl X (by rfl) Dg.zero.vals.toArray (by rfl) Dg.zero.vals.toArray 35 X3.out rfl hu.out Dg.zero.oneA ?_; intro w9 hw9 hg9)
    refine bodyPost_ret (results_cell_tmp1 rfl _ w9 X 35 _ (0, 0) _ (by rfl) hw9 Tryd.underlying35 rfl hu.out) rfl ?_
    have hbl : Below w.heap.size w w9 := HB3.out.grown hg9 HB3.out.size (fun k hk => by cases hk; have := HXX.out; omega)
    refine ⟨rb, by unfold takeV; rw [E3.out]; rfl, ?_, Chg.of_below hbl g rb, .inl rfl⟩
    rw [E2.out]
    exact H0.out.below hbl
  · have ht2 := ht
    unfold thereN at ht2
    simp only [Bool.and_eq_true, decide_eq_true_eq] at ht2
    obtain ⟨j, rfl⟩ := Int.eq_ofNat_of_zero_le ht2.1
    have hj : j < t.l.length := by have := ht2.2; omega
    have E := Lib.hid (show atN t j = (t.l[j], true) by unfold atN; rw [ht, Int.toNat_natCast]; simp [hj])
    have E3 := Lib.hid (show takeO t j = if linkN t t.l[j].frm t.l[j].to_ then (t.l[j], true) else (Dg.zero, false) by unfold takeO; rw [ht, Int.toNat_natCast]; simp [hj])
    have HTT := Lib.hid ht
    rw [E.out]
    generalize t.l[j] = d at E E3 ⊢
    clear ht ht2 hj E
    have X2 := Lib.hid (bblock HB2.out BX.out)
    have HLT := Lib.hid (show X < w2.heap.size from (Array.getElem?_eq_some_iff.1 X2.out).1)
    go_upto_region 2 with (guard_target = wpList _ _ _ (Oper.mk none (Op.store _ _ _) _ _ _ none :: _) _ _; refine wpList_store_row rfl 35 _ _ rfl w2.heap.size (by rfl) d.vals.toArray (by rfl) Dg.zero.vals.toArray 35 (heap_alloc_new _ _) rfl hu.out d.oneA ?_; intro w3 hw3 hg3)
    have X3 := Lib.hid (bblock (bel_new hg3) X2.out)
    have Y3 := Lib.hid hw3
    have HB3 := Lib.hid (bthen' HB.out (bthen' HB2.out (bel_new hg3)))
    have YL := Lib.hid (show w2.heap.size < w3.heap.size from (Array.getElem?_eq_some_iff.1 hw3).1)
    clear hw3 hg3
    obtain ⟨Y, hY⟩ : ∃ Y, w2.heap.size = Y := ⟨_, rfl⟩
    rw [hY] at Y3 YL HLT ⊢
    clear hY
    have HD := Lib.hid (drop_any (H0.out.below HB3.out) WF.out j)
    rw [HTT.out] at HD
    go_wp2_with fail
    refine HD.out.mono ?_
    rintro e w4 ⟨rb', rfl, hn4, hc4, hm4⟩
    have N4 := Lib.hid hn4
    have C4 := Lib.hid hc4
    have M4 := Lib.hid hm4
    have X4 := Lib.hid (hc4.blk X3.out (Nat.ne_of_gt HG.out.1) (fun e => by have := HG.out.2 _ e.symm; omega))
    have Y4 := Lib.hid (hc4.blk Y3.out (by have := HG.out.1; have := HLT.out; omega) (fun e => by have := HG.out.2 _ e.symm; have := HLT.out; omega))
    have PL := Lib.hid (linked_any hn4 (WF.out.drop j) d.frm d.to_)
    rw [linkN_drop] at PL
    have y0 : w4.cell? ⟨Y, 0, none⟩ = some (.int .i64 d.frm) := by rw [cell_of_row w4 Y 0 _ _ _ Y4.out]; rfl
    have y1 : w4.cell? ⟨Y, 1, none⟩ = some (.int .i64 d.to_) := by rw [cell_of_row w4 Y 1 _ _ _ Y4.out]; rfl
    clear hn4 hc4 hm4
    go_wp2_with fail
    refine PL.out.mono ?_
    rintro e w' ⟨rfl, rfl⟩
    cases hlk : linkN t d.frm d.to_
    · rw [hlk] at E3
      clear hlk
      go_wp2_with (guard_target = wpList _ _ _ (Oper.mk none (Op.store _ _ _) _ _ _ none :: _) _ _; refine wpList_store_row rfl 35 _ _ rfl X (by rfl) Dg.zero.vals.toArray (by rfl) Dg.zero.vals.toArray 35 X4.out rfl hu.out Dg.zero.oneA ?_; intro w9 hw9 hg9)
      refine bodyPost_ret (results_cell_tmp1 rfl _ w9 X 35 _ (0, 0) _ (by rfl) hw9 Tryd.underlying35 rfl hu.out) rfl ?_
      have hxx := HXX.out
      have hn9 : NetAt w9 B g (dropN t j) rb' := N4.out.same hg9.size (hg9.block g N4.out.lt (by intro e; have := Option.some.inj e; have := HG.out.1; omega)) (fun k hk => hg9.block k (N4.out.rlt hk).2 (by
        intro e
        have e2 := Option.some.inj e
        rcases M4.out with e3 | ⟨k', e3, hk'⟩
        · rw [hk] at e3; have := HG.out.2 k e3.symm; omega
        · rw [hk] at e3; have := Option.some.inj e3; have := YL.out; have := HLT.out; omega))
      refine ⟨rb', by unfold takeV; rw [E3.out]; rfl, hn9, (((Chg.of_below HB3.out g rb).trans C4.out (.inl rfl)).fresh hg9 (by omega)), ?_⟩
      rcases M4.out with e3 | ⟨k', e3, hk'⟩
      · exact .inl e3
      · exact .inr ⟨k', e3, Nat.le_trans HB3.out.size hk'⟩
    · rw [hlk] at E3
      clear hlk
      go_wp2_with (first
        | (guard_target = wpList _ _ _ (Oper.mk none (Op.store _ _ _) _ _ _ none :: _) _ _; refine wpList_store_row rfl 35 _ _ rfl X (by rfl) d.vals.toArray (by rfl) Dg.zero.vals.toArray 35 X4.out rfl hu.out d.oneA ?_; intro w9 hw9 hg9)
        | (guard_target = wpList _ _ _ (Oper.mk _ (Op.load 35 _) _ _ _ none :: _) _ _; refine wpList_load_row rfl 35 _ rfl Y (by rfl) 35 d.vals.toArray (0, 0) _ Y4.out Tryd.underlying35 rfl hu.out ?_; simp only [Act.put, List.setIfInBounds_toArray, List.set_cons_zero, List.set_cons_succ]))
      refine bodyPost_ret (results_cell_tmp1 rfl _ w9 X 35 _ (0, 0) _ (by rfl) hw9 Tryd.underlying35 rfl hu.out) rfl ?_
      have hxx := HXX.out
      have hn9 : NetAt w9 B g (dropN t j) rb' := N4.out.same hg9.size (hg9.block g N4.out.lt (by intro e; have := Option.some.inj e; have := HG.out.1; omega)) (fun k hk => hg9.block k (N4.out.rlt hk).2 (by
        intro e
        have e2 := Option.some.inj e
        rcases M4.out with e3 | ⟨k', e3, hk'⟩
        · rw [hk] at e3; have := HG.out.2 k e3.symm; omega
        · rw [hk] at e3; have := Option.some.inj e3; have := YL.out; have := HLT.out; omega))
      refine ⟨rb', by unfold takeV; rw [E3.out]; rfl, hn9, (((Chg.of_below HB3.out g rb).trans C4.out (.inl rfl)).fresh hg9 (by omega)), ?_⟩
      rcases M4.out with e3 | ⟨k', e3, hk'⟩
      · exact .inl e3
      · exact .inr ⟨k', e3, Nat.le_trans HB3.out.size hk'⟩
end
end Go.Proofs.YthegooaeehblhaaDoorR

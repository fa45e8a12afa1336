/-
  PlanMore: the walk.
-/
import Derived.Test.YtagelhbknbpfhaaDoorPlanA
import Derived.Test.YtagelhbknbpfhaaDoorPlanE
import Derived.Test.YtagelhbknbpfhaaDoorPlanS
import Derived.Test.YtagelhbknbpfhaaDoorPlanOne
import Derived.Test.YtagelhbknbpfhaaDoorMoreP
import Derived.Test.YtagelhbknbpfhaaDoorMoreA
namespace Go.Proofs.YtagelhbknbpfhaaDoor
open Go Go.RowKit Go.BigFrame
set_option maxHeartbeats 1000000
set_option maxRecDepth 100000
theorem run_build0x (w : World) : (Instr.buildSlice 22 0 #[]).run Tryd.prog w = .ok (.slice (some ⟨w.heap.size, 0, none⟩) 0 0) (w.alloc (.cells #[] 64)) := by kernel_rfl
theorem run_int1 (p : Int) (w : World) : (Instr.buildSlice 85 1 #[(0, .int .i64 p)]).run Tryd.prog w = .ok (.slice (some ⟨w.heap.size, 0, none⟩) 1 1) (w.alloc (.cells #[.int .i64 p] 3)) := by kernel_rfl
theorem ApN.more : ApN 1 3 5 6 7 := by constructor <;> decide
/-- A set less one, in a region that draws. -/
def LessC (W : World) (p : Int) (L : Nat → Bool) (vs : Nat → Value) (w : World) : Prop := Below W.heap.size W w ∧ (L 4 = true → ∃ g, vs 4 = .slice (some ⟨g, 0, none⟩) 1 1 ∧ w.heap[g]? = some (.cells #[.int .i64 p] 3 (0, 0)))
theorem LessC.more {W : World} {p : Int} : ∀ i, i ≠ 4 → ∀ L vs w, LessC W p L vs w → L i = false → LessC W p (addL L i) vs w :=
  fun i hi L vs w h _ => ⟨h.1, fun e => h.2 (by rw [adL_ne (Ne.symm hi)] at e; exact e)⟩
theorem LessC.step {W w w' : World} {p : Int} {L : Nat → Bool} {vs : Nat → Value} {i : Nat} (h : LessC W p L vs w) (hi : i ≠ 4) (hb : Below w.heap.size w w') : LessC W p (addL L i) vs w' :=
  ⟨bthen' h.1 hb, fun e => by
    obtain ⟨g, h1, h2⟩ := h.2 (by rw [adL_ne (Ne.symm hi)] at e; exact e)
    exact ⟨g, h1, bblock hb h2⟩⟩
section
variable {P : Program} {o : Oper} {ev : Operand → Value} {K : Bool} {k : IntKind} {u v : Int}
theorem exec_neq_int (t t' : TypeId) (x y : Operand) (ho : o.op = .binOp .neq t x y t') (hx : ev x = .int k u) (hy : ev y = .int k v) (hb : (u != v) = K) (w : World) : (execOp ev o).run P w = .ok (.value (.bool K)) w := by
  subst hb
  unfold execOp
  simp only [ho, hx, hy]
  go_simp
theorem exec_lss_int (t t' : TypeId) (x y : Operand) (ho : o.op = .binOp .lss t x y t') (hx : ev x = .int k u) (hy : ev y = .int k v) (hb : decide (u < v) = K) (w : World) : (execOp ev o).run P w = .ok (.value (.bool K)) w := by
  subst hb
  unfold execOp
  simp only [ho, hx, hy]
  go_simp
end
theorem more_walk (me : Int) (l : List XE) (v : Value) (y : XE) (a : Option Addr) (c b o : Nat) (w : World) (hT : TabOk w) (hr : RowAt XE.vals w v l a c b o) (hok : ∀ y ∈ l, y.Ok w) (hcl : ∀ y ∈ l, y.x.cnt.length * 4 ≤ 140737488351232) (hml : l.length ≤ 9223372036854775807)
    (hy : y.Ok w) (hyl : y.x.cnt.length ≤ 9223372036854775807) :
    Calls Tryd.prog 8 #[.int .i64 me, v, .agg y.vals.toArray] w fun e w' => e = .returned (.bool true) ∧ Below w.heap.size w w' := by
  have hv := hr.v
  subst hv
  obtain ⟨n, hn⟩ : ∃ n, w.heap.size = n := ⟨_, rfl⟩
  obtain ⟨W, hW⟩ : ∃ W : World, w.alloc (.cells y.vals.toArray 64) = W := ⟨_, rfl⟩
  have BN := Lib.hid (show W.heap[n]? = some (.cells y.vals.toArray 64 (0, 0)) by rw [← hW, ← hn]; exact heap_alloc_new _ _)
  have B0 := Lib.hid (show Below w.heap.size w W by rw [← hW]; exact bel_box _ _ _)
  have HW := Lib.hid hW
  have HT := Lib.hid hT
  have HR := Lib.hid hr
  have HOKL := Lib.hid hok
  have HCL := Lib.hid hcl
  have HY := Lib.hid hy
  obtain ⟨ya, yc, yb, yo, hyr⟩ := hy.r
  have HYS := Lib.hid hyr.v
  have HAW := Lib.hid (awake_any W (hT.belowS B0.out))
  have hyl' : (y.x.cnt.length : Int) ≤ 9223372036854775807 := by omega
  obtain ⟨q, hq⟩ : ∃ q, y.x.who = q := ⟨_, rfl⟩
  have HQ := Lib.hid hq
  clear hT hr hok hcl hW hy hyr hq
  go_enter Tryd.func8, Tryd.ntmps8
  go_upto_region 1 with fail
  rw [HW.out]
  clear hn
  go_wp2_with fail
  refine HAW.out.mono ?_
  rintro e w1 ⟨rfl, h1⟩
  have B1 := Lib.hid (bthen' B0.out h1)
  have N1 := Lib.hid (bblock h1 BN.out)
  clear h1 HAW BN
  go_wp2_with fail
  refine (few_any w1 _ l a c b o (HR.out.below rfl B1.out) (fun y hy => (HOKL.out y hy).below rfl B1.out) hml).mono ?_
  rintro e w2 ⟨r, rfl, h2, hf1⟩
  have B2 := Lib.hid (bthen' B1.out h2)
  have N2 := Lib.hid (bblock h2 N1.out)
  clear h2 N1
  cases r with
  | false =>
    clear hf1
    go_wp2
    go_ret
    exact ⟨rfl, B2.out⟩
  | true =>
  have hl80 : l.length ≤ 80 := hf1 rfl
  clear hf1
  have c3 : w2.cell? ⟨n, 3, none⟩ = some (.slice ya y.x.cnt.length yc) := by rw [cell_of_row w2 n 3 _ _ _ N2.out, ← HYS.out]; rfl
  by_cases h1000 : 1000 < y.x.cnt.length
  · have h1000' : 1000 < (y.x.cnt.length : Int) := by omega
    go_wp2
    go_ret
    exact ⟨rfl, B2.out⟩
  · have h1000' : (y.x.cnt.length : Int) ≤ 1000 := by omega
    have HYL := Lib.hid (show y.x.cnt.length ≤ 1000 by omega)
    have HL80 := Lib.hid hl80
    clear hl80 h1000 hml hyl
    go_wp2_with fail
    clear h1000' c3 hyl'
    have HE2 := Lib.hid (show ExsAt w2 (.slice a l.length c) l a c b o from ⟨HR.out.below rfl B2.out, fun y hy => (HOKL.out y hy).below rfl B2.out, by have := HL80.out; omega⟩)
    refine (new_any me HE2.out HCL.out).mono ?_
    rintro e w4 ⟨h4, hp⟩
    have B4 := Lib.hid (bthen' B2.out h4)
    have N4 := Lib.hid (bblock h4 N2.out)
    have HE4 := Lib.hid (HE2.out.below rfl h4)
    have HY4 := Lib.hid (HY.out.below rfl B4.out)
    obtain ⟨pv, bv, rfl, hpr⟩ : ∃ pv bv, e = .returned (.tuple #[pv, bv]) ∧ ((newL me (exs l) = none ∧ pv = .pointer none ∧ bv = .bool false) ∨ ∃ g ys, newL me (exs l) = some (exs ys) ∧ pv = .pointer (some ⟨g, 0, none⟩) ∧ bv = .bool true ∧ PlanAt w4 g ys) := by
      rcases hp with ⟨h1, rfl⟩ | ⟨g, ys, h1, rfl, h2, _⟩
      · exact ⟨_, _, rfl, .inl ⟨h1, rfl, rfl⟩⟩
      · exact ⟨_, _, rfl, .inr ⟨g, ys, h1, rfl, rfl, h2⟩⟩
    have HPR := Lib.hid hpr
    clear h4 hp hpr HE2 N2 B1
    go_upto_region 6 with fail
    obtain ⟨C, hC⟩ : ∃ C : MixC, C = MoreC me w4 (rowOf XE.vals l) l.length y.vals (exs l ++ [y.x]) := ⟨_, rfl⟩
    have hC0 : C (fun _ => false) (fun _ => undef) { w4 with drawn := w4.drawn + 1 } := by rw [hC]; exact MoreC.first _ _
    have hm : ∀ i, (i = 0 ∨ i = 2 ∨ i = 4) → ∀ L vs w, C L vs w → L i = false → C (addL L i) vs w := by rw [hC]; exact MoreC.more
    obtain ⟨i0, hi, hz0, hz1, hz2⟩ := info_parts info_ex
    have HI := Lib.hid hi
    have HZ := Lib.hid (show i0.zero = some (.agg exZero.toArray) ∧ i0.size = 6 ∧ i0.bytes = 64 from ⟨hz0, hz1, hz2⟩)
    clear hi hz0 hz1 hz2
    have ag := Lib.hid (show ∀ (L : Nat → Bool) vs w', C L vs w' → L 4 = false → w'.heap[n]? = some (.cells y.vals.toArray 64 (0, 0)) by
      rw [hC]; intro L vs w' h _
      exact bblock h.below N4.out)
    have hua : Hid ((Tryd.prog.info? 64).map (·.size) = some y.vals.toArray.size) := Lib.hid size_ex
    have k1 := Lib.hid (show ∀ (vs : Nat → Value) (L : Nat → Bool) w', C L vs w' → L 1 = false → ∃ v w'', (Instr.buildSlice 22 0 #[]).run Tryd.prog w' = .ok v w'' ∧ C (addL L 1) (updV vs 1 v) w'' by
      rw [hC]; intro vs L w' h h0
      exact ⟨_, _, run_build0x w', h.ahead (by decide) (h.no7 (.inl rfl) h0) (h.ap.s0 ApN.more h0)⟩)
    have k5 := Lib.hid (show ∀ (vs : Nat → Value) (L : Nat → Bool) w', C L vs w' → L 5 = false → ∃ v w'', (Instr.buildSlice 22 1 #[(0, .agg y.vals.toArray)]).run Tryd.prog w' = .ok v w'' ∧ C (addL L 5) (updV vs 5 v) w'' by
      rw [hC]; intro vs L w' h h0
      exact ⟨_, _, run_buildE y w', h.ahead (by decide) (h.no7 (.inr (.inr (.inl rfl))) h0) (h.ap.s5 ApN.more h0)⟩)
    have k3 := Lib.hid (show ∀ (vs : Nat → Value) (L : Nat → Bool) w', C L vs w' → L 3 = false → L 1 = true → L 2 = true → ∃ v w'', (Builtin.append_ #[22, 22] 22 #[vs 1, .slice a l.length c]).run Tryd.prog w' = .ok v w'' ∧ C (addL L 3) (updV vs 3 v) w'' by
      rw [hC]; intro vs L w' h h3 h0 h2
      have hr4 := HE4.out.r
      obtain ⟨v', w2, e1, e2⟩ := h.ap.s3 ApN.more _ _ i0 _ 64 Tryd.underlying22 HI.out HZ.out.1 HZ.out.2.1 HZ.out.2.2 rfl (by decide) a c (rowOf_length XE.len _) (fun h => ⟨b, o, (hr4.a h).1, (hr4.a h).2, hr4.r⟩) (fun u hu => by
        unfold rowOf at hu
        obtain ⟨x, hx, hu⟩ := List.mem_flatMap.1 hu
        exact (HE4.out.ok x hx).one u hu) (by have := HL80.out; unfold maxLen; omega) (by have := HL80.out; omega) h3 h0 h2
      exact ⟨v', w2, e1, h.ahead (by decide) (h.no7 (.inr (.inl rfl)) h3) e2⟩)
    have k6 := Lib.hid (show ∀ (vs : Nat → Value) (L : Nat → Bool) w', C L vs w' → L 6 = false → L 3 = true → L 5 = true → ∃ v w'', (Builtin.append_ #[22, 22] 22 #[vs 3, vs 5]).run Tryd.prog w' = .ok v w'' ∧ C (addL L 6) (updV vs 6 v) w'' by
      rw [hC]; intro vs L w' h h6 h3 h5
      obtain ⟨v', w2, e1, e2⟩ := h.ap.s6 ApN.more _ _ i0 _ 64 Tryd.underlying22 HI.out HZ.out.1 HZ.out.2.1 HZ.out.2.2 rfl (by decide) rfl HY4.out.one (by have := HL80.out; unfold maxLen; omega) (by have := HL80.out; omega) h6 h3 h5
      exact ⟨v', w2, e1, h.ahead (by decide) (h.no7 (.inr (.inr (.inr (.inl rfl)))) h6) e2⟩)
    have k7 := Lib.hid (show ∀ (vs : Nat → Value) (L : Nat → Bool) w', C L vs w' → L 7 = false → L 6 = true → Calls Tryd.prog 11 #[.int .i64 me, vs 6] w' fun e w'' => ∃ v, e = .returned v ∧ C (addL L 7) (updV vs 7 v) w'' by
      rw [hC]; intro vs L w' h h7 h6
      have hrow := h.ap.r6 h6 h7
      have hb := h.below
      have hs : rowOf XE.vals l ++ y.vals = rowOf XE.vals (l ++ [y]) := by rw [rowOf_snoc]
      rw [hs, show l.length + 1 = (l ++ [y]).length by simp] at hrow
      obtain ⟨a', c', b', hr', _⟩ := RowAt.own hrow rfl XE.len
      refine (new_any me (l := l ++ [y]) ⟨hr', fun z hz => ?_, by have := HL80.out; simp; omega⟩ (fun z hz => ?_)).mono ?_
      · rcases List.mem_append.1 hz with h1 | h1
        · exact (HE4.out.ok z h1).below rfl hb
        · obtain rfl := List.mem_singleton.1 h1
          exact HY4.out.below rfl hb
      · rcases List.mem_append.1 hz with h1 | h1
        · exact HCL.out z h1
        · obtain rfl := List.mem_singleton.1 h1
          have := HYL.out; omega
      · rintro e w'' ⟨h1, hp⟩
        have he : exs (l ++ [y]) = exs l ++ [y.x] := by simp [exs]
        rw [he] at hp
        rcases hp with ⟨h2, rfl⟩ | ⟨g, ys, h2, rfl, h3, h4⟩
        · exact ⟨_, rfl, h.call h7 h6 h1 (.inl ⟨h2, rfl⟩)⟩
        · exact ⟨_, rfl, h.call h7 h6 h1 (.inr ⟨g, ys, h2, rfl, h3, Nat.le_trans hb.size h4⟩)⟩)
    have k8 := Lib.hid (show ∀ (vs : Nat → Value) (L : Nat → Bool) w', C L vs w' → L 8 = false → L 7 = true → C (addL L 8) (updV vs 8 (vs 7)) w' by
      rw [hC]; intro vs L w' h h8 h7
      exact h.behind (by decide) h8 (fun _ => ⟨h7, rfl⟩) (fun e => by omega) (fun e => by omega) (fun e => by omega) (fun e => by omega))
    have k9 := Lib.hid (show ∀ (vs : Nat → Value) (L : Nat → Bool) w', C L vs w' → L 9 = false → L 8 = true → (∃ a b, vs 8 = .tuple #[a, b]) ∧ C (addL L 9) (updV vs 9 (nth2 0 (vs 8))) w' by
      rw [hC]; intro vs L w' h h9 h8
      obtain ⟨h7, e8⟩ := h.v8 h8
      rw [e8]
      exact ⟨(h.res h7).two, h.behind (by decide) h9 (fun e => by omega) (fun _ => ⟨h8, rfl⟩) (fun e => by omega) (fun e => by omega) (fun e => by omega)⟩)
    have k10 := Lib.hid (show ∀ (vs : Nat → Value) (L : Nat → Bool) w', C L vs w' → L 10 = false → L 8 = true → (∃ a b, vs 8 = .tuple #[a, b]) ∧ C (addL L 10) (updV vs 10 (nth2 1 (vs 8))) w' by
      rw [hC]; intro vs L w' h h9 h8
      obtain ⟨h7, e8⟩ := h.v8 h8
      rw [e8]
      exact ⟨(h.res h7).two, h.behind (by decide) h9 (fun e => by omega) (fun e => by omega) (fun _ => ⟨h8, rfl⟩) (fun e => by omega) (fun e => by omega)⟩)
    have k11 := Lib.hid (show ∀ (vs : Nat → Value) (L : Nat → Bool) w', C L vs w' → L 11 = false → L 9 = true → C (addL L 11) (updV vs 11 (vs 9)) w' by
      rw [hC]; intro vs L w' h h11 h9
      rw [(h.v9 h9).2]
      exact h.behind (by decide) h11 (fun e => by omega) (fun e => by omega) (fun e => by omega) (fun _ => ⟨h9, rfl⟩) (fun e => by omega))
    have k12 := Lib.hid (show ∀ (vs : Nat → Value) (L : Nat → Bool) w', C L vs w' → L 12 = false → L 10 = true → C (addL L 12) (updV vs 12 (vs 10)) w' by
      rw [hC]; intro vs L w' h h11 h9
      rw [(h.v10 h9).2]
      exact h.behind (by decide) h11 (fun e => by omega) (fun e => by omega) (fun e => by omega) (fun e => by omega) (fun _ => ⟨h9, rfl⟩))
    have HC := Lib.hid (show ∀ vs w', C (ltL 13) vs w' → NewRes me (exs l ++ [y.x]) w4.heap.size (vs 7) w' ∧ Below w4.heap.size w4 w' ∧ vs 11 = nth2 0 (vs 7) ∧ vs 12 = nth2 1 (vs 7) by
      rw [hC]; intro vs w' h
      exact ⟨h.res rfl, h.below, (h.v11 rfl).2, (h.v12 rfl).2⟩)
    clear hC
    refine wp_region_mix (C := C) (by kernel_rfl) (by kernel_rfl) hC0 ?_
    dsimp only []
    repeat (first | (refine mix_skip (fun _ => by rfl) (hm _ (by decide)) ?_; (simp only [Act.put, Nat.reduceAdd, List.setIfInBounds_toArray, List.set_cons_zero, List.set_cons_succ])) | (refine mix_move _ (by rfl) (fun _ => by rfl) (hm _ (by decide)) (fun _ => by simp only [Act.eval, Array.getD_eq_getD_getElem?, List.getElem?_toArray, List.getElem?_cons_succ, List.getElem?_cons_zero, Option.getD_some] <;> rfl) ?_; (simp only [Act.put, Nat.reduceAdd, List.setIfInBounds_toArray, List.set_cons_zero, List.set_cons_succ])) | (refine mix_load_agg Tryd.underlying64 rfl hua.out _ (by rfl) (fun _ => by rfl) (hm _ (by decide)) _ (fun _ => by simp only [Act.eval, Array.getD_eq_getD_getElem?, List.getElem?_toArray, List.getElem?_cons_succ, List.getElem?_cons_zero, Option.getD_some] <;> rfl) _ _ ag.out ?_; (simp only [Act.put, Nat.reduceAdd, List.setIfInBounds_toArray, List.set_cons_zero, List.set_cons_succ])) | (refine mix_build 22 0 _ (by rfl) (fun _ => by rfl) (fun _ => #[]) (fun _ => by kernel_rfl) (fun vs L w' h hL _ => k1.out vs L w' h hL) ?_; (simp only [Act.put, Nat.reduceAdd, List.setIfInBounds_toArray, List.set_cons_zero, List.set_cons_succ])) | (refine mix_build 22 1 _ (by rfl) (fun _ => by rfl) (fun _ => #[(0, .agg y.vals.toArray)]) (fun _ => by kernel_rfl) (fun vs L w' h hL _ => k5.out vs L w' h hL) ?_; (simp only [Act.put, Nat.reduceAdd, List.setIfInBounds_toArray, List.set_cons_zero, List.set_cons_succ])) | (refine mix_append (.tmp 32) (.tmp 33) _ (by rfl) (fun _ => by rfl) (fun vs => vs 1) (fun _ => .slice a l.length c) (fun _ => by rfl) (fun _ => by rfl) (fun vs L w' h hL hwt => k3.out vs L w' h hL (hwt 1 (by kernel_rfl)) (hwt 2 (by kernel_rfl))) ?_; (simp only [Act.put, Nat.reduceAdd, List.setIfInBounds_toArray, List.set_cons_zero, List.set_cons_succ])) | (refine mix_append (.tmp 34) (.tmp 36) _ (by rfl) (fun _ => by rfl) (fun vs => vs 3) (fun vs => vs 5) (fun _ => by rfl) (fun _ => by rfl) (fun vs L w' h hL hwt => k6.out vs L w' h hL (hwt 3 (by kernel_rfl)) (hwt 5 (by kernel_rfl))) ?_; (simp only [Act.put, Nat.reduceAdd, List.setIfInBounds_toArray, List.set_cons_zero, List.set_cons_succ])) | (refine mix_callV 11 _ _ (by rfl) (fun _ => by rfl) Tryd.call11 (fun vs => #[.int .i64 me, vs 6]) (fun _ => by rfl) (fun vs L w' h hL hwt => k7.out vs L w' h hL (hwt 6 (by kernel_rfl))) ?_; (simp only [Act.put, Nat.reduceAdd, List.setIfInBounds_toArray, List.set_cons_zero, List.set_cons_succ])) | (refine mix_moveO (i := 8) (.tmp 38) (by rfl) (fun _ => by rfl) (fun vs => vs 7) (fun _ => by rfl) (fun vs L w' h hL hwt => k8.out vs L w' h hL (hwt 7 (by kernel_rfl))) ?_; (simp only [Act.put, Nat.reduceAdd, List.setIfInBounds_toArray, List.set_cons_zero, List.set_cons_succ])) | (refine mix_extractO (i := 9) (.tmp 30) 0 (by decide) (by rfl) (fun _ => by rfl) (fun vs => vs 8) (fun _ => by rfl) (fun vs L w' h hL hwt => k9.out vs L w' h hL (hwt 8 (by kernel_rfl))) ?_; (simp only [Act.put, Nat.reduceAdd, List.setIfInBounds_toArray, List.set_cons_zero, List.set_cons_succ])) | (refine mix_extractO (i := 10) (.tmp 30) 1 (by decide) (by rfl) (fun _ => by rfl) (fun vs => vs 8) (fun _ => by rfl) (fun vs L w' h hL hwt => k10.out vs L w' h hL (hwt 8 (by kernel_rfl))) ?_; (simp only [Act.put, Nat.reduceAdd, List.setIfInBounds_toArray, List.set_cons_zero, List.set_cons_succ])) | (refine mix_assignL (i := 11) (.tmp 39) (by rfl) (fun _ => by rfl) (fun vs => vs 9) (fun _ => by rfl) (fun vs L w' h hL hwt => k11.out vs L w' h hL (hwt 9 (by kernel_rfl))) ?_; (simp only [Act.put, Nat.reduceAdd, List.setIfInBounds_toArray, List.set_cons_zero, List.set_cons_succ])) | (refine mix_assignL (i := 12) (.tmp 40) (by rfl) (fun _ => by rfl) (fun vs => vs 10) (fun _ => by rfl) (fun vs L w' h hL hwt => k12.out vs L w' h hL (hwt 10 (by kernel_rfl))) ?_; (simp only [Act.put, Nat.reduceAdd, List.setIfInBounds_toArray, List.set_cons_zero, List.set_cons_succ])) | (refine mix_free (v := ?_) (fun _ => by rfl) (hm _ (by decide)) (fun _ _ => ?_) ?_; rotate_left; (first | (go_simp; done) | (go_simp; rfl)); (simp only [Act.put, Nat.reduceAdd, List.setIfInBounds_toArray, List.set_cons_zero, List.set_cons_succ])))
    refine wpMix_nil ?_
    intro vs w5 hC5
    obtain ⟨hres, h5, e11, e12⟩ := HC.out vs w5 hC5
    have B5 := Lib.hid (bthen' B4.out h5)
    have H5 := Lib.hid h5
    have N5 := Lib.hid (bblock h5 N4.out)
    clear hC5 hm hC0 ag k1 k3 k5 k6 k7 k8 k9 k10 k11 k12 HC h5 C HE4 HY4
    dsimp only []
    rcases hres with ⟨_, e7⟩ | ⟨gq, zs, hqs, e7, hqp, _⟩
    · rw [e7] at e11 e12
      have e11' : vs 11 = .pointer none := e11
      have e12' : vs 12 = .bool false := e12
      rw [e11', e12']
      clear e11 e12 e7 e11' e12'
      rcases HPR.out with ⟨_, rfl, rfl⟩ | ⟨g, ys, _, rfl, rfl, _⟩
      · clear HPR
        go_wp2
        go_ret
        exact ⟨rfl, B5.out⟩
      · clear HPR
        go_wp2
        go_ret
        exact ⟨rfl, B5.out⟩
    · rw [e7] at e11 e12
      have e11' : vs 11 = .pointer (some ⟨gq, 0, none⟩) := e11
      have e12' : vs 12 = .bool true := e12
      rw [e11', e12']
      clear e11 e12 e7 e11' e12'
      rcases HPR.out with ⟨_, rfl, rfl⟩ | ⟨gp, ys, hps, rfl, rfl, hpp⟩
      · clear HPR hqs hqp
        go_wp2
        go_ret
        exact ⟨rfl, B5.out⟩
      · obtain ⟨X, hX⟩ : ∃ X, exs ys = X := ⟨_, rfl⟩
        obtain ⟨Y, hY⟩ : ∃ Y, exs zs = Y := ⟨_, rfl⟩
        rw [hX] at hps
        rw [hY] at hqs
        obtain ⟨hmp, hrg, hnx⟩ := more_new hps hqs
        have HMP := Lib.hid hmp
        have HCM := Lib.hid (more_comp hmp hrg hnx)
        have HP := Lib.hid (hpp.below H5.out)
        have HZ2 := Lib.hid hqp
        have HX := Lib.hid hX
        have HYY := Lib.hid hY
        rw [HQ.out] at HCM
        clear HPR hqs hqp hps hpp hmp hrg hnx hX hY
        obtain ⟨SQ, hSQ⟩ : ∃ SQ, compS Y = SQ := ⟨_, rfl⟩
        obtain ⟨SP, hSP⟩ : ∃ SP, compS X = SP := ⟨_, rfl⟩
        obtain ⟨DQ, hDQ⟩ : ∃ DQ, bndL Y = DQ := ⟨_, rfl⟩
        obtain ⟨DP, hDP⟩ : ∃ DP, bndL X = DP := ⟨_, rfl⟩
        obtain ⟨K, hK⟩ : ∃ K, hasN SQ q = K := ⟨_, rfl⟩
        obtain ⟨KC, hKC⟩ : ∃ KC, DQ.cmp DP = KC := ⟨_, rfl⟩
        have HSQL := Lib.hid (show SQ < 18446744073709551616 by rw [← hSQ]; exact compS_lt _)
        rw [hSQ, hSP] at HCM
        have bs := Lib.hid (show ((SP : Int) != (SP : Int)) = false by simp)
        have bk := Lib.hid (show decide (KC < 0) = false from decide_eq_false (by have := more_bnd HMP.out; rw [hDQ, hDP, hKC] at this; omega))
        obtain ⟨Cq, hCq⟩ : ∃ Cq : World → Prop, ∀ w', Cq w' ↔ Below w5.heap.size w5 w' := ⟨_, fun _ => Iff.rfl⟩
        have hC0 : Cq { w5 with drawn := w5.drawn + 1 } := (hCq _).2 (Below.drew (Below.refl _ _))
        have lq := Lib.hid (show ∀ w', Cq w' → w'.cell? ⟨n, 0, none⟩ = some (.int .i64 q) from fun w' h => by rw [cell_of_row w' n 0 _ _ _ (bblock ((hCq w').1 h) N5.out), ← HQ.out]; rfl)
        have k1 := Lib.hid (show ∀ w', Cq w' → Calls Tryd.prog 14 #[.pointer (some ⟨gq, 0, none⟩)] w' fun e w'' => e = .returned (.int .u64 SQ) ∧ Cq w'' from
          fun w' h => (companions_any (HZ2.out.below ((hCq w').1 h))).mono fun e w'' ⟨he, hw⟩ => ⟨by rw [← hSQ, ← HYY.out]; exact he, (hCq w'').2 (bthen' ((hCq w').1 h) hw)⟩)
        have k2 := Lib.hid (show ∀ w', Cq w' → Calls Tryd.prog 28 #[.int .u64 SQ, .int .i64 q] w' fun e w'' => e = .returned (.bool K) ∧ Cq w'' from
          fun w' h => (has_any SQ q HSQL.out w').mono fun e w'' ⟨he, hw⟩ => ⟨by rw [← hK]; exact he, hw ▸ h⟩)
        have HCq := Lib.hid hCq
        have HSQ := Lib.hid hSQ
        have HSP := Lib.hid hSP
        have HDQ := Lib.hid hDQ
        have HDP := Lib.hid hDP
        have HK := Lib.hid hK
        have HKC := Lib.hid hKC
        clear hCq hSQ hSP hDQ hDP hK hKC
        go_upto_region 9 with fail
        refine wp_region_quiet (C := Cq) (by kernel_rfl) (by kernel_rfl) hC0 ?_
        dsimp only []
        repeat (first | go_big_quiet_skip | (go_big_quiet_want; first | (refine quiet_load _ _ (by rfl) ?_ _ (by rfl) (by first | exact lq.out) ?_; (· intro w; simp); (simp only [Act.put, List.setIfInBounds_toArray, List.set_cons_zero, List.set_cons_succ]); go_big_quiet_on) | (refine quiet_call 14 _ _ (by rfl) Tryd.call14 _ ?_ k1.out ?_; (· rfl); (simp only [Act.put, List.setIfInBounds_toArray, List.set_cons_zero, List.set_cons_succ]); go_big_quiet_on) | (refine quiet_call 28 _ _ (by rfl) Tryd.call28 _ ?_ k2.out ?_; (· rfl); (simp only [Act.put, List.setIfInBounds_toArray, List.set_cons_zero, List.set_cons_succ]); go_big_quiet_on) | (go_big_quiet_op; go_big_quiet_on) | (go_big_quiet_op; refine Exists.intro _ ⟨fun _ _ => rfl, ?_⟩; go_big_quiet_on)))
        refine wpQuiet_nil ?_
        intro w6 hC6
        have H6 := Lib.hid ((HCq.out _).1 hC6)
        have HP6 := Lib.hid (HP.out.below H6.out)
        have HZ6 := Lib.hid (HZ2.out.below H6.out)
        have N6 := Lib.hid (bblock H6.out N5.out)
        have B6 := Lib.hid (bthen' B5.out H6.out)
        clear hC6 hC0 lq k1 k2 HCq HZ2 HP N4 N5
        obtain ⟨C, hC⟩ : ∃ C : MixC, C = LessC w6 q := ⟨_, rfl⟩
        have hC0 : C (fun _ => false) (fun _ => undef) { w6 with drawn := w6.drawn + 1 } := by rw [hC]; exact ⟨Below.drew (Below.refl _ _), fun h => by cases h⟩
        have hm : ∀ i, i ≠ 4 → ∀ L vs w, C L vs w → L i = false → C (addL L i) vs w := by rw [hC]; exact LessC.more
        have lq := Lib.hid (show ∀ (L : Nat → Bool) vs w', C L vs w' → L 3 = false → w'.cell? ⟨n, 0, none⟩ = some (.int .i64 q) by
          rw [hC]; intro L vs w' h _
          rw [cell_of_row w' n 0 _ _ _ (bblock h.1 N6.out), ← HQ.out]; rfl)
        have k1 := Lib.hid (show ∀ i, i ≠ 4 → ∀ (vs : Nat → Value) (L : Nat → Bool) w', C L vs w' → Calls Tryd.prog 14 #[.pointer (some ⟨gq, 0, none⟩)] w' fun e w'' => e = .returned (.int .u64 SQ) ∧ C (addL L i) vs w'' by
          rw [hC]; intro i hi vs L w' h
          exact (companions_any (HZ6.out.below h.1)).mono fun e w'' ⟨he, hw⟩ => ⟨by rw [← HSQ.out, ← HYY.out]; exact he, h.step hi hw⟩)
        have k2 := Lib.hid (show ∀ i, i ≠ 4 → ∀ (vs : Nat → Value) (L : Nat → Bool) w', C L vs w' → Calls Tryd.prog 14 #[.pointer (some ⟨gp, 0, none⟩)] w' fun e w'' => e = .returned (.int .u64 SP) ∧ C (addL L i) vs w'' by
          rw [hC]; intro i hi vs L w' h
          exact (companions_any (HP6.out.below h.1)).mono fun e w'' ⟨he, hw⟩ => ⟨by rw [← HSP.out, ← HX.out]; exact he, h.step hi hw⟩)
        have k3 := Lib.hid (show ∀ (vs : Nat → Value) (L : Nat → Bool) w', C L vs w' → L 4 = false → ∃ v w'', (Instr.buildSlice 85 1 #[(0, .int .i64 q)]).run Tryd.prog w' = .ok v w'' ∧ C (addL L 4) (updV vs 4 v) w'' by
          rw [hC]; intro vs L w' h h0
          exact ⟨_, _, run_int1 q w', h.1.alloc h.1.size _, fun _ => ⟨_, updV_eq _ _ _, heap_alloc_new _ _⟩⟩)
        have k4 := Lib.hid (show ∀ (vs : Nat → Value) (L : Nat → Bool) w', C L vs w' → L 4 = true → Calls Tryd.prog 31 #[.int .u64 SQ, vs 4] w' fun e w'' => e = .returned (.int .u64 SP) ∧ C (addL L 5) vs w'' by
          rw [hC]; intro vs L w' h h4
          obtain ⟨g, e4, hg⟩ := h.2 h4
          rw [e4]
          refine (less_one SQ g 1 q HSQL.out w' (by rw [cell_of_row w' g 0 _ _ _ hg]; rfl)).mono fun e w'' ⟨he, hw⟩ => ⟨by rw [← HCM.out]; exact he, ?_⟩
          subst hw
          exact h.step (by decide) (Below.refl _ _))
        have k5 := Lib.hid (show ∀ i, i ≠ 4 → ∀ (vs : Nat → Value) (L : Nat → Bool) w', C L vs w' → Calls Tryd.prog 20 #[.pointer (some ⟨gq, 0, none⟩)] w' fun e w'' => e = .returned (.agg DQ.vals.toArray) ∧ C (addL L i) vs w'' by
          rw [hC]; intro i hi vs L w' h
          exact (boundary_any (HZ6.out.below h.1)).mono fun e w'' ⟨he, hw⟩ => ⟨by rw [← HDQ.out, ← HYY.out]; exact he, h.step hi hw⟩)
        have k6 := Lib.hid (show ∀ i, i ≠ 4 → ∀ (vs : Nat → Value) (L : Nat → Bool) w', C L vs w' → Calls Tryd.prog 20 #[.pointer (some ⟨gp, 0, none⟩)] w' fun e w'' => e = .returned (.agg DP.vals.toArray) ∧ C (addL L i) vs w'' by
          rw [hC]; intro i hi vs L w' h
          exact (boundary_any (HP6.out.below h.1)).mono fun e w'' ⟨he, hw⟩ => ⟨by rw [← HDP.out, ← HX.out]; exact he, h.step hi hw⟩)
        have k7 := Lib.hid (show ∀ i, i ≠ 4 → ∀ (vs : Nat → Value) (L : Nat → Bool) w', C L vs w' → Calls Tryd.prog 30 #[.agg DQ.vals.toArray, .agg DP.vals.toArray] w' fun e w'' => e = .returned (.int .i64 KC) ∧ C (addL L i) vs w'' by
          rw [hC]; intro i hi vs L w' h
          exact (compare_any DQ DP w').mono fun e w'' ⟨he, hw⟩ => ⟨by rw [← HKC.out]; exact he, h.step hi hw⟩)
        have HC := Lib.hid (show ∀ vs w', C (ltL 17) vs w' → Below w6.heap.size w6 w' by
          rw [hC]; intro vs w' h
          exact h.1)
        clear hC
        go_upto_region 10 with fail
        refine wp_region_mix (C := C) (by kernel_rfl) (by kernel_rfl) hC0 ?_
        dsimp only []
        repeat (first | (refine mix_skip (fun _ => by rfl) (hm _ (by decide)) ?_; (simp only [Act.put, Nat.reduceAdd, List.setIfInBounds_toArray, List.set_cons_zero, List.set_cons_succ])) | (refine mix_move _ (by rfl) (fun _ => by rfl) (hm _ (by decide)) (fun _ => by simp only [Act.eval, Array.getD_eq_getD_getElem?, List.getElem?_toArray, List.getElem?_cons_succ, List.getElem?_cons_zero, Option.getD_some] <;> rfl) ?_; (simp only [Act.put, Nat.reduceAdd, List.setIfInBounds_toArray, List.set_cons_zero, List.set_cons_succ])) | (refine mix_load _ _ (by rfl) (fun _ => by rfl) (hm _ (by decide)) ?_ _ (fun _ => by simp only [Act.eval, Array.getD_eq_getD_getElem?, List.getElem?_toArray, List.getElem?_cons_succ, List.getElem?_cons_zero, Option.getD_some] <;> rfl) (by exact lq.out) ?_; (· intro w; simp); (simp only [Act.put, Nat.reduceAdd, List.setIfInBounds_toArray, List.set_cons_zero, List.set_cons_succ])) | (refine mix_build 85 1 _ (by rfl) (fun _ => by rfl) (fun _ => #[(0, .int .i64 q)]) (fun _ => by kernel_rfl) (fun vs L w' h hL _ => k3.out vs L w' h hL) ?_; (simp only [Act.put, Nat.reduceAdd, List.setIfInBounds_toArray, List.set_cons_zero, List.set_cons_succ])) | (refine mix_callW (v := .int .u64 SP) 31 _ _ (by rfl) (fun _ => by rfl) Tryd.call31 (fun vs => #[.int .u64 SQ, vs 4]) (fun _ => by rfl) (fun vs L w' h hL hwt => k4.out vs L w' h (hwt 4 (by kernel_rfl))) ?_; (simp only [Act.put, Nat.reduceAdd, List.setIfInBounds_toArray, List.set_cons_zero, List.set_cons_succ])) | (refine mix_call 14 _ _ (by rfl) (fun _ => by rfl) Tryd.call14 _ (fun _ => by rfl) (fun vs L w' h hL _ => k1.out _ (by decide) vs L w' h) ?_; (simp only [Act.put, Nat.reduceAdd, List.setIfInBounds_toArray, List.set_cons_zero, List.set_cons_succ])) | (refine mix_call 14 _ _ (by rfl) (fun _ => by rfl) Tryd.call14 _ (fun _ => by rfl) (fun vs L w' h hL _ => k2.out _ (by decide) vs L w' h) ?_; (simp only [Act.put, Nat.reduceAdd, List.setIfInBounds_toArray, List.set_cons_zero, List.set_cons_succ])) | (refine mix_call 20 _ _ (by rfl) (fun _ => by rfl) Tryd.call20 _ (fun _ => by rfl) (fun vs L w' h hL _ => k5.out _ (by decide) vs L w' h) ?_; (simp only [Act.put, Nat.reduceAdd, List.setIfInBounds_toArray, List.set_cons_zero, List.set_cons_succ])) | (refine mix_call 20 _ _ (by rfl) (fun _ => by rfl) Tryd.call20 _ (fun _ => by rfl) (fun vs L w' h hL _ => k6.out _ (by decide) vs L w' h) ?_; (simp only [Act.put, Nat.reduceAdd, List.setIfInBounds_toArray, List.set_cons_zero, List.set_cons_succ])) | (refine mix_call 30 _ _ (by rfl) (fun _ => by rfl) Tryd.call30 _ (fun _ => by rfl) (fun vs L w' h hL _ => k7.out _ (by decide) vs L w' h) ?_; (simp only [Act.put, Nat.reduceAdd, List.setIfInBounds_toArray, List.set_cons_zero, List.set_cons_succ])) | (refine mix_free (v := .bool false) (fun _ => by rfl) (hm _ (by decide)) (fun vs w => exec_neq_int _ _ _ _ (by rfl) (by rfl) (by rfl) bs.out w) ?_; (simp only [Act.put, Nat.reduceAdd, List.setIfInBounds_toArray, List.set_cons_zero, List.set_cons_succ])) | (refine mix_free (v := .bool false) (fun _ => by rfl) (hm _ (by decide)) (fun vs w => exec_lss_int _ _ _ _ (by rfl) (by rfl) (by rfl) bk.out w) ?_; (simp only [Act.put, Nat.reduceAdd, List.setIfInBounds_toArray, List.set_cons_zero, List.set_cons_succ])) | (refine mix_free (v := ?_) (fun _ => by rfl) (hm _ (by decide)) (fun _ _ => ?_) ?_; rotate_left; (first | (go_simp; done) | (go_simp; rfl)); (simp only [Act.put, Nat.reduceAdd, List.setIfInBounds_toArray, List.set_cons_zero, List.set_cons_succ])))
        refine wpMix_nil ?_
        intro vs7 w7 hC7
        have H7 := Lib.hid (HC.out _ _ hC7)
        have HP7 := Lib.hid (HP6.out.below H7.out)
        have HZ7 := Lib.hid (HZ6.out.below H7.out)
        have B7 := Lib.hid (bthen' B6.out H7.out)
        clear hC7 hm hC0 lq k1 k2 k3 k4 k5 k6 k7 HC C HP6 HZ6 N6
        dsimp only []
        go_wp2
        go_loopw [12] (fun i wr => ∃ k : Nat, k ≤ 64 ∧ i = .int .i64 k ∧ Below w7.heap.size w7 wr) (fun i _ => 64 - (intOf i).toNat)
        case atStart => exact ⟨0, Nat.zero_le _, rfl, Below.refl _ _⟩
        case round =>
          obtain ⟨k, hk, rfl, hb⟩ := hrel
          have HB := Lib.hid hb
          clear hb
          by_cases hlt : k < 64
          · have hlt' : (k : Int) < 64 := by omega
            obtain ⟨C, hC⟩ : ∃ C : World → Prop, ∀ w', C w' ↔ Below w7.heap.size w7 w' := ⟨_, fun _ => Iff.rfl⟩
            have hC0 : C wr := (hC _).2 HB.out
            obtain ⟨NQ, hNQ⟩ : ∃ NQ, wholeL Y k = NQ := ⟨_, rfl⟩
            obtain ⟨NP, hNP⟩ : ∃ NP, wholeL X k = NP := ⟨_, rfl⟩
            obtain ⟨JQ, hJQ⟩ : ∃ JQ, holdL Y k = JQ := ⟨_, rfl⟩
            obtain ⟨JP, hJP⟩ : ∃ JP, holdL X k = JP := ⟨_, rfl⟩
            have bl := Lib.hid (show decide ((NQ : Int) < (NP : Int)) = false from decide_eq_false (by have := more_whole HMP.out k; rw [hNQ, hNP] at this; omega))
            have kq := Lib.hid (show ∀ w', C w' → Calls Tryd.prog 16 #[.pointer (some ⟨gq, 0, none⟩), .int .i64 k] w' fun e w'' => e = .returned (.int .u32 NQ) ∧ C w'' from
              fun w' h => (whole_any (HZ7.out.below ((hC w').1 h)) _).mono fun e w'' ⟨he, hw⟩ => ⟨by rw [← hNQ, ← HYY.out]; exact he, (hC w'').2 (bthen' ((hC w').1 h) hw)⟩)
            have kp := Lib.hid (show ∀ w', C w' → Calls Tryd.prog 16 #[.pointer (some ⟨gp, 0, none⟩), .int .i64 k] w' fun e w'' => e = .returned (.int .u32 NP) ∧ C w'' from
              fun w' h => (whole_any (HP7.out.below ((hC w').1 h)) _).mono fun e w'' ⟨he, hw⟩ => ⟨by rw [← hNP, ← HX.out]; exact he, (hC w'').2 (bthen' ((hC w').1 h) hw)⟩)
            have jq := Lib.hid (show ∀ w', C w' → Calls Tryd.prog 18 #[.pointer (some ⟨gq, 0, none⟩), .int .i64 k] w' fun e w'' => e = .returned (.int .i64 JQ) ∧ C w'' from
              fun w' h => (holder_any (HZ7.out.below ((hC w').1 h)) ((HT.out.belowS B7.out).belowS ((hC w').1 h)) _).mono fun e w'' ⟨he, hw⟩ => ⟨by rw [← hJQ, ← HYY.out]; exact he, (hC w'').2 (bthen' ((hC w').1 h) hw)⟩)
            have jp := Lib.hid (show ∀ w', C w' → Calls Tryd.prog 18 #[.pointer (some ⟨gp, 0, none⟩), .int .i64 k] w' fun e w'' => e = .returned (.int .i64 JP) ∧ C w'' from
              fun w' h => (holder_any (HP7.out.below ((hC w').1 h)) ((HT.out.belowS B7.out).belowS ((hC w').1 h)) _).mono fun e w'' ⟨he, hw⟩ => ⟨by rw [← hJP, ← HX.out]; exact he, (hC w'').2 (bthen' ((hC w').1 h) hw)⟩)
            have HC := Lib.hid hC
            have HEQ := Lib.hid (show K = false → NQ = NP ∧ JQ = JP from fun hk => by
              rcases HMP.out with ⟨h, _⟩ | ⟨_, h⟩
              · rw [HSQ.out, HQ.out, HK.out, hk] at h; cases h
              · rw [← hNQ, ← hNP, ← hJQ, ← hJP, h]; exact ⟨rfl, rfl⟩)
            clear hC hNQ hNP hJQ hJP
            cases K with
            | true =>
              go_upto_region 15 with fail
              refine wp_region_plain (C := C) hC0 ?_
              dsimp only []
              repeat (first | go_big_quiet_skip | (go_big_quiet_want; first | (refine quiet_call 16 _ _ (by rfl) Tryd.call16 _ ?_ kq.out ?_; (· rfl); (simp only [Act.put, List.setIfInBounds_toArray, List.set_cons_zero, List.set_cons_succ]); go_big_quiet_on) | (refine quiet_call 16 _ _ (by rfl) Tryd.call16 _ ?_ kp.out ?_; (· rfl); (simp only [Act.put, List.setIfInBounds_toArray, List.set_cons_zero, List.set_cons_succ]); go_big_quiet_on) | (refine quiet_lss_int _ _ _ _ (by rfl) (by rfl) (by rfl) bl.out ?_; (simp only [Act.put, List.setIfInBounds_toArray, List.set_cons_zero, List.set_cons_succ]); go_big_quiet_on) | (refine quiet_not (K := true) (K' := false) _ _ (by rfl) (by rfl) rfl ?_; (simp only [Act.put, List.setIfInBounds_toArray, List.set_cons_zero, List.set_cons_succ]); go_big_quiet_on) | (go_big_quiet_op; go_big_quiet_on) | (go_big_quiet_op; refine Exists.intro _ ⟨fun _ _ => rfl, ?_⟩; go_big_quiet_on)))
              refine wpQuiet_nil ?_
              intro w8 hC8
              have HB8 := Lib.hid ((HC.out _).1 hC8)
              clear hC8 hC0 kq kp jq jp HC bl
              go_wp2
              go_roundw
              case rel => exact ⟨k + 1, by omega, by go_num, HB8.out⟩
              case measure => simp [intOf]; omega
            | false =>
              obtain ⟨rfl, rfl⟩ := HEQ.out rfl
              have bn := Lib.hid (show ((NQ : Int) != (NQ : Int)) = false by simp)
              have bj := Lib.hid (show (JQ != JQ) = false by simp)
              go_upto_region 15 with fail
              refine wp_region_plain (C := C) hC0 ?_
              dsimp only []
              repeat (first | go_big_quiet_skip | (go_big_quiet_want; first | (refine quiet_call 16 _ _ (by rfl) Tryd.call16 _ ?_ kq.out ?_; (· rfl); (simp only [Act.put, List.setIfInBounds_toArray, List.set_cons_zero, List.set_cons_succ]); go_big_quiet_on) | (refine quiet_call 16 _ _ (by rfl) Tryd.call16 _ ?_ kp.out ?_; (· rfl); (simp only [Act.put, List.setIfInBounds_toArray, List.set_cons_zero, List.set_cons_succ]); go_big_quiet_on) | (refine quiet_call 18 _ _ (by rfl) Tryd.call18 _ ?_ jq.out ?_; (· rfl); (simp only [Act.put, List.setIfInBounds_toArray, List.set_cons_zero, List.set_cons_succ]); go_big_quiet_on) | (refine quiet_call 18 _ _ (by rfl) Tryd.call18 _ ?_ jp.out ?_; (· rfl); (simp only [Act.put, List.setIfInBounds_toArray, List.set_cons_zero, List.set_cons_succ]); go_big_quiet_on) | (refine quiet_lss_int _ _ _ _ (by rfl) (by rfl) (by rfl) bl.out ?_; (simp only [Act.put, List.setIfInBounds_toArray, List.set_cons_zero, List.set_cons_succ]); go_big_quiet_on) | (refine quiet_not (K := false) (K' := true) _ _ (by rfl) (by rfl) rfl ?_; (simp only [Act.put, List.setIfInBounds_toArray, List.set_cons_zero, List.set_cons_succ]); go_big_quiet_on) | (refine quiet_neq_int _ _ _ _ (by rfl) (by rfl) (by rfl) bn.out ?_; (simp only [Act.put, List.setIfInBounds_toArray, List.set_cons_zero, List.set_cons_succ]); go_big_quiet_on) | (refine quiet_neq_int _ _ _ _ (by rfl) (by rfl) (by rfl) bj.out ?_; (simp only [Act.put, List.setIfInBounds_toArray, List.set_cons_zero, List.set_cons_succ]); go_big_quiet_on) | (go_big_quiet_op; go_big_quiet_on) | (go_big_quiet_op; refine Exists.intro _ ⟨fun _ _ => rfl, ?_⟩; go_big_quiet_on)))
              refine wpQuiet_nil ?_
              intro w8 hC8
              have HB8 := Lib.hid ((HC.out _).1 hC8)
              clear hC8 hC0 kq kp jq jp HC bl bn bj
              go_wp2
              go_roundw
              case rel => exact ⟨k + 1, by omega, by go_num, HB8.out⟩
              case measure => simp [intOf]; omega
          · obtain rfl : k = 64 := by omega
            have BR := Lib.hid (bthen' B7.out HB.out)
            cases K with
            | true =>
              go_wp2
              go_ret
              exact ⟨rfl, BR.out⟩
            | false =>
              have HXY := Lib.hid (show DQ = DP by
                rcases HMP.out with ⟨h, _⟩ | ⟨_, h⟩
                · rw [HSQ.out, HQ.out, HK.out] at h; cases h
                · rw [← HDQ.out, ← HDP.out, h])
              go_wp2_with fail
              refine (boundary_any (HZ7.out.below HB.out)).mono ?_
              rintro e w9 ⟨rfl, h9⟩
              rw [HYY.out, HDQ.out]
              have HP9 := Lib.hid ((HP7.out.below HB.out).below h9)
              have B9 := Lib.hid (bthen' BR.out h9)
              clear h9
              go_wp2_with fail
              refine (boundary_any HP9.out).mono ?_
              rintro e w10 ⟨rfl, h10⟩
              rw [HX.out, HDP.out, ← HXY.out]
              have B10 := Lib.hid (bthen' B9.out h10)
              clear h10
              go_wp2_with (guard_target = wpList _ _ _ (Oper.mk _ (Op.binOp .eql 41 _ _ _) _ _ _ _ :: _) _ _; refine wpList_valg (v := .bool true) (by rfl) (exec_eql_ky_self rfl _ DQ (by rfl) (by rfl) _) ?_; simp only [Act.put, List.setIfInBounds_toArray, List.set_cons_zero, List.set_cons_succ])
              go_ret
              exact ⟨rfl, B10.out⟩
end Go.Proofs.YtagelhbknbpfhaaDoor

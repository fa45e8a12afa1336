/-
  Package net: Copy (a drawn region with open values).
-/
import Derived.Test.YthegooaeehblhaaDoorRNetC
namespace Go.Proofs.YthegooaeehblhaaDoorR
open Go.RowKit Go.BigFrame
set_option maxHeartbeats 1000000
set_option maxRecDepth 100000
section
variable {P : Program} {ops : Array Oper} {C : MixC} {Q : ((Nat → Value) → Act) → Prop} {i : Nat} {o : Oper} {rest : List Oper} {A : (Nat → Value) → Act}
/-- A call whose answer is open. -/
theorem mix_callO (f : FuncId) (xs : Array Operand) (ats : Array TypeId) (ho : o.op = .call { callee := .value (.func f), args := xs, argTypes := ats }) (hw : ∀ vs, Region.wanted o (yielded ops (A vs).tmps) = true)
    (hcall : ∀ args w, (callFunc f args).run P w = .ok (.enter f args) w) (args : Array Value) (hx : ∀ vs, (xs.toList.map (A vs).eval).toArray = args)
    (hv : ∀ vs L w, C L vs w → L i = false → (∀ j, waits ops i j = true → L j = true) → Calls P f args w fun e w' => ∃ v, e = .returned v ∧ C (addL L i) (updV vs i v) w') (h : wpMix P ops C Q (i + 1) rest (fun vs => (A vs).put o.dst (vs i))) : wpMix P ops C Q i (o :: rest) A :=
  mix_open hw (fun vs L w hC hL hwt => by
    obtain ⟨dst, op, type, pos, after, guard⟩ := o
    dsimp only at ho
    subst ho
    have hx' : #[] ++ xs.map (A vs).eval ++ #[] = args := by rw [← hx vs]; apply Array.ext'; simp
    rw [execOp_call_go, hx', hcall]
    exact hv vs L w hC hL hwt) h
/-- An operation whose value is open. -/
theorem mix_execO (hw : ∀ vs, Region.wanted o (yielded ops (A vs).tmps) = true)
    (hv : ∀ vs L w, C L vs w → L i = false → (∀ j, waits ops i j = true → L j = true) → ∃ v w', (execOp (A vs).eval o).run P w = .ok (.value v) w' ∧ C (addL L i) (updV vs i v) w') (h : wpMix P ops C Q (i + 1) rest (fun vs => (A vs).put o.dst (vs i))) : wpMix P ops C Q i (o :: rest) A :=
  mix_open hw (fun vs L w hC hL hwt => by
    obtain ⟨v, w', hr, hc⟩ := hv vs L w hC hL hwt
    rw [hr]
    exact hc) h
theorem mix_buildS (t : TypeId) (parts : Array (Nat × Operand)) (ho : o.op = .build t parts) (hw : ∀ vs, Region.wanted o (yielded ops (A vs).tmps) = true) (ps : (Nat → Value) → Array (Nat × Value)) (hp : ∀ vs, (parts.map fun (i, x) => (i, (A vs).eval x)) = ps vs)
    (hC : ∀ vs L w, C L vs w → L i = false → (∀ j, waits ops i j = true → L j = true) → ∃ v w', (Instr.build t (ps vs)).run P w = .ok v w' ∧ C (addL L i) (updV vs i v) w') (h : wpMix P ops C Q (i + 1) rest (fun vs => (A vs).put o.dst (vs i))) : wpMix P ops C Q i (o :: rest) A :=
  mix_execO hw (fun vs L w hCw hL hwt => by
    obtain ⟨v, w', hr, hc⟩ := hC vs L w hCw hL hwt
    refine ⟨v, w', ?_, hc⟩
    unfold execOp
    simp only [ho, hp vs, Sem.run_bind, hr, Result.andThen_ok, Sem.run_pure]) h
theorem mix_boxO (t : TypeId) (x : Operand) (ho : o.op = .box t x) (hw : ∀ vs, Region.wanted o (yielded ops (A vs).tmps) = true) (fv : (Nat → Value) → Value) (hx : ∀ vs, (A vs).eval x = fv vs)
    (hC : ∀ vs L w, C L vs w → L i = false → (∀ j, waits ops i j = true → L j = true) → ∃ v w', (Instr.box t (fv vs)).run P w = .ok v w' ∧ C (addL L i) (updV vs i v) w') (h : wpMix P ops C Q (i + 1) rest (fun vs => (A vs).put o.dst (vs i))) : wpMix P ops C Q i (o :: rest) A :=
  mix_execO hw (fun vs L w hCw hL hwt => by
    obtain ⟨v, w', hr, hc⟩ := hC vs L w hCw hL hwt
    refine ⟨v, w', ?_, hc⟩
    unfold execOp
    simp only [ho, hx vs, Sem.run_bind, hr, Result.andThen_ok, Sem.run_pure]) h
theorem mix_assignO (x : Operand) (ho : o.op = .assign x) (hw : ∀ vs, Region.wanted o (yielded ops (A vs).tmps) = true) (fv : (Nat → Value) → Value) (hx : ∀ vs, (A vs).eval x = fv vs)
    (hC : ∀ vs L w, C L vs w → L i = false → (∀ j, waits ops i j = true → L j = true) → C (addL L i) (updV vs i (fv vs)) w) (h : wpMix P ops C Q (i + 1) rest (fun vs => (A vs).put o.dst (vs i))) : wpMix P ops C Q i (o :: rest) A :=
  mix_execO hw (fun vs L w hCw hL hwt => ⟨_, _, by rw [BigFrame.run_assign x ho w, hx], hC vs L w hCw hL hwt⟩) h
end
/-! ### the copy's cells -/
def linkVals (t : Nt) : List Value := (List.range 64).map fun i => .int .u64 (t.links i)
def copyK (t : Nt) (v : Value) (k : Nat) : Value := if k = 0 then .int .i64 t.n else if k < 65 then .int .u64 (t.links (k - 1)) else v
def copyCells (t : Nt) (v : Value) : Array Value := ((List.range 66).map (copyK t v)).toArray
theorem run_buildN (t : Nt) (a : Option Addr) (n c : Nat) (w : World) : (Instr.build 55 #[(0, .int .i64 t.n), (1, .agg (linkVals t).toArray), (2, .slice a n c)]).run Tryd.prog w = .ok (.agg (copyCells t (.slice a n c))) w := by kernel_rfl
theorem copy_at (t : Nt) (v : Value) (w : World) (g B : Nat) (hg : w.heap[g]? = some (.cells (copyCells t v) 55 (0, 0))) (ho : w.ownsRow B 35 4 v t.l.length (rowOf Dg.vals t.l)) : NetAt w B g t v.ownBlock := by
  have hz : (copyCells t v).size = 66 := by simp [copyCells]
  have hk : ∀ k, k < 66 → w.cell? ⟨g, k, none⟩ = some (copyK t v k) := fun k hk => by
    rw [cell_of_row w g k _ _ _ hg]
    simp [copyCells, hk]
  refine ⟨⟨_, hg, hz⟩, hk 0 (by decide), fun i hi => ?_, v, ?_, ho, rfl⟩
  · rw [hk (1 + i) (by omega)]
    unfold copyK
    rw [if_neg (by omega), if_pos (by omega), show 1 + i - 1 = i by omega]
  · exact hk 65 (by decide)
theorem NetAt.mid {w : World} {B g : Nat} {t : Nt} {rb : Option Nat} (h : NetAt w B g t rb) : w.rangeAt g 1 (linkVals t) := by
  intro j u hj
  have hj64 : j < 64 := by
    have := (List.getElem?_eq_some_iff.1 hj).1
    simpa [linkVals] using this
  rw [h.k j hj64]
  rw [← hj]
  simp [linkVals, hj64]
/-- Copy's statement. -/
structure CopyC (W : World) (t : Nt) (L : Nat → Bool) (vs : Nat → Value) (w : World) : Prop where
  bel : Below W.heap.size W w
  o13 : L 13 = true → L 12 = true
  o14 : L 14 = true → L 13 = true
  o15 : L 15 = true → L 14 = true
  r12 : L 12 = true → L 14 = false → w.ownsRow W.heap.size 35 4 (vs 12) t.l.length (rowOf Dg.vals t.l)
  r13 : L 13 = true → vs 13 = .agg (copyCells t (vs 12))
  r14 : L 14 = true → ∃ g, vs 14 = .pointer (some ⟨g, 0, none⟩) ∧ NetAt w W.heap.size g t (vs 12).ownBlock ∧ W.heap.size ≤ g
  r15 : L 15 = true → vs 15 = vs 14
section
variable {W : World} {t : Nt} {L : Nat → Bool} {vs : Nat → Value} {w w' : World}
theorem CopyC.first (vs : Nat → Value) (k : Nat) : CopyC W t (fun _ => false) vs { W with drawn := k } :=
  ⟨⟨rfl, rfl, rfl, Nat.le_refl _, fun _ _ => rfl⟩, fun e => (by cases e), fun e => (by cases e), fun e => (by cases e), fun e => (by cases e), fun e => (by cases e), fun e => (by cases e), fun e => (by cases e)⟩
theorem CopyC.more : ∀ i, (i ≠ 12 ∧ i ≠ 13 ∧ i ≠ 14 ∧ i ≠ 15) → ∀ L vs w, CopyC W t L vs w → L i = false → CopyC W t (addL L i) vs w := by
  intro i hi L vs w h _
  have e12 := adL_ne (L := L) (Ne.symm hi.1)
  have e13 := adL_ne (L := L) (Ne.symm hi.2.1)
  have e14 := adL_ne (L := L) (Ne.symm hi.2.2.1)
  have e15 := adL_ne (L := L) (Ne.symm hi.2.2.2)
  refine ⟨h.bel, ?_, ?_, ?_, ?_, ?_, ?_, ?_⟩
  · rw [e12, e13]; exact h.o13
  · rw [e13, e14]; exact h.o14
  · rw [e14, e15]; exact h.o15
  · rw [e12, e14]; exact h.r12
  · rw [e13]; exact h.r13
  · rw [e14]; exact h.r14
  · rw [e15]; exact h.r15
theorem CopyC.s12 (h : CopyC W t L vs w) (h12 : L 12 = false) {v : Value} (hb : Below w.heap.size w w') (ho : w'.ownsRow w.heap.size 35 4 v t.l.length (rowOf Dg.vals t.l)) : CopyC W t (addL L 12) (updV vs 12 v) w' := by
  have h13 : L 13 = false := by cases e : L 13 with | false => rfl | true => rw [h.o13 e] at h12; cases h12
  have h14 : L 14 = false := by cases e : L 14 with | false => rfl | true => rw [h.o14 e] at h13; cases h13
  have h15 : L 15 = false := by cases e : L 15 with | false => rfl | true => rw [h.o15 e] at h14; cases h14
  have e13 := adL_ne (L := L) (show (13 : Nat) ≠ 12 by decide)
  have e14 := adL_ne (L := L) (show (14 : Nat) ≠ 12 by decide)
  have e15 := adL_ne (L := L) (show (15 : Nat) ≠ 12 by decide)
  refine ⟨bthen' h.bel hb, fun _ => adL_eq L 12, ?_, ?_, fun _ _ => ?_, ?_, ?_, ?_⟩
  · rw [e14, h14]; intro e; cases e
  · rw [e15, h15]; intro e; cases e
  · rw [updV_eq]
    exact ⟨ho.1, ho.2.imp id fun ⟨b, cap, cur, hv, hb', r⟩ => ⟨b, cap, cur, hv, Nat.le_trans h.bel.size hb', r⟩⟩
  · rw [e13, h13]; intro e; cases e
  · rw [e14, h14]; intro e; cases e
  · rw [e15, h15]; intro e; cases e
theorem CopyC.form (h : CopyC W t L vs w) (h12 : L 12 = true) (h14 : L 14 = false) : ∃ a n c, vs 12 = .slice a n c := by
  rcases (h.r12 h12 h14).2 with ⟨e, _⟩ | ⟨b, cap, cur, e, _⟩
  · exact ⟨_, _, _, e⟩
  · exact ⟨_, _, _, e⟩
theorem CopyC.s13 (h : CopyC W t L vs w) (h12 : L 12 = true) (h13 : L 13 = false) : CopyC W t (addL L 13) (updV vs 13 (.agg (copyCells t (vs 12)))) w := by
  have h14 : L 14 = false := by cases e : L 14 with | false => rfl | true => rw [h.o14 e] at h13; cases h13
  have h15 : L 15 = false := by cases e : L 15 with | false => rfl | true => rw [h.o15 e] at h14; cases h14
  have e12 := adL_ne (L := L) (show (12 : Nat) ≠ 13 by decide)
  have e14 := adL_ne (L := L) (show (14 : Nat) ≠ 13 by decide)
  have e15 := adL_ne (L := L) (show (15 : Nat) ≠ 13 by decide)
  have v12 := updV_ne (vs := vs) (.agg (copyCells t (vs 12))) (show (12 : Nat) ≠ 13 by decide)
  refine ⟨h.bel, fun _ => by rw [e12]; exact h12, fun _ => adL_eq L 13, ?_, ?_, fun _ => ?_, ?_, ?_⟩
  · rw [e15, h15]; intro e; cases e
  · rw [e12, e14, v12]; exact h.r12
  · rw [updV_eq, v12]
  · rw [e14, h14]; intro e; cases e
  · rw [e15, h15]; intro e; cases e
theorem CopyC.s14 (h : CopyC W t L vs w) (h13 : L 13 = true) (h14 : L 14 = false) : CopyC W t (addL L 14) (updV vs 14 (.pointer (some ⟨w.heap.size, 0, none⟩))) (w.alloc (.cells (copyCells t (vs 12)) 55)) := by
  have h15 : L 15 = false := by cases e : L 15 with | false => rfl | true => rw [h.o15 e] at h14; cases h14
  have h12 := h.o13 h13
  have e12 := adL_ne (L := L) (show (12 : Nat) ≠ 14 by decide)
  have e13 := adL_ne (L := L) (show (13 : Nat) ≠ 14 by decide)
  have e15 := adL_ne (L := L) (show (15 : Nat) ≠ 14 by decide)
  have v12 := updV_ne (vs := vs) (.pointer (some ⟨w.heap.size, 0, none⟩)) (show (12 : Nat) ≠ 14 by decide)
  have v13 := updV_ne (vs := vs) (.pointer (some ⟨w.heap.size, 0, none⟩)) (show (13 : Nat) ≠ 14 by decide)
  have hb := bel_box w (copyCells t (vs 12)) 55
  have ho := h.r12 h12 h14
  have ho' : (w.alloc (.cells (copyCells t (vs 12)) 55)).ownsRow W.heap.size 35 4 (vs 12) t.l.length (rowOf Dg.vals t.l) := by
    refine ⟨ho.1, ho.2.imp id fun ⟨b, cap, cur, hv, hb', hh, r⟩ => ⟨b, cap, cur, hv, hb', ?_, r⟩⟩
    exact bblock hb hh
  refine ⟨bthen' h.bel hb, fun _ => by rw [e12]; exact h12, fun _ => by rw [e13]; exact h13, fun _ => adL_eq L 14, fun _ e => ?_, fun _ => ?_, fun _ => ?_, ?_⟩
  · rw [adL_eq] at e; cases e
  · rw [v12, v13]; exact h.r13 h13
  · rw [updV_eq, v12]
    exact ⟨_, rfl, copy_at t _ _ _ _ (heap_alloc_new _ _) ho', h.bel.size⟩
  · rw [e15, h15]; intro e; cases e
theorem CopyC.s15 (h : CopyC W t L vs w) (h14 : L 14 = true) : CopyC W t (addL L 15) (updV vs 15 (vs 14)) w := by
  have e12 := adL_ne (L := L) (show (12 : Nat) ≠ 15 by decide)
  have e13 := adL_ne (L := L) (show (13 : Nat) ≠ 15 by decide)
  have e14 := adL_ne (L := L) (show (14 : Nat) ≠ 15 by decide)
  have v12 := updV_ne (vs := vs) (vs 14) (show (12 : Nat) ≠ 15 by decide)
  have v13 := updV_ne (vs := vs) (vs 14) (show (13 : Nat) ≠ 15 by decide)
  have v14 := updV_ne (vs := vs) (vs 14) (show (14 : Nat) ≠ 15 by decide)
  refine ⟨h.bel, ?_, ?_, fun _ => by rw [e14]; exact h14, ?_, ?_, ?_, fun _ => ?_⟩
  · rw [e12, e13]; exact h.o13
  · rw [e13, e14]; exact h.o14
  · rw [e12, e14, v12]; exact h.r12
  · rw [e13, v12, v13]; exact h.r13
  · rw [e14, v14, v12]; exact h.r14
  · rw [updV_eq, v14]
end
theorem size_links : (Tryd.prog.info? 53).map (·.size) = some 64 := by kernel_rfl
theorem run_boxN (cs : Array Value) (w : World) : (Instr.box 55 (.agg cs)).run Tryd.prog w = .ok (.pointer (some ⟨w.heap.size, 0, none⟩)) (w.alloc (.cells cs 55)) := by kernel_rfl
def CopyPost (t : Nt) (w : World) (e : Ending) (w' : World) : Prop := ∃ g rb, e = .returned (.pointer (some ⟨g, 0, none⟩)) ∧ NetAt w' w.heap.size g t rb ∧ Below w.heap.size w w' ∧ w.heap.size ≤ g
theorem clone_of {w : World} {B g : Nat} {t : Nt} {rb : Option Nat} (h : NetAt w B g t rb) (wf : t.Wf) {a : Option Addr} {c : Nat} (hc : w.cell? ⟨g, 65, none⟩ = some (.slice a t.l.length c)) (w' : World) (hb : Below w.heap.size w w') :
    Calls Tryd.prog 32 #[.slice a t.l.length c] w' (ClonePost t.l w') := by
  obtain ⟨u, r1, r2, _⟩ := h.row
  rw [hc] at r1
  obtain rfl := Option.some.inj r1
  rcases r2.2 with ⟨e, e0⟩ | ⟨b, cap, cur, e, _⟩
  · have hl : t.l = [] := List.length_eq_zero_iff.1 e0
    rw [e, hl]
    exact clone_nil w'
  · obtain ⟨rfl, _, rfl⟩ := Value.slice.inj e
    obtain ⟨a', c', b', h5, h6⟩ := RowAt.own r2 rfl Dg.len
    obtain ⟨e1, _, _⟩ := Value.slice.inj h5.v
    by_cases h0 : 0 < t.l.length
    · obtain ⟨e2, hlt⟩ := h5.a h0
      rw [← e1] at e2
      obtain rfl : b = b' := congrArg Addr.block (Option.some.inj e2)
      exact clone_any w' t.l b _ (fun j v hj => by
        rw [hb.cell (p := ⟨b, 0 + j, none⟩) hlt]
        exact h5.r j v hj) (fun _ => Nat.lt_of_lt_of_le hlt hb.size) wf.l
    · have hl : t.l = [] := List.length_eq_zero_iff.1 (by omega)
      rw [hl]
      exact clone_any w' [] b _ (fun j v hj => by simp [rowOf] at hj) (fun h => by simp at h) (by simp)
theorem copy_any {w : World} {B g : Nat} {t : Nt} {rb : Option Nat} (h : NetAt w B g t rb) (wf : t.Wf) : Calls Tryd.prog 20 #[.pointer (some ⟨g, 0, none⟩)] w (CopyPost t w) := by
  obtain ⟨a, c, c65, _, _, _⟩ := h.slice
  have hgl := h.lt
  have KC := Lib.hid (clone_of h wf c65)
  have c0 := h.c0
  have MD := Lib.hid h.mid
  have hul : Hid ((Tryd.prog.info? 53).map (·.size) = some (linkVals t).length) := Lib.hid size_links
  obtain ⟨C, hC⟩ : ∃ C : MixC, C = CopyC w t := ⟨_, rfl⟩
  have hC0 : C (fun _ => false) (fun _ => undef) { w with drawn := w.drawn + 1 } := by rw [hC]; exact CopyC.first _ _
  have hm : ∀ i, (i ≠ 12 ∧ i ≠ 13 ∧ i ≠ 14 ∧ i ≠ 15) → ∀ L vs w, C L vs w → L i = false → C (addL L i) vs w := by rw [hC]; exact CopyC.more
  have l0 := Lib.hid (show ∀ (L : Nat → Bool) vs w', C L vs w' → L 3 = false → w'.cell? ⟨g, 0, none⟩ = some (.int .i64 t.n) by
    rw [hC]; intro L vs w' hh _
    rw [hh.bel.cell (p := ⟨g, 0, none⟩) hgl]; exact c0)
  have l11 := Lib.hid (show ∀ (L : Nat → Bool) vs w', C L vs w' → L 11 = false → w'.cell? ⟨g, 65, none⟩ = some (.slice a t.l.length c) by
    rw [hC]; intro L vs w' hh _
    rw [hh.bel.cell (p := ⟨g, 65, none⟩) hgl]; exact c65)
  have l7 := Lib.hid (show ∀ (L : Nat → Bool) vs w', C L vs w' → w'.rangeAt g 1 (linkVals t) by
    rw [hC]; intro L vs w' hh k u hk
    rw [hh.bel.cell (p := ⟨g, 1 + k, none⟩) hgl]; exact MD.out k u hk)
  have k12 := Lib.hid (show ∀ vs (L : Nat → Bool) w', C L vs w' → L 12 = false → Calls Tryd.prog 32 #[.slice a t.l.length c] w' fun e w'' => ∃ v, e = .returned v ∧ C (addL L 12) (updV vs 12 v) w'' by
    rw [hC]; intro vs L w' hh h12
    exact (KC.out w' hh.bel).mono fun e w'' ⟨v, he, ho, hb⟩ => ⟨v, he, hh.s12 h12 hb ho⟩)
  have k13 := Lib.hid (show ∀ vs (L : Nat → Bool) w', C L vs w' → L 13 = false → L 12 = true → ∃ v w'', (Instr.build 55 #[(0, .int .i64 t.n), (1, .agg (linkVals t).toArray), (2, vs 12)]).run Tryd.prog w' = .ok v w'' ∧ C (addL L 13) (updV vs 13 v) w'' by
    rw [hC]; intro vs L w' hh h13 h12
    have h14 : L 14 = false := by cases e : L 14 with | false => rfl | true => rw [hh.o14 e] at h13; cases h13
    obtain ⟨a, n, c, e⟩ := hh.form h12 h14
    have hs := hh.s13 h12 h13
    rw [e] at hs ⊢
    exact ⟨_, _, run_buildN t a n c w', hs⟩)
  have k14 := Lib.hid (show ∀ vs (L : Nat → Bool) w', C L vs w' → L 14 = false → L 13 = true → ∃ v w'', (Instr.box 55 (vs 13)).run Tryd.prog w' = .ok v w'' ∧ C (addL L 14) (updV vs 14 v) w'' by
    rw [hC]; intro vs L w' hh h14 h13
    rw [hh.r13 h13]
    exact ⟨_, _, run_boxN _ w', hh.s14 h13 h14⟩)
  have k15 := Lib.hid (show ∀ vs (L : Nat → Bool) w', C L vs w' → L 14 = true → C (addL L 15) (updV vs 15 (vs 14)) w' by
    rw [hC]; intro vs L w' hh h14
    exact hh.s15 h14)
  have HC := Lib.hid (show ∀ vs w', C (ltL 16) vs w' → ∃ g rb, vs 15 = .pointer (some ⟨g, 0, none⟩) ∧ NetAt w' w.heap.size g t rb ∧ Below w.heap.size w w' ∧ w.heap.size ≤ g by
    rw [hC]; intro vs w' hh
    obtain ⟨g, h1, h2, h3⟩ := hh.r14 (by rfl)
    exact ⟨g, _, (hh.r15 (by rfl)).trans h1, h2, hh.bel, h3⟩)
  clear hC KC MD c65 c0 h wf
  go_enter Tryd.func20, Tryd.ntmps20
  go_upto_region 1 with fail
  refine wp_region_mix (C := C) (by kernel_rfl) (by kernel_rfl) hC0 ?_
  dsimp only []
  repeat (first | (refine mix_skip (fun _ => by rfl) (hm _ (by decide)) ?_; (simp only [Act.put, Nat.reduceAdd, List.setIfInBounds_toArray, List.set_cons_zero, List.set_cons_succ])) | (refine mix_move _ (by rfl) (fun _ => by rfl) (hm _ (by decide)) (fun _ => by simp only [Act.eval, Array.getD_eq_getD_getElem?, List.getElem?_toArray, List.getElem?_cons_succ, List.getElem?_cons_zero, Option.getD_some] <;> rfl) ?_; (simp only [Act.put, Nat.reduceAdd, List.setIfInBounds_toArray, List.set_cons_zero, List.set_cons_succ])) | (refine mix_load _ _ (by rfl) (fun _ => by rfl) (hm _ (by decide)) ?_ _ (fun _ => by simp only [Act.eval, Array.getD_eq_getD_getElem?, List.getElem?_toArray, List.getElem?_cons_succ, List.getElem?_cons_zero, Option.getD_some] <;> rfl) (by exact l0.out) ?_; (· intro w; simp); (simp only [Act.put, Nat.reduceAdd, List.setIfInBounds_toArray, List.set_cons_zero, List.set_cons_succ])) | (refine mix_load _ _ (by rfl) (fun _ => by rfl) (hm _ (by decide)) ?_ _ (fun _ => by simp only [Act.eval, Array.getD_eq_getD_getElem?, List.getElem?_toArray, List.getElem?_cons_succ, List.getElem?_cons_zero, Option.getD_some] <;> rfl) (by exact l11.out) ?_; (· intro w; simp); (simp only [Act.put, Nat.reduceAdd, List.setIfInBounds_toArray, List.set_cons_zero, List.set_cons_succ])) | (refine mix_load_midC Tryd.underlying53 rfl hul.out _ (by rfl) (fun _ => by rfl) (hm _ (by decide)) g 1 (fun _ => by simp only [Act.eval, Array.getD_eq_getD_getElem?, List.getElem?_toArray, List.getElem?_cons_zero, Option.getD_some] <;> rfl) (fun L vs w hC _ _ => l7.out L vs w hC) ?_; (simp only [Act.put, Nat.reduceAdd, List.setIfInBounds_toArray, List.set_cons_zero, List.set_cons_succ])) | (refine mix_callO 32 _ _ (by rfl) (fun _ => by rfl) Tryd.call32 _ (fun _ => by rfl) (fun vs L w' h hL _ => k12.out vs L w' h hL) ?_; (simp only [Act.put, Nat.reduceAdd, List.setIfInBounds_toArray, List.set_cons_zero, List.set_cons_succ])) | (refine mix_buildS 55 _ (by rfl) (fun _ => by rfl) (fun vs => #[(0, .int .i64 t.n), (1, .agg (linkVals t).toArray), (2, vs 12)]) (fun _ => by kernel_rfl) (fun vs L w' h hL hwt => k13.out vs L w' h hL (hwt 12 (by kernel_rfl))) ?_; (simp only [Act.put, Nat.reduceAdd, List.setIfInBounds_toArray, List.set_cons_zero, List.set_cons_succ])) | (refine mix_boxO 55 _ (by rfl) (fun _ => by rfl) (fun vs => vs 13) (fun _ => by rfl) (fun vs L w' h hL hwt => k14.out vs L w' h hL (hwt 13 (by kernel_rfl))) ?_; (simp only [Act.put, Nat.reduceAdd, List.setIfInBounds_toArray, List.set_cons_zero, List.set_cons_succ])) | (refine mix_assignO _ (by rfl) (fun _ => by rfl) (fun vs => vs 14) (fun _ => by rfl) (fun vs L w' h hL hwt => k15.out vs L w' h (hwt 14 (by kernel_rfl))) ?_; (simp only [Act.put, Nat.reduceAdd, List.setIfInBounds_toArray, List.set_cons_zero, List.set_cons_succ])) | (refine mix_free (v := ?_) (fun _ => by rfl) (hm _ (by decide)) (fun _ _ => ?_) ?_; rotate_left; (first | (go_simp; done) | (go_simp; rfl)); (simp only [Act.put, Nat.reduceAdd, List.setIfInBounds_toArray, List.set_cons_zero, List.set_cons_succ])))
  refine wpMix_nil ?_
  intro vs w5 hC5
  obtain ⟨g', rb', e1, e2, e3, e4⟩ := HC.out vs w5 hC5
  clear hC5 hm hC0 l0 l11 l7 k12 k13 k14 k15 HC
  dsimp only []
  rw [e1]
  have E2 := Lib.hid e2
  have E3 := Lib.hid e3
  have E4 := Lib.hid e4
  clear e1 e2 e3 e4
  go_wp2
  go_ret
  exact ⟨g', rb', rfl, E2.out, E3.out, E4.out⟩
end Go.Proofs.YthegooaeehblhaaDoorR

/-
  slices.Clone of numbers; words for plan's New: a drawn region that grows a row through a pointer; two configurations compared.
-/
import Derived.Test.YtagelhbknbpfhaaDoorPlanC
import Derived.Test.YtagelhbknbpfhaaDoorPlanM
namespace Go.Proofs.YtagelhbknbpfhaaDoor
open Go.RowKit Go.BigFrame
set_option maxHeartbeats 1000000
set_option maxRecDepth 100000
theorem info_u32 : (Tryd.prog.info? 35).map (fun i => (i.zero, i.size, i.bytes)) = some (some (.int .u32 0), 1, 4) := by kernel_rfl
theorem run_build0u (w : World) : (Instr.buildSlice 23 0 #[]).run Tryd.prog w = .ok (.slice (some ⟨w.heap.size, 0, none⟩) 0 0) (w.alloc (.cells #[] 35)) := by kernel_rfl
def CloneU (l : List Nat) (w : World) (e : Ending) (w' : World) : Prop := ∃ v, e = .returned v ∧ w'.ownsRow w.heap.size 35 1 v l.length (rowOf u32v l) ∧ Below w.heap.size w w'
theorem cloneU_any (w : World) (v : Value) (l : List Nat) (a : Option Addr) (c b o : Nat) (h : RowAt u32v w v l a c b o) (hl : l.length * 4 ≤ 140737488351232) :
    Calls Tryd.prog 34 #[v] w (CloneU l w) := by
  obtain rfl := h.v
  cases a with
  | none =>
    have h0 : l.length = 0 := by
      rcases Nat.eq_zero_or_pos l.length with h0 | h0
      · exact h0
      · have := (h.a h0).1; cases this
    have hl0 : l = [] := List.length_eq_zero_iff.1 h0
    subst hl0
    clear h h0
    have he : (binOp .eql 23 (.slice none 0 c) (.slice none 0 0)).run Tryd.prog w = .ok (.bool true) w := by kernel_rfl
    go_enter Tryd.func34, Tryd.ntmps34
    go_wp2
    go_ret
    exact ⟨_, rfl, World.ownsRow_nil _ _ _ _, Below.refl _ _⟩
  | some ad =>
    obtain ⟨i0, hi, hz0, hz1, hz2⟩ := info_parts info_u32
    obtain ⟨X, hX⟩ : ∃ X, w.heap.size = X := ⟨_, rfl⟩
    obtain ⟨W, hW⟩ : ∃ W : World, w.alloc (.cells #[] 35) = W := ⟨_, rfl⟩
    have hBW : Below w.heap.size w W := by rw [← hW]; exact (Below.refl _ _).alloc (Nat.le_refl _) _
    have own0 : W.ownsRow w.heap.size 35 1 (.slice (some ⟨X, 0, none⟩) 0 0) 0 [] := by
      rw [← hW, ← hX]
      exact World.ownsRow_made w #[] 0 (Nat.le_refl _) (by simp [maxLen]) (by simp)
    have hlen := rowOf_length (f := u32v) u32v_len l
    have hr := h.below rfl hBW
    obtain ⟨v', W2, hrun, hown, hg, hat⟩ := run_append_src (P := Tryd.prog) W w.heap.size 23 23 35 i0 _ 1 4 Tryd.underlying23 hi hz0 hz1 hz2 rfl (by decide) _ 0 [] own0
      (some ad) l.length c (rowOf u32v l) hlen (fun h0 => by
        have e := Option.some.inj (h.a h0).1
        subst e
        refine ⟨_, rfl, fun j u hj => ?_⟩
        have e : (⟨b, o, none⟩ : Addr).add j = ⟨b, o + j, none⟩ := by unfold Addr.add; split <;> simp_all
        rw [e]
        exact hr.r j u hj)
      (rowOf_one u32v_one l) (by unfold maxLen; omega) (by omega) hBW.size
    have HB2 := Lib.hid (show Below w.heap.size w W2 from by
      refine ⟨hg.os.trans hBW.os, hg.tape.trans hBW.tape, hg.output.trans hBW.output, Nat.le_trans hBW.size hg.size, fun q hq => ?_⟩
      rw [hg.block q (Nat.lt_of_lt_of_le hq hBW.size) (by intro e; have e2 : q = X := Option.some.inj e; omega)]
      exact hBW.block q hq)
    rw [← hW] at hrun
    have HR := Lib.hid hrun
    have HO := Lib.hid hown
    have he : (binOp .eql 23 (.slice (some ad) l.length c) (.slice none 0 0)).run Tryd.prog w = .ok (.bool false) w := by kernel_rfl
    clear hown hrun hg hat own0 hBW hW hr hlen h
    go_enter Tryd.func34, Tryd.ntmps34
    go_upto_region 3 with fail
    go_wp2_with (guard_target = wpList _ _ _ (Oper.mk _ (Op.call _) _ _ _ none :: _) _ _; refine Lib.wpList_append_run _ rfl _ _ _ _ rfl _ _ rfl rfl _ _ HR.out ?_; simp only [Act.put, List.setIfInBounds_toArray, List.set_cons_zero, List.set_cons_succ])
    go_ret
    exact ⟨_, rfl, by simpa using HO.out, HB2.out⟩
/-- Two configurations compared. -/
def cfV (e : Nat) (r : Int) : Array Value := #[.int .u64 e, .int .i64 r]
theorem size_cf : (Tryd.prog.info? 62).map (·.size) = some 2 := by kernel_rfl
theorem exec_eql_cf {o : Oper} {x y : Operand} {r : TypeId} (ho : o.op = .binOp .eql 62 x y r) (ev : Operand → Value) (e : Nat) (p : Int) (e' : Nat) (p' : Int) (hx : ev x = .agg (cfV e p)) (hy : ev y = .agg (cfV e' p')) (w : World) :
    (execOp ev o).run Tryd.prog w = .ok (.value (.bool (e == e' && p == p'))) w := by
  obtain ⟨dst, op, type, pos, after, guard⟩ := o
  dsimp only at ho
  subst ho
  unfold cfV at hx hy
  unfold execOp
  simp only [hx, hy]
  go_simp
  simp only [Int.natCast_inj]
  by_cases h1 : e = e' <;> by_cases h2 : p = p' <;> simp [h1, h2]
section
variable {P : Program} {ops : Array Oper} {C : (Nat → Bool) → World → Prop} {Q : Act → Prop} {i : Nat} {o : Oper} {rest : List Oper} {a : Act}
theorem wpVals_loadL {v : Value} (t : TypeId) (x : Operand) (ho : o.op = .load t x) (hw : Region.wanted o (yielded ops a.tmps) = true) (hm : ∀ L w, C L w → L i = false → C (addL L i) w) (hag : ∀ w, (isAgg t).run P w = .ok false w)
    (ad : Addr) (hx : a.eval x = .pointer (some ad)) (hv : ∀ L w, C L w → L i = false → w.cell? ad = some v) (h : wpVals P ops C Q (i + 1) rest (a.put o.dst v)) : wpVals P ops C Q i (o :: rest) a :=
  wpVals_step hw (fun L w hC hL _ => by
    have : (execOp a.eval o).run P w = .ok (.value v) w := by
      unfold execOp
      simp [ho, hx, Instr.loadAt, loadVar, Instr.sureAddr, Sem.run_bind, hag, hv L w hC hL]
    rw [this]; exact ⟨rfl, hm L w hC hL⟩) h
theorem wpVals_load_aggL {ty : TypeId} {d : TypeDesc} {cs : Array Value} (hu : P.underlying ty = some d) (hd : (match d with | .struct _ | .array _ _ => true | _ => false) = true) (hi : (P.info? ty).map (·.size) = some cs.size)
    (x : Operand) (ho : o.op = .load ty x) (hw : Region.wanted o (yielded ops a.tmps) = true) (hm : ∀ L w, C L w → L i = false → C (addL L i) w) (g : Nat) (hx : a.eval x = .pointer (some ⟨g, 0, none⟩)) (t : TypeId) (fr : Nat × Nat)
    (hv : ∀ L w, C L w → L i = false → w.heap[g]? = some (.cells cs t fr)) (h : wpVals P ops C Q (i + 1) rest (a.put o.dst (.agg cs))) : wpVals P ops C Q i (o :: rest) a :=
  wpVals_step hw (fun L w hC hL _ => by
    have : (execOp a.eval o).run P w = .ok (.value (.agg cs)) w := by
      unfold execOp
      simp only [ho, hx, Instr.loadAt, Instr.sureAddr, Sem.run_bind, Sem.run_pure, Result.andThen_ok, run_loadVar_row w g t ty cs fr d (hv L w hC hL) hu hd hi]
    rw [this]; exact ⟨rfl, hm L w hC hL⟩) h
end
/-- p.l = append(p.l, x): which of the three that write have been done. -/
structure GrowC (W0 W1 W2 W3 : World) (ld agg bd ap st : Nat) (L : Nat → Bool) (w : World) : Prop where
  w : w = if L st then W3 else if L ap then W2 else if L bd then W1 else W0
  s1 : L st = true → L ap = true
  s2 : L ap = true → L bd = true ∧ L ld = true
  s3 : L bd = true → L agg = true
section
variable {W0 W1 W2 W3 : World} {ld agg bd ap st : Nat} {L : Nat → Bool} {w : World}
theorem GrowC.first : GrowC W0 W1 W2 W3 ld agg bd ap st (fun _ => false) W0 := ⟨by simp, by simp, by simp, by simp⟩
theorem GrowC.more : ∀ i, (i ≠ bd ∧ i ≠ ap ∧ i ≠ st) → ∀ L w, GrowC W0 W1 W2 W3 ld agg bd ap st L w → L i = false → GrowC W0 W1 W2 W3 ld agg bd ap st (addL L i) w := by
  intro i ⟨h1, h2, h3⟩ L w h _
  have t : ∀ j, L j = true → addL L i j = true := fun j hj => by unfold addL; split <;> simp [hj]
  have e : ∀ j, j ≠ i → addL L i j = L j := fun j hj => by unfold addL; rw [if_neg hj]
  refine ⟨by rw [e st (Ne.symm h3), e ap (Ne.symm h2), e bd (Ne.symm h1)]; exact h.w, fun hs => ?_, fun hs => ?_, fun hs => ?_⟩
  · rw [e st (Ne.symm h3)] at hs; exact t _ (h.s1 hs)
  · rw [e ap (Ne.symm h2)] at hs; exact ⟨t _ (h.s2 hs).1, t _ (h.s2 hs).2⟩
  · rw [e bd (Ne.symm h1)] at hs; exact t _ (h.s3 hs)
theorem GrowC.early (h : GrowC W0 W1 W2 W3 ld agg bd ap st L w) (hL : L agg = false) : w = W0 := by
  have h1 : L bd = false := by cases e : L bd; rfl; rw [h.s3 e] at hL; cases hL
  have h2 : L ap = false := by cases e : L ap; rfl; rw [(h.s2 e).1] at h1; cases h1
  have h3 : L st = false := by cases e : L st; rfl; rw [h.s1 e] at h2; cases h2
  rw [h.w, h1, h2, h3]; rfl
theorem GrowC.load (h : GrowC W0 W1 W2 W3 ld agg bd ap st L w) (hL : L ld = false) : w = W0 ∨ w = W1 := by
  have h2 : L ap = false := by cases e : L ap; rfl; rw [(h.s2 e).2] at hL; cases hL
  have h3 : L st = false := by cases e : L st; rfl; rw [h.s1 e] at h2; cases h2
  rw [h.w, h2, h3]
  cases L bd <;> simp
theorem GrowC.build (h : GrowC W0 W1 W2 W3 ld agg bd ap st L w) (hL : L bd = false) (ha : L agg = true) (n1 : bd ≠ ap) (n2 : bd ≠ st) : w = W0 ∧ GrowC W0 W1 W2 W3 ld agg bd ap st (addL L bd) W1 := by
  have h2 : L ap = false := by cases e : L ap; rfl; rw [(h.s2 e).1] at hL; cases hL
  have h3 : L st = false := by cases e : L st; rfl; rw [h.s1 e] at h2; cases h2
  have e : ∀ j, j ≠ bd → addL L bd j = L j := fun j hj => by unfold addL; rw [if_neg hj]
  have eb : addL L bd bd = true := by unfold addL; rw [if_pos rfl]
  have t : addL L bd agg = true := by unfold addL; split <;> simp [ha]
  refine ⟨by rw [h.w, hL, h2, h3]; rfl, ⟨by rw [e st n2.symm, e ap n1.symm, eb, h2, h3]; rfl, fun hs => ?_, fun hs => ?_, fun _ => t⟩⟩
  · rw [e st n2.symm, h3] at hs; cases hs
  · rw [e ap n1.symm, h2] at hs; cases hs
theorem GrowC.app (h : GrowC W0 W1 W2 W3 ld agg bd ap st L w) (hL : L ap = false) (hb : L bd = true) (hd : L ld = true) (n1 : ap ≠ st) (n2 : bd ≠ ap) : w = W1 ∧ GrowC W0 W1 W2 W3 ld agg bd ap st (addL L ap) W2 := by
  have h3 : L st = false := by cases e : L st; rfl; rw [h.s1 e] at hL; cases hL
  have e : ∀ j, j ≠ ap → addL L ap j = L j := fun j hj => by unfold addL; rw [if_neg hj]
  have ea : addL L ap ap = true := by unfold addL; rw [if_pos rfl]
  have t : ∀ j, L j = true → addL L ap j = true := fun j hj => by unfold addL; split <;> simp [hj]
  refine ⟨by rw [h.w, hL, hb, h3]; rfl, ⟨by rw [e st n1.symm, ea, h3]; rfl, fun hs => ?_, fun _ => ⟨t _ hb, t _ hd⟩, fun hs => ?_⟩⟩
  · rw [e st n1.symm, h3] at hs; cases hs
  · rw [e bd n2] at hs; exact t _ (h.s3 hs)
theorem GrowC.store (h : GrowC W0 W1 W2 W3 ld agg bd ap st L w) (hL : L st = false) (ha : L ap = true) : w = W2 ∧ GrowC W0 W1 W2 W3 ld agg bd ap st (addL L st) W3 := by
  have es : addL L st st = true := by unfold addL; rw [if_pos rfl]
  have t : ∀ j, L j = true → addL L st j = true := fun j hj => by unfold addL; split <;> simp [hj]
  refine ⟨by rw [h.w, hL, ha]; rfl, ⟨by rw [es]; rfl, fun _ => t _ ha, fun _ => ⟨t _ (h.s2 ha).1, t _ (h.s2 ha).2⟩, fun _ => t _ (h.s3 (h.s2 ha).1)⟩⟩
theorem GrowC.fin (h : GrowC W0 W1 W2 W3 ld agg bd ap st L w) (hL : L st = true) : w = W3 := by rw [h.w, hL]; rfl
end
end Go.Proofs.YtagelhbknbpfhaaDoor

/-
  Package net: Send, Double.
-/
import Derived.Test.YthegooaeehblhaaDoorRNetH
namespace Go.Proofs.YthegooaeehblhaaDoorR
open Go.RowKit Go.BigFrame
set_option maxHeartbeats 1000000
set_option maxRecDepth 100000
def Nt.app (t : Nt) (d : Dg) : Nt := { t with l := t.l ++ [d] }
theorem apm_s : ApM 4 6 7 10 := by constructor <;> decide
theorem apm_d : ApM 4 12 13 16 := by constructor <;> decide
theorem run_buildD (x : Dg) (w : World) : (Instr.buildSlice 48 1 #[(0, .agg x.vals.toArray)]).run Tryd.prog w = .ok (.slice (some ⟨w.heap.size, 0, none⟩) 1 1) (w.alloc (.cells x.vals.toArray 35)) := by kernel_rfl
/-- Behind the store of a new row. -/
theorem NetAt.put {W w1 w2 : World} {B g : Nat} {t : Nt} {rb : Option Nat} (h : NetAt W B g t rb) (hb : Below W.heap.size W w1) (hg : w1.grownBy w2 rb) {u : Value} {l : List Dg} {n : Nat} (hn : n = l.length) (ho : w2.ownsRow B 35 4 u n (rowOf Dg.vals l))
    (hat : u.ownBlock = rb ∨ ∃ k, u.ownBlock = some k ∧ W.heap.size ≤ k) : NetAt (w2.setCell ⟨g, 65, none⟩ u) B g { t with l := l } u.ownBlock ∧ Chg W (w2.setCell ⟨g, 65, none⟩ u) g rb ∧ Moves W rb u.ownBlock := by
  subst hn
  have hg1 : w2.heap[g]? = W.heap[g]? := by rw [hg.block g (Nat.lt_of_lt_of_le h.lt hb.size) h.gne, hb.block g h.lt]
  obtain ⟨cs, h1, h2⟩ := h.blk
  have hne : some g ≠ u.ownBlock := by
    rcases hat with e | ⟨k, e, hk⟩
    · rw [e]; exact h.gne
    · rw [e]
      intro e2
      have := Option.some.inj e2
      have := h.lt
      omega
  have hgr := grown_set (grown_of_below (Below.refl w2.heap.size w2) g) 65 u
  have hc : ∀ k, k ≠ 65 → (w2.setCell ⟨g, 65, none⟩ u).cell? ⟨g, k, none⟩ = W.cell? ⟨g, k, none⟩ := fun k hk => by
    rw [World.cell?_setCell_other _ _ _ _ (by intro e; (simp at e <;> omega))]
    exact World.cell?_of_block (w := W) (a := ⟨g, k, none⟩) hg1
  refine ⟨⟨⟨_, rowCell (hg1.trans h1) _ _, by simpa using h2⟩, (hc 0 (by omega)).trans h.c0, fun i hi => (hc _ (by omega)).trans (h.k i hi), u, ?_, ho.kept hgr (.inr (Ne.symm hne)), rfl⟩, ⟨?_, ?_, ?_, ?_, fun k hk k1 k2 => ?_⟩, hat⟩
  · obtain ⟨v, r1, _, _⟩ := h.row
    have : w2.cell? ⟨g, 65, none⟩ = some v := by rw [World.cell?_of_block (w := W) (a := ⟨g, 65, none⟩) hg1]; exact r1
    exact World.cell?_setCell_same _ _ _ this
  · exact hg.os.trans hb.os
  · exact hg.tape.trans hb.tape
  · exact hg.output.trans hb.output
  · have h3 := hb.size
    have h4 := hg.size
    simp [World.setCell]
    omega
  · rw [rowOther _ _ _ k1, hg.block k (Nat.lt_of_lt_of_le hk hb.size) k2, hb.block k hk]
/-- Send's answer. -/
def sendC (t : Nt) (d : Dg) : Int := if procN t d.frm && procN t d.to_ then (if linkN t d.frm d.to_ then (if t.l.length < 4096 then 0 else 6) else 5) else 1
def sendN (t : Nt) (d : Dg) : Nt := if sendC t d = 0 then t.app d else t
def ActPost (w : World) (B g : Nat) (rb : Option Nat) (t' : Nt) (v : Value) (e : Ending) (w' : World) : Prop := ∃ rb', e = .returned v ∧ NetAt w' B g t' rb' ∧ Chg w w' g rb ∧ Moves w rb rb'
theorem Nt.Wf.app {t : Nt} (h : t.Wf) {d : Dg} (hd : d.data.length ≤ 9223372036854775807) (hl : t.l.length < 4096) : (t.app d).Wf :=
  ⟨h.n, h.links, by show (t.l ++ [d]).length ≤ _; rw [List.length_append]; simp; omega, fun x hx => by
    rcases List.mem_append.1 hx with hx | hx
    · exact h.d x hx
    · rw [List.mem_singleton.1 hx]; exact hd⟩
section
variable {w : World} {B g : Nat} {t : Nt} {rb : Option Nat}
theorem send_any (h : NetAt w B g t rb) (wf : t.Wf) (hB : B ≤ w.heap.size) (d : Dg) :
    Calls Tryd.prog 18 #[.pointer (some ⟨g, 0, none⟩), .agg d.vals.toArray] w (ActPost w B g rb (sendN t d) (.int .i64 (sendC t d))) := by
  obtain ⟨i0, hi, hz0, hz1, hz2⟩ := info_parts info_dg
  obtain ⟨X, hX⟩ : ∃ X, w.heap.size = X := ⟨_, rfl⟩
  obtain ⟨W, hW⟩ : ∃ W : World, w.alloc (.cells d.vals.toArray 35) = W := ⟨_, rfl⟩
  have HB := Lib.hid (show Below w.heap.size w W by rw [← hW]; exact bel_box _ _ _)
  have BX := Lib.hid (show W.heap[X]? = some (.cells d.vals.toArray 35 (0, 0)) by rw [← hW, ← hX]; exact heap_alloc_new _ _)
  have HW := Lib.hid (h.below HB.out)
  have WF := Lib.hid wf
  have HBB := Lib.hid (show B ≤ W.heap.size from Nat.le_trans hB HB.out.size)
  have HWW := Lib.hid hW
  have x0 : W.cell? ⟨X, 0, none⟩ = some (.int .i64 d.frm) := by rw [cell_of_row W X 0 _ _ _ BX.out]; rfl
  have x1 : W.cell? ⟨X, 1, none⟩ = some (.int .i64 d.to_) := by rw [cell_of_row W X 1 _ _ _ BX.out]; rfl
  have hu : Hid ((Tryd.prog.info? 35).map (·.size) = some d.vals.toArray.size) := Lib.hid size_dg
  have P1 := Lib.hid (process_any HW.out d.frm)
  have P2 := Lib.hid (process_any HW.out d.to_)
  have PL := Lib.hid (linked_any HW.out wf d.frm d.to_)
  clear hW h wf
  go_enter Tryd.func18, Tryd.ntmps18
  go_upto_region 1 with fail
  rw [HWW.out]
  clear hX
  cases h1 : procN t d.frm
  · have E := Lib.hid (show sendC t d = 1 by unfold sendC; rw [h1]; rfl)
    rw [h1] at P1
    clear h1
    go_wp2_with fail
    refine P1.out.mono ?_
    rintro e w' ⟨rfl, rfl⟩
    go_wp2_with fail
    go_ret
    refine ⟨rb, by rw [E.out]; rfl, ?_, Chg.of_below HB.out g rb, .inl rfl⟩
    have e2 : sendN t d = t := by unfold sendN; rw [E.out]; rfl
    rw [e2]
    exact HW.out
  rw [h1] at P1
  cases h2 : procN t d.to_
  · have E := Lib.hid (show sendC t d = 1 by unfold sendC; rw [h1, h2]; rfl)
    rw [h2] at P2
    clear h1 h2
    go_wp2_with fail
    refine P1.out.mono ?_
    rintro e w' ⟨rfl, rfl⟩
    go_wp2_with fail
    refine P2.out.mono ?_
    rintro e w' ⟨rfl, rfl⟩
    go_wp2_with fail
    go_ret
    refine ⟨rb, by rw [E.out]; rfl, ?_, Chg.of_below HB.out g rb, .inl rfl⟩
    have e2 : sendN t d = t := by unfold sendN; rw [E.out]; rfl
    rw [e2]
    exact HW.out
  rw [h2] at P2
  cases h3 : linkN t d.frm d.to_
  · have E := Lib.hid (show sendC t d = 5 by unfold sendC; rw [h1, h2, h3]; rfl)
    rw [h3] at PL
    clear h1 h2 h3
    go_wp2_with fail
    refine P1.out.mono ?_
    rintro e w' ⟨rfl, rfl⟩
    go_wp2_with fail
    refine P2.out.mono ?_
    rintro e w' ⟨rfl, rfl⟩
    go_wp2_with fail
    refine PL.out.mono ?_
    rintro e w' ⟨rfl, rfl⟩
    go_wp2_with fail
    go_ret
    refine ⟨rb, by rw [E.out]; rfl, ?_, Chg.of_below HB.out g rb, .inl rfl⟩
    have e2 : sendN t d = t := by unfold sendN; rw [E.out]; rfl
    rw [e2]
    exact HW.out
  rw [h3] at PL
  obtain ⟨a, c, c65, hc, hown, hrb⟩ := HW.out.slice
  have HOWN := Lib.hid hown
  have HRB := Lib.hid hrb
  have hlen : (t.l.length : Int) ≤ 4096 := by have := WF.out.l; omega
  clear hc hown hrb
  by_cases h4 : t.l.length < 4096
  · have E := Lib.hid (show sendC t d = 0 by unfold sendC; rw [h1, h2, h3, if_pos h4]; rfl)
    have E2 := Lib.hid (show sendN t d = t.app d by unfold sendN; rw [E.out]; rfl)
    have H4 := Lib.hid h4
    have h4' : (t.l.length : Int) < 4096 := by omega
    clear h1 h2 h3 h4
    go_wp2_with fail
    refine P1.out.mono ?_
    rintro e w' ⟨rfl, rfl⟩
    go_wp2_with fail
    refine P2.out.mono ?_
    rintro e w' ⟨rfl, rfl⟩
    go_wp2_with fail
    refine PL.out.mono ?_
    rintro e w' ⟨rfl, rfl⟩
    go_upto_region 7 with fail
    obtain ⟨C, hC⟩ : ∃ C : MixC, C = Ap1 35 4 B W (.slice a t.l.length c) (rowOf Dg.vals t.l) t.l.length d.vals 4 6 7 10 (fun u w3 w4 => w4 = w3.setCell ⟨g, 65, none⟩ u) := ⟨_, rfl⟩
    have hC0 : C (fun _ => false) (fun _ => undef) { W with drawn := W.drawn + 1 } := by rw [hC]; exact Ap1.first _ _
    have hm : ∀ i, (i ≠ 6 ∧ i ≠ 7 ∧ i ≠ 10) → ∀ L vs w, C L vs w → L i = false → C (addL L i) vs w := by rw [hC]; exact Ap1.more
    have l4 := Lib.hid (show ∀ (L : Nat → Bool) vs w', C L vs w' → L 4 = false → w'.cell? ⟨g, 65, none⟩ = some (.slice a t.l.length c) by
      rw [hC]; intro L vs w' hh h4
      rw [(hh.bel (hh.no4 h4)).cell (p := ⟨g, 65, none⟩) HW.out.lt]; exact c65)
    have l5 := Lib.hid (show ∀ (L : Nat → Bool) vs w', C L vs w' → L 6 = false → w'.heap[X]? = some (.cells d.vals.toArray 35 (0, 0)) by
      rw [hC]; intro L vs w' hh h6
      exact bblock (hh.bel (hh.no6 h6)) BX.out)
    have k6 := Lib.hid (show ∀ (vs : Nat → Value) (L : Nat → Bool) w', C L vs w' → L 6 = false → ∃ v w'', (Instr.buildSlice 48 1 #[(0, .agg d.vals.toArray)]).run Tryd.prog w' = .ok v w'' ∧ C (addL L 6) (updV vs 6 v) w'' by
      rw [hC]; intro vs L w' hh h6
      exact ⟨_, _, run_buildD d w', hh.s6 apm_s h6⟩)
    have k7 := Lib.hid (show ∀ (vs : Nat → Value) (L : Nat → Bool) w', C L vs w' → L 7 = false → L 4 = true → L 6 = true → ∃ v w'', (Builtin.append_ #[48, 48] 48 #[.slice a t.l.length c, vs 6]).run Tryd.prog w' = .ok v w'' ∧ C (addL L 7) (updV vs 7 v) w'' by
      rw [hC]; intro vs L w' hh h7 h4 h6
      exact hh.s7 apm_s _ _ i0 _ 40 Tryd.underlying48 hi hz0 hz1 hz2 rfl (by decide) rfl (by simpa using d.oneL) (by have := H4.out; unfold maxLen; omega) (by have := H4.out; omega) HOWN.out HBB.out h7 h4 h6)
    have k10 := Lib.hid (show ∀ (vs : Nat → Value) (L : Nat → Bool) w', C L vs w' → L 10 = false → L 7 = true → (vs 7).oneCell' = true ∧ (∃ c, w'.cell? ⟨g, 65, none⟩ = some c) ∧ w'.frozen? ⟨g, 65, none⟩ = false ∧ C (addL L 10) vs (w'.setCell ⟨g, 65, none⟩ (vs 7)) by
      rw [hC]; intro vs L w' hh h10 h7
      obtain ⟨w1, hb, hg, ho, hat⟩ := hh.r7 h7 h10
      have hg1 : w'.heap[g]? = W.heap[g]? := by rw [hg.block g (Nat.lt_of_lt_of_le HW.out.lt hb.size) (by rw [HRB.out]; exact HW.out.gne), hb.block g HW.out.lt]
      obtain ⟨cs, e1, e2⟩ := HW.out.blk
      refine ⟨?_, ⟨_, by rw [World.cell?_of_block (w := W) (a := ⟨g, 65, none⟩) hg1]; exact c65⟩, by rw [World.frozen?_of_block (w := W) (a := ⟨g, 65, none⟩) hg1]; exact HW.out.nf 65, hh.s10 apm_s h10 h7 rfl⟩
      obtain ⟨b, cap, e, _⟩ := ho.form (by omega)
      rw [e]; rfl)
    have HC := Lib.hid (show ∀ vs w', C (ltL 11) vs w' → ∃ rb', NetAt w' B g (t.app d) rb' ∧ Chg W w' g rb ∧ Moves W rb rb' by
      rw [hC]; intro vs w' hh
      obtain ⟨w1, w2, u, hb, hg, ho, hat, rfl⟩ := hh.fin (by rfl)
      rw [HRB.out] at hg hat
      exact ⟨_, HW.out.put hb hg (n := t.l.length + 1) (by simp) (by rw [rowOf_snoc]; exact ho) hat⟩)
    clear hC
    refine wp_region_mix (C := C) (by kernel_rfl) (by kernel_rfl) hC0 ?_
    dsimp only []
    repeat (first | (refine mix_skip (fun _ => by rfl) (hm _ (by decide)) ?_; (simp only [Act.put, Nat.reduceAdd, List.setIfInBounds_toArray, List.set_cons_zero, List.set_cons_succ])) | (refine mix_move _ (by rfl) (fun _ => by rfl) (hm _ (by decide)) (fun _ => by simp only [Act.eval, Array.getD_eq_getD_getElem?, List.getElem?_toArray, List.getElem?_cons_succ, List.getElem?_cons_zero, Option.getD_some] <;> rfl) ?_; (simp only [Act.put, Nat.reduceAdd, List.setIfInBounds_toArray, List.set_cons_zero, List.set_cons_succ])) | (refine mix_load _ _ (by rfl) (fun _ => by rfl) (hm _ (by decide)) ?_ _ (fun _ => by simp only [Act.eval, Array.getD_eq_getD_getElem?, List.getElem?_toArray, List.getElem?_cons_succ, List.getElem?_cons_zero, Option.getD_some] <;> rfl) (by exact l4.out) ?_; (· intro w; simp); (simp only [Act.put, Nat.reduceAdd, List.setIfInBounds_toArray, List.set_cons_zero, List.set_cons_succ])) | (refine mix_load_aggC Tryd.underlying35 rfl hu.out _ (by rfl) (fun _ => by rfl) (hm _ (by decide)) _ (fun _ => by simp only [Act.eval, Array.getD_eq_getD_getElem?, List.getElem?_toArray, List.getElem?_cons_succ, List.getElem?_cons_zero, Option.getD_some] <;> rfl) _ _ (fun L vs w hC hL hcl => l5.out L vs w hC (hcl.no (i := 6) (j := 5) (by kernel_rfl) hL)) ?_; (simp only [Act.put, Nat.reduceAdd, List.setIfInBounds_toArray, List.set_cons_zero, List.set_cons_succ])) | (refine mix_build 48 1 _ (by rfl) (fun _ => by rfl) (fun _ => #[(0, .agg d.vals.toArray)]) (fun _ => by kernel_rfl) (fun vs L w' h hL _ => k6.out vs L w' h hL) ?_; (simp only [Act.put, Nat.reduceAdd, List.setIfInBounds_toArray, List.set_cons_zero, List.set_cons_succ])) | (refine mix_append (.tmp 37) (.tmp 39) _ (by rfl) (fun _ => by rfl) (fun _ => .slice a t.l.length c) (fun vs => vs 6) (fun _ => by rfl) (fun _ => by rfl) (fun vs L w' h hL hwt => k7.out vs L w' h hL (hwt 4 (by kernel_rfl)) (hwt 6 (by kernel_rfl))) ?_; (simp only [Act.put, Nat.reduceAdd, List.setIfInBounds_toArray, List.set_cons_zero, List.set_cons_succ])) | (refine mix_store _ _ _ (by rfl) (fun _ => by rfl) ⟨g, 65, none⟩ (fun _ => by rfl) (fun vs => vs 7) (fun _ => by rfl) (by kernel_rfl) (fun vs L w' h hL hwt => k10.out vs L w' h hL (hwt 7 (by kernel_rfl))) ?_; (simp only [Act.put, Nat.reduceAdd])) | (refine mix_free (v := ?_) (fun _ => by rfl) (hm _ (by decide)) (fun _ _ => ?_) ?_; rotate_left; (first | (go_simp; done) | (go_simp; rfl)); (simp only [Act.put, Nat.reduceAdd, List.setIfInBounds_toArray, List.set_cons_zero, List.set_cons_succ])))
    refine wpMix_nil ?_
    intro vs w5 hC5
    have hF := Lib.hid (HC.out vs w5 hC5)
    clear hC5 hm hC0 l4 l5 k6 k7 k10 HC c65
    go_wp2
    go_ret
    obtain ⟨rb', e1, e2, e3⟩ := hF.out
    refine ⟨rb', by rw [E.out]; rfl, by rw [E2.out]; exact e1, (Chg.of_below HB.out g rb).trans e2 (.inl rfl), ?_⟩
    rcases e3 with e3 | ⟨k, e3, hk⟩
    · exact .inl e3
    · exact .inr ⟨k, e3, Nat.le_trans HB.out.size hk⟩
  · have E := Lib.hid (show sendC t d = 6 by unfold sendC; rw [h1, h2, h3, if_neg h4]; rfl)
    have h4' : (4096 : Int) ≤ (t.l.length : Int) := by omega
    clear h1 h2 h3 h4
    go_wp2_with fail
    refine P1.out.mono ?_
    rintro e w' ⟨rfl, rfl⟩
    go_wp2_with fail
    refine P2.out.mono ?_
    rintro e w' ⟨rfl, rfl⟩
    go_wp2_with fail
    refine PL.out.mono ?_
    rintro e w' ⟨rfl, rfl⟩
    go_wp2_with fail
    go_ret
    refine ⟨rb, by rw [E.out]; rfl, ?_, Chg.of_below HB.out g rb, .inl rfl⟩
    have e2 : sendN t d = t := by unfold sendN; rw [E.out]; rfl
    rw [e2]
    exact HW.out
/-- Double's answer. -/
def dblB (t : Nt) (i : Int) : Bool := thereN t i && decide (t.l.length < 4096)
def dblN (t : Nt) (i : Int) : Nt := if dblB t i then t.app (t.l.getD i.toNat Dg.zero) else t
theorem double_any (h : NetAt w B g t rb) (wf : t.Wf) (hB : B ≤ w.heap.size) (i : Int) :
    Calls Tryd.prog 31 #[.pointer (some ⟨g, 0, none⟩), .int .i64 i] w (ActPost w B g rb (dblN t i) (.bool (dblB t i))) := by
  obtain ⟨i0, hi, hz0, hz1, hz2⟩ := info_parts info_dg
  have HB := Lib.hid (Below.refl w.heap.size w)
  have HW := Lib.hid h
  have WF := Lib.hid wf
  have HBB := Lib.hid hB
  have HT := Lib.hid (there_any h wf i)
  obtain ⟨a, c, b, hr, c65, hc, hrb⟩ := h.read
  obtain ⟨a1, c1, c65', hc', hown, hrb'⟩ := h.slice
  rw [c65] at c65'
  obtain ⟨e1, _, e3⟩ := Value.slice.inj (Option.some.inj c65')
  subst e1 e3
  have HOWN := Lib.hid hown
  have HRB := Lib.hid hrb'
  have HR := Lib.hid hr
  have hlen : (t.l.length : Int) ≤ 4096 := by have := wf.l; omega
  clear h wf hB hc hc' hown hrb hrb' hr c65'
  cases ht : thereN t i
  · have E := Lib.hid (show dblB t i = false by unfold dblB; rw [ht]; rfl)
    rw [ht] at HT
    clear ht
    go_enter Tryd.func31, Tryd.ntmps31
    go_wp2_with fail
    refine HT.out.mono ?_
    rintro e w' ⟨rfl, rfl⟩
    go_wp2_with fail
    go_ret
    refine ⟨rb, by rw [E.out]; rfl, ?_, Chg.of_below HB.out g rb, .inl rfl⟩
    have e2 : dblN t i = t := by unfold dblN; rw [E.out]; rfl
    rw [e2]
    exact HW.out
  rw [ht] at HT
  have ht2 := ht
  unfold thereN at ht2
  simp only [Bool.and_eq_true, decide_eq_true_eq] at ht2
  obtain ⟨j, rfl⟩ := Int.eq_ofNat_of_zero_le ht2.1
  have hj : j < t.l.length := by have := ht2.2; omega
  by_cases h4 : t.l.length < 4096
  · have E := Lib.hid (show dblB t j = true by unfold dblB; rw [ht, decide_eq_true h4]; rfl)
    have E2 := Lib.hid (show dblN t j = t.app t.l[j] by unfold dblN; rw [E.out, Int.toNat_natCast]; simp [hj])
    have H4 := Lib.hid h4
    have h4' : (t.l.length : Int) < 4096 := by omega
    have HX := Lib.hid (HR.out.at_ Dg.len hj)
    rw [Nat.zero_add] at HX
    obtain ⟨rfl, hbl⟩ := HR.out.a (by omega)
    have HBL := Lib.hid hbl
    have hj' : (j : Int) < (t.l.length : Int) := by omega
    have hj0 : (0 : Int) ≤ (j : Int) := by omega
    generalize t.l[j] = d at E2 HX
    have hu : Hid ((Tryd.prog.info? 35).map (·.size) = some d.vals.length) := Lib.hid size_dg
    clear ht ht2 h4 hj hbl
    go_enter Tryd.func31, Tryd.ntmps31
    go_wp2_with fail
    refine HT.out.mono ?_
    rintro e w' ⟨rfl, rfl⟩
    go_upto_region 3 with fail
    obtain ⟨C, hC⟩ : ∃ C : MixC, C = Ap1 35 4 B w (.slice (some ⟨b, 0, none⟩) t.l.length c) (rowOf Dg.vals t.l) t.l.length d.vals 4 12 13 16 (fun u w3 w4 => w4 = w3.setCell ⟨g, 65, none⟩ u) := ⟨_, rfl⟩
    have hC0 : C (fun _ => false) (fun _ => undef) { w with drawn := w.drawn + 1 } := by rw [hC]; exact Ap1.first _ _
    have hm : ∀ i, (i ≠ 12 ∧ i ≠ 13 ∧ i ≠ 16) → ∀ L vs w, C L vs w → L i = false → C (addL L i) vs w := by rw [hC]; exact Ap1.more
    have l4 := Lib.hid (show ∀ (L : Nat → Bool) vs w', C L vs w' → L 4 = false → w'.cell? ⟨g, 65, none⟩ = some (.slice (some ⟨b, 0, none⟩) t.l.length c) by
      rw [hC]; intro L vs w' hh h4
      rw [(hh.bel (hh.no4 h4)).cell (p := ⟨g, 65, none⟩) HW.out.lt]; exact c65)
    have l8 := Lib.hid (show ∀ (L : Nat → Bool) vs w', C L vs w' → L 12 = false → w'.cell? ⟨g, 65, none⟩ = some (.slice (some ⟨b, 0, none⟩) t.l.length c) by
      rw [hC]; intro L vs w' hh h12
      rw [(hh.bel (hh.no6 h12)).cell (p := ⟨g, 65, none⟩) HW.out.lt]; exact c65)
    have l11 := Lib.hid (show ∀ (L : Nat → Bool) vs w', C L vs w' → L 12 = false → w'.rangeAt b (j * 4) d.vals by
      rw [hC]; intro L vs w' hh h12 k u hk
      rw [(hh.bel (hh.no6 h12)).cell (p := ⟨b, j * 4 + k, none⟩) HBL.out]; exact HX.out k u hk)
    have k6 := Lib.hid (show ∀ (vs : Nat → Value) (L : Nat → Bool) w', C L vs w' → L 12 = false → ∃ v w'', (Instr.buildSlice 48 1 #[(0, .agg d.vals.toArray)]).run Tryd.prog w' = .ok v w'' ∧ C (addL L 12) (updV vs 12 v) w'' by
      rw [hC]; intro vs L w' hh h6
      exact ⟨_, _, run_buildD d w', hh.s6 apm_d h6⟩)
    have k7 := Lib.hid (show ∀ (vs : Nat → Value) (L : Nat → Bool) w', C L vs w' → L 13 = false → L 4 = true → L 12 = true → ∃ v w'', (Builtin.append_ #[48, 48] 48 #[.slice (some ⟨b, 0, none⟩) t.l.length c, vs 12]).run Tryd.prog w' = .ok v w'' ∧ C (addL L 13) (updV vs 13 v) w'' by
      rw [hC]; intro vs L w' hh h7 h4 h6
      exact hh.s7 apm_d _ _ i0 _ 40 Tryd.underlying48 hi hz0 hz1 hz2 rfl (by decide) rfl (by simpa using d.oneL) (by have := H4.out; unfold maxLen; omega) (by have := H4.out; omega) HOWN.out HBB.out h7 h4 h6)
    have k10 := Lib.hid (show ∀ (vs : Nat → Value) (L : Nat → Bool) w', C L vs w' → L 16 = false → L 13 = true → (vs 13).oneCell' = true ∧ (∃ c, w'.cell? ⟨g, 65, none⟩ = some c) ∧ w'.frozen? ⟨g, 65, none⟩ = false ∧ C (addL L 16) vs (w'.setCell ⟨g, 65, none⟩ (vs 13)) by
      rw [hC]; intro vs L w' hh h10 h7
      obtain ⟨w1, hb, hg, ho, hat⟩ := hh.r7 h7 h10
      have hg1 : w'.heap[g]? = w.heap[g]? := by rw [hg.block g (Nat.lt_of_lt_of_le HW.out.lt hb.size) (by rw [HRB.out]; exact HW.out.gne), hb.block g HW.out.lt]
      refine ⟨?_, ⟨_, by rw [World.cell?_of_block (w := w) (a := ⟨g, 65, none⟩) hg1]; exact c65⟩, by rw [World.frozen?_of_block (w := w) (a := ⟨g, 65, none⟩) hg1]; exact HW.out.nf 65, hh.s10 apm_d h10 h7 rfl⟩
      obtain ⟨b, cap, e, _⟩ := ho.form (by omega)
      rw [e]; rfl)
    have HC := Lib.hid (show ∀ vs w', C (ltL 17) vs w' → ∃ rb', NetAt w' B g (t.app d) rb' ∧ Chg w w' g rb ∧ Moves w rb rb' by
      rw [hC]; intro vs w' hh
      obtain ⟨w1, w2, u, hb, hg, ho, hat, rfl⟩ := hh.fin (by rfl)
      rw [HRB.out] at hg hat
      exact ⟨_, HW.out.put hb hg (n := t.l.length + 1) (by simp) (by rw [rowOf_snoc]; exact ho) hat⟩)
    clear hC
    refine wp_region_mix (C := C) (by kernel_rfl) (by kernel_rfl) hC0 ?_
    dsimp only []
    repeat (first | (refine mix_skip (fun _ => by rfl) (hm _ (by decide)) ?_; (simp only [Act.put, Nat.reduceAdd, List.setIfInBounds_toArray, List.set_cons_zero, List.set_cons_succ])) | (refine mix_move _ (by rfl) (fun _ => by rfl) (hm _ (by decide)) (fun _ => by simp only [Act.eval, Array.getD_eq_getD_getElem?, List.getElem?_toArray, List.getElem?_cons_succ, List.getElem?_cons_zero, Option.getD_some] <;> rfl) ?_; (simp only [Act.put, Nat.reduceAdd, List.setIfInBounds_toArray, List.set_cons_zero, List.set_cons_succ])) | (refine mix_load _ _ (by rfl) (fun _ => by rfl) (hm _ (by decide)) ?_ _ (fun _ => by simp only [Act.eval, Array.getD_eq_getD_getElem?, List.getElem?_toArray, List.getElem?_cons_succ, List.getElem?_cons_zero, Option.getD_some] <;> rfl) (by exact l4.out) ?_; (· intro w; simp); (simp only [Act.put, Nat.reduceAdd, List.setIfInBounds_toArray, List.set_cons_zero, List.set_cons_succ])) | (refine mix_loadC _ _ (by rfl) (fun _ => by rfl) (hm _ (by decide)) ?_ _ (fun _ => by simp only [Act.eval, Array.getD_eq_getD_getElem?, List.getElem?_toArray, List.getElem?_cons_succ, List.getElem?_cons_zero, Option.getD_some] <;> rfl) (by exact (fun L vs w hC hL hcl => l8.out L vs w hC (hcl.no (i := 12) (j := 11) (by kernel_rfl) (hcl.no (i := 11) (j := 10) (by kernel_rfl) (hcl.no (i := 10) (j := 8) (by kernel_rfl) hL))))) ?_; (· intro w; simp); (simp only [Act.put, Nat.reduceAdd, List.setIfInBounds_toArray, List.set_cons_zero, List.set_cons_succ])) | (refine mix_load_midC Tryd.underlying35 rfl hu.out _ (by rfl) (fun _ => by rfl) (hm _ (by decide)) b (j * 4) (fun _ => by simp only [Act.eval, Array.getD_eq_getD_getElem?, List.getElem?_toArray, List.getElem?_cons_succ, List.getElem?_cons_zero, Option.getD_some] <;> rfl) (fun L vs w hC hL hcl => l11.out L vs w hC (hcl.no (i := 12) (j := 11) (by kernel_rfl) hL)) ?_; (simp only [Act.put, Nat.reduceAdd, List.setIfInBounds_toArray, List.set_cons_zero, List.set_cons_succ])) | (refine mix_build 48 1 _ (by rfl) (fun _ => by rfl) (fun _ => #[(0, .agg d.vals.toArray)]) (fun _ => by kernel_rfl) (fun vs L w' h hL _ => k6.out vs L w' h hL) ?_; (simp only [Act.put, Nat.reduceAdd, List.setIfInBounds_toArray, List.set_cons_zero, List.set_cons_succ])) | (refine mix_append (.tmp 21) (.tmp 29) _ (by rfl) (fun _ => by rfl) (fun _ => .slice (some ⟨b, 0, none⟩) t.l.length c) (fun vs => vs 12) (fun _ => by rfl) (fun _ => by rfl) (fun vs L w' h hL hwt => k7.out vs L w' h hL (hwt 4 (by kernel_rfl)) (hwt 12 (by kernel_rfl))) ?_; (simp only [Act.put, Nat.reduceAdd, List.setIfInBounds_toArray, List.set_cons_zero, List.set_cons_succ])) | (refine mix_store _ _ _ (by rfl) (fun _ => by rfl) ⟨g, 65, none⟩ (fun _ => by rfl) (fun vs => vs 13) (fun _ => by rfl) (by kernel_rfl) (fun vs L w' h hL hwt => k10.out vs L w' h hL (hwt 13 (by kernel_rfl))) ?_; (simp only [Act.put, Nat.reduceAdd])) | (refine mix_free (v := ?_) (fun _ => by rfl) (hm _ (by decide)) (fun _ _ => ?_) ?_; rotate_left; (first | (go_simp; done) | (go_simp; rfl)); (simp only [Act.put, Nat.reduceAdd, List.setIfInBounds_toArray, List.set_cons_zero, List.set_cons_succ])))
    refine wpMix_nil ?_
    intro vs w5 hC5
    have hF := Lib.hid (HC.out vs w5 hC5)
    clear hC5 hm hC0 l4 l8 l11 k6 k7 k10 HC c65
    go_wp2
    go_ret
    obtain ⟨rb', e1, e2, e3⟩ := hF.out
    exact ⟨rb', by rw [E.out]; rfl, by rw [E2.out]; exact e1, e2, e3⟩
  · have E := Lib.hid (show dblB t j = false by unfold dblB; rw [decide_eq_false h4]; simp)
    have h4' : (4096 : Int) ≤ (t.l.length : Int) := by omega
    clear ht ht2 h4 hj
    go_enter Tryd.func31, Tryd.ntmps31
    go_wp2_with fail
    refine HT.out.mono ?_
    rintro e w' ⟨rfl, rfl⟩
    go_wp2_with fail
    go_ret
    refine ⟨rb, by rw [E.out]; rfl, ?_, Chg.of_below HB.out g rb, .inl rfl⟩
    have e2 : dblN t j = t := by unfold dblN; rw [E.out]; rfl
    rw [e2]
    exact HW.out
end
end Go.Proofs.YthegooaeehblhaaDoorR

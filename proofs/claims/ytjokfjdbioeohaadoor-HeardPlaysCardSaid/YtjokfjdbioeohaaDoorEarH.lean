/-
  Package heard: Hear, Beat, Forget.
-/
import Derived.Test.YtjokfjdbioeohaaDoorEarF
namespace Go.Proofs.YtjokfjdbioeohaaDoor
open Go.RowKit Go.BigFrame
set_option maxHeartbeats 1000000
set_option maxRecDepth 100000
theorem Ear.upd_same {m : Ear} {p : Nat} {f : Ent → Ent} (h : f (m.l p) = m.l p) : m.upd p f = m := by
  unfold Ear.upd
  have : (fun i => if i = p then f (m.l i) else m.l i) = m.l := by
    funext i
    by_cases e : i = p
    · subst e; rw [if_pos rfl, h]
    · rw [if_neg e]
  rw [this]
theorem Ear.upd_upd (m : Ear) (p : Nat) (f k : Ent → Ent) : (m.upd p f).upd p k = m.upd p fun x => k (f x) := by
  unfold Ear.upd
  congr 1
  funext i
  by_cases e : i = p
  · simp [e]
  · simp [e]
/-- A process was heard of. -/
def hearE (m : Ear) (p : Int) : Ear := if hasN m.others p then m.upd p.toNat fun x => { x with ever := true, at_ := m.now } else m
def hearMid (m : Ear) (p : Nat) (b1 b2 : Bool) : Ear := m.upd p fun x => ⟨x.b, x.said, if b1 then true else x.ever, if b2 then m.now else x.at_⟩
def HearC (W : World) (g : Nat) (m : Ear) (p : Nat) (L : Nat → Bool) (w : World) : Prop := EarAt w g (hearMid m p (L 12) (L 17)) ∧ W.grownBy w (some g)
section
variable {W : World} {g : Nat} {m : Ear} {p : Nat}
theorem HearC.start (h : EarAt W g m) (n : Nat) : HearC W g m p (fun _ => false) { W with drawn := n } :=
  ⟨by rw [show hearMid m p false false = m from Ear.upd_same rfl]; exact ⟨h.lt, h.nf, h.c0, h.c1, h.c2, h.c3, h.e⟩, ⟨rfl, rfl, rfl, Nat.le_refl _, fun _ _ _ => rfl⟩⟩
theorem HearC.more : ∀ i, (i ≠ 12 ∧ i ≠ 17) → ∀ L w, HearC W g m p L w → L i = false → HearC W g m p (addL L i) w := by
  intro i hi L w ⟨h1, h2⟩ _
  refine ⟨?_, h2⟩
  unfold addL
  rw [if_neg (Ne.symm hi.1), if_neg (Ne.symm hi.2)]
  exact h1
theorem HearC.s12 (hp : p < 64) : ∀ (L : Nat → Bool) w, HearC W g m p L w → HearC W g m p (addL L 12) (w.setCell ⟨g, 4 + p * 8 + 6, none⟩ (.bool true)) := by
  intro L w ⟨h1, h2⟩
  refine ⟨?_, grown_set h2 _ _⟩
  have := h1.ever hp true
  rw [hearMid, Ear.upd_upd] at this
  exact this
theorem HearC.s17 (hp : p < 64) : ∀ (L : Nat → Bool) w, HearC W g m p L w → HearC W g m p (addL L 17) (w.setCell ⟨g, 4 + p * 8 + 7, none⟩ (.int .i64 m.now)) := by
  intro L w ⟨h1, h2⟩
  refine ⟨?_, grown_set h2 _ _⟩
  have := h1.at hp m.now
  rw [hearMid, Ear.upd_upd] at this
  exact this
theorem HearC.at8 (hp : p < 64) (j : Nat) (hj : j < 8) : ∀ (L : Nat → Bool) w, HearC W g m p L w → (∃ c, w.cell? ⟨g, 4 + p * 8 + j, none⟩ = some c) ∧ w.frozen? ⟨g, 4 + p * 8 + j, none⟩ = false := by
  intro L w ⟨h1, h2⟩
  exact ⟨⟨_, h1.e p hp j _ (List.getElem?_eq_getElem (by simp [Ent.vals, Bt.vals]; exact hj))⟩, h1.nf _⟩
theorem HearC.c2 : ∀ (L : Nat → Bool) w, HearC W g m p L w → w.cell? ⟨g, 2, none⟩ = some (.int .i64 m.now) := fun _ _ h => h.1.c2
end
theorem hear_any (g : Nat) (m : Ear) (p : Int) (w : World) (hw : EarAt w g m) (wf : m.Wf) :
    Calls Tryd.prog 35 #[.pointer (some ⟨g, 0, none⟩), .int .i64 p] w fun e w' => e = .returned (.tuple #[]) ∧ EarAt w' g (hearE m p) ∧ w.grownBy w' (some g) := by
  have h3 := hw.c3
  have H := Lib.hid (has_any m.others p wf.others w)
  have HW := Lib.hid hw
  cases hh : hasN m.others p
  · rw [hh] at H
    have E := Lib.hid (show hearE m p = m by unfold hearE; rw [hh]; rfl)
    clear hh hw
    go_enter Tryd.func35, Tryd.ntmps35
    go_wp2_with (go_at_call 47; refine H.out.mono ?_; rintro e w1 ⟨rfl, rfl⟩)
    go_end0
    exact ⟨rfl, by rw [E.out]; exact HW.out, grown_of_below (Below.refl _ _) g⟩
  · rw [hh] at H
    obtain ⟨hp0, hp1⟩ := hasN_range hh
    obtain ⟨q, rfl⟩ := Int.eq_ofNat_of_zero_le hp0
    have hq : q < 64 := by omega
    have E := Lib.hid (show hearE m q = hearMid m q true true by unfold hearE; rw [hh]; rfl)
    have hC0 := HearC.start (p := q) hw (w.drawn + 1)
    have l2 := Lib.hid (HearC.c2 (W := w) (g := g) (m := m) (p := q))
    clear hh hw
    go_enter Tryd.func35, Tryd.ntmps35
    go_wp2_with (go_at_call 47; refine H.out.mono ?_; rintro e w1 ⟨rfl, rfl⟩)
    refine wp_region_vals (C := HearC w g m q) (by kernel_rfl) (by kernel_rfl) hC0 ?_
    dsimp only []
    repeat (first | (refine wpVals_skip (by rfl) (HearC.more _ (by decide)) ?_; (simp only [Act.put, List.setIfInBounds_toArray, List.set_cons_zero, List.set_cons_succ])) | (refine wpVals_move _ (by rfl) (by rfl) (HearC.more _ (by decide)) ?_; (simp only [Act.put, Act.eval, List.getD_toArray, List.getD_cons_zero, List.getD_cons_succ, List.setIfInBounds_toArray, List.set_cons_zero, List.set_cons_succ])) | (refine wpVals_assign _ (by rfl) (by rfl) (HearC.more _ (by decide)) ?_; (simp only [Act.put, Act.eval, List.getD_toArray, List.getD_cons_zero, List.getD_cons_succ, List.setIfInBounds_toArray, List.set_cons_zero, List.set_cons_succ])) | (refine wpVals_load _ _ (by rfl) (by rfl) (HearC.more _ (by decide)) ?_ _ (by rfl) (by first | exact l2.out) ?_; (· intro w; simp); (simp only [Act.put, List.setIfInBounds_toArray, List.set_cons_zero, List.set_cons_succ])) | (refine wpVals_store 4 _ _ (by rfl) (by rfl) ⟨g, 4 + q * 8 + 6, none⟩ (by rfl) (by rfl) (by kernel_rfl) (by rfl) (HearC.at8 hq 6 (by omega)) (fun L w' h _ _ => HearC.s12 hq L w' h) ?_; (simp only [Act.put])) | (refine wpVals_store 3 _ _ (by rfl) (by rfl) ⟨g, 4 + q * 8 + 7, none⟩ (by rfl) (by rfl) (by kernel_rfl) (by rfl) (HearC.at8 hq 7 (by omega)) (fun L w' h _ _ => HearC.s17 hq L w' h) ?_; (simp only [Act.put])) | (refine wpVals_free (v := ?_) (by rfl) (HearC.more _ (by decide)) (fun _ => ?_) ?_; rotate_left; (first | (go_simp; done) | (go_simp; rfl)); (simp only [Act.put, List.setIfInBounds_toArray, List.set_cons_zero, List.set_cons_succ])))
    refine wpVals_nil ?_
    intro w1 hC1
    go_wp2
    go_end0
    exact ⟨rfl, by rw [E.out]; exact hC1.1, hC1.2⟩
theorem grown_cells {w w' : World} {g : Nat} (h : w.grownBy w' (some g)) (k : Nat) (vs : List Value) : w.grownBy (w'.setCells g k vs) (some g) := by
  induction vs generalizing w' k with
  | nil => exact h
  | cons v vs ih => exact ih (grown_set h k v) (k + 1)
theorem grown_trans {a b c : World} {g : Nat} (h : a.grownBy b (some g)) (k : b.grownBy c (some g)) : a.grownBy c (some g) :=
  ⟨k.os.trans h.os, k.tape.trans h.tape, k.output.trans h.output, Nat.le_trans h.size k.size, fun i hi hne => (k.block i (Nat.lt_of_lt_of_le hi h.size) hne).trans (h.block i hi hne)⟩
theorem grown_after {a b c : World} {g : Nat} (h : Below a.heap.size a b) (k : b.grownBy c (some g)) : a.grownBy c (some g) := grown_trans (grown_of_below h g) k
/-- What a process said is set. -/
def setMid (m : Ear) (p : Nat) (sd : Bool) (b : Bt) (b1 b2 : Bool) : Ear := m.upd p fun x => ⟨if b2 then b else x.b, if b1 then sd else x.said, x.ever, x.at_⟩
def SetC (W : World) (g : Nat) (m : Ear) (p : Nat) (sd : Bool) (b : Bt) (L : Nat → Bool) (w : World) : Prop := EarAt w g (setMid m p sd b (L 9) (L 14)) ∧ W.grownBy w (some g)
section
variable {W : World} {g : Nat} {m : Ear} {p : Nat} {sd : Bool} {b : Bt}
theorem SetC.start (h : EarAt W g m) (n : Nat) : SetC W g m p sd b (fun _ => false) { W with drawn := n } :=
  ⟨by rw [show setMid m p sd b false false = m from Ear.upd_same rfl]; exact ⟨h.lt, h.nf, h.c0, h.c1, h.c2, h.c3, h.e⟩, ⟨rfl, rfl, rfl, Nat.le_refl _, fun _ _ _ => rfl⟩⟩
theorem SetC.more : ∀ i, (i ≠ 9 ∧ i ≠ 14) → ∀ L w, SetC W g m p sd b L w → L i = false → SetC W g m p sd b (addL L i) w := by
  intro i hi L w ⟨h1, h2⟩ _
  refine ⟨?_, h2⟩
  unfold addL
  rw [if_neg (Ne.symm hi.1), if_neg (Ne.symm hi.2)]
  exact h1
theorem SetC.s9 (hp : p < 64) : ∀ (L : Nat → Bool) w, SetC W g m p sd b L w → SetC W g m p sd b (addL L 9) (w.setCell ⟨g, 4 + p * 8 + 5, none⟩ (.bool sd)) := by
  intro L w ⟨h1, h2⟩
  refine ⟨?_, grown_set h2 _ _⟩
  have := h1.said hp sd
  rw [setMid, Ear.upd_upd] at this
  exact this
theorem SetC.s14 (hp : p < 64) : ∀ (L : Nat → Bool) w, SetC W g m p sd b L w → SetC W g m p sd b (addL L 14) (w.setCells g (4 + p * 8) b.vals) := by
  intro L w ⟨h1, h2⟩
  refine ⟨?_, grown_cells h2 _ _⟩
  have := h1.bt hp b
  rw [setMid, Ear.upd_upd] at this
  exact this
theorem SetC.at8 (hp : p < 64) (j : Nat) (hj : j < 8) : ∀ (L : Nat → Bool) w, SetC W g m p sd b L w → (∃ c, w.cell? ⟨g, 4 + p * 8 + j, none⟩ = some c) ∧ w.frozen? ⟨g, 4 + p * 8 + j, none⟩ = false := by
  intro L w ⟨h1, h2⟩
  exact ⟨⟨_, h1.e p hp j _ (List.getElem?_eq_getElem (by simp [Ent.vals, Bt.vals]; exact hj))⟩, h1.nf _⟩
theorem SetC.there (hp : p < 64) : ∀ (L : Nat → Bool) w, SetC W g m p sd b L w → w.there g (4 + p * 8) 5 := by
  intro L w ⟨h1, h2⟩ j hj
  exact ⟨by rw [h1.e p hp j _ (List.getElem?_eq_getElem (by simp [Ent.vals, Bt.vals]; omega))]; rfl, h1.nf _⟩
theorem SetC.box {B : Nat} {x : Obj} (hB : W.heap[B]? = some x) (hne : B ≠ g) : ∀ (L : Nat → Bool) w, SetC W g m p sd b L w → w.heap[B]? = some x := by
  intro L w ⟨_, h2⟩
  rw [h2.block B (Array.getElem?_eq_some_iff.1 hB).1 (by intro e; exact hne (Option.some.inj e))]; exact hB
end
theorem size_beat : (Tryd.prog.info? 67).map (·.size) = some 5 := by kernel_rfl
theorem hearE_others (m : Ear) (p : Int) : (hearE m p).others = m.others := by unfold hearE; split <;> rfl
theorem Ear.Wf.hear {m : Ear} (h : m.Wf) (p : Int) : (hearE m p).Wf := by
  unfold hearE
  split
  · exact h.upd _ _ fun _ _ => ⟨h.n0, Int.le_refl _⟩
  · exact h
def beatE (m : Ear) (p : Int) (b : Bt) : Ear := if hasN m.others p then (hearE m p).upd p.toNat fun x => { x with said := true, b := b } else m
theorem Bt.one (b : Bt) : b.vals.toArray.all (·.oneCell') = true := by simp [Bt.vals, Value.oneCell']
theorem beat_any (g : Nat) (m : Ear) (p : Int) (b : Bt) (w : World) (hw : EarAt w g m) (wf : m.Wf) :
    Calls Tryd.prog 37 #[.pointer (some ⟨g, 0, none⟩), .int .i64 p, b.v] w fun e w' => e = .returned (.tuple #[]) ∧ EarAt w' g (beatE m p b) ∧ w.grownBy w' (some g) := by
  have HA := Lib.hid ((Below.refl w.heap.size w).alloc (Nat.le_refl _) (.cells b.vals.toArray 67))
  have HB := Lib.hid (heap_alloc_new w (.cells b.vals.toArray 67))
  have hne : Hid (w.heap.size ≠ g) := Lib.hid (Nat.ne_of_gt hw.lt)
  have HH := Lib.hid (hear_any g m p _ (hw.below HA.out) wf)
  unfold Bt.v
  have hu : Hid ((Tryd.prog.info? 67).map (·.size) = some b.vals.toArray.size) := Lib.hid size_beat
  have WF := Lib.hid (wf.hear p)
  have HO := Lib.hid (hearE_others m p)
  clear hw wf
  cases hh : hasN m.others p
  · have E := Lib.hid (show beatE m p b = hearE m p by unfold beatE hearE; rw [hh]; rfl)
    have HX := Lib.hid (show hasN (hearE m p).others p = false by rw [HO.out, hh])
    clear hh
    go_enter Tryd.func37, Tryd.ntmps37
    go_wp2_with fail
    refine HH.out.mono ?_
    rintro e w1 ⟨rfl, h1, hg⟩
    have H1 := Lib.hid h1
    have G1 := Lib.hid hg
    have c3 := h1.c3
    clear h1 hg
    go_wp2_with fail
    refine (has_any (hearE m p).others p WF.out.others w1).mono ?_
    rintro e w2 ⟨rfl, rfl⟩
    rw [HX.out]
    go_wp2
    go_end0
    exact ⟨rfl, by rw [E.out]; exact H1.out, grown_after HA.out G1.out⟩
  · obtain ⟨hp0, hp1⟩ := hasN_range hh
    obtain ⟨q, rfl⟩ := Int.eq_ofNat_of_zero_le hp0
    have hq : q < 64 := by omega
    have E := Lib.hid (show beatE m q b = setMid (hearE m q) q true b true true by unfold beatE; rw [hh]; rfl)
    have HX := Lib.hid (show hasN (hearE m q).others q = true by rw [HO.out, hh])
    clear hh
    go_enter Tryd.func37, Tryd.ntmps37
    go_wp2_with fail
    refine HH.out.mono ?_
    rintro e w1 ⟨rfl, h1, hg⟩
    have H1 := Lib.hid h1
    have G1 := Lib.hid hg
    have c3 := h1.c3
    have hC0 := SetC.start (p := q) (sd := true) (b := b) h1 (w1.drawn + 1)
    have hbx := Lib.hid (SetC.box (m := hearE m q) (p := q) (sd := true) (b := b) (show w1.heap[w.heap.size]? = some (.cells b.vals.toArray 67 (0, 0)) by
      rw [hg.block _ (by simp) (by intro e; exact hne.out (Option.some.inj e))]; exact HB.out) hne.out)
    clear h1 hg
    go_wp2_with fail
    refine (has_any (hearE m q).others q WF.out.others w1).mono ?_
    rintro e w2 ⟨rfl, rfl⟩
    rw [HX.out]
    go_wp2
    refine wp_region_vals (C := SetC w1 g (hearE m q) q true b) (by kernel_rfl) (by kernel_rfl) hC0 ?_
    dsimp only []
    repeat (first | (refine wpVals_skip (by rfl) (SetC.more _ (by decide)) ?_; (simp only [Act.put, List.setIfInBounds_toArray, List.set_cons_zero, List.set_cons_succ])) | (refine wpVals_move _ (by rfl) (by rfl) (SetC.more _ (by decide)) ?_; (simp only [Act.put, Act.eval, List.getD_toArray, List.getD_cons_zero, List.getD_cons_succ, List.setIfInBounds_toArray, List.set_cons_zero, List.set_cons_succ])) | (refine wpVals_assign _ (by rfl) (by rfl) (SetC.more _ (by decide)) ?_; (simp only [Act.put, Act.eval, List.getD_toArray, List.getD_cons_zero, List.getD_cons_succ, List.setIfInBounds_toArray, List.set_cons_zero, List.set_cons_succ])) | (refine wpVals_load_agg Tryd.underlying67 rfl hu.out _ (by rfl) (by rfl) (SetC.more _ (by decide)) _ (by rfl) _ _ hbx.out ?_; (simp only [Act.put, List.setIfInBounds_toArray, List.set_cons_zero, List.set_cons_succ])) | (refine wpVals_store 4 _ _ (by rfl) (by rfl) ⟨g, 4 + q * 8 + 5, none⟩ (by rfl) (by rfl) (by kernel_rfl) (by rfl) (SetC.at8 hq 5 (by omega)) (fun L w' h _ _ => SetC.s9 hq L w' h) ?_; (simp only [Act.put])) | (refine wpVals_store_mid 67 _ _ (by rfl) (by rfl) g (4 + q * 8) (by rfl) b.vals.toArray (by rfl) (SetC.there hq) hu.out b.one (fun L w' h _ _ => SetC.s14 hq L w' h) ?_; (simp only [Act.put])) | (refine wpVals_free (v := ?_) (by rfl) (SetC.more _ (by decide)) (fun _ => ?_) ?_; rotate_left; (first | (go_simp; done) | (go_simp; rfl)); (simp only [Act.put, List.setIfInBounds_toArray, List.set_cons_zero, List.set_cons_succ])))
    refine wpVals_nil ?_
    intro w2 hC1
    go_wp2
    go_end0
    exact ⟨rfl, by rw [E.out]; exact hC1.1, grown_after HA.out (grown_trans G1.out hC1.2)⟩
/-- The form of an own slice of ints, and where it lies. -/
theorem IntsOwn.form' {w : World} {B : Nat} {v : Value} {xs : List Nat} (h : IntsOwn w B v xs) :
    ∃ (a : Option Addr) (c g : Nat), v = .slice a xs.length c ∧ (0 < xs.length → a = some ⟨g, 0, none⟩ ∧ B ≤ g) ∧
      ∀ i, i < xs.length → w.cell? ⟨g, i, none⟩ = some (.int .i64 ((xs.getD i 0 : Nat) : Int)) := by
  obtain ⟨hl, hv | ⟨g, cap, cur, hv, hg, hh, hn, hm, hc, ht⟩⟩ := h
  · refine ⟨none, 0, 0, ?_, fun h0 => ?_, fun i hi => ?_⟩
    · rw [hv.1, hv.2]
    · omega
    · omega
  · refine ⟨some ⟨g, 0, none⟩, cap, g, hv, fun _ => ⟨rfl, hg⟩, fun i hi => ?_⟩
    unfold World.cell?
    simp only [hh, Option.isSome_none, Bool.false_eq_true, if_false]
    have e : cur.toList[i]? = (cur.toList.take (xs.length * 1))[i]? := by rw [List.getElem?_take, if_pos (by omega)]
    rw [← Array.getElem?_toList, e, ht]
    simp [hi]
/-- What some said is forgotten. -/
def forgetL (m : Ear) (ps : List Nat) : Ear := ps.foldl (fun m p => m.upd p fun x => { x with said := false, b := Bt.zero }) m
theorem forgetL_snoc (m : Ear) (ps : List Nat) (p : Nat) : forgetL m (ps ++ [p]) = (forgetL m ps).upd p fun x => { x with said := false, b := Bt.zero } := by simp [forgetL]
def forgetE (m : Ear) (s : Nat) : Ear := forgetL m (listN (s &&& m.others))
theorem zero_beat (w : World) : (zeroValue 67).run Tryd.prog w = .ok (.agg Bt.zero.vals.toArray) w := by kernel_rfl
theorem forget_any (g : Nat) (m : Ear) (s : Nat) (hs : s < 18446744073709551616) (w : World) (hT : TabOk w) (hw : EarAt w g m) (wf : m.Wf) :
    Calls Tryd.prog 38 #[.pointer (some ⟨g, 0, none⟩), .int .u64 s] w fun e w' => e = .returned (.tuple #[]) ∧ EarAt w' g (forgetE m s) ∧ w.grownBy w' (some g) := by
  have h3 := hw.c3
  have HB := Lib.hid (both_any s m.others hs wf.others w)
  have H := Lib.hid (list_any (s &&& m.others) (and_lt64 hs) w hT)
  have HW := Lib.hid hw
  have hz := zero_beat
  have hu : Hid ((Tryd.prog.info? 67).map (·.size) = some Bt.zero.vals.toArray.size) := Lib.hid size_beat
  unfold forgetE
  have hl := listN_length (s &&& m.others)
  have hq1 := Lib.hid (fun q (h : q ∈ listN (s &&& m.others)) => listN_lt h)
  obtain ⟨ls, hls⟩ : ∃ ls, listN (s &&& m.others) = ls := ⟨_, rfl⟩
  rw [hls] at H hl hq1
  rw [hls]
  clear hT hw wf hs hls
  go_enter Tryd.func38, Tryd.ntmps38
  go_wp2_with fail
  refine HB.out.mono ?_
  rintro e w' ⟨rfl, rfl⟩
  go_wp2_with fail
  refine H.out.mono ?_
  rintro e w1 ⟨v, rfl, hown, hb⟩
  obtain ⟨a, c, gl, rfl, ha, hcl⟩ := hown.form'
  have HX := Lib.hid hb
  have HCL := Lib.hid hcl
  have HA := Lib.hid ha
  clear hb hcl hown ha h3
  go_wp2
  go_loopw [5, 14] (fun _ i wr => ∃ k : Nat, k ≤ ls.length ∧ i = .int .i64 k ∧ EarAt wr g (forgetL m (ls.take k)) ∧ w1.grownBy wr (some g)) (fun _ i _ => ls.length - (intOf i).toNat)
  case atStart => exact ⟨0, Nat.zero_le _, rfl, HW.out.below HX.out, grown_of_below (Below.refl _ _) g⟩
  case round =>
    obtain ⟨k, hk, rfl, hE, hg⟩ := hrel
    have HE := Lib.hid hE
    have HG := Lib.hid hg
    by_cases hlt : k < ls.length
    · obtain ⟨q, hqk⟩ : ∃ q, ls[k] = q := ⟨_, rfl⟩
      have hq : q < 64 := hq1.out q (by rw [← hqk]; exact List.getElem_mem hlt)
      obtain ⟨rfl, hgl⟩ := HA.out (by omega)
      have hcell := HCL.out k hlt
      rw [show ls.getD k 0 = q by simp [hlt, hqk]] at hcell
      have hcell2 : wr.cell? ⟨gl, k, none⟩ = some (.int .i64 q) := by
        rw [World.cell?_of_block (w := w1) (a := ⟨gl, k, none⟩) (hg.block gl (World.block_lt_of_cell? _ _ hcell) (by intro e; have := Option.some.inj e; have := HW.out.lt; omega))]; exact hcell
      have ES := Lib.hid (show forgetL m (ls.take (k + 1)) = setMid (forgetL m (ls.take k)) q false Bt.zero true true by rw [take_snoc _ _ hlt, hqk, forgetL_snoc]; rfl)
      have hC0 := SetC.start (p := q) (sd := false) (b := Bt.zero) hE (wr.drawn + 1)
      have hq64' : (q : Int) < 64 := by omega
      have hkl : (k : Int) < (ls.length : Int) := by omega
      have hqk' := Lib.hid hqk
      clear hcell hE hg hqk hgl
      go_wp2
      refine wp_region_vals (C := SetC wr g (forgetL m (ls.take k)) q false Bt.zero) (by kernel_rfl) (by kernel_rfl) hC0 ?_
      dsimp only []
      repeat (first | (refine wpVals_skip (by rfl) (SetC.more _ (by decide)) ?_; (simp only [Act.put, List.setIfInBounds_toArray, List.set_cons_zero, List.set_cons_succ])) | (refine wpVals_move _ (by rfl) (by rfl) (SetC.more _ (by decide)) ?_; (simp only [Act.put, Act.eval, List.getD_toArray, List.getD_cons_zero, List.getD_cons_succ, List.setIfInBounds_toArray, List.set_cons_zero, List.set_cons_succ])) | (refine wpVals_assign _ (by rfl) (by rfl) (SetC.more _ (by decide)) ?_; (simp only [Act.put, Act.eval, List.getD_toArray, List.getD_cons_zero, List.getD_cons_succ, List.setIfInBounds_toArray, List.set_cons_zero, List.set_cons_succ])) | (refine wpVals_store 4 _ _ (by rfl) (by rfl) ⟨g, 4 + q * 8 + 5, none⟩ (by rfl) (by rfl) (by kernel_rfl) (by rfl) (SetC.at8 hq 5 (by omega)) (fun L w' h _ _ => SetC.s9 hq L w' h) ?_; (simp only [Act.put])) | (refine wpVals_store_mid 67 _ _ (by rfl) (by rfl) g (4 + q * 8) (by rfl) Bt.zero.vals.toArray (by rfl) (SetC.there hq) hu.out Bt.zero.one (fun L w' h _ _ => SetC.s14 hq L w' h) ?_; (simp only [Act.put])) | (refine wpVals_free (v := ?_) (by rfl) (SetC.more _ (by decide)) (fun _ => ?_) ?_; rotate_left; (first | (go_simp; done) | (go_simp; rfl)); (simp only [Act.put, List.setIfInBounds_toArray, List.set_cons_zero, List.set_cons_succ])))
      refine wpVals_nil ?_
      intro w2 hC1
      go_wp2
      exact ⟨⟨k + 1, by omega, by go_num, by rw [ES.out]; exact hC1.1, grown_trans HG.out hC1.2⟩, by simp [intOf]; omega⟩
    · obtain rfl : k = ls.length := by omega
      go_wp2
      go_end0
      exact ⟨rfl, by rw [List.take_length] at hE; exact hE, grown_after HX.out HG.out⟩
theorem Ear.Wf.beat {m : Ear} (h : m.Wf) (p : Int) (b : Bt) : (beatE m p b).Wf := by
  unfold beatE
  split
  · exact (h.hear p).upd _ _ fun _ hx => hx
  · exact h
theorem Ear.Wf.forgetL {m : Ear} (h : m.Wf) (ps : List Nat) : (forgetL m ps).Wf := by
  unfold Proofs.YtjokfjdbioeohaaDoor.forgetL
  induction ps generalizing m with
  | nil => exact h
  | cons p ps ih => exact ih (h.upd _ _ fun _ hx => hx)
theorem Ear.Wf.forget {m : Ear} (h : m.Wf) (s : Nat) : (forgetE m s).Wf := h.forgetL _
end Go.Proofs.YtjokfjdbioeohaaDoor

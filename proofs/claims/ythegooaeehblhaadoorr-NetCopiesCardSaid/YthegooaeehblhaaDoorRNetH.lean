/-
  Package net: Heal, New, Cut.
-/
import Derived.Test.YthegooaeehblhaaDoorRNet
namespace Go.Proofs.YthegooaeehblhaaDoorR
open Go.RowKit Go.BigFrame
set_option maxHeartbeats 1000000
set_option maxRecDepth 100000
def Nt.set (t : Nt) (p x : Nat) : Nt := { t with links := fun i => if i = p then x else t.links i }
theorem Nt.Wf.set {t : Nt} (h : t.Wf) (p : Nat) {x : Nat} (hx : x < 18446744073709551616) : (t.set p x).Wf :=
  ⟨h.n, fun i => by show (if i = p then x else t.links i) < _; split; exact hx; exact h.links i, h.l, h.d⟩
theorem NetAt.set {w : World} {B g : Nat} {t : Nt} {rb : Option Nat} (h : NetAt w B g t rb) {p : Nat} (hp : p < 64) (x : Nat) : NetAt (w.setCell ⟨g, 1 + p, none⟩ (.int .u64 x)) B g (t.set p x) rb := by
  obtain ⟨cs, h1, h2⟩ := h.blk
  have hgr := grown_set (grown_of_below (Below.refl w.heap.size w) g) (1 + p) (.int .u64 x)
  have hc : ∀ k, k ≠ 1 + p → (w.setCell ⟨g, 1 + p, none⟩ (.int .u64 x)).cell? ⟨g, k, none⟩ = w.cell? ⟨g, k, none⟩ := fun k hk => World.cell?_setCell_other _ _ _ _ (by intro e; (simp at e <;> omega))
  obtain ⟨v, r1, r2, r3⟩ := h.row
  refine ⟨⟨_, rowCell h1 _ _, by simpa using h2⟩, (hc 0 (by omega)).trans h.c0, fun i hi => ?_, v, (hc 65 (by omega)).trans r1, r2.kept hgr (.inr (by rw [r3]; exact Ne.symm h.gne)), r3⟩
  by_cases e : i = p
  · subst e
    rw [World.cell?_setCell_same _ _ _ (h.k i hi)]
    simp [Nt.set]
  · rw [hc _ (by omega), h.k i hi]
    simp [Nt.set, e]
/-- All are linked. -/
def healL (t : Nt) (all : Nat) (ps : List Nat) : Nt := ps.foldl (fun t p => t.set p all) t
def healN (t : Nt) : Nt := healL t (allN t.n) (listN (allN t.n))
theorem healL_snoc (t : Nt) (all : Nat) (ps : List Nat) (p : Nat) : healL t all (ps ++ [p]) = (healL t all ps).set p all := by simp [healL]
theorem healL_keeps (all : Nat) (ps : List Nat) : ∀ t : Nt, (healL t all ps).n = t.n ∧ (healL t all ps).l = t.l ∧ ∀ i, (healL t all ps).links i = if i ∈ ps then all else t.links i := by
  induction ps with
  | nil => exact fun t => ⟨rfl, rfl, fun i => rfl⟩
  | cons p ps ih =>
    intro t
    obtain ⟨h1, h2, h3⟩ := ih (t.set p all)
    refine ⟨h1, h2, fun i => ?_⟩
    show (healL (t.set p all) all ps).links i = _
    rw [h3]
    by_cases hi : i ∈ ps
    · simp [hi]
    · by_cases e : i = p
      · subst e; simp [hi, Nt.set]
      · simp [hi, e, Nt.set]
theorem Nt.Wf.healL {t : Nt} (h : t.Wf) {all : Nat} (ha : all < 18446744073709551616) (ps : List Nat) : (healL t all ps).Wf := by
  obtain ⟨h1, h2, h3⟩ := healL_keeps all ps t
  exact ⟨by rw [h1]; exact h.n, fun i => by rw [h3]; split; exact ha; exact h.links i, by rw [h2]; exact h.l, by rw [h2]; exact h.d⟩
theorem Nt.Wf.heal {t : Nt} (h : t.Wf) : (healN t).Wf := h.healL (allN_lt _) _
section
variable {w : World} {B g : Nat} {t : Nt} {rb : Option Nat}
theorem heal_any (h : NetAt w B g t rb) (wf : t.Wf) (hT : TabOk w) :
    Calls Tryd.prog 13 #[.pointer (some ⟨g, 0, none⟩)] w fun e w' => e = .returned (.tuple #[]) ∧ NetAt w' B g (healN t) rb ∧ w.grownBy w' (some g) := by
  have c0 := h.c0
  have HW := Lib.hid h
  have H := Lib.hid (list_any (allN t.n) (allN_lt _) w hT)
  unfold healN
  have hl := listN_length (allN t.n)
  have hq1 := Lib.hid (fun q (h : q ∈ listN (allN t.n)) => listN_lt h)
  have HAL := Lib.hid (all_any t.n w)
  generalize allN t.n = all at H hl hq1 HAL ⊢
  obtain ⟨ls, hls⟩ : ∃ ls, listN all = ls := ⟨_, rfl⟩
  rw [hls] at H hl hq1
  rw [hls]
  clear h hT wf hls
  go_enter Tryd.func13, Tryd.ntmps13
  go_wp2_with fail
  refine HAL.out.mono ?_
  rintro e w' ⟨rfl, rfl⟩
  go_wp2_with fail
  refine H.out.mono ?_
  rintro e w1 ⟨v, rfl, hown, hb⟩
  obtain ⟨a, c, gl, rfl, ha, hcl⟩ := hown.form'
  have HX := Lib.hid hb
  have HCL := Lib.hid hcl
  have HA := Lib.hid ha
  have HW1 := Lib.hid (HW.out.below hb)
  clear hb hcl hown ha c0
  go_wp2
  go_loopw [4, 13] (fun _ i wr => ∃ k : Nat, k ≤ ls.length ∧ i = .int .i64 k ∧ NetAt wr B g (healL t all (ls.take k)) rb ∧ w1.grownBy wr (some g)) (fun _ i _ => ls.length - (intOf i).toNat)
  case atStart => exact ⟨0, Nat.zero_le _, rfl, HW1.out, grown_of_below (Below.refl _ _) g⟩
  case round =>
    obtain ⟨k, hk, rfl, hE, hg⟩ := hrel
    have HE := Lib.hid hE
    have HG := Lib.hid hg
    by_cases hlt : k < ls.length
    · obtain ⟨q, hqk⟩ : ∃ q, ls[k] = q := ⟨_, rfl⟩
      have hq : q < 64 := hq1.out q (by rw [← hqk]; exact List.getElem_mem hlt)
      obtain ⟨rfl, hgl⟩ := HA.out (by omega)
      have hcell := HCL.out k hlt
      rw [show ls.getD k 0 = q by simp [hlt, hqk]] at hcell
      have hcell2 : wr.cell? ⟨gl, k, none⟩ = some (.int .i64 q) := by
        rw [World.cell?_of_block (w := w1) (a := ⟨gl, k, none⟩) (hg.block gl (World.block_lt_of_cell? _ _ hcell) (by intro e; have := Option.some.inj e; have := HW.out.lt; omega))]; exact hcell
      have ES := Lib.hid (show healL t all (ls.take (k + 1)) = (healL t all (ls.take k)).set q all by rw [take_snoc _ _ hlt, hqk, healL_snoc])
      have hq64' : (q : Int) < 64 := by omega
      have hkl : (k : Int) < (ls.length : Int) := by omega
      have cq := HE.out.k q hq
      have fq := HE.out.nf (1 + q)
      have HE2 := Lib.hid (HE.out.set hq all)
      have HG2 := Lib.hid (grown_set HG.out (1 + q) (.int .u64 all))
      clear hcell hE hg hqk hgl
      go_wp2
      exact ⟨⟨k + 1, by omega, by go_num, by rw [ES.out]; exact HE2.out, HG2.out⟩, by simp [intOf]; omega⟩
    · obtain rfl : k = ls.length := by omega
      go_wp2
      go_end0
      exact ⟨rfl, by rw [List.take_length] at hE; exact hE, grown_after HX.out HG.out⟩
/-- Some are cut off. -/
def cut1 (t : Nt) (s p : Nat) : Nat := if hasN s p then t.links p &&& s else butN (t.links p) s
def cutL (t : Nt) (s : Nat) (ps : List Nat) : Nt := ps.foldl (fun t p => t.set p (cut1 t s p)) t
def cutN (t : Nt) (s : Nat) : Nt := cutL t s (listN (allN t.n))
theorem cutL_snoc (t : Nt) (s : Nat) (ps : List Nat) (p : Nat) : cutL t s (ps ++ [p]) = (cutL t s ps).set p (cut1 (cutL t s ps) s p) := by simp [cutL]
theorem cutL_keeps (s : Nat) (ps : List Nat) : ps.Nodup → ∀ t : Nt, (cutL t s ps).n = t.n ∧ (cutL t s ps).l = t.l ∧ ∀ i, (cutL t s ps).links i = if i ∈ ps then cut1 t s i else t.links i := by
  induction ps with
  | nil => exact fun _ t => ⟨rfl, rfl, fun i => rfl⟩
  | cons p ps ih =>
    intro hnd t
    rw [List.nodup_cons] at hnd
    obtain ⟨h1, h2, h3⟩ := ih hnd.2 (t.set p (cut1 t s p))
    refine ⟨h1, h2, fun i => ?_⟩
    show (cutL (t.set p (cut1 t s p)) s ps).links i = _
    rw [h3]
    by_cases hi : i ∈ ps
    · have hne : i ≠ p := fun e => hnd.1 (e ▸ hi)
      simp [hi, cut1, Nt.set, hne]
    · by_cases e : i = p
      · subst e; simp [hi, Nt.set]
      · simp [hi, e, Nt.set]
theorem listN_nodup (s : Nat) : (listN s).Nodup := List.Nodup.sublist List.filter_sublist List.nodup_range
theorem cut1_lt {t : Nt} (h : t.Wf) (s p : Nat) : cut1 t s p < 18446744073709551616 := by
  unfold cut1
  split
  · exact and_lt64 (h.links p)
  · exact butN_lt (h.links p) _
theorem Nt.Wf.cutL {t : Nt} (h : t.Wf) (s : Nat) (ps : List Nat) : (cutL t s ps).Wf := by
  unfold Proofs.YthegooaeehblhaaDoorR.cutL
  induction ps generalizing t with
  | nil => exact h
  | cons p ps ih => exact ih (h.set p (cut1_lt h s p))
theorem Nt.Wf.cut {t : Nt} (h : t.Wf) (s : Nat) : (cutN t s).Wf := h.cutL s _
theorem cut_any (h : NetAt w B g t rb) (wf : t.Wf) (hT : TabOk w) (s : Nat) (hs : s < 18446744073709551616) :
    Calls Tryd.prog 10 #[.pointer (some ⟨g, 0, none⟩), .int .u64 s] w fun e w' => e = .returned (.tuple #[]) ∧ NetAt w' B g (cutN t s) rb ∧ w.grownBy w' (some g) := by
  have c0 := h.c0
  have HW := Lib.hid h
  have WF := Lib.hid wf
  have HSS := Lib.hid hs
  have H := Lib.hid (list_any (allN t.n) (allN_lt _) w hT)
  unfold cutN
  have hl := listN_length (allN t.n)
  have hq1 := Lib.hid (fun q (h : q ∈ listN (allN t.n)) => listN_lt h)
  have HAL := Lib.hid (all_any t.n w)
  generalize allN t.n = all at H hl hq1 HAL ⊢
  obtain ⟨ls, hls⟩ : ∃ ls, listN all = ls := ⟨_, rfl⟩
  rw [hls] at H hl hq1
  rw [hls]
  clear h hT wf hls hs
  go_enter Tryd.func10, Tryd.ntmps10
  go_wp2_with fail
  refine HAL.out.mono ?_
  rintro e w' ⟨rfl, rfl⟩
  go_wp2_with fail
  refine H.out.mono ?_
  rintro e w1 ⟨v, rfl, hown, hb⟩
  obtain ⟨a, c, gl, rfl, ha, hcl⟩ := hown.form'
  have HX := Lib.hid hb
  have HCL := Lib.hid hcl
  have HA := Lib.hid ha
  have HW1 := Lib.hid (HW.out.below hb)
  clear hb hcl hown ha c0
  go_wp2
  go_loopw [5, 13] (fun _ i wr => ∃ k : Nat, k ≤ ls.length ∧ i = .int .i64 k ∧ NetAt wr B g (cutL t s (ls.take k)) rb ∧ w1.grownBy wr (some g)) (fun _ i _ => ls.length - (intOf i).toNat)
  case atStart => exact ⟨0, Nat.zero_le _, rfl, HW1.out, grown_of_below (Below.refl _ _) g⟩
  case round =>
    obtain ⟨k, hk, rfl, hE, hg⟩ := hrel
    have HE := Lib.hid hE
    have HG := Lib.hid hg
    by_cases hlt : k < ls.length
    · obtain ⟨q, hqk⟩ : ∃ q, ls[k] = q := ⟨_, rfl⟩
      have hq : q < 64 := hq1.out q (by rw [← hqk]; exact List.getElem_mem hlt)
      obtain ⟨rfl, hgl⟩ := HA.out (by omega)
      have hcell := HCL.out k hlt
      rw [show ls.getD k 0 = q by simp [hlt, hqk]] at hcell
      have hcell2 : wr.cell? ⟨gl, k, none⟩ = some (.int .i64 q) := by
        rw [World.cell?_of_block (w := w1) (a := ⟨gl, k, none⟩) (hg.block gl (World.block_lt_of_cell? _ _ hcell) (by intro e; have := Option.some.inj e; have := HW.out.lt; omega))]; exact hcell
      have ES := Lib.hid (show cutL t s (ls.take (k + 1)) = (cutL t s (ls.take k)).set q (cut1 (cutL t s (ls.take k)) s q) by rw [take_snoc _ _ hlt, hqk, cutL_snoc])
      have WF1 := Lib.hid (WF.out.cutL s (ls.take k))
      generalize cutL t s (ls.take k) = tk at HE ES WF1
      have hq64' : (q : Int) < 64 := by omega
      have hq0' : (0 : Int) ≤ (q : Int) := by omega
      have hkl : (k : Int) < (ls.length : Int) := by omega
      have HLQ := Lib.hid (WF1.out.links q)
      have HCUT := Lib.hid (show cut1 tk s q = if hasN s q then tk.links q &&& s else butN (tk.links q) s from rfl)
      obtain ⟨C, hC⟩ : ∃ C : Nat → MixC, ∀ x, C x = Last wr 7 9 13 (fun w2 w3 => w3 = w2.setCell ⟨g, 1 + q, none⟩ (.int .u64 x)) := ⟨_, fun _ => rfl⟩
      have hC0 : ∀ x, C x (fun _ => false) (fun _ => undef) { wr with drawn := wr.drawn + 1 } := fun x => by rw [hC]; exact Last.first _ _
      have hm : ∀ x i, (i ≠ 9 ∧ i ≠ 13) → ∀ L vs w, C x L vs w → L i = false → C x (addL L i) vs w := fun x => by rw [hC]; exact Last.more
      have l7 := Lib.hid (show ∀ x (L : Nat → Bool) vs w', C x L vs w' → L 7 = false → w'.cell? ⟨g, 1 + q, none⟩ = some (.int .u64 (tk.links q)) by
        intro x; rw [hC]; intro L vs w' h h7
        exact (HE.out.below (h.bel (h.early h7))).k q hq)
      have k13 := Lib.hid (show ∀ x (vs : Nat → Value) (L : Nat → Bool) w', C x L vs w' → L 13 = false → L 9 = true → (Value.int .u64 (x : Nat)).oneCell' = true ∧ (∃ c, w'.cell? ⟨g, 1 + q, none⟩ = some c) ∧ w'.frozen? ⟨g, 1 + q, none⟩ = false ∧ C x (addL L 13) vs (w'.setCell ⟨g, 1 + q, none⟩ (.int .u64 x)) by
        intro x; rw [hC]; intro vs L w' h h13 h9
        have hn := HE.out.below (h.bel h13)
        exact ⟨rfl, ⟨_, hn.k q hq⟩, hn.nf _, h.s13 (by decide) h13 h9 rfl⟩)
      have HC := Lib.hid (show ∀ x vs w', C x (ltL 14) vs w' → ∃ w2, Below wr.heap.size wr w2 ∧ w' = w2.setCell ⟨g, 1 + q, none⟩ (.int .u64 x) by
        intro x; rw [hC]; intro vs w' h
        exact h.fin (by rfl))
      have hfin : Hid (∀ (x : Nat) (w' : World), (∃ w2, Below wr.heap.size wr w2 ∧ w' = w2.setCell ⟨g, 1 + q, none⟩ (.int .u64 x)) → NetAt w' B g (tk.set q x) rb ∧ w1.grownBy w' (some g)) := Lib.hid (by
        rintro x w' ⟨w2, hb, rfl⟩
        exact ⟨(HE.out.below hb).set hq x, grown_trans HG.out (grown_set (grown_of_below hb g) (1 + q) (.int .u64 x))⟩)
      cases hh : hasN s q
      · rw [hh] at HCUT
        have k9 := Lib.hid (show ∀ (vs : Nat → Value) (L : Nat → Bool) w', C (butN (tk.links q) s) L vs w' → L 9 = false → L 7 = true → Calls Tryd.prog 27 #[.int .u64 (tk.links q), .int .u64 s] w' fun e w'' => e = .returned (.int .u64 (butN (tk.links q) s)) ∧ C (butN (tk.links q) s) (addL L 9) vs w'' by
          rw [hC]; intro vs L w' h h9 h7
          refine (but_any _ _ HLQ.out HSS.out _).mono ?_
          rintro e w'' ⟨rfl, rfl⟩
          exact ⟨rfl, h.s9 (by decide) h9 h7 (Below.refl _ _)⟩)
        have hH := Lib.hid (has_any s q HSS.out wr)
        rw [hh] at hH
        replace hC0 := hC0 (butN (tk.links q) s)
        replace hm := hm (butN (tk.links q) s)
        have l7 := Lib.hid (l7.out (butN (tk.links q) s))
        have k13 := Lib.hid (k13.out (butN (tk.links q) s))
        have HC := Lib.hid (HC.out (butN (tk.links q) s))
        have HF := Lib.hid (hfin.out (butN (tk.links q) s))
        generalize (butN (tk.links q) s) = x at *
        generalize tk.links q = y at *
        have ES2 := Lib.hid (show cutL t s (ls.take (k + 1)) = tk.set q x by rw [ES.out, HCUT.out]; rfl)
        clear hcell hE hg hqk hgl hh hC
        go_wp2_with fail
        refine hH.out.mono ?_
        rintro e w' ⟨rfl, rfl⟩
        go_upto_region 5 with fail
        refine wp_region_mix (C := C x) (by kernel_rfl) (by kernel_rfl) hC0 ?_
        dsimp only []
        repeat (first | (refine mix_skip (fun _ => by rfl) (hm _ (by decide)) ?_; (simp only [Act.put, Nat.reduceAdd, List.setIfInBounds_toArray, List.set_cons_zero, List.set_cons_succ])) | (refine mix_move _ (by rfl) (fun _ => by rfl) (hm _ (by decide)) (fun _ => by simp only [Act.eval, Array.getD_eq_getD_getElem?, List.getElem?_toArray, List.getElem?_cons_succ, List.getElem?_cons_zero, Option.getD_some] <;> rfl) ?_; (simp only [Act.put, Nat.reduceAdd, List.setIfInBounds_toArray, List.set_cons_zero, List.set_cons_succ])) | (refine mix_load _ _ (by rfl) (fun _ => by rfl) (hm _ (by decide)) ?_ _ (fun _ => by simp only [Act.eval, Array.getD_eq_getD_getElem?, List.getElem?_toArray, List.getElem?_cons_succ, List.getElem?_cons_zero, Option.getD_some] <;> rfl) (by exact l7.out) ?_; (· intro w; simp); (simp only [Act.put, Nat.reduceAdd, List.setIfInBounds_toArray, List.set_cons_zero, List.set_cons_succ])) | (refine mix_call 27 _ _ (by rfl) (fun _ => by rfl) Tryd.call27 _ (fun _ => by rfl) (fun vs L w' hC hL hwt => k9.out vs L w' hC hL (hwt 7 (by kernel_rfl))) ?_; (simp only [Act.put, Nat.reduceAdd, List.setIfInBounds_toArray, List.set_cons_zero, List.set_cons_succ])) | (refine mix_store _ _ _ (by rfl) (fun _ => by rfl) ⟨g, 1 + q, none⟩ (fun _ => by rfl) (fun _ => .int .u64 x) (fun _ => by rfl) (by kernel_rfl) (fun vs L w' h hL hwt => k13.out vs L w' h hL (hwt 9 (by kernel_rfl))) ?_; (simp only [Act.put, Nat.reduceAdd])) | (refine mix_free (v := ?_) (fun _ => by rfl) (hm _ (by decide)) (fun _ _ => ?_) ?_; rotate_left; (first | (go_simp; done) | (go_simp; rfl)); (simp only [Act.put, Nat.reduceAdd, List.setIfInBounds_toArray, List.set_cons_zero, List.set_cons_succ])))
        refine wpMix_nil ?_
        intro vs w3 hC3
        have hF := HF.out w3 (HC.out vs w3 hC3)
        have HF1 := Lib.hid hF.1
        have HF2 := Lib.hid hF.2
        clear hF hC3 hm hC0
        go_wp2
        exact ⟨⟨k + 1, by omega, by go_num, by rw [ES2.out]; exact HF1.out, HF2.out⟩, by simp [intOf]; omega⟩
      · rw [hh] at HCUT
        have k9 := Lib.hid (show ∀ (vs : Nat → Value) (L : Nat → Bool) w', C (tk.links q &&& s : Nat) L vs w' → L 9 = false → L 7 = true → Calls Tryd.prog 26 #[.int .u64 (tk.links q), .int .u64 s] w' fun e w'' => e = .returned (.int .u64 (tk.links q &&& s : Nat)) ∧ C (tk.links q &&& s : Nat) (addL L 9) vs w'' by
          rw [hC]; intro vs L w' h h9 h7
          refine (both_any _ _ HLQ.out HSS.out _).mono ?_
          rintro e w'' ⟨rfl, rfl⟩
          exact ⟨rfl, h.s9 (by decide) h9 h7 (Below.refl _ _)⟩)
        have hH := Lib.hid (has_any s q HSS.out wr)
        rw [hh] at hH
        replace hC0 := hC0 (tk.links q &&& s : Nat)
        replace hm := hm (tk.links q &&& s : Nat)
        have l7 := Lib.hid (l7.out (tk.links q &&& s : Nat))
        have k13 := Lib.hid (k13.out (tk.links q &&& s : Nat))
        have HC := Lib.hid (HC.out (tk.links q &&& s : Nat))
        have HF := Lib.hid (hfin.out (tk.links q &&& s : Nat))
        generalize (tk.links q &&& s : Nat) = x at *
        generalize tk.links q = y at *
        have ES2 := Lib.hid (show cutL t s (ls.take (k + 1)) = tk.set q x by rw [ES.out, HCUT.out]; rfl)
        clear hcell hE hg hqk hgl hh hC
        go_wp2_with fail
        refine hH.out.mono ?_
        rintro e w' ⟨rfl, rfl⟩
        go_upto_region 4 with fail
        refine wp_region_mix (C := C x) (by kernel_rfl) (by kernel_rfl) hC0 ?_
        dsimp only []
        repeat (first | (refine mix_skip (fun _ => by rfl) (hm _ (by decide)) ?_; (simp only [Act.put, Nat.reduceAdd, List.setIfInBounds_toArray, List.set_cons_zero, List.set_cons_succ])) | (refine mix_move _ (by rfl) (fun _ => by rfl) (hm _ (by decide)) (fun _ => by simp only [Act.eval, Array.getD_eq_getD_getElem?, List.getElem?_toArray, List.getElem?_cons_succ, List.getElem?_cons_zero, Option.getD_some] <;> rfl) ?_; (simp only [Act.put, Nat.reduceAdd, List.setIfInBounds_toArray, List.set_cons_zero, List.set_cons_succ])) | (refine mix_load _ _ (by rfl) (fun _ => by rfl) (hm _ (by decide)) ?_ _ (fun _ => by simp only [Act.eval, Array.getD_eq_getD_getElem?, List.getElem?_toArray, List.getElem?_cons_succ, List.getElem?_cons_zero, Option.getD_some] <;> rfl) (by exact l7.out) ?_; (· intro w; simp); (simp only [Act.put, Nat.reduceAdd, List.setIfInBounds_toArray, List.set_cons_zero, List.set_cons_succ])) | (refine mix_call 26 _ _ (by rfl) (fun _ => by rfl) Tryd.call26 _ (fun _ => by rfl) (fun vs L w' hC hL hwt => k9.out vs L w' hC hL (hwt 7 (by kernel_rfl))) ?_; (simp only [Act.put, Nat.reduceAdd, List.setIfInBounds_toArray, List.set_cons_zero, List.set_cons_succ])) | (refine mix_store _ _ _ (by rfl) (fun _ => by rfl) ⟨g, 1 + q, none⟩ (fun _ => by rfl) (fun _ => .int .u64 x) (fun _ => by rfl) (by kernel_rfl) (fun vs L w' h hL hwt => k13.out vs L w' h hL (hwt 9 (by kernel_rfl))) ?_; (simp only [Act.put, Nat.reduceAdd])) | (refine mix_free (v := ?_) (fun _ => by rfl) (hm _ (by decide)) (fun _ _ => ?_) ?_; rotate_left; (first | (go_simp; done) | (go_simp; rfl)); (simp only [Act.put, Nat.reduceAdd, List.setIfInBounds_toArray, List.set_cons_zero, List.set_cons_succ])))
        refine wpMix_nil ?_
        intro vs w3 hC3
        have hF := HF.out w3 (HC.out vs w3 hC3)
        have HF1 := Lib.hid hF.1
        have HF2 := Lib.hid hF.2
        clear hF hC3 hm hC0
        go_wp2
        exact ⟨⟨k + 1, by omega, by go_num, by rw [ES2.out]; exact HF1.out, HF2.out⟩, by simp [intOf]; omega⟩
    · obtain rfl : k = ls.length := by omega
      go_wp2
      go_end0
      exact ⟨rfl, by rw [List.take_length] at hE; exact hE, grown_after HX.out HG.out⟩
end
/-! ### New -/
def netZ (k : Nat) : Value := if k = 0 then .int .i64 0 else if k < 65 then .int .u64 0 else .slice none 0 0
def netZero : Array Value := ((List.range 66).map netZ).toArray
theorem netZero_size : netZero.size = 66 := by simp [netZero]
theorem netZero_at {k : Nat} (h : k < 66) : netZero[k]? = some (netZ k) := by simp [netZero, h]
theorem zero_net (w : World) : (zeroValue 55).run Tryd.prog w = .ok (.agg netZero) w := by kernel_rfl
def bareN (n : Nat) : Nt := ⟨n, fun _ => 0, []⟩
def newN (n : Int) : Nt := healN (bareN (clamp n))
theorem bareN_wf {n : Nat} (h : n ≤ 64) : (bareN n).Wf := ⟨h, fun _ => by show 0 < _; decide, Nat.zero_le _, fun _ hx => by cases hx⟩
theorem newN_wf (n : Int) : (newN n).Wf := (bareN_wf (clamp_le n)).heal
theorem bare_at (n : Nat) (w : World) (g B : Nat) (hg : w.heap[g]? = some (.cells (netZero.setIfInBounds 0 (.int .i64 n)) 55 (0, 0))) : NetAt w B g (bareN n) none := by
  have hz := netZero_size
  have hc : ∀ k, w.cell? ⟨g, k, none⟩ = (netZero.setIfInBounds 0 (.int .i64 n))[k]? := fun k => cell_of_row w g k _ _ _ hg
  refine ⟨⟨_, hg, by simp [hz]⟩, by rw [hc]; simp [hz, bareN], fun i hi => ?_, .slice none 0 0, ?_, World.ownsRow_nil _ _ _ _, rfl⟩
  · rw [hc, Array.getElem?_setIfInBounds_ne (by omega), netZero_at (by omega)]
    unfold netZ
    rw [if_neg (by omega), if_pos (by omega)]; rfl
  · rw [hc, Array.getElem?_setIfInBounds_ne (by omega), netZero_at (by omega)]; rfl
def NewPost (n : Int) (w : World) (e : Ending) (w' : World) : Prop := ∃ g, e = .returned (.pointer (some ⟨g, 0, none⟩)) ∧ NetAt w' w.heap.size g (newN n) none ∧ Below w.heap.size w w' ∧ w.heap.size ≤ g
theorem nnew_any (n : Int) (w : World) (hT : TabOk w) : Calls Tryd.prog 8 #[.int .i64 n] w (NewPost n w) := by
  have hz := zero_net
  have hzs := netZero_size
  by_cases h0 : n ≤ 0
  · have hk : 0 ≤ 64 := by decide
    have HB := Lib.hid (show NetAt (w.alloc (.cells (netZero.setIfInBounds 0 (.int .i64 0)) 55)) w.heap.size w.heap.size (bareN 0) none from bare_at 0 _ _ _ (heap_alloc_new _ _))
    have HH := Lib.hid (heal_any HB.out (bareN_wf hk) (hT.belowS (bel_box _ _ _)))
    have E := Lib.hid (show newN n = healN (bareN 0) by unfold newN; rw [show clamp n = 0 by unfold clamp; omega])
    clear hT
    go_enter Tryd.func8, Tryd.ntmps8
    go_wp2_with fail
    refine HH.out.mono ?_
    rintro e w1 ⟨rfl, hn, hg⟩
    have HN := Lib.hid hn
    have HG := Lib.hid hg
    clear hn hg
    go_wp2_with fail
    go_ret
    exact ⟨_, rfl, by rw [E.out]; exact HN.out, bel_new HG.out, Nat.le_refl _⟩
  · by_cases h1 : n ≤ 64
    · obtain ⟨k, rfl⟩ := Int.eq_ofNat_of_zero_le (show 0 ≤ n by omega)
      have hk : k ≤ 64 := by omega
      have h0' : 0 < (k : Int) := by omega
      clear h0
      have HB := Lib.hid (show NetAt (w.alloc (.cells (netZero.setIfInBounds 0 (.int .i64 k)) 55)) w.heap.size w.heap.size (bareN k) none from bare_at k _ _ _ (heap_alloc_new _ _))
      have HH := Lib.hid (heal_any HB.out (bareN_wf hk) (hT.belowS (bel_box _ _ _)))
      have E := Lib.hid (show newN (k : Int) = healN (bareN k) by unfold newN; rw [show clamp (k : Int) = k by unfold clamp; omega])
      clear hT
      go_enter Tryd.func8, Tryd.ntmps8
      go_wp2_with fail
      refine HH.out.mono ?_
      rintro e w1 ⟨rfl, hn, hg⟩
      have HN := Lib.hid hn
      have HG := Lib.hid hg
      clear hn hg
      go_wp2_with fail
      go_ret
      exact ⟨_, rfl, by rw [E.out]; exact HN.out, bel_new HG.out, Nat.le_refl _⟩
    · have hk : 64 ≤ 64 := by decide
      have h1' : 64 < n := by omega
      clear h1 h0
      have HB := Lib.hid (show NetAt (w.alloc (.cells (netZero.setIfInBounds 0 (.int .i64 64)) 55)) w.heap.size w.heap.size (bareN 64) none from bare_at 64 _ _ _ (heap_alloc_new _ _))
      have HH := Lib.hid (heal_any HB.out (bareN_wf hk) (hT.belowS (bel_box _ _ _)))
      have E := Lib.hid (show newN n = healN (bareN 64) by unfold newN; rw [show clamp n = 64 by unfold clamp; omega])
      clear hT
      go_enter Tryd.func8, Tryd.ntmps8
      go_wp2_with fail
      refine HH.out.mono ?_
      rintro e w1 ⟨rfl, hn, hg⟩
      have HN := Lib.hid hn
      have HG := Lib.hid hg
      clear hn hg
      go_wp2_with fail
      go_ret
      exact ⟨_, rfl, by rw [E.out]; exact HN.out, bel_new HG.out, Nat.le_refl _⟩
end Go.Proofs.YthegooaeehblhaaDoorR

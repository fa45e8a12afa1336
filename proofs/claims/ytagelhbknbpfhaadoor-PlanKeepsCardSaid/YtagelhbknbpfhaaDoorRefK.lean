/-
  consortref15: counts; what it gives up, plainly.
-/
import Derived.Test.YtagelhbknbpfhaaDoorRefA
import Derived.Test.YtagelhbknbpfhaaDoorPlanFitsP
namespace Go.Proofs.YtagelhbknbpfhaaDoor
open Go.RowKit Go.BigFrame
set_option maxHeartbeats 1000000
set_option maxRecDepth 100000
theorem rcounts_any {w : World} {v : Value} {l : List XE} {a : Option Addr} {c b o : Nat} (h : ExsAt w v l a c b o) (y : MsE) :
    Calls Tryd.prog 41 #[v, .agg y.vals.toArray] w fun e w' => e = .returned (.bool (cntM (exs l) y.m)) ∧ Below w.heap.size w w' := by
  have hv := h.r.v
  subst hv
  obtain ⟨n, hn⟩ : ∃ n, w.heap.size = n := ⟨_, rfl⟩
  obtain ⟨W, hW⟩ : ∃ W : World, w.alloc (.cells y.vals.toArray 59) = W := ⟨_, rfl⟩
  have B0 := Lib.hid (show W.heap[n]? = some (.cells y.vals.toArray 59 (0, 0)) by rw [← hW, ← hn]; exact heap_alloc_new _ _)
  have BW := Lib.hid (show Below w.heap.size w W by rw [← hW]; exact bel_box _ _ _)
  have HW := Lib.hid hW
  have HP := Lib.hid (h.below rfl BW.out)
  clear hW h
  obtain ⟨N, hN⟩ : ∃ N, wholeL (exs l) y.m.frm = N := ⟨_, rfl⟩
  obtain ⟨S, hS⟩ : ∃ S, y.m.seq = S := ⟨_, rfl⟩
  obtain ⟨F, hF⟩ : ∃ F, y.m.frm = F := ⟨_, rfl⟩
  obtain ⟨K0, hK0⟩ : ∃ K0, decide (0 ≤ F) = K0 := ⟨_, rfl⟩
  obtain ⟨K1, hK1⟩ : ∃ K1, decide (F < 64) = K1 := ⟨_, rfl⟩
  obtain ⟨K2, hK2⟩ : ∃ K2, decide (1 ≤ S) = K2 := ⟨_, rfl⟩
  obtain ⟨K3, hK3⟩ : ∃ K3, decide (S ≤ N) = K3 := ⟨_, rfl⟩
  have b0 := Lib.hid hK0
  have b1 := Lib.hid hK1
  have b2 := Lib.hid (show decide ((1 : Int) ≤ (S : Int)) = K2 by rw [← hK2, decide_eq_decide]; omega)
  have b3 := Lib.hid (show decide ((S : Int) ≤ (N : Int)) = K3 by rw [← hK3, decide_eq_decide]; omega)
  have E := Lib.hid (show cntM (exs l) y.m = (K0 && K1 && K2 && K3) by
    unfold cntM
    rw [hN, hS, ← hK0, ← hK1, ← hK2, ← hK3]
    by_cases hr : 0 ≤ F ∧ F < 64
    · rw [decide_eq_true hr.1, decide_eq_true hr.2, Bool.eq_iff_iff]; simp; omega
    · have : N = 0 := by rw [← hN, hF]; unfold wholeL; rw [if_neg hr]
      rw [this, Bool.eq_iff_iff]; simp; omega)
  obtain ⟨C, hC⟩ : ∃ C : World → Prop, ∀ w', C w' ↔ Below W.heap.size W w' := ⟨_, fun _ => Iff.rfl⟩
  have hC0 : C { W with drawn := W.drawn + 1 } := (hC _).2 (Below.drew (Below.refl _ _))
  have l1 := Lib.hid (show ∀ w', C w' → w'.cell? ⟨n, 1, none⟩ = some (.int .u32 S) from fun w' h => by rw [cell_of_row w' n 1 _ _ _ (bblock ((hC w').1 h) B0.out), ← hS]; rfl)
  have l0 := Lib.hid (show ∀ w', C w' → w'.cell? ⟨n, 0, none⟩ = some (.int .i64 F) from fun w' h => by rw [cell_of_row w' n 0 _ _ _ (bblock ((hC w').1 h) B0.out), ← hF]; rfl)
  have kw := Lib.hid (show ∀ w', C w' → Calls Tryd.prog 17 #[.slice a l.length c, .int .i64 F] w' fun e w'' => e = .returned (.int .u32 N) ∧ C w'' from
    fun w' h => (rwhole_any (HP.out.below rfl ((hC w').1 h)) _).mono fun e w'' ⟨he, hw⟩ => ⟨by rw [← hN, hF]; exact he, hw ▸ h⟩)
  have HC := Lib.hid hC
  clear hC hN hS hK0 hK1 hK2 hK3 hF
  cases K0
  ·
    go_enter Tryd.func41, Tryd.ntmps41
    go_upto_region 1 with fail
    rw [HW.out]
    refine wp_region_quiet (C := C) (by kernel_rfl) (by kernel_rfl) hC0 ?_
    dsimp only []
    repeat (first | go_big_quiet_skip | (go_big_quiet_want; first | (refine quiet_load _ _ (by rfl) ?_ _ (by rfl) (by first | exact l1.out | exact l0.out) ?_; (· intro w; simp); (simp only [Act.put, List.setIfInBounds_toArray, List.set_cons_zero, List.set_cons_succ]); go_big_quiet_on) | (refine quiet_call 17 _ _ (by rfl) Tryd.call17 _ ?_ kw.out ?_; (· rfl); (simp only [Act.put, List.setIfInBounds_toArray, List.set_cons_zero, List.set_cons_succ]); go_big_quiet_on) | (refine quiet_geq_int _ _ _ _ (by rfl) (by rfl) (by rfl) b0.out ?_; (simp only [Act.put, List.setIfInBounds_toArray, List.set_cons_zero, List.set_cons_succ]); go_big_quiet_on) | (refine quiet_lss_int _ _ _ _ (by rfl) (by rfl) (by rfl) b1.out ?_; (simp only [Act.put, List.setIfInBounds_toArray, List.set_cons_zero, List.set_cons_succ]); go_big_quiet_on) | (refine quiet_geq_int _ _ _ _ (by rfl) (by rfl) (by rfl) b2.out ?_; (simp only [Act.put, List.setIfInBounds_toArray, List.set_cons_zero, List.set_cons_succ]); go_big_quiet_on) | (refine quiet_leq_int _ _ _ _ (by rfl) (by rfl) (by rfl) b3.out ?_; (simp only [Act.put, List.setIfInBounds_toArray, List.set_cons_zero, List.set_cons_succ]); go_big_quiet_on) | (go_big_quiet_op; go_big_quiet_on) | (go_big_quiet_op; refine Exists.intro _ ⟨fun _ _ => rfl, ?_⟩; go_big_quiet_on)))
    refine wpQuiet_nil ?_
    intro w4 hC4
    have B4 := Lib.hid (bthen' BW.out ((HC.out _).1 hC4))
    clear hC4 hC0
    go_wp2
    go_ret
    exact ⟨by rw [E.out]; rfl, B4.out⟩
  · cases K1
    ·
      go_enter Tryd.func41, Tryd.ntmps41
      go_upto_region 1 with fail
      rw [HW.out]
      refine wp_region_quiet (C := C) (by kernel_rfl) (by kernel_rfl) hC0 ?_
      dsimp only []
      repeat (first | go_big_quiet_skip | (go_big_quiet_want; first | (refine quiet_load _ _ (by rfl) ?_ _ (by rfl) (by first | exact l1.out | exact l0.out) ?_; (· intro w; simp); (simp only [Act.put, List.setIfInBounds_toArray, List.set_cons_zero, List.set_cons_succ]); go_big_quiet_on) | (refine quiet_call 17 _ _ (by rfl) Tryd.call17 _ ?_ kw.out ?_; (· rfl); (simp only [Act.put, List.setIfInBounds_toArray, List.set_cons_zero, List.set_cons_succ]); go_big_quiet_on) | (refine quiet_geq_int _ _ _ _ (by rfl) (by rfl) (by rfl) b0.out ?_; (simp only [Act.put, List.setIfInBounds_toArray, List.set_cons_zero, List.set_cons_succ]); go_big_quiet_on) | (refine quiet_lss_int _ _ _ _ (by rfl) (by rfl) (by rfl) b1.out ?_; (simp only [Act.put, List.setIfInBounds_toArray, List.set_cons_zero, List.set_cons_succ]); go_big_quiet_on) | (refine quiet_geq_int _ _ _ _ (by rfl) (by rfl) (by rfl) b2.out ?_; (simp only [Act.put, List.setIfInBounds_toArray, List.set_cons_zero, List.set_cons_succ]); go_big_quiet_on) | (refine quiet_leq_int _ _ _ _ (by rfl) (by rfl) (by rfl) b3.out ?_; (simp only [Act.put, List.setIfInBounds_toArray, List.set_cons_zero, List.set_cons_succ]); go_big_quiet_on) | (go_big_quiet_op; go_big_quiet_on) | (go_big_quiet_op; refine Exists.intro _ ⟨fun _ _ => rfl, ?_⟩; go_big_quiet_on)))
      refine wpQuiet_nil ?_
      intro w4 hC4
      have B4 := Lib.hid (bthen' BW.out ((HC.out _).1 hC4))
      clear hC4 hC0
      go_wp2
      go_ret
      exact ⟨by rw [E.out]; rfl, B4.out⟩
    · cases K2
      ·
        go_enter Tryd.func41, Tryd.ntmps41
        go_upto_region 1 with fail
        rw [HW.out]
        refine wp_region_quiet (C := C) (by kernel_rfl) (by kernel_rfl) hC0 ?_
        dsimp only []
        repeat (first | go_big_quiet_skip | (go_big_quiet_want; first | (refine quiet_load _ _ (by rfl) ?_ _ (by rfl) (by first | exact l1.out | exact l0.out) ?_; (· intro w; simp); (simp only [Act.put, List.setIfInBounds_toArray, List.set_cons_zero, List.set_cons_succ]); go_big_quiet_on) | (refine quiet_call 17 _ _ (by rfl) Tryd.call17 _ ?_ kw.out ?_; (· rfl); (simp only [Act.put, List.setIfInBounds_toArray, List.set_cons_zero, List.set_cons_succ]); go_big_quiet_on) | (refine quiet_geq_int _ _ _ _ (by rfl) (by rfl) (by rfl) b0.out ?_; (simp only [Act.put, List.setIfInBounds_toArray, List.set_cons_zero, List.set_cons_succ]); go_big_quiet_on) | (refine quiet_lss_int _ _ _ _ (by rfl) (by rfl) (by rfl) b1.out ?_; (simp only [Act.put, List.setIfInBounds_toArray, List.set_cons_zero, List.set_cons_succ]); go_big_quiet_on) | (refine quiet_geq_int _ _ _ _ (by rfl) (by rfl) (by rfl) b2.out ?_; (simp only [Act.put, List.setIfInBounds_toArray, List.set_cons_zero, List.set_cons_succ]); go_big_quiet_on) | (refine quiet_leq_int _ _ _ _ (by rfl) (by rfl) (by rfl) b3.out ?_; (simp only [Act.put, List.setIfInBounds_toArray, List.set_cons_zero, List.set_cons_succ]); go_big_quiet_on) | (go_big_quiet_op; go_big_quiet_on) | (go_big_quiet_op; refine Exists.intro _ ⟨fun _ _ => rfl, ?_⟩; go_big_quiet_on)))
        refine wpQuiet_nil ?_
        intro w4 hC4
        have B4 := Lib.hid (bthen' BW.out ((HC.out _).1 hC4))
        clear hC4 hC0
        go_wp2
        go_ret
        exact ⟨by rw [E.out]; rfl, B4.out⟩
      · cases K3
        ·
          go_enter Tryd.func41, Tryd.ntmps41
          go_upto_region 1 with fail
          rw [HW.out]
          refine wp_region_quiet (C := C) (by kernel_rfl) (by kernel_rfl) hC0 ?_
          dsimp only []
          repeat (first | go_big_quiet_skip | (go_big_quiet_want; first | (refine quiet_load _ _ (by rfl) ?_ _ (by rfl) (by first | exact l1.out | exact l0.out) ?_; (· intro w; simp); (simp only [Act.put, List.setIfInBounds_toArray, List.set_cons_zero, List.set_cons_succ]); go_big_quiet_on) | (refine quiet_call 17 _ _ (by rfl) Tryd.call17 _ ?_ kw.out ?_; (· rfl); (simp only [Act.put, List.setIfInBounds_toArray, List.set_cons_zero, List.set_cons_succ]); go_big_quiet_on) | (refine quiet_geq_int _ _ _ _ (by rfl) (by rfl) (by rfl) b0.out ?_; (simp only [Act.put, List.setIfInBounds_toArray, List.set_cons_zero, List.set_cons_succ]); go_big_quiet_on) | (refine quiet_lss_int _ _ _ _ (by rfl) (by rfl) (by rfl) b1.out ?_; (simp only [Act.put, List.setIfInBounds_toArray, List.set_cons_zero, List.set_cons_succ]); go_big_quiet_on) | (refine quiet_geq_int _ _ _ _ (by rfl) (by rfl) (by rfl) b2.out ?_; (simp only [Act.put, List.setIfInBounds_toArray, List.set_cons_zero, List.set_cons_succ]); go_big_quiet_on) | (refine quiet_leq_int _ _ _ _ (by rfl) (by rfl) (by rfl) b3.out ?_; (simp only [Act.put, List.setIfInBounds_toArray, List.set_cons_zero, List.set_cons_succ]); go_big_quiet_on) | (go_big_quiet_op; go_big_quiet_on) | (go_big_quiet_op; refine Exists.intro _ ⟨fun _ _ => rfl, ?_⟩; go_big_quiet_on)))
          refine wpQuiet_nil ?_
          intro w4 hC4
          have B4 := Lib.hid (bthen' BW.out ((HC.out _).1 hC4))
          clear hC4 hC0
          go_wp2
          go_ret
          exact ⟨by rw [E.out]; rfl, B4.out⟩
        ·
          go_enter Tryd.func41, Tryd.ntmps41
          go_upto_region 1 with fail
          rw [HW.out]
          refine wp_region_quiet (C := C) (by kernel_rfl) (by kernel_rfl) hC0 ?_
          dsimp only []
          repeat (first | go_big_quiet_skip | (go_big_quiet_want; first | (refine quiet_load _ _ (by rfl) ?_ _ (by rfl) (by first | exact l1.out | exact l0.out) ?_; (· intro w; simp); (simp only [Act.put, List.setIfInBounds_toArray, List.set_cons_zero, List.set_cons_succ]); go_big_quiet_on) | (refine quiet_call 17 _ _ (by rfl) Tryd.call17 _ ?_ kw.out ?_; (· rfl); (simp only [Act.put, List.setIfInBounds_toArray, List.set_cons_zero, List.set_cons_succ]); go_big_quiet_on) | (refine quiet_geq_int _ _ _ _ (by rfl) (by rfl) (by rfl) b0.out ?_; (simp only [Act.put, List.setIfInBounds_toArray, List.set_cons_zero, List.set_cons_succ]); go_big_quiet_on) | (refine quiet_lss_int _ _ _ _ (by rfl) (by rfl) (by rfl) b1.out ?_; (simp only [Act.put, List.setIfInBounds_toArray, List.set_cons_zero, List.set_cons_succ]); go_big_quiet_on) | (refine quiet_geq_int _ _ _ _ (by rfl) (by rfl) (by rfl) b2.out ?_; (simp only [Act.put, List.setIfInBounds_toArray, List.set_cons_zero, List.set_cons_succ]); go_big_quiet_on) | (refine quiet_leq_int _ _ _ _ (by rfl) (by rfl) (by rfl) b3.out ?_; (simp only [Act.put, List.setIfInBounds_toArray, List.set_cons_zero, List.set_cons_succ]); go_big_quiet_on) | (go_big_quiet_op; go_big_quiet_on) | (go_big_quiet_op; refine Exists.intro _ ⟨fun _ _ => rfl, ?_⟩; go_big_quiet_on)))
          refine wpQuiet_nil ?_
          intro w4 hC4
          have B4 := Lib.hid (bthen' BW.out ((HC.out _).1 hC4))
          clear hC4 hC0
          go_wp2
          go_ret
          exact ⟨by rw [E.out]; rfl, B4.out⟩
/-! ### what is given up -/
def depBar (l : List Ex) (deps : List Nat) : Bool := (List.range deps.length).any fun q => (decide (63 < q) && decide (0 < deps.getD q 0)) || (decide (q < 64) && decide (wholeL l q < deps.getD q 0))
def givBar (G : Bool) (m x : Ms) : Bool := G && ((decide (x.frm = m.frm) && decide (x.seq ≤ m.seq)) || decide (x.seq ≤ atL m.deps x.frm))
def lostN (l : List Ex) (rest : List MsE) (G : Nat → Bool) (m : Ms) : Bool := depBar l m.deps || (List.range rest.length).any fun i => match rest[i]? with
  | some x => givBar (G i) m x.m
  | none => false
def stepG (l : List Ex) (rest : List MsE) (G : Nat → Bool) (i : Nat) : Nat → Bool := match rest[i]? with
  | some x => if cntM l x.m && lostN l rest G x.m then fun j => if j = i then true else G j else G
  | none => G
def passTo (l : List Ex) (rest : List MsE) (G : Nat → Bool) : Nat → Nat → Bool
  | 0 => G
  | i + 1 => stepG l rest (passTo l rest G i) i
def passes (l : List Ex) (rest : List MsE) : Nat → Nat → Bool
  | 0 => fun _ => false
  | n + 1 => passTo l rest (passes l rest n) rest.length
section
variable {l : List Ex} {rest : List MsE} {G H : Nat → Bool}
def LeG (G H : Nat → Bool) : Prop := ∀ i, G i = true → H i = true
theorem lostN_mono (h : LeG G H) {m : Ms} (hl : lostN l rest G m = true) : lostN l rest H m = true := by
  unfold lostN at hl ⊢
  rw [Bool.or_eq_true] at hl ⊢
  rcases hl with hl | hl
  · exact .inl hl
  · refine .inr ?_
    rw [List.any_eq_true] at hl ⊢
    obtain ⟨i, hi, hx⟩ := hl
    refine ⟨i, hi, ?_⟩
    cases e : rest[i]? with
    | none => rw [e] at hx; cases hx
    | some x =>
      rw [e] at hx
      unfold givBar at hx ⊢
      simp only [Bool.and_eq_true] at hx ⊢
      exact ⟨h i hx.1, hx.2⟩
theorem stepG_some {x : MsE} {i : Nat} (h : rest[i]? = some x) (G : Nat → Bool) : stepG l rest G i = if cntM l x.m && lostN l rest G x.m then fun j => if j = i then true else G j else G := by
  unfold stepG; rw [h]
theorem stepG_none {i : Nat} (h : rest[i]? = none) (G : Nat → Bool) : stepG l rest G i = G := by
  unfold stepG; rw [h]
theorem stepG_le (G : Nat → Bool) (i : Nat) : LeG G (stepG l rest G i) := by
  intro j hj
  cases hx : rest[i]? with
  | none => rw [stepG_none hx]; exact hj
  | some x =>
    rw [stepG_some hx]
    split
    · show (if j = i then true else G j) = true
      split
      · rfl
      · exact hj
    · exact hj
theorem passTo_le (G : Nat → Bool) : ∀ i, LeG G (passTo l rest G i)
  | 0 => fun _ h => h
  | i + 1 => fun j h => stepG_le _ i j (passTo_le G i j h)
theorem passTo_mono (G : Nat → Bool) {i k : Nat} (h : i ≤ k) : LeG (passTo l rest G i) (passTo l rest G k) := by
  induction k with
  | zero => obtain rfl : i = 0 := by omega
            exact fun _ h => h
  | succ k ih =>
    by_cases e : i = k + 1
    · subst e; exact fun _ h => h
    · exact fun j hj => stepG_le _ k j (ih (by omega) j hj)
/-- Nothing more is to be given up. -/
def ClosedG (l : List Ex) (rest : List MsE) (G : Nat → Bool) : Prop := ∀ i (h : i < rest.length), cntM l rest[i].m = true → lostN l rest G rest[i].m = true → G i = true
theorem stepG_closed (h : ClosedG l rest G) (i : Nat) : stepG l rest G i = G := by
  unfold stepG
  split
  · rename_i x hx
    obtain ⟨hi, rfl⟩ := List.getElem?_eq_some_iff.1 hx
    split
    · rename_i hc
      simp only [Bool.and_eq_true] at hc
      funext j
      split
      · rename_i e; rw [e]; exact (h i hi hc.1 hc.2).symm
      · rfl
    · rfl
  · rfl
theorem passTo_closed (h : ClosedG l rest G) : ∀ i, passTo l rest G i = G
  | 0 => rfl
  | i + 1 => by unfold passTo; rw [passTo_closed h i]; exact stepG_closed h i
def cntG (rest : List MsE) (G : Nat → Bool) : Nat := (List.range rest.length).countP G
theorem countP_lt {α : Type} {p q : α → Bool} {s : List α} (h : ∀ x, p x = true → q x = true) {x : α} (hx : x ∈ s) (hp : p x = false) (hq : q x = true) : s.countP p < s.countP q := by
  obtain ⟨l1, l2, rfl⟩ := List.append_of_mem hx
  rw [List.countP_append, List.countP_append, List.countP_cons, List.countP_cons]
  have h1 := List.countP_mono_left (l := l1) (fun x _ => h x)
  have h2 := List.countP_mono_left (l := l2) (fun x _ => h x)
  rw [hp, hq]
  simp only [Bool.false_eq_true, if_false, if_true]
  omega
theorem passes_closed (l : List Ex) (rest : List MsE) : ∀ n, ClosedG l rest (passes l rest n) ∨ n ≤ cntG rest (passes l rest n)
  | 0 => .inr (Nat.zero_le _)
  | n + 1 => by
    rcases Classical.em (ClosedG l rest (passes l rest n)) with hc | hc
    · left
      unfold passes
      rw [passTo_closed hc]; exact hc
    · right
      have h1 : n ≤ cntG rest (passes l rest n) := (passes_closed l rest n).resolve_left hc
      unfold ClosedG at hc
      have : ∃ i, ∃ h : i < rest.length, cntM l rest[i].m = true ∧ lostN l rest (passes l rest n) rest[i].m = true ∧ passes l rest n i = false := by
        apply Classical.byContradiction
        intro hno
        apply hc
        intro i h h2 h3
        cases e : passes l rest n i
        · exact absurd ⟨i, h, h2, h3, e⟩ hno
        · rfl
      obtain ⟨i, hi, h2, h3, h4⟩ := this
      have hle := passTo_le (l := l) (rest := rest) (passes l rest n)
      have hset : passTo l rest (passes l rest n) (i + 1) i = true := by
        unfold passTo stepG
        rw [List.getElem?_eq_getElem hi]
        simp only
        rw [if_pos (by rw [h2, lostN_mono (hle i) h3]; rfl), if_pos rfl]
      have hfin : passes l rest (n + 1) i = true := passTo_mono _ (by omega) i hset
      have := countP_lt (s := List.range rest.length) (hle rest.length) (List.mem_range.2 hi) h4 hfin
      unfold cntG at h1 ⊢
      have h5 : (List.range rest.length).countP (passes l rest (n + 1)) = (List.range rest.length).countP (passTo l rest (passes l rest n) rest.length) := rfl
      omega
theorem passes_end (l : List Ex) (rest : List MsE) : ClosedG l rest (passes l rest (rest.length + 1)) := by
  rcases passes_closed l rest (rest.length + 1) with h | h
  · exact h
  · have := List.countP_le_length (p := passes l rest (rest.length + 1)) (l := List.range rest.length)
    unfold cntG at h
    rw [List.length_range] at this
    omega
/-- What is given up isn't kept. -/
def Sound (l : List Ex) (rest : List MsE) (kf : Nat → Nat) (G : Nat → Bool) : Prop := ∀ i (h : i < rest.length), G i = true → cntM l rest[i].m = true ∧ kf rest[i].m.frm.toNat < rest[i].m.seq
theorem lost_sound {kf : Nat → Nat} (hf : Fin l (msgs rest) (fun i => wholeL l i) kf) (hs : Sound l rest kf G) {m : Ms} (hm : m ∈ msgs rest) (hc : cntM l m = true) (hl : lostN l rest G m = true) : kf m.frm.toNat < m.seq := by
  apply Classical.byContradiction
  intro hno
  have hle : m.seq ≤ kf m.frm.toNat := by omega
  have hfit := fitK_iff.1 (hf.good m hm hc hle)
  unfold lostN at hl
  rw [Bool.or_eq_true] at hl
  rcases hl with hl | hl
  · unfold depBar at hl
    rw [List.any_eq_true] at hl
    obtain ⟨q, hq, hx⟩ := hl
    have hq' : q < m.deps.length := by simpa using hq
    have h1 := hfit q hq'
    simp only [Bool.or_eq_true, Bool.and_eq_true, decide_eq_true_eq] at hx
    rcases hx with hx | hx
    · have := h1.2 (by omega); omega
    · have := h1.1 hx.1
      have := hf.le q
      have : kf q ≤ wholeL l q := this
      omega
  · rw [List.any_eq_true] at hl
    obtain ⟨i, hi, hx⟩ := hl
    have hi' : i < rest.length := by simpa using hi
    rw [List.getElem?_eq_getElem hi'] at hx
    simp only [givBar, Bool.or_eq_true, Bool.and_eq_true, decide_eq_true_eq] at hx
    obtain ⟨hcx, hkx⟩ := hs i hi' hx.1
    rcases hx.2 with h1 | h1
    · rw [h1.1] at hkx; omega
    · obtain ⟨hs0, f, hff, hf64⟩ := cntM_in hcx
      rw [hff, atL_nat] at h1
      rw [hff, Int.toNat_natCast] at hkx
      by_cases hfl : f < m.deps.length
      · have := (hfit f hfl).1 hf64; omega
      · rw [List.getD_eq_getElem?_getD, List.getElem?_eq_none (by omega)] at h1
        simp at h1; omega
theorem step_sound {kf : Nat → Nat} (hf : Fin l (msgs rest) (fun i => wholeL l i) kf) (hs : Sound l rest kf G) (i : Nat) : Sound l rest kf (stepG l rest G i) := by
  intro j hj hG
  cases hx : rest[i]? with
  | none => rw [stepG_none hx] at hG; exact hs j hj hG
  | some x =>
    rw [stepG_some hx] at hG
    obtain ⟨hi, rfl⟩ := List.getElem?_eq_some_iff.1 hx
    split at hG
    · rename_i hc
      simp only [Bool.and_eq_true] at hc
      by_cases e : j = i
      · subst e
        exact ⟨hc.1, lost_sound hf hs (List.mem_map.2 ⟨_, List.getElem_mem hi, rfl⟩) hc.1 hc.2⟩
      · exact hs j hj (by simpa [e] using hG)
    · exact hs j hj hG
theorem passTo_sound {kf : Nat → Nat} (hf : Fin l (msgs rest) (fun i => wholeL l i) kf) (hs : Sound l rest kf G) : ∀ i, Sound l rest kf (passTo l rest G i)
  | 0 => hs
  | i + 1 => step_sound hf (passTo_sound hf hs i) i
theorem passes_sound {kf : Nat → Nat} (hf : Fin l (msgs rest) (fun i => wholeL l i) kf) : ∀ n, Sound l rest kf (passes l rest n)
  | 0 => fun i h hG => by cases hG
  | n + 1 => passTo_sound hf (passes_sound hf n) _
/-- What isn't kept is given up. -/
theorem fin_given (hc : ClosedG l rest G) {k kf : Nat → Nat} (hf : Fin l (msgs rest) k kf) (hk : ∀ q, q < 64 → k q = wholeL l q ∨ ∃ i, ∃ h : i < rest.length, cntM l rest[i].m = true ∧ rest[i].m.frm = q ∧ rest[i].m.seq = k q + 1)
    (hg : ∀ i (h : i < rest.length), cntM l rest[i].m = true → k rest[i].m.frm.toNat < rest[i].m.seq → G i = true) : ∀ i (h : i < rest.length), cntM l rest[i].m = true → kf rest[i].m.frm.toNat < rest[i].m.seq → G i = true := by
  induction hf with
  | done k h => exact hg
  | step k kf m hfi _ ih =>
    have hbad := List.find?_some hfi
    have hmem := List.mem_of_find?_eq_some hfi
    obtain ⟨y, hy, rfl⟩ := List.mem_map.1 hmem
    obtain ⟨i0, hi0, rfl⟩ := List.getElem_of_mem hy
    unfold badM at hbad
    simp only [Bool.and_eq_true, decide_eq_true_eq, Bool.not_eq_true'] at hbad
    obtain ⟨⟨hcm, hsm⟩, hfm⟩ := hbad
    obtain ⟨hs0, f0, hf0, hf064⟩ := cntM_in hcm
    have hG0 : G i0 = true := by
      refine hc i0 hi0 hcm ?_
      have hnf : ¬ fitK k rest[i0].m.deps = true := by rw [hfm]; simp
      rw [fitK_iff] at hnf
      have : ∃ q, q < rest[i0].m.deps.length ∧ ¬ ((q < 64 → rest[i0].m.deps.getD q 0 ≤ k q) ∧ (64 ≤ q → rest[i0].m.deps.getD q 0 = 0)) := by
        apply Classical.byContradiction
        intro hno
        apply hnf
        intro q hq
        apply Classical.byContradiction
        intro h; exact hno ⟨q, hq, h⟩
      obtain ⟨q, hq, hqq⟩ := this
      unfold lostN
      rw [Bool.or_eq_true]
      by_cases h64 : q < 64
      · have hd : k q < rest[i0].m.deps.getD q 0 := by omega
        rcases hk q h64 with hw | ⟨i1, hi1, h1, h2, h3⟩
        · left
          unfold depBar
          rw [List.any_eq_true]
          exact ⟨q, by simpa using hq, by rw [← hw]; simp [h64]; right; simpa using hd⟩
        · right
          rw [List.any_eq_true]
          refine ⟨i1, by simpa using hi1, ?_⟩
          rw [List.getElem?_eq_getElem hi1]
          have hGi : G i1 = true := hg i1 hi1 h1 (by rw [h2, Int.toNat_natCast, h3]; omega)
          simp only [givBar, hGi, Bool.true_and, Bool.or_eq_true, decide_eq_true_eq]
          right
          rw [h2, atL_nat, h3]; omega
      · left
        unfold depBar
        rw [List.any_eq_true]
        refine ⟨q, by simpa using hq, ?_⟩
        have hd : 0 < rest[i0].m.deps.getD q 0 := by omega
        simp only [Bool.or_eq_true, Bool.and_eq_true, decide_eq_true_eq]
        exact .inl ⟨by omega, hd⟩
    refine ih (fun q hq => ?_) (fun i hi hci hki => ?_)
    · unfold lowerK
      by_cases e : q = rest[i0].m.frm.toNat
      · right
        rw [if_pos e]
        exact ⟨i0, hi0, hcm, by rw [hf0] at e ⊢; simp at e; omega, by omega⟩
      · rw [if_neg e]; exact hk q hq
    · unfold lowerK at hki
      split at hki
      · rename_i e
        obtain ⟨_, f, hff, _⟩ := cntM_in hci
        refine hc i hi hci ?_
        unfold lostN
        rw [Bool.or_eq_true]
        right
        rw [List.any_eq_true]
        refine ⟨i0, by simpa using hi0, ?_⟩
        rw [List.getElem?_eq_getElem hi0]
        simp only [givBar, hG0, Bool.true_and, Bool.or_eq_true, Bool.and_eq_true, decide_eq_true_eq]
        left
        rw [hff, hf0] at e
        simp at e
        exact ⟨by rw [hf0, hff]; omega, by omega⟩
      · exact hg i hi hci hki
theorem given_iff {kf : Nat → Nat} (hf : Fin l (msgs rest) (fun i => wholeL l i) kf) (i : Nat) (h : i < rest.length) (hc : cntM l rest[i].m = true) : passes l rest (rest.length + 1) i = !decide (rest[i].m.seq ≤ kf rest[i].m.frm.toNat) := by
  cases e : passes l rest (rest.length + 1) i with
  | true =>
    have := (passes_sound hf _ i h e).2
    rw [decide_eq_false (by omega)]; rfl
  | false =>
    by_cases hle : rest[i].m.seq ≤ kf rest[i].m.frm.toNat
    · rw [decide_eq_true hle]; rfl
    · exfalso
      have := fin_given (passes_end l rest) hf (fun q _ => .inl rfl) (fun j hj hcj hlt => by
        exfalso
        unfold cntM at hcj
        simp only [Bool.and_eq_true, decide_eq_true_eq] at hcj
        have hcj2 : cntM l rest[j].m = true := by unfold cntM; simp [hcj]
        obtain ⟨_, f, hff, _⟩ := cntM_in hcj2
        rw [hff] at hcj hlt
        rw [Int.toNat_natCast] at hlt
        omega) i h hc (by omega)
      rw [e] at this; cases this
end
end Go.Proofs.YtagelhbknbpfhaaDoor

/-
  Messages in memory; plan's counts.
-/
import Derived.Test.YtagelhbknbpfhaaDoorPlanL
namespace Go.Proofs.YtagelhbknbpfhaaDoor
open Go.RowKit Go.BigFrame
set_option maxHeartbeats 1000000
set_option maxRecDepth 100000
section
variable {P : Program} {C : World → Prop} {o : Oper} {a : Act} {Kn : Act → Prop} {K : Bool} {k : IntKind} {u v : Int}
theorem quiet_gtr_int (t t' : TypeId) (x y : Operand) (ho : o.op = .binOp .gtr t x y t') (hx : a.eval x = .int k u) (hy : a.eval y = .int k v) (hb : decide (v < u) = K) (hk : Kn (a.put o.dst (.bool K))) : o.quiet P a C Kn :=
  quiet_free (fun w => by
    subst hb
    unfold execOp
    simp only [ho, hx, hy]
    go_simp) hk
theorem quiet_leq_int (t t' : TypeId) (x y : Operand) (ho : o.op = .binOp .leq t x y t') (hx : a.eval x = .int k u) (hy : a.eval y = .int k v) (hb : decide (u ≤ v) = K) (hk : Kn (a.put o.dst (.bool K))) : o.quiet P a C Kn :=
  quiet_free (fun w => by
    subst hb
    unfold execOp
    simp only [ho, hx, hy]
    go_simp) hk
theorem quiet_lss_int (t t' : TypeId) (x y : Operand) (ho : o.op = .binOp .lss t x y t') (hx : a.eval x = .int k u) (hy : a.eval y = .int k v) (hb : decide (u < v) = K) (hk : Kn (a.put o.dst (.bool K))) : o.quiet P a C Kn :=
  quiet_free (fun w => by
    subst hb
    unfold execOp
    simp only [ho, hx, hy]
    go_simp) hk
theorem quiet_geq_int (t t' : TypeId) (x y : Operand) (ho : o.op = .binOp .geq t x y t') (hx : a.eval x = .int k u) (hy : a.eval y = .int k v) (hb : decide (v ≤ u) = K) (hk : Kn (a.put o.dst (.bool K))) : o.quiet P a C Kn :=
  quiet_free (fun w => by
    subst hb
    unfold execOp
    simp only [ho, hx, hy]
    go_simp) hk
theorem quiet_not {K' : Bool} (t : TypeId) (x : Operand) (ho : o.op = .unOp .not t x) (hx : a.eval x = .bool K) (hK : (!K) = K') (hk : Kn (a.put o.dst (.bool K'))) : o.quiet P a C Kn :=
  quiet_free (fun w => by
    subst hK
    unfold execOp
    simp only [ho, hx]
    go_simp) hk
end
def str (l : List UInt8) : Value := .string ⟨l.toArray⟩
/-- A message, and the slice of what it leans on. -/
structure MsE where
  m : Ms
  sl : Value
def MsE.vals (y : MsE) : List Value := [.int .i64 y.m.frm, .int .u32 y.m.seq, .int .u64 y.m.stamp, .int .i64 y.m.service, y.sl, str y.m.payload]
theorem MsE.len (y : MsE) : y.vals.length = 6 := rfl
def msZero : List Value := [.int .i64 0, .int .u32 0, .int .u64 0, .int .i64 0, .slice none 0 0, str []]
theorem size_ms : (Tryd.prog.info? 59).map (·.size) = some 6 := by kernel_rfl
theorem info_ms : (Tryd.prog.info? 59).map (fun i => (i.zero, i.size, i.bytes)) = some (some (.agg msZero.toArray), 6, 72) := by kernel_rfl
theorem zero_ms (w : World) : (zeroValue 59).run Tryd.prog w = .ok (.agg msZero.toArray) w := by kernel_rfl
structure MsE.Ok (w : World) (y : MsE) : Prop where
  r : ∃ a c b o, RowAt u32v w y.sl y.m.deps a c b o
  lt : ∀ n ∈ y.m.deps, n < 4294967296
  seq : y.m.seq < 4294967296
  stamp : y.m.stamp < 18446744073709551616
  pay : y.m.payload.length ≤ 9223372036854775807
  dl : y.m.deps.length ≤ 9223372036854775807
theorem MsE.Ok.one {w : World} {y : MsE} (h : y.Ok w) : ∀ v ∈ y.vals, v.oneCell' = true := by
  obtain ⟨a, c, b, o, h⟩ := h.r
  simp [MsE.vals, str, h.v, Value.oneCell']
theorem MsE.Ok.oneA {w : World} {y : MsE} (h : y.Ok w) : ∀ v ∈ y.vals.toArray.toList, v.oneCell' = true := by simpa using h.one
theorem MsE.Ok.below {w w' : World} {y : MsE} (h : y.Ok w) {n : Nat} (hn : n = w.heap.size) (hb : Below n w w') : y.Ok w' := by
  obtain ⟨a, c, b, o, hr⟩ := h.r
  exact ⟨⟨a, c, b, o, hr.below hn hb⟩, h.lt, h.seq, h.stamp, h.pay, h.dl⟩
/-- A row of messages, read only. -/
structure MsgsAt (w : World) (v : Value) (l : List MsE) (a : Option Addr) (c b o : Nat) : Prop where
  r : RowAt MsE.vals w v l a c b o
  ok : ∀ y ∈ l, y.Ok w
theorem MsgsAt.below {w w' : World} {v : Value} {l : List MsE} {a : Option Addr} {c b o : Nat} (h : MsgsAt w v l a c b o) {n : Nat} (hn : n = w.heap.size) (hb : Below n w w') : MsgsAt w' v l a c b o :=
  ⟨h.r.below hn hb, fun y hy => (h.ok y hy).below hn hb⟩
theorem counts_any {w : World} {g : Nat} {l : List XE} (h : PlanAt w g l) (y : MsE) :
    Calls Tryd.prog 40 #[.pointer (some ⟨g, 0, none⟩), .agg y.vals.toArray] w fun e w' => e = .returned (.bool (cntM (exs l) y.m)) ∧ Below w.heap.size w w' := by
  obtain ⟨n, hn⟩ : ∃ n, w.heap.size = n := ⟨_, rfl⟩
  obtain ⟨W, hW⟩ : ∃ W : World, w.alloc (.cells y.vals.toArray 59) = W := ⟨_, rfl⟩
  have B0 := Lib.hid (show W.heap[n]? = some (.cells y.vals.toArray 59 (0, 0)) by rw [← hW, ← hn]; exact heap_alloc_new _ _)
  have BW := Lib.hid (show Below w.heap.size w W by rw [← hW]; exact bel_box _ _ _)
  have HW := Lib.hid hW
  have HP := Lib.hid (h.below BW.out)
  clear hW h
  obtain ⟨N, hN⟩ : ∃ N, wholeL (exs l) y.m.frm = N := ⟨_, rfl⟩
  obtain ⟨S, hS⟩ : ∃ S, y.m.seq = S := ⟨_, rfl⟩
  obtain ⟨K0, hK0⟩ : ∃ K0, decide (0 < S) = K0 := ⟨_, rfl⟩
  obtain ⟨K1, hK1⟩ : ∃ K1, decide (S ≤ N) = K1 := ⟨_, rfl⟩
  have b0 := Lib.hid (show decide ((0 : Int) < (S : Int)) = K0 by rw [← hK0, decide_eq_decide]; omega)
  have b1 := Lib.hid (show decide ((S : Int) ≤ (N : Int)) = K1 by rw [← hK1, decide_eq_decide]; omega)
  have E := Lib.hid (show cntM (exs l) y.m = (K0 && K1) by unfold cntM; rw [hN, hS, hK0, hK1])
  obtain ⟨C, hC⟩ : ∃ C : World → Prop, ∀ w', C w' ↔ Below W.heap.size W w' := ⟨_, fun _ => Iff.rfl⟩
  have hC0 : C { W with drawn := W.drawn + 1 } := (hC _).2 (Below.drew (Below.refl _ _))
  have l1 := Lib.hid (show ∀ w', C w' → w'.cell? ⟨n, 1, none⟩ = some (.int .u32 S) from fun w' h => by rw [cell_of_row w' n 1 _ _ _ (bblock ((hC w').1 h) B0.out), ← hS]; rfl)
  have l0 := Lib.hid (show ∀ w', C w' → w'.cell? ⟨n, 0, none⟩ = some (.int .i64 y.m.frm) from fun w' h => by rw [cell_of_row w' n 0 _ _ _ (bblock ((hC w').1 h) B0.out)]; rfl)
  have kw := Lib.hid (show ∀ w', C w' → Calls Tryd.prog 16 #[.pointer (some ⟨g, 0, none⟩), .int .i64 y.m.frm] w' fun e w'' => e = .returned (.int .u32 N) ∧ C w'' from
    fun w' h => (whole_any (HP.out.below ((hC w').1 h)) _).mono fun e w'' ⟨he, hw⟩ => ⟨by rw [← hN]; exact he, (hC w'').2 (bthen' ((hC w').1 h) hw)⟩)
  have HC := Lib.hid hC
  clear hC hN hS hK0 hK1
  cases K0
  ·
    go_enter Tryd.func40, Tryd.ntmps40
    go_upto_region 1 with fail
    rw [HW.out]
    refine wp_region_quiet (C := C) (by kernel_rfl) (by kernel_rfl) hC0 ?_
    dsimp only []
    repeat (first | go_big_quiet_skip | (go_big_quiet_want; first | (refine quiet_load _ _ (by rfl) ?_ _ (by rfl) (by first | exact l1.out | exact l0.out) ?_; (· intro w; simp); (simp only [Act.put, List.setIfInBounds_toArray, List.set_cons_zero, List.set_cons_succ]); go_big_quiet_on) | (refine quiet_call 16 _ _ (by rfl) Tryd.call16 _ ?_ kw.out ?_; (· rfl); (simp only [Act.put, List.setIfInBounds_toArray, List.set_cons_zero, List.set_cons_succ]); go_big_quiet_on) | (refine quiet_gtr_int _ _ _ _ (by rfl) (by rfl) (by rfl) b0.out ?_; (simp only [Act.put, List.setIfInBounds_toArray, List.set_cons_zero, List.set_cons_succ]); go_big_quiet_on) | (refine quiet_leq_int _ _ _ _ (by rfl) (by rfl) (by rfl) b1.out ?_; (simp only [Act.put, List.setIfInBounds_toArray, List.set_cons_zero, List.set_cons_succ]); go_big_quiet_on) | (go_big_quiet_op; go_big_quiet_on) | (go_big_quiet_op; refine Exists.intro _ ⟨fun _ _ => rfl, ?_⟩; go_big_quiet_on)))
    refine wpQuiet_nil ?_
    intro w4 hC4
    have B4 := Lib.hid (bthen' BW.out ((HC.out _).1 hC4))
    clear hC4 hC0
    go_wp2
    go_ret
    exact ⟨by rw [E.out]; rfl, B4.out⟩
  · cases K1
    ·
      go_enter Tryd.func40, Tryd.ntmps40
      go_upto_region 1 with fail
      rw [HW.out]
      refine wp_region_quiet (C := C) (by kernel_rfl) (by kernel_rfl) hC0 ?_
      dsimp only []
      repeat (first | go_big_quiet_skip | (go_big_quiet_want; first | (refine quiet_load _ _ (by rfl) ?_ _ (by rfl) (by first | exact l1.out | exact l0.out) ?_; (· intro w; simp); (simp only [Act.put, List.setIfInBounds_toArray, List.set_cons_zero, List.set_cons_succ]); go_big_quiet_on) | (refine quiet_call 16 _ _ (by rfl) Tryd.call16 _ ?_ kw.out ?_; (· rfl); (simp only [Act.put, List.setIfInBounds_toArray, List.set_cons_zero, List.set_cons_succ]); go_big_quiet_on) | (refine quiet_gtr_int _ _ _ _ (by rfl) (by rfl) (by rfl) b0.out ?_; (simp only [Act.put, List.setIfInBounds_toArray, List.set_cons_zero, List.set_cons_succ]); go_big_quiet_on) | (refine quiet_leq_int _ _ _ _ (by rfl) (by rfl) (by rfl) b1.out ?_; (simp only [Act.put, List.setIfInBounds_toArray, List.set_cons_zero, List.set_cons_succ]); go_big_quiet_on) | (go_big_quiet_op; go_big_quiet_on) | (go_big_quiet_op; refine Exists.intro _ ⟨fun _ _ => rfl, ?_⟩; go_big_quiet_on)))
      refine wpQuiet_nil ?_
      intro w4 hC4
      have B4 := Lib.hid (bthen' BW.out ((HC.out _).1 hC4))
      clear hC4 hC0
      go_wp2
      go_ret
      exact ⟨by rw [E.out]; rfl, B4.out⟩
    ·
      go_enter Tryd.func40, Tryd.ntmps40
      go_upto_region 1 with fail
      rw [HW.out]
      refine wp_region_quiet (C := C) (by kernel_rfl) (by kernel_rfl) hC0 ?_
      dsimp only []
      repeat (first | go_big_quiet_skip | (go_big_quiet_want; first | (refine quiet_load _ _ (by rfl) ?_ _ (by rfl) (by first | exact l1.out | exact l0.out) ?_; (· intro w; simp); (simp only [Act.put, List.setIfInBounds_toArray, List.set_cons_zero, List.set_cons_succ]); go_big_quiet_on) | (refine quiet_call 16 _ _ (by rfl) Tryd.call16 _ ?_ kw.out ?_; (· rfl); (simp only [Act.put, List.setIfInBounds_toArray, List.set_cons_zero, List.set_cons_succ]); go_big_quiet_on) | (refine quiet_gtr_int _ _ _ _ (by rfl) (by rfl) (by rfl) b0.out ?_; (simp only [Act.put, List.setIfInBounds_toArray, List.set_cons_zero, List.set_cons_succ]); go_big_quiet_on) | (refine quiet_leq_int _ _ _ _ (by rfl) (by rfl) (by rfl) b1.out ?_; (simp only [Act.put, List.setIfInBounds_toArray, List.set_cons_zero, List.set_cons_succ]); go_big_quiet_on) | (go_big_quiet_op; go_big_quiet_on) | (go_big_quiet_op; refine Exists.intro _ ⟨fun _ _ => rfl, ?_⟩; go_big_quiet_on)))
      refine wpQuiet_nil ?_
      intro w4 hC4
      have B4 := Lib.hid (bthen' BW.out ((HC.out _).1 hC4))
      clear hC4 hC0
      go_wp2
      go_ret
      exact ⟨by rw [E.out]; rfl, B4.out⟩
end Go.Proofs.YtagelhbknbpfhaaDoor

/-
  consortref03: Same, All.
-/
import Derived.Test.YtagelhbknbpfhaaDoorPlanB
import Derived.Test.YtagelhbknbpfhaaDoorPlanM
namespace Go.Proofs.YtagelhbknbpfhaaDoor
open Go.RowKit Go.BigFrame
set_option maxHeartbeats 1000000
set_option maxRecDepth 100000
section
variable {P : Program} {C : World → Prop} {o : Oper} {a : Act} {Kn : Act → Prop} {K : Bool} {k : IntKind} {u v : Int}
theorem quiet_neq_int (t t' : TypeId) (x y : Operand) (ho : o.op = .binOp .neq t x y t') (hx : a.eval x = .int k u) (hy : a.eval y = .int k v) (hb : (u != v) = K) (hk : Kn (a.put o.dst (.bool K))) : o.quiet P a C Kn :=
  quiet_free (fun w => by
    subst hb
    unfold execOp
    simp only [ho, hx, hy]
    go_simp) hk
theorem quiet_neq_str {p q : ByteArray} (t t' : TypeId) (x y : Operand) (ho : o.op = .binOp .neq t x y t') (hx : a.eval x = .string p) (hy : a.eval y = .string q) (hb : (!(p.toList == q.toList)) = K) (hk : Kn (a.put o.dst (.bool K))) : o.quiet P a C Kn :=
  quiet_free (fun w => by
    subst hb
    unfold execOp
    simp only [ho, hx, hy]
    go_simp) hk
end
/-- One message, field by field. -/
def sameM (x y : Ms) : Bool := decide (x.frm = y.frm) && decide (x.seq = y.seq) && decide (x.stamp = y.stamp) && decide (x.service = y.service) && decide (x.payload = y.payload) && decide (x.deps = y.deps)
theorem sameM_self (x : Ms) : sameM x x = true := by simp [sameM]
theorem sameM_eq {x y : Ms} (h : sameM x y = true) : x = y := by
  unfold sameM at h
  simp only [Bool.and_eq_true, decide_eq_true_eq] at h
  obtain ⟨⟨⟨⟨⟨h1, h2⟩, h3⟩, h4⟩, h5⟩, h6⟩ := h
  cases x; cases y
  simp_all
theorem bytes_ne (l m : List UInt8) : (!((⟨l.toArray⟩ : ByteArray).toList == (⟨m.toArray⟩ : ByteArray).toList)) = !decide (l = m) := by
  rw [ByteArray.toList_eq, ByteArray.toList_eq]
  by_cases h : l = m
  · subst h; simp
  · simp [h]
theorem bne_dec (u v : Int) : (u != v) = !decide (u = v) := by
  by_cases h : u = v
  · simp [h]
  · simp [h]
theorem same_any (x y : MsE) (w : World) (hx : x.Ok w) (hy : y.Ok w) :
    Calls Tryd.prog 38 #[.agg x.vals.toArray, .agg y.vals.toArray] w fun e w' => e = .returned (.bool (sameM x.m y.m)) ∧ Below w.heap.size w w' := by
  obtain ⟨n, hn⟩ : ∃ n, w.heap.size = n := ⟨_, rfl⟩
  obtain ⟨W, hW⟩ : ∃ W : World, (w.alloc (.cells x.vals.toArray 59)).alloc (.cells y.vals.toArray 59) = W := ⟨_, rfl⟩
  have B0 := Lib.hid (show W.heap[n]? = some (.cells x.vals.toArray 59 (0, 0)) by
    rw [← hW, heap_alloc_old _ _ (by simp; omega), ← hn]; exact heap_alloc_new _ _)
  have B1 := Lib.hid (show W.heap[n + 1]? = some (.cells y.vals.toArray 59 (0, 0)) by
    rw [← hW, ← hn]
    have := heap_alloc_new (w.alloc (.cells x.vals.toArray 59)) (.cells y.vals.toArray 59)
    simpa using this)
  have BW := Lib.hid (show Below w.heap.size w W by rw [← hW]; exact ((Below.refl _ _).alloc (Nat.le_refl _) _).alloc (by simp) _)
  have HW := Lib.hid hW
  have HN := Lib.hid hn
  obtain ⟨xa, xc, xb, xo, hrx⟩ := (hx.below rfl BW.out).r
  obtain ⟨ya, yc, yb, yo, hry⟩ := (hy.below rfl BW.out).r
  have HRX := Lib.hid hrx
  have HRY := Lib.hid hry
  have hxs := hrx.v
  have hys := hry.v
  have hxl := hx.dl
  have hyl := hy.dl
  clear hW hrx hry hx hy
  obtain ⟨⟨xf, xq, xt, xv, xd, xp⟩, xs⟩ := x
  obtain ⟨⟨yf, yq, yt, yv, yd, yp⟩, ys⟩ := y
  dsimp only at hxs hys HRX HRY hxl hyl ⊢
  subst hxs hys
  obtain ⟨X, hX⟩ : ∃ X : ByteArray, (⟨xp.toArray⟩ : ByteArray) = X := ⟨_, rfl⟩
  obtain ⟨Y, hY⟩ : ∃ Y : ByteArray, (⟨yp.toArray⟩ : ByteArray) = Y := ⟨_, rfl⟩
  obtain ⟨C, hC⟩ : ∃ C : World → Prop, ∀ w', C w' ↔ Below W.heap.size W w' := ⟨_, fun _ => Iff.rfl⟩
  have hC0 : C W := (hC _).2 (Below.refl _ _)
  have x0 := Lib.hid (show ∀ w', C w' → w'.cell? ⟨n, 0, none⟩ = some (.int .i64 xf) from fun w' h => by rw [cell_of_row w' n 0 _ _ _ (bblock ((hC w').1 h) B0.out)]; rfl)
  have x1 := Lib.hid (show ∀ w', C w' → w'.cell? ⟨n, 1, none⟩ = some (.int .u32 xq) from fun w' h => by rw [cell_of_row w' n 1 _ _ _ (bblock ((hC w').1 h) B0.out)]; rfl)
  have x2 := Lib.hid (show ∀ w', C w' → w'.cell? ⟨n, 2, none⟩ = some (.int .u64 xt) from fun w' h => by rw [cell_of_row w' n 2 _ _ _ (bblock ((hC w').1 h) B0.out)]; rfl)
  have x3 := Lib.hid (show ∀ w', C w' → w'.cell? ⟨n, 3, none⟩ = some (.int .i64 xv) from fun w' h => by rw [cell_of_row w' n 3 _ _ _ (bblock ((hC w').1 h) B0.out)]; rfl)
  have x4 := Lib.hid (show ∀ w', C w' → w'.cell? ⟨n, 4, none⟩ = some (.slice xa xd.length xc) from fun w' h => by rw [cell_of_row w' n 4 _ _ _ (bblock ((hC w').1 h) B0.out)]; rfl)
  have x5 := Lib.hid (show ∀ w', C w' → w'.cell? ⟨n, 5, none⟩ = some (.string X) from fun w' h => by rw [← hX, cell_of_row w' n 5 _ _ _ (bblock ((hC w').1 h) B0.out)]; rfl)
  have y0 := Lib.hid (show ∀ w', C w' → w'.cell? ⟨n + 1, 0, none⟩ = some (.int .i64 yf) from fun w' h => by rw [cell_of_row w' (n + 1) 0 _ _ _ (bblock ((hC w').1 h) B1.out)]; rfl)
  have y1 := Lib.hid (show ∀ w', C w' → w'.cell? ⟨n + 1, 1, none⟩ = some (.int .u32 yq) from fun w' h => by rw [cell_of_row w' (n + 1) 1 _ _ _ (bblock ((hC w').1 h) B1.out)]; rfl)
  have y2 := Lib.hid (show ∀ w', C w' → w'.cell? ⟨n + 1, 2, none⟩ = some (.int .u64 yt) from fun w' h => by rw [cell_of_row w' (n + 1) 2 _ _ _ (bblock ((hC w').1 h) B1.out)]; rfl)
  have y3 := Lib.hid (show ∀ w', C w' → w'.cell? ⟨n + 1, 3, none⟩ = some (.int .i64 yv) from fun w' h => by rw [cell_of_row w' (n + 1) 3 _ _ _ (bblock ((hC w').1 h) B1.out)]; rfl)
  have y4 := Lib.hid (show ∀ w', C w' → w'.cell? ⟨n + 1, 4, none⟩ = some (.slice ya yd.length yc) from fun w' h => by rw [cell_of_row w' (n + 1) 4 _ _ _ (bblock ((hC w').1 h) B1.out)]; rfl)
  have y5 := Lib.hid (show ∀ w', C w' → w'.cell? ⟨n + 1, 5, none⟩ = some (.string Y) from fun w' h => by rw [← hY, cell_of_row w' (n + 1) 5 _ _ _ (bblock ((hC w').1 h) B1.out)]; rfl)
  obtain ⟨K0, hK0⟩ : ∃ K0, (!decide (xf = yf)) = K0 := ⟨_, rfl⟩
  obtain ⟨K1, hK1⟩ : ∃ K1, (!decide (xq = yq)) = K1 := ⟨_, rfl⟩
  obtain ⟨K2, hK2⟩ : ∃ K2, (!decide (xt = yt)) = K2 := ⟨_, rfl⟩
  obtain ⟨K3, hK3⟩ : ∃ K3, (!decide (xv = yv)) = K3 := ⟨_, rfl⟩
  obtain ⟨K5, hK5⟩ : ∃ K5, (!decide (xp = yp)) = K5 := ⟨_, rfl⟩
  obtain ⟨K4, hK4⟩ : ∃ K4, (!decide (xd.length = yd.length)) = K4 := ⟨_, rfl⟩
  have b0 := Lib.hid (show (xf != yf) = K0 by rw [← hK0, bne_dec])
  have b1 := Lib.hid (show ((xq : Int) != (yq : Int)) = K1 by rw [← hK1, bne_dec]; simp [Int.natCast_inj])
  have b2 := Lib.hid (show ((xt : Int) != (yt : Int)) = K2 by rw [← hK2, bne_dec]; simp [Int.natCast_inj])
  have b3 := Lib.hid (show (xv != yv) = K3 by rw [← hK3, bne_dec])
  have b5 := Lib.hid (show (!(X.toList == Y.toList)) = K5 by rw [← hK5, ← hX, ← hY, bytes_ne])
  have b4 := Lib.hid (show ((xd.length : Int) != (yd.length : Int)) = K4 by rw [← hK4, bne_dec]; simp [Int.natCast_inj])
  have E := Lib.hid (show sameM ⟨xf, xq, xt, xv, xd, xp⟩ ⟨yf, yq, yt, yv, yd, yp⟩ = (!K0 && !K1 && !K2 && !K3 && !K5 && decide (xd = yd)) by
    unfold sameM
    rw [← hK0, ← hK1, ← hK2, ← hK3, ← hK5]; simp)
  have E4 := Lib.hid (show K4 = true → decide (xd = yd) = false from fun h => by
    rw [← hK4] at h
    rw [decide_eq_false]
    rintro rfl
    simp at h)
  have E4' := Lib.hid (show K4 = false → xd.length = yd.length from fun h => by rw [← hK4] at h; simpa using h)
  have HC := Lib.hid hC
  clear hC hX hY hK0 hK1 hK2 hK3 hK4 hK5 hn
  go_enter Tryd.func38, Tryd.ntmps38
  go_upto_region 1 with fail
  rw [HW.out, HN.out]
  cases K0 with
  | true =>
    refine wp_region_plain (C := C) hC0 ?_
    dsimp only []
    repeat (first | go_big_quiet_skip | (go_big_quiet_want; first | (refine quiet_load _ _ (by rfl) ?_ _ (by rfl) (by first | exact x0.out | exact x1.out | exact x2.out | exact x3.out | exact x4.out | exact x5.out | exact y0.out | exact y1.out | exact y2.out | exact y3.out | exact y4.out | exact y5.out) ?_; (· intro w; simp); (simp only [Act.put, List.setIfInBounds_toArray, List.set_cons_zero, List.set_cons_succ]); go_big_quiet_on) | (refine quiet_neq_int _ _ _ _ (by rfl) (by rfl) (by rfl) b0.out ?_; (simp only [Act.put, List.setIfInBounds_toArray, List.set_cons_zero, List.set_cons_succ]); go_big_quiet_on) | (refine quiet_neq_int _ _ _ _ (by rfl) (by rfl) (by rfl) b1.out ?_; (simp only [Act.put, List.setIfInBounds_toArray, List.set_cons_zero, List.set_cons_succ]); go_big_quiet_on) | (refine quiet_neq_int _ _ _ _ (by rfl) (by rfl) (by rfl) b2.out ?_; (simp only [Act.put, List.setIfInBounds_toArray, List.set_cons_zero, List.set_cons_succ]); go_big_quiet_on) | (refine quiet_neq_int _ _ _ _ (by rfl) (by rfl) (by rfl) b3.out ?_; (simp only [Act.put, List.setIfInBounds_toArray, List.set_cons_zero, List.set_cons_succ]); go_big_quiet_on) | (refine quiet_neq_int _ _ _ _ (by rfl) (by rfl) (by rfl) b4.out ?_; (simp only [Act.put, List.setIfInBounds_toArray, List.set_cons_zero, List.set_cons_succ]); go_big_quiet_on) | (refine quiet_neq_str _ _ _ _ (by rfl) (by rfl) (by rfl) b5.out ?_; (simp only [Act.put, List.setIfInBounds_toArray, List.set_cons_zero, List.set_cons_succ]); go_big_quiet_on) | (go_big_quiet_op; go_big_quiet_on) | (go_big_quiet_op; refine Exists.intro _ ⟨fun _ _ => rfl, ?_⟩; go_big_quiet_on)))
    refine wpQuiet_nil ?_
    intro w8 hC8
    have B8 := Lib.hid ((HC.out _).1 hC8)
    clear hC8 hC0 x0 x1 x2 x3 x4 x5 y0 y1 y2 y3 y4 y5 HC
    go_wp2
    go_ret
    exact ⟨by rw [E.out]; simp, bthen' BW.out B8.out⟩
  | false =>
  cases K1 with
  | true =>
    refine wp_region_plain (C := C) hC0 ?_
    dsimp only []
    repeat (first | go_big_quiet_skip | (go_big_quiet_want; first | (refine quiet_load _ _ (by rfl) ?_ _ (by rfl) (by first | exact x0.out | exact x1.out | exact x2.out | exact x3.out | exact x4.out | exact x5.out | exact y0.out | exact y1.out | exact y2.out | exact y3.out | exact y4.out | exact y5.out) ?_; (· intro w; simp); (simp only [Act.put, List.setIfInBounds_toArray, List.set_cons_zero, List.set_cons_succ]); go_big_quiet_on) | (refine quiet_neq_int _ _ _ _ (by rfl) (by rfl) (by rfl) b0.out ?_; (simp only [Act.put, List.setIfInBounds_toArray, List.set_cons_zero, List.set_cons_succ]); go_big_quiet_on) | (refine quiet_neq_int _ _ _ _ (by rfl) (by rfl) (by rfl) b1.out ?_; (simp only [Act.put, List.setIfInBounds_toArray, List.set_cons_zero, List.set_cons_succ]); go_big_quiet_on) | (refine quiet_neq_int _ _ _ _ (by rfl) (by rfl) (by rfl) b2.out ?_; (simp only [Act.put, List.setIfInBounds_toArray, List.set_cons_zero, List.set_cons_succ]); go_big_quiet_on) | (refine quiet_neq_int _ _ _ _ (by rfl) (by rfl) (by rfl) b3.out ?_; (simp only [Act.put, List.setIfInBounds_toArray, List.set_cons_zero, List.set_cons_succ]); go_big_quiet_on) | (refine quiet_neq_int _ _ _ _ (by rfl) (by rfl) (by rfl) b4.out ?_; (simp only [Act.put, List.setIfInBounds_toArray, List.set_cons_zero, List.set_cons_succ]); go_big_quiet_on) | (refine quiet_neq_str _ _ _ _ (by rfl) (by rfl) (by rfl) b5.out ?_; (simp only [Act.put, List.setIfInBounds_toArray, List.set_cons_zero, List.set_cons_succ]); go_big_quiet_on) | (go_big_quiet_op; go_big_quiet_on) | (go_big_quiet_op; refine Exists.intro _ ⟨fun _ _ => rfl, ?_⟩; go_big_quiet_on)))
    refine wpQuiet_nil ?_
    intro w8 hC8
    have B8 := Lib.hid ((HC.out _).1 hC8)
    clear hC8 hC0 x0 x1 x2 x3 x4 x5 y0 y1 y2 y3 y4 y5 HC
    go_wp2
    go_ret
    exact ⟨by rw [E.out]; simp, bthen' BW.out B8.out⟩
  | false =>
  cases K2 with
  | true =>
    refine wp_region_plain (C := C) hC0 ?_
    dsimp only []
    repeat (first | go_big_quiet_skip | (go_big_quiet_want; first | (refine quiet_load _ _ (by rfl) ?_ _ (by rfl) (by first | exact x0.out | exact x1.out | exact x2.out | exact x3.out | exact x4.out | exact x5.out | exact y0.out | exact y1.out | exact y2.out | exact y3.out | exact y4.out | exact y5.out) ?_; (· intro w; simp); (simp only [Act.put, List.setIfInBounds_toArray, List.set_cons_zero, List.set_cons_succ]); go_big_quiet_on) | (refine quiet_neq_int _ _ _ _ (by rfl) (by rfl) (by rfl) b0.out ?_; (simp only [Act.put, List.setIfInBounds_toArray, List.set_cons_zero, List.set_cons_succ]); go_big_quiet_on) | (refine quiet_neq_int _ _ _ _ (by rfl) (by rfl) (by rfl) b1.out ?_; (simp only [Act.put, List.setIfInBounds_toArray, List.set_cons_zero, List.set_cons_succ]); go_big_quiet_on) | (refine quiet_neq_int _ _ _ _ (by rfl) (by rfl) (by rfl) b2.out ?_; (simp only [Act.put, List.setIfInBounds_toArray, List.set_cons_zero, List.set_cons_succ]); go_big_quiet_on) | (refine quiet_neq_int _ _ _ _ (by rfl) (by rfl) (by rfl) b3.out ?_; (simp only [Act.put, List.setIfInBounds_toArray, List.set_cons_zero, List.set_cons_succ]); go_big_quiet_on) | (refine quiet_neq_int _ _ _ _ (by rfl) (by rfl) (by rfl) b4.out ?_; (simp only [Act.put, List.setIfInBounds_toArray, List.set_cons_zero, List.set_cons_succ]); go_big_quiet_on) | (refine quiet_neq_str _ _ _ _ (by rfl) (by rfl) (by rfl) b5.out ?_; (simp only [Act.put, List.setIfInBounds_toArray, List.set_cons_zero, List.set_cons_succ]); go_big_quiet_on) | (go_big_quiet_op; go_big_quiet_on) | (go_big_quiet_op; refine Exists.intro _ ⟨fun _ _ => rfl, ?_⟩; go_big_quiet_on)))
    refine wpQuiet_nil ?_
    intro w8 hC8
    have B8 := Lib.hid ((HC.out _).1 hC8)
    clear hC8 hC0 x0 x1 x2 x3 x4 x5 y0 y1 y2 y3 y4 y5 HC
    go_wp2
    go_ret
    exact ⟨by rw [E.out]; simp, bthen' BW.out B8.out⟩
  | false =>
  cases K3 with
  | true =>
    refine wp_region_plain (C := C) hC0 ?_
    dsimp only []
    repeat (first | go_big_quiet_skip | (go_big_quiet_want; first | (refine quiet_load _ _ (by rfl) ?_ _ (by rfl) (by first | exact x0.out | exact x1.out | exact x2.out | exact x3.out | exact x4.out | exact x5.out | exact y0.out | exact y1.out | exact y2.out | exact y3.out | exact y4.out | exact y5.out) ?_; (· intro w; simp); (simp only [Act.put, List.setIfInBounds_toArray, List.set_cons_zero, List.set_cons_succ]); go_big_quiet_on) | (refine quiet_neq_int _ _ _ _ (by rfl) (by rfl) (by rfl) b0.out ?_; (simp only [Act.put, List.setIfInBounds_toArray, List.set_cons_zero, List.set_cons_succ]); go_big_quiet_on) | (refine quiet_neq_int _ _ _ _ (by rfl) (by rfl) (by rfl) b1.out ?_; (simp only [Act.put, List.setIfInBounds_toArray, List.set_cons_zero, List.set_cons_succ]); go_big_quiet_on) | (refine quiet_neq_int _ _ _ _ (by rfl) (by rfl) (by rfl) b2.out ?_; (simp only [Act.put, List.setIfInBounds_toArray, List.set_cons_zero, List.set_cons_succ]); go_big_quiet_on) | (refine quiet_neq_int _ _ _ _ (by rfl) (by rfl) (by rfl) b3.out ?_; (simp only [Act.put, List.setIfInBounds_toArray, List.set_cons_zero, List.set_cons_succ]); go_big_quiet_on) | (refine quiet_neq_int _ _ _ _ (by rfl) (by rfl) (by rfl) b4.out ?_; (simp only [Act.put, List.setIfInBounds_toArray, List.set_cons_zero, List.set_cons_succ]); go_big_quiet_on) | (refine quiet_neq_str _ _ _ _ (by rfl) (by rfl) (by rfl) b5.out ?_; (simp only [Act.put, List.setIfInBounds_toArray, List.set_cons_zero, List.set_cons_succ]); go_big_quiet_on) | (go_big_quiet_op; go_big_quiet_on) | (go_big_quiet_op; refine Exists.intro _ ⟨fun _ _ => rfl, ?_⟩; go_big_quiet_on)))
    refine wpQuiet_nil ?_
    intro w8 hC8
    have B8 := Lib.hid ((HC.out _).1 hC8)
    clear hC8 hC0 x0 x1 x2 x3 x4 x5 y0 y1 y2 y3 y4 y5 HC
    go_wp2
    go_ret
    exact ⟨by rw [E.out]; simp, bthen' BW.out B8.out⟩
  | false =>
  cases K5 with
  | true =>
    refine wp_region_plain (C := C) hC0 ?_
    dsimp only []
    repeat (first | go_big_quiet_skip | (go_big_quiet_want; first | (refine quiet_load _ _ (by rfl) ?_ _ (by rfl) (by first | exact x0.out | exact x1.out | exact x2.out | exact x3.out | exact x4.out | exact x5.out | exact y0.out | exact y1.out | exact y2.out | exact y3.out | exact y4.out | exact y5.out) ?_; (· intro w; simp); (simp only [Act.put, List.setIfInBounds_toArray, List.set_cons_zero, List.set_cons_succ]); go_big_quiet_on) | (refine quiet_neq_int _ _ _ _ (by rfl) (by rfl) (by rfl) b0.out ?_; (simp only [Act.put, List.setIfInBounds_toArray, List.set_cons_zero, List.set_cons_succ]); go_big_quiet_on) | (refine quiet_neq_int _ _ _ _ (by rfl) (by rfl) (by rfl) b1.out ?_; (simp only [Act.put, List.setIfInBounds_toArray, List.set_cons_zero, List.set_cons_succ]); go_big_quiet_on) | (refine quiet_neq_int _ _ _ _ (by rfl) (by rfl) (by rfl) b2.out ?_; (simp only [Act.put, List.setIfInBounds_toArray, List.set_cons_zero, List.set_cons_succ]); go_big_quiet_on) | (refine quiet_neq_int _ _ _ _ (by rfl) (by rfl) (by rfl) b3.out ?_; (simp only [Act.put, List.setIfInBounds_toArray, List.set_cons_zero, List.set_cons_succ]); go_big_quiet_on) | (refine quiet_neq_int _ _ _ _ (by rfl) (by rfl) (by rfl) b4.out ?_; (simp only [Act.put, List.setIfInBounds_toArray, List.set_cons_zero, List.set_cons_succ]); go_big_quiet_on) | (refine quiet_neq_str _ _ _ _ (by rfl) (by rfl) (by rfl) b5.out ?_; (simp only [Act.put, List.setIfInBounds_toArray, List.set_cons_zero, List.set_cons_succ]); go_big_quiet_on) | (go_big_quiet_op; go_big_quiet_on) | (go_big_quiet_op; refine Exists.intro _ ⟨fun _ _ => rfl, ?_⟩; go_big_quiet_on)))
    refine wpQuiet_nil ?_
    intro w8 hC8
    have B8 := Lib.hid ((HC.out _).1 hC8)
    clear hC8 hC0 x0 x1 x2 x3 x4 x5 y0 y1 y2 y3 y4 y5 HC
    go_wp2
    go_ret
    exact ⟨by rw [E.out]; simp, bthen' BW.out B8.out⟩
  | false =>
  cases K4 with
  | true =>
    have E5 := E4.out rfl
    rw [E5] at E
    refine wp_region_plain (C := C) hC0 ?_
    dsimp only []
    repeat (first | go_big_quiet_skip | (go_big_quiet_want; first | (refine quiet_load _ _ (by rfl) ?_ _ (by rfl) (by first | exact x0.out | exact x1.out | exact x2.out | exact x3.out | exact x4.out | exact x5.out | exact y0.out | exact y1.out | exact y2.out | exact y3.out | exact y4.out | exact y5.out) ?_; (· intro w; simp); (simp only [Act.put, List.setIfInBounds_toArray, List.set_cons_zero, List.set_cons_succ]); go_big_quiet_on) | (refine quiet_neq_int _ _ _ _ (by rfl) (by rfl) (by rfl) b0.out ?_; (simp only [Act.put, List.setIfInBounds_toArray, List.set_cons_zero, List.set_cons_succ]); go_big_quiet_on) | (refine quiet_neq_int _ _ _ _ (by rfl) (by rfl) (by rfl) b1.out ?_; (simp only [Act.put, List.setIfInBounds_toArray, List.set_cons_zero, List.set_cons_succ]); go_big_quiet_on) | (refine quiet_neq_int _ _ _ _ (by rfl) (by rfl) (by rfl) b2.out ?_; (simp only [Act.put, List.setIfInBounds_toArray, List.set_cons_zero, List.set_cons_succ]); go_big_quiet_on) | (refine quiet_neq_int _ _ _ _ (by rfl) (by rfl) (by rfl) b3.out ?_; (simp only [Act.put, List.setIfInBounds_toArray, List.set_cons_zero, List.set_cons_succ]); go_big_quiet_on) | (refine quiet_neq_int _ _ _ _ (by rfl) (by rfl) (by rfl) b4.out ?_; (simp only [Act.put, List.setIfInBounds_toArray, List.set_cons_zero, List.set_cons_succ]); go_big_quiet_on) | (refine quiet_neq_str _ _ _ _ (by rfl) (by rfl) (by rfl) b5.out ?_; (simp only [Act.put, List.setIfInBounds_toArray, List.set_cons_zero, List.set_cons_succ]); go_big_quiet_on) | (go_big_quiet_op; go_big_quiet_on) | (go_big_quiet_op; refine Exists.intro _ ⟨fun _ _ => rfl, ?_⟩; go_big_quiet_on)))
    refine wpQuiet_nil ?_
    intro w8 hC8
    have B8 := Lib.hid ((HC.out _).1 hC8)
    clear hC8 hC0 x0 x1 x2 x3 x4 x5 y0 y1 y2 y3 y4 y5 HC
    go_wp2
    go_ret
    exact ⟨by rw [E.out]; simp, bthen' BW.out B8.out⟩
  | false =>
    have hll := E4'.out rfl
    refine wp_region_plain (C := C) hC0 ?_
    dsimp only []
    repeat (first | go_big_quiet_skip | (go_big_quiet_want; first | (refine quiet_load _ _ (by rfl) ?_ _ (by rfl) (by first | exact x0.out | exact x1.out | exact x2.out | exact x3.out | exact x4.out | exact x5.out | exact y0.out | exact y1.out | exact y2.out | exact y3.out | exact y4.out | exact y5.out) ?_; (· intro w; simp); (simp only [Act.put, List.setIfInBounds_toArray, List.set_cons_zero, List.set_cons_succ]); go_big_quiet_on) | (refine quiet_neq_int _ _ _ _ (by rfl) (by rfl) (by rfl) b0.out ?_; (simp only [Act.put, List.setIfInBounds_toArray, List.set_cons_zero, List.set_cons_succ]); go_big_quiet_on) | (refine quiet_neq_int _ _ _ _ (by rfl) (by rfl) (by rfl) b1.out ?_; (simp only [Act.put, List.setIfInBounds_toArray, List.set_cons_zero, List.set_cons_succ]); go_big_quiet_on) | (refine quiet_neq_int _ _ _ _ (by rfl) (by rfl) (by rfl) b2.out ?_; (simp only [Act.put, List.setIfInBounds_toArray, List.set_cons_zero, List.set_cons_succ]); go_big_quiet_on) | (refine quiet_neq_int _ _ _ _ (by rfl) (by rfl) (by rfl) b3.out ?_; (simp only [Act.put, List.setIfInBounds_toArray, List.set_cons_zero, List.set_cons_succ]); go_big_quiet_on) | (refine quiet_neq_int _ _ _ _ (by rfl) (by rfl) (by rfl) b4.out ?_; (simp only [Act.put, List.setIfInBounds_toArray, List.set_cons_zero, List.set_cons_succ]); go_big_quiet_on) | (refine quiet_neq_str _ _ _ _ (by rfl) (by rfl) (by rfl) b5.out ?_; (simp only [Act.put, List.setIfInBounds_toArray, List.set_cons_zero, List.set_cons_succ]); go_big_quiet_on) | (go_big_quiet_op; go_big_quiet_on) | (go_big_quiet_op; refine Exists.intro _ ⟨fun _ _ => rfl, ?_⟩; go_big_quiet_on)))
    refine wpQuiet_nil ?_
    intro w8 hC8
    have B8 := Lib.hid ((HC.out _).1 hC8)
    obtain ⟨V, hV⟩ : ∃ V, w8 = V := ⟨_, rfl⟩
    subst hV
    have hxl' : (xd.length : Int) ≤ 9223372036854775807 := by omega
    clear b0 b1 b2 b3 b4 b5 x0 x1 x2 x3 x5 y0 y1 y2 y3 y5 E4 E4' hxl hyl
    go_upto_region 3 with fail
    have c4 := x4.out _ hC8
    go_wp2
    clear c4
    go_loopw [5] (fun i wr => ∃ k : Nat, k ≤ xd.length ∧ i = .int .i64 k ∧ C wr ∧ ∀ j, j < k → xd.getD j 0 = yd.getD j 0) (fun i _ => xd.length - (intOf i).toNat)
    case atStart => exact ⟨0, Nat.zero_le _, rfl, hC8, fun j h => by omega⟩
    case round =>
      obtain ⟨k, hk, rfl, hCr, hpre⟩ := hrel
      have HPRE := Lib.hid hpre
      have c4 := x4.out _ hCr
      have hCr0 : C { wr with drawn := wr.drawn + 1 } := (HC.out _).2 (Below.drew ((HC.out _).1 hCr))
      clear hpre
      by_cases hlt : k < xd.length
      · have hlt' : (k : Int) < (xd.length : Int) := by omega
        have hlt2 : k < yd.length := by omega
        have hlty : (k : Int) < (yd.length : Int) := by omega
        obtain ⟨rfl, _⟩ := HRX.out.a (by omega)
        obtain ⟨rfl, _⟩ := HRY.out.a (by omega)
        obtain ⟨p, hp⟩ : ∃ p, xd[k] = p := ⟨_, rfl⟩
        obtain ⟨q, hq⟩ : ∃ q, yd[k] = q := ⟨_, rfl⟩
        have lx := Lib.hid (show ∀ w', C w' → w'.cell? ⟨xb, xo + k, none⟩ = some (.int .u32 p) from fun w' h => by
          have := (HRX.out.below rfl ((HC.out _).1 h)).at_ u32v_len hlt 0 (.int .u32 xd[k]) rfl
          rw [hp, Nat.mul_one, Nat.add_zero] at this; exact this)
        have ly := Lib.hid (show ∀ w', C w' → w'.cell? ⟨yb, yo + k, none⟩ = some (.int .u32 q) from fun w' h => by
          have := (HRY.out.below rfl ((HC.out _).1 h)).at_ u32v_len hlt2 0 (.int .u32 yd[k]) rfl
          rw [hq, Nat.mul_one, Nat.add_zero] at this; exact this)
        obtain ⟨K, hK⟩ : ∃ K, (!decide (p = q)) = K := ⟨_, rfl⟩
        have bb := Lib.hid (show ((p : Int) != (q : Int)) = K by rw [← hK, bne_dec]; simp [Int.natCast_inj])
        cases K with
        | true =>
          have E2 := Lib.hid (show sameM ⟨xf, xq, xt, xv, xd, xp⟩ ⟨yf, yq, yt, yv, yd, yp⟩ = false by
            rw [E.out, decide_eq_false]; · rfl
            rintro rfl
            rw [hp] at hq
            subst hq
            simp at hK)
          clear hp hq hK
          go_upto_region 6 with fail
          clear c4
          refine wp_region_quiet (C := C) (by kernel_rfl) (by kernel_rfl) hCr0 ?_
          dsimp only []
          repeat (first | go_big_quiet_skip | (go_big_quiet_want; first | (refine quiet_load _ _ (by rfl) ?_ _ (by rfl) (by first | exact x4.out | exact y4.out | exact lx.out | exact ly.out) ?_; (· intro w; simp); (simp only [Act.put, List.setIfInBounds_toArray, List.set_cons_zero, List.set_cons_succ]); go_big_quiet_on) | (refine quiet_neq_int _ _ _ _ (by rfl) (by rfl) (by rfl) bb.out ?_; (simp only [Act.put, List.setIfInBounds_toArray, List.set_cons_zero, List.set_cons_succ]); go_big_quiet_on) | (go_big_quiet_op; go_big_quiet_on) | (go_big_quiet_op; refine Exists.intro _ ⟨fun _ _ => rfl, ?_⟩; go_big_quiet_on)))
          refine wpQuiet_nil ?_
          intro w9 hC9
          have B9 := Lib.hid ((HC.out _).1 hC9)
          clear hC9 hCr0 hC8 hC0
          go_wp2
          go_ret
          exact ⟨by rw [E2.out]; rfl, bthen' BW.out B9.out⟩
        | false =>
          have HN2 := Lib.hid (show ∀ j, j < k + 1 → xd.getD j 0 = yd.getD j 0 from fun j hj => by
            by_cases e : j = k
            · subst e
              have : p = q := by simpa using hK
              simp [hlt, hlt2, hp, hq, this]
            · exact HPRE.out j (by omega))
          clear hp hq hK
          go_upto_region 6 with fail
          clear c4
          refine wp_region_quiet (C := C) (by kernel_rfl) (by kernel_rfl) hCr0 ?_
          dsimp only []
          repeat (first | go_big_quiet_skip | (go_big_quiet_want; first | (refine quiet_load _ _ (by rfl) ?_ _ (by rfl) (by first | exact x4.out | exact y4.out | exact lx.out | exact ly.out) ?_; (· intro w; simp); (simp only [Act.put, List.setIfInBounds_toArray, List.set_cons_zero, List.set_cons_succ]); go_big_quiet_on) | (refine quiet_neq_int _ _ _ _ (by rfl) (by rfl) (by rfl) bb.out ?_; (simp only [Act.put, List.setIfInBounds_toArray, List.set_cons_zero, List.set_cons_succ]); go_big_quiet_on) | (go_big_quiet_op; go_big_quiet_on) | (go_big_quiet_op; refine Exists.intro _ ⟨fun _ _ => rfl, ?_⟩; go_big_quiet_on)))
          refine wpQuiet_nil ?_
          intro w9 hC9
          go_wp2
          go_roundw
          case rel => exact ⟨k + 1, by omega, by go_num, hC9, HN2.out⟩
          case measure => simp [intOf]; omega
      · obtain rfl : k = xd.length := by omega
        have E2 := Lib.hid (show sameM ⟨xf, xq, xt, xv, xd, xp⟩ ⟨yf, yq, yt, yv, yd, yp⟩ = true by
          rw [E.out, decide_eq_true]; · rfl
          refine List.ext_getElem hll fun j h1 h2 => ?_
          have := HPRE.out j h1
          simpa [h1, h2] using this)
        have B9 := Lib.hid ((HC.out _).1 hCr)
        clear hCr hCr0 hC8 hC0
        go_wp2
        go_ret
        exact ⟨by rw [E2.out]; rfl, bthen' BW.out B9.out⟩
/-- Two rows of messages, one by one. -/
def AllPost (l l' : List MsE) (w : World) (e : Ending) (w' : World) : Prop := ∃ r : Bool, e = .returned (.bool r) ∧ Below w.heap.size w w' ∧ (l.map MsE.m = l'.map MsE.m → r = true)
theorem all_any {w : World} {v v' : Value} {l l' : List MsE} {a a' : Option Addr} {c c' b b' o o' : Nat} (h : MsgsAt w v l a c b o) (h' : MsgsAt w v' l' a' c' b' o') (hml : l.length ≤ 100000) (hml' : l'.length ≤ 100000) :
    Calls Tryd.prog 25 #[v, v'] w (AllPost l l' w) := by
  have hv := h.r.v
  have hv' := h'.r.v
  subst hv hv'
  have HM := Lib.hid h
  have HM' := Lib.hid h'
  have hm1 : (l.length : Int) ≤ 100000 := by omega
  have hm2 : (l'.length : Int) ≤ 100000 := by omega
  have hu : Hid ((Tryd.prog.info? 59).map (·.size) = some (6 : Nat)) := Lib.hid size_ms
  clear h h'
  by_cases hll : l.length = l'.length
  · have e1 : ((l.length : Int) != (l'.length : Int)) = false := by simp [hll]
    go_enter Tryd.func25, Tryd.ntmps25
    go_wp2
    go_loopw [5] (fun i wr => ∃ k : Nat, k ≤ l.length ∧ i = .int .i64 k ∧ Below w.heap.size w wr) (fun i _ => l.length - (intOf i).toNat)
    case atStart => exact ⟨0, Nat.zero_le _, rfl, Below.refl _ _⟩
    case round =>
      obtain ⟨k, hk, rfl, hb⟩ := hrel
      have HB := Lib.hid hb
      clear hb
      by_cases hlt : k < l.length
      · have hlt' : (k : Int) < (l.length : Int) := by omega
        have hlt2 : k < l'.length := by omega
        have hlt2' : (k : Int) < (l'.length : Int) := by omega
        obtain ⟨rfl, _⟩ := HM.out.r.a (by omega)
        obtain ⟨rfl, _⟩ := HM'.out.r.a (by omega)
        obtain ⟨x, hx⟩ : ∃ x, l[k] = x := ⟨_, rfl⟩
        obtain ⟨y, hy⟩ : ∃ y, l'[k] = y := ⟨_, rfl⟩
        obtain ⟨K, hK⟩ : ∃ K, sameM x.m y.m = K := ⟨_, rfl⟩
        obtain ⟨C, hC⟩ : ∃ C : World → Prop, ∀ w', C w' ↔ Below w.heap.size w w' := ⟨_, fun _ => Iff.rfl⟩
        have hC0 : C { wr with drawn := wr.drawn + 1 } := (hC _).2 (Below.drew HB.out)
        have mx := Lib.hid (show ∀ w', C w' → w'.rangeAt b (o + k * 6) x.vals from fun w' h => by rw [← hx]; exact (HM.out.r.below rfl ((hC w').1 h)).at_ MsE.len hlt)
        have my := Lib.hid (show ∀ w', C w' → w'.rangeAt b' (o' + k * 6) y.vals from fun w' h => by rw [← hy]; exact (HM'.out.r.below rfl ((hC w').1 h)).at_ MsE.len hlt2)
        have ks := Lib.hid (show ∀ w', C w' → Calls Tryd.prog 38 #[.agg x.vals.toArray, .agg y.vals.toArray] w' fun e w'' => e = .returned (.bool K) ∧ C w'' from
          fun w' h => (same_any x y w' (by rw [← hx]; exact (HM.out.ok _ (List.getElem_mem hlt)).below rfl ((hC w').1 h)) (by rw [← hy]; exact (HM'.out.ok _ (List.getElem_mem hlt2)).below rfl ((hC w').1 h))).mono fun e w'' ⟨he, hw⟩ => ⟨by rw [← hK]; exact he, (hC w'').2 (bthen' ((hC w').1 h) hw)⟩)
        have HC := Lib.hid hC
        have HNE := Lib.hid (show K = false → l.map MsE.m ≠ l'.map MsE.m from fun hf e => by
          have h1 := congrArg (fun z : List Ms => z[k]?) e
          simp [hlt, hlt2, hx, hy] at h1
          rw [h1, sameM_self] at hK
          rw [hf] at hK
          cases hK)
        have e1' := e1
        clear hx hy hK hC e1
        cases K with
        | true =>
          go_upto_region 6 with fail
          refine wp_region_quiet (C := C) (by kernel_rfl) (by kernel_rfl) hC0 ?_
          dsimp only []
          repeat (first | go_big_quiet_skip | (go_big_quiet_want; first | (refine quiet_call 38 _ _ (by rfl) Tryd.call38 _ ?_ ks.out ?_; (· rfl); (simp only [Act.put, List.setIfInBounds_toArray, List.set_cons_zero, List.set_cons_succ]); go_big_quiet_on) | (refine quiet_load_mid (cs := x.vals) Tryd.underlying59 rfl hu.out _ (by rfl) b (o + k * 6) (by rfl) mx.out ?_; (simp only [Act.put, List.setIfInBounds_toArray, List.set_cons_zero, List.set_cons_succ]); go_big_quiet_on) | (refine quiet_load_mid (cs := y.vals) Tryd.underlying59 rfl hu.out _ (by rfl) b' (o' + k * 6) (by rfl) my.out ?_; (simp only [Act.put, List.setIfInBounds_toArray, List.set_cons_zero, List.set_cons_succ]); go_big_quiet_on) | (refine quiet_not (K := true) (K' := false) _ _ (by rfl) (by rfl) rfl ?_; (simp only [Act.put, List.setIfInBounds_toArray, List.set_cons_zero, List.set_cons_succ]); go_big_quiet_on) | (go_big_quiet_op; go_big_quiet_on) | (go_big_quiet_op; refine Exists.intro _ ⟨fun _ _ => rfl, ?_⟩; go_big_quiet_on)))
          refine wpQuiet_nil ?_
          intro w9 hC9
          have HB9 := Lib.hid ((HC.out _).1 hC9)
          clear hC9 hC0 mx my ks HC
          go_wp2
          go_roundw
          case rel => exact ⟨k + 1, by omega, by go_num, HB9.out⟩
          case measure => simp [intOf]; omega
        | false =>
          go_upto_region 6 with fail
          refine wp_region_quiet (C := C) (by kernel_rfl) (by kernel_rfl) hC0 ?_
          dsimp only []
          repeat (first | go_big_quiet_skip | (go_big_quiet_want; first | (refine quiet_call 38 _ _ (by rfl) Tryd.call38 _ ?_ ks.out ?_; (· rfl); (simp only [Act.put, List.setIfInBounds_toArray, List.set_cons_zero, List.set_cons_succ]); go_big_quiet_on) | (refine quiet_load_mid (cs := x.vals) Tryd.underlying59 rfl hu.out _ (by rfl) b (o + k * 6) (by rfl) mx.out ?_; (simp only [Act.put, List.setIfInBounds_toArray, List.set_cons_zero, List.set_cons_succ]); go_big_quiet_on) | (refine quiet_load_mid (cs := y.vals) Tryd.underlying59 rfl hu.out _ (by rfl) b' (o' + k * 6) (by rfl) my.out ?_; (simp only [Act.put, List.setIfInBounds_toArray, List.set_cons_zero, List.set_cons_succ]); go_big_quiet_on) | (refine quiet_not (K := false) (K' := true) _ _ (by rfl) (by rfl) rfl ?_; (simp only [Act.put, List.setIfInBounds_toArray, List.set_cons_zero, List.set_cons_succ]); go_big_quiet_on) | (go_big_quiet_op; go_big_quiet_on) | (go_big_quiet_op; refine Exists.intro _ ⟨fun _ _ => rfl, ?_⟩; go_big_quiet_on)))
          refine wpQuiet_nil ?_
          intro w9 hC9
          have HB9 := Lib.hid ((HC.out _).1 hC9)
          clear hC9 hC0 mx my ks HC
          go_wp2
          go_ret
          exact ⟨_, rfl, HB9.out, fun e => absurd e (HNE.out (by trivial))⟩
      · obtain rfl : k = l.length := by omega
        go_wp2
        go_ret
        exact ⟨_, rfl, HB.out, fun _ => rfl⟩
  · have e1 : ((l.length : Int) != (l'.length : Int)) = true := by rw [bne_iff_ne]; omega
    have HNE := Lib.hid (show l.map MsE.m ≠ l'.map MsE.m from fun e => hll (by have := congrArg List.length e; simpa using this))
    clear hll
    go_enter Tryd.func25, Tryd.ntmps25
    go_wp2
    go_ret
    exact ⟨_, rfl, Below.refl _ _, fun e => absurd e HNE.out⟩
end Go.Proofs.YtagelhbknbpfhaaDoor

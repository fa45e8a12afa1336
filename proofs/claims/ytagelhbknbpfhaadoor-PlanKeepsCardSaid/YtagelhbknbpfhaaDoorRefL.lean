/-
  consortref15: lost.
-/
import Derived.Test.YtagelhbknbpfhaaDoorRefK
import Derived.Deep.OwnRows
namespace Go.Proofs.YtagelhbknbpfhaaDoor
open Go.RowKit Go.BigFrame
set_option maxHeartbeats 2000000
set_option maxRecDepth 100000
/-- What has been given up, in memory. -/
structure GivAt (w : World) (g n : Nat) (G : Nat → Bool) : Prop where
  blk : ∃ cs : Array Value, w.heap[g]? = some (.cells cs 4 (0, 0)) ∧ cs.size = n
  c : ∀ i, i < n → w.cell? ⟨g, i, none⟩ = some (.bool (G i))
theorem GivAt.lt {w : World} {g n : Nat} {G : Nat → Bool} (h : GivAt w g n G) : g < w.heap.size := by
  obtain ⟨cs, h1, _⟩ := h.blk
  exact (Array.getElem?_eq_some_iff.1 h1).1
theorem GivAt.nf {w : World} {g n : Nat} {G : Nat → Bool} (h : GivAt w g n G) (k : Nat) : w.frozen? ⟨g, k, none⟩ = false := by
  obtain ⟨cs, h1, _⟩ := h.blk
  simp [World.frozen?, h1]
theorem GivAt.below {w w' : World} {g n : Nat} {G : Nat → Bool} (h : GivAt w g n G) (hb : Below w.heap.size w w') : GivAt w' g n G := by
  obtain ⟨cs, h1, h2⟩ := h.blk
  exact ⟨⟨cs, bblock hb h1, h2⟩, fun i hi => (hb.cell (p := ⟨g, i, none⟩) h.lt).trans (h.c i hi)⟩
theorem GivAt.set {w : World} {g n : Nat} {G : Nat → Bool} (h : GivAt w g n G) (i : Nat) (hi : i < n) : GivAt (w.setCell ⟨g, i, none⟩ (.bool true)) g n (fun j => if j = i then true else G j) := by
  obtain ⟨cs, h1, h2⟩ := h.blk
  refine ⟨⟨_, rowCell h1 i _, by simpa using h2⟩, fun j hj => ?_⟩
  rw [cell_of_row _ g j _ _ _ (rowCell h1 i _)]
  by_cases e : j = i
  · subst e
    rw [if_pos rfl, Array.getElem?_setIfInBounds_self_of_lt (by omega)]
  · rw [if_neg e, Array.getElem?_setIfInBounds_ne (by omega)]
    have := h.c j hj
    rw [cell_of_row _ g j _ _ _ h1] at this
    exact this
def barD (l : List Ex) (deps : List Nat) (q : Nat) : Bool := (decide (63 < q) && decide (0 < deps.getD q 0)) || (decide (q < 64) && decide (wholeL l q < deps.getD q 0))
def barJ (l : List Ex) (deps : List Nat) (k : Nat) : Bool := (List.range k).any (barD l deps)
theorem barJ_end (l : List Ex) (deps : List Nat) : barJ l deps deps.length = depBar l deps := rfl
theorem barJ_succ (l : List Ex) (deps : List Nat) (k : Nat) : barJ l deps (k + 1) = (barJ l deps k || barD l deps k) := by unfold barJ; rw [List.range_succ, List.any_append]; simp
theorem barJ_hit {l : List Ex} {deps : List Nat} {k : Nat} (hk : k < deps.length) (h : barD l deps k = true) : depBar l deps = true := List.any_eq_true.2 ⟨k, by simpa using hk, h⟩
def givI (rest : List MsE) (G : Nat → Bool) (m : Ms) (i : Nat) : Bool := match rest[i]? with
  | some x => givBar (G i) m x.m
  | none => false
def givJ (rest : List MsE) (G : Nat → Bool) (m : Ms) (k : Nat) : Bool := (List.range k).any (givI rest G m)
theorem givJ_succ (rest : List MsE) (G : Nat → Bool) (m : Ms) (k : Nat) : givJ rest G m (k + 1) = (givJ rest G m k || givI rest G m k) := by unfold givJ; rw [List.range_succ, List.any_append]; simp
theorem lost_def (l : List Ex) (rest : List MsE) (G : Nat → Bool) (m : Ms) : lostN l rest G m = (depBar l m.deps || givJ rest G m rest.length) := rfl
theorem givJ_hit {rest : List MsE} {G : Nat → Bool} {m : Ms} {k : Nat} (hk : k < rest.length) (h : givI rest G m k = true) : givJ rest G m rest.length = true := List.any_eq_true.2 ⟨k, by simpa using hk, h⟩
theorem lost_any {w : World} {v v2 : Value} {l : List XE} {a : Option Addr} {c b o : Nat} (h : ExsAt w v l a c b o) {rest : List MsE} {a2 : Option Addr} {c2 b2 o2 : Nat} (hm : MsgsAt w v2 rest a2 c2 b2 o2) (hr300 : rest.length ≤ 1000) {gb gn : Nat} {G : Nat → Bool} (hg : GivAt w gb rest.length G) (y : MsE) (hy : y.Ok w) :
    Calls Tryd.prog 42 #[v, v2, .slice (some ⟨gb, 0, none⟩) rest.length gn, .agg y.vals.toArray] w fun e w' => e = .returned (.bool (lostN (exs l) rest G y.m)) ∧ Below w.heap.size w w' := by
  have hv := h.r.v
  subst hv
  have hv2 := hm.r.v
  subst hv2
  have hz := zero_ms
  have hu : Hid ((Tryd.prog.info? 59).map (·.size) = some (6 : Nat)) := Lib.hid size_ms
  obtain ⟨n, hn⟩ : ∃ n, w.heap.size = n := ⟨_, rfl⟩
  obtain ⟨W, hW⟩ : ∃ W : World, w.alloc (.cells y.vals.toArray 59) = W := ⟨_, rfl⟩
  have B0 := Lib.hid (show W.heap[n]? = some (.cells y.vals.toArray 59 (0, 0)) by rw [← hW, ← hn]; exact heap_alloc_new _ _)
  have BW := Lib.hid (show Below w.heap.size w W by rw [← hW]; exact bel_box _ _ _)
  have HW := Lib.hid hW
  have HN := Lib.hid hn
  have HE := Lib.hid (h.below rfl BW.out)
  have HM := Lib.hid (hm.below rfl BW.out)
  have HG := Lib.hid (hg.below BW.out)
  have HY := hy.below rfl BW.out
  obtain ⟨ya, yc, yb, yo, hrow⟩ := HY.r
  have hsl := hrow.v
  obtain ⟨L, hL⟩ : ∃ L, y.m.deps = L := ⟨_, rfl⟩
  rw [hL] at hrow hsl
  have hLs : (L.length : Int) ≤ 9223372036854775807 := by have := hy.dl; rw [hL] at this; omega
  have hrl : (rest.length : Int) ≤ 1000 := by omega
  have HROW := Lib.hid hrow
  have HLL := Lib.hid hL
  obtain ⟨F, hF⟩ : ∃ F, y.m.frm = F := ⟨_, rfl⟩
  obtain ⟨S, hS⟩ : ∃ S, y.m.seq = S := ⟨_, rfl⟩
  have HF := Lib.hid hF
  have HS := Lib.hid hS
  obtain ⟨C, hC⟩ : ∃ C : World → Prop, ∀ w', C w' ↔ Below W.heap.size W w' := ⟨_, fun _ => Iff.rfl⟩
  have hC0 : C W := (hC _).2 (Below.refl _ _)
  have l4 := Lib.hid (show ∀ w', C w' → w'.cell? ⟨n, 4, none⟩ = some (.slice ya L.length yc) from fun w' h => by rw [cell_of_row w' n 4 _ _ _ (bblock ((hC w').1 h) B0.out), ← hsl]; rfl)
  have l0 := Lib.hid (show ∀ w', C w' → w'.cell? ⟨n, 0, none⟩ = some (.int .i64 F) from fun w' h => by rw [cell_of_row w' n 0 _ _ _ (bblock ((hC w').1 h) B0.out), ← hF]; rfl)
  have l1 := Lib.hid (show ∀ w', C w' → w'.cell? ⟨n, 1, none⟩ = some (.int .u32 S) from fun w' h => by rw [cell_of_row w' n 1 _ _ _ (bblock ((hC w').1 h) B0.out), ← hS]; rfl)
  have HC := Lib.hid hC
  clear hC hW h hm hg hy HY hn hrow hsl hL hF hS
  go_enter Tryd.func42, Tryd.ntmps42
  go_upto_region 1 with fail
  rw [HW.out, HN.out]
  go_wp2
  go_loopw [9] (fun i wr => ∃ q : Nat, q ≤ L.length ∧ i = .int .i64 q ∧ C wr ∧ barJ (exs l) L q = false) (fun i _ => L.length - (intOf i).toNat)
  case atStart => exact ⟨0, Nat.zero_le _, rfl, hC0, rfl⟩
  case round =>
    obtain ⟨q, hq, rfl, hCr, hbar⟩ := hrel
    have HBAR := Lib.hid hbar
    have c4 := l4.out _ hCr
    clear hbar
    by_cases hlt : q < L.length
    · have hlt' : (q : Int) < (L.length : Int) := by omega
      obtain ⟨rfl, _⟩ := HROW.out.a (by omega)
      obtain ⟨d, hd⟩ : ∃ d, L[q] = d := ⟨_, rfl⟩
      have hCr0 : C { wr with drawn := wr.drawn + 1 } := (HC.out _).2 (Below.drew ((HC.out _).1 hCr))
      have lx := Lib.hid (show ∀ w', C w' → w'.cell? ⟨yb, yo + q, none⟩ = some (.int .u32 d) from fun w' h => by
        have := (HROW.out.below rfl ((HC.out w').1 h)).at_ u32v_len hlt 0 (.int .u32 L[q]) rfl
        rw [hd, Nat.mul_one, Nat.add_zero] at this; exact this)
      have hgd : L.getD q 0 = d := by simp [hlt, hd]
      obtain ⟨N, hN⟩ : ∃ N, wholeL (exs l) q = N := ⟨_, rfl⟩
      have kw := Lib.hid (show ∀ w', C w' → Calls Tryd.prog 17 #[.slice a l.length c, .int .i64 q] w' fun e w'' => e = .returned (.int .u32 N) ∧ C w'' from
        fun w' h => (rwhole_any (HE.out.below rfl ((HC.out w').1 h)) _).mono fun e w'' ⟨he, hw⟩ => ⟨by rw [← hN]; exact he, hw ▸ h⟩)
      obtain ⟨K2, hK2⟩ : ∃ K2, decide (63 < q) = K2 := ⟨_, rfl⟩
      obtain ⟨K8, hK8⟩ : ∃ K8, decide (0 < d) = K8 := ⟨_, rfl⟩
      obtain ⟨K22, hK22⟩ : ∃ K22, decide (N < d) = K22 := ⟨_, rfl⟩
      have b2 := Lib.hid (show decide ((63 : Int) < (q : Int)) = K2 by rw [← hK2, decide_eq_decide]; omega)
      have b8 := Lib.hid (show decide ((0 : Int) < (d : Int)) = K8 by rw [← hK8, decide_eq_decide]; omega)
      have b22 := Lib.hid (show decide ((N : Int) < (d : Int)) = K22 by rw [← hK22, decide_eq_decide]; omega)
      have b12 := Lib.hid (show decide ((q : Int) < 64) = !K2 by rw [← hK2, Bool.eq_iff_iff]; simp; omega)
      have EB := Lib.hid (show barD (exs l) L q = ((K2 && K8) || (!K2 && K22)) by
        unfold barD
        rw [hgd, hN, hK2, hK8, hK22, ← hK2]
        congr 1
        congr 1
        rw [Bool.eq_iff_iff]; simp; omega)
      clear hK2 hK8 hK22 hN hgd hd
      cases K2 with
      | true =>
        cases K8 with
        | true =>
          have E := Lib.hid (show lostN (exs l) rest G y.m = true by rw [lost_def, HLL.out, barJ_hit hlt (by rw [EB.out]; rfl)]; rfl)
          go_upto_region 4 with fail
          clear c4
          refine wp_region_quiet (C := C) (by kernel_rfl) (by kernel_rfl) hCr0 ?_
          dsimp only []
          repeat (first | go_big_quiet_skip | (go_big_quiet_want; first | (refine quiet_load _ _ (by rfl) ?_ _ (by rfl) (by first | exact l4.out | exact lx.out) ?_; (· intro w; simp); (simp only [Act.put, List.setIfInBounds_toArray, List.set_cons_zero, List.set_cons_succ]); go_big_quiet_on) | (refine quiet_call 17 _ _ (by rfl) Tryd.call17 _ ?_ kw.out ?_; (· rfl); (simp only [Act.put, List.setIfInBounds_toArray, List.set_cons_zero, List.set_cons_succ]); go_big_quiet_on) | (refine quiet_gtr_int _ _ _ _ (by rfl) (by rfl) (by rfl) b2.out ?_; (simp only [Act.put, List.setIfInBounds_toArray, List.set_cons_zero, List.set_cons_succ]); go_big_quiet_on) | (refine quiet_gtr_int _ _ _ _ (by rfl) (by rfl) (by rfl) b8.out ?_; (simp only [Act.put, List.setIfInBounds_toArray, List.set_cons_zero, List.set_cons_succ]); go_big_quiet_on) | (refine quiet_gtr_int _ _ _ _ (by rfl) (by rfl) (by rfl) b22.out ?_; (simp only [Act.put, List.setIfInBounds_toArray, List.set_cons_zero, List.set_cons_succ]); go_big_quiet_on) | (refine quiet_lss_int _ _ _ _ (by rfl) (by rfl) (by rfl) (show decide ((q : Int) < 64) = false from b12.out) ?_; (simp only [Act.put, List.setIfInBounds_toArray, List.set_cons_zero, List.set_cons_succ]); go_big_quiet_on) | (go_big_quiet_op; go_big_quiet_on) | (go_big_quiet_op; refine Exists.intro _ ⟨fun _ _ => rfl, ?_⟩; go_big_quiet_on)))
          refine wpQuiet_nil ?_
          intro w9 hC9
          have HB9 := Lib.hid (bthen' BW.out ((HC.out _).1 hC9))
          clear hC9 hCr0 hCr hC0 lx kw
          go_wp2
          go_ret
          exact ⟨by rw [E.out]; rfl, HB9.out⟩
        | false =>
          have HB2 := Lib.hid (show barJ (exs l) L (q + 1) = false by rw [barJ_succ, HBAR.out, EB.out]; rfl)
          go_upto_region 4 with fail
          clear c4
          refine wp_region_quiet (C := C) (by kernel_rfl) (by kernel_rfl) hCr0 ?_
          dsimp only []
          repeat (first | go_big_quiet_skip | (go_big_quiet_want; first | (refine quiet_load _ _ (by rfl) ?_ _ (by rfl) (by first | exact l4.out | exact lx.out) ?_; (· intro w; simp); (simp only [Act.put, List.setIfInBounds_toArray, List.set_cons_zero, List.set_cons_succ]); go_big_quiet_on) | (refine quiet_call 17 _ _ (by rfl) Tryd.call17 _ ?_ kw.out ?_; (· rfl); (simp only [Act.put, List.setIfInBounds_toArray, List.set_cons_zero, List.set_cons_succ]); go_big_quiet_on) | (refine quiet_gtr_int _ _ _ _ (by rfl) (by rfl) (by rfl) b2.out ?_; (simp only [Act.put, List.setIfInBounds_toArray, List.set_cons_zero, List.set_cons_succ]); go_big_quiet_on) | (refine quiet_gtr_int _ _ _ _ (by rfl) (by rfl) (by rfl) b8.out ?_; (simp only [Act.put, List.setIfInBounds_toArray, List.set_cons_zero, List.set_cons_succ]); go_big_quiet_on) | (refine quiet_gtr_int _ _ _ _ (by rfl) (by rfl) (by rfl) b22.out ?_; (simp only [Act.put, List.setIfInBounds_toArray, List.set_cons_zero, List.set_cons_succ]); go_big_quiet_on) | (refine quiet_lss_int _ _ _ _ (by rfl) (by rfl) (by rfl) (show decide ((q : Int) < 64) = false from b12.out) ?_; (simp only [Act.put, List.setIfInBounds_toArray, List.set_cons_zero, List.set_cons_succ]); go_big_quiet_on) | (go_big_quiet_op; go_big_quiet_on) | (go_big_quiet_op; refine Exists.intro _ ⟨fun _ _ => rfl, ?_⟩; go_big_quiet_on)))
          refine wpQuiet_nil ?_
          intro w9 hC9
          clear hCr0 hCr lx kw
          go_wp2
          go_roundw
          case rel => exact ⟨q + 1, by omega, by go_num, hC9, HB2.out⟩
          case measure => simp [intOf]; omega
      | false =>
        cases K22 with
        | true =>
          have E := Lib.hid (show lostN (exs l) rest G y.m = true by rw [lost_def, HLL.out, barJ_hit hlt (by rw [EB.out]; rfl)]; rfl)
          go_upto_region 4 with fail
          clear c4
          refine wp_region_quiet (C := C) (by kernel_rfl) (by kernel_rfl) hCr0 ?_
          dsimp only []
          repeat (first | go_big_quiet_skip | (go_big_quiet_want; first | (refine quiet_load _ _ (by rfl) ?_ _ (by rfl) (by first | exact l4.out | exact lx.out) ?_; (· intro w; simp); (simp only [Act.put, List.setIfInBounds_toArray, List.set_cons_zero, List.set_cons_succ]); go_big_quiet_on) | (refine quiet_call 17 _ _ (by rfl) Tryd.call17 _ ?_ kw.out ?_; (· rfl); (simp only [Act.put, List.setIfInBounds_toArray, List.set_cons_zero, List.set_cons_succ]); go_big_quiet_on) | (refine quiet_gtr_int _ _ _ _ (by rfl) (by rfl) (by rfl) b2.out ?_; (simp only [Act.put, List.setIfInBounds_toArray, List.set_cons_zero, List.set_cons_succ]); go_big_quiet_on) | (refine quiet_gtr_int _ _ _ _ (by rfl) (by rfl) (by rfl) b8.out ?_; (simp only [Act.put, List.setIfInBounds_toArray, List.set_cons_zero, List.set_cons_succ]); go_big_quiet_on) | (refine quiet_gtr_int _ _ _ _ (by rfl) (by rfl) (by rfl) b22.out ?_; (simp only [Act.put, List.setIfInBounds_toArray, List.set_cons_zero, List.set_cons_succ]); go_big_quiet_on) | (refine quiet_lss_int _ _ _ _ (by rfl) (by rfl) (by rfl) (show decide ((q : Int) < 64) = true from b12.out) ?_; (simp only [Act.put, List.setIfInBounds_toArray, List.set_cons_zero, List.set_cons_succ]); go_big_quiet_on) | (go_big_quiet_op; go_big_quiet_on) | (go_big_quiet_op; refine Exists.intro _ ⟨fun _ _ => rfl, ?_⟩; go_big_quiet_on)))
          refine wpQuiet_nil ?_
          intro w9 hC9
          have HB9 := Lib.hid (bthen' BW.out ((HC.out _).1 hC9))
          clear hC9 hCr0 hCr hC0 lx kw
          go_wp2
          go_ret
          exact ⟨by rw [E.out]; rfl, HB9.out⟩
        | false =>
          have HB2 := Lib.hid (show barJ (exs l) L (q + 1) = false by rw [barJ_succ, HBAR.out, EB.out]; rfl)
          go_upto_region 4 with fail
          clear c4
          refine wp_region_quiet (C := C) (by kernel_rfl) (by kernel_rfl) hCr0 ?_
          dsimp only []
          repeat (first | go_big_quiet_skip | (go_big_quiet_want; first | (refine quiet_load _ _ (by rfl) ?_ _ (by rfl) (by first | exact l4.out | exact lx.out) ?_; (· intro w; simp); (simp only [Act.put, List.setIfInBounds_toArray, List.set_cons_zero, List.set_cons_succ]); go_big_quiet_on) | (refine quiet_call 17 _ _ (by rfl) Tryd.call17 _ ?_ kw.out ?_; (· rfl); (simp only [Act.put, List.setIfInBounds_toArray, List.set_cons_zero, List.set_cons_succ]); go_big_quiet_on) | (refine quiet_gtr_int _ _ _ _ (by rfl) (by rfl) (by rfl) b2.out ?_; (simp only [Act.put, List.setIfInBounds_toArray, List.set_cons_zero, List.set_cons_succ]); go_big_quiet_on) | (refine quiet_gtr_int _ _ _ _ (by rfl) (by rfl) (by rfl) b8.out ?_; (simp only [Act.put, List.setIfInBounds_toArray, List.set_cons_zero, List.set_cons_succ]); go_big_quiet_on) | (refine quiet_gtr_int _ _ _ _ (by rfl) (by rfl) (by rfl) b22.out ?_; (simp only [Act.put, List.setIfInBounds_toArray, List.set_cons_zero, List.set_cons_succ]); go_big_quiet_on) | (refine quiet_lss_int _ _ _ _ (by rfl) (by rfl) (by rfl) (show decide ((q : Int) < 64) = true from b12.out) ?_; (simp only [Act.put, List.setIfInBounds_toArray, List.set_cons_zero, List.set_cons_succ]); go_big_quiet_on) | (go_big_quiet_op; go_big_quiet_on) | (go_big_quiet_op; refine Exists.intro _ ⟨fun _ _ => rfl, ?_⟩; go_big_quiet_on)))
          refine wpQuiet_nil ?_
          intro w9 hC9
          clear hCr0 hCr lx kw
          go_wp2
          go_roundw
          case rel => exact ⟨q + 1, by omega, by go_num, hC9, HB2.out⟩
          case measure => simp [intOf]; omega
    · obtain rfl : q = L.length := by omega
      have HDB := Lib.hid (show depBar (exs l) L = false by rw [← barJ_end]; exact HBAR.out)
      go_wp2
      clear c4
      go_loopw [10] (fun i wr => ∃ r : Nat, r ≤ rest.length ∧ i = .int .i64 r ∧ C wr ∧ givJ rest G y.m r = false) (fun i _ => rest.length - (intOf i).toNat)
      case atStart => exact ⟨0, Nat.zero_le _, rfl, hCr, rfl⟩
      case round =>
        obtain ⟨r, hr, rfl, hCr2, hgiv⟩ := hrel
        have HGV := Lib.hid hgiv
        clear hgiv
        by_cases hltr : r < rest.length
        · have hltr' : (r : Int) < (rest.length : Int) := by omega
          obtain ⟨rfl, _⟩ := HM.out.r.a (by omega)
          obtain ⟨x, hx⟩ : ∃ x, rest[r] = x := ⟨_, rfl⟩
          have HX := Lib.hid (show wr.rangeAt b2 (o2 + r * 6) x.vals from by rw [← hx]; exact (HM.out.r.below rfl ((HC.out _).1 hCr2)).at_ MsE.len hltr)
          have HOK := Lib.hid (show x.Ok wr from by rw [← hx]; exact (HM.out.ok _ (List.getElem_mem hltr)).below rfl ((HC.out _).1 hCr2))
          obtain ⟨XF, hXF⟩ : ∃ XF, x.m.frm = XF := ⟨_, rfl⟩
          obtain ⟨XS, hXS⟩ : ∃ XS, x.m.seq = XS := ⟨_, rfl⟩
          obtain ⟨A, hA⟩ : ∃ A, atL L XF = A := ⟨_, rfl⟩
          obtain ⟨K3, hK3⟩ : ∃ K3, G r = K3 := ⟨_, rfl⟩
          obtain ⟨K9, hK9⟩ : ∃ K9, decide (XF = F) = K9 := ⟨_, rfl⟩
          obtain ⟨K15, hK15⟩ : ∃ K15, decide (XS ≤ S) = K15 := ⟨_, rfl⟩
          obtain ⟨K25, hK25⟩ : ∃ K25, decide (XS ≤ A) = K25 := ⟨_, rfl⟩
          have b9 := Lib.hid (show (XF == F) = K9 by rw [← hK9]; by_cases h : XF = F <;> simp [h])
          have b15 := Lib.hid (show decide ((XS : Int) ≤ (S : Int)) = K15 by rw [← hK15, decide_eq_decide]; omega)
          have b25 := Lib.hid (show decide ((XS : Int) ≤ (A : Int)) = K25 by rw [← hK25, decide_eq_decide]; omega)
          have EG := Lib.hid (show givI rest G y.m r = (K3 && ((K9 && K15) || K25)) by
            unfold givI
            rw [List.getElem?_eq_getElem hltr, hx]
            simp only [givBar, hXF, hXS, HF.out, HS.out, HLL.out, hA, hK3, hK9, hK15, hK25])
          obtain ⟨E0, hE0⟩ : ∃ E0, wr.heap.size = E0 := ⟨_, rfl⟩
          go_upto_region 10 with (first
            | (guard_target = wpList _ _ _ (Oper.mk none (Op.store _ _ _) _ _ _ none :: _) _ _; refine wpList_store_row rfl 59 _ _ rfl E0 (by rfl) x.vals.toArray (by rfl) msZero.toArray 59 (by rw [← hE0]; exact heap_alloc_new _ _) rfl hu.out HOK.out.oneA ?_; intro w9 hw9 hg9)
            | (guard_target = wpList _ _ _ (Oper.mk _ (Op.load 59 _) _ _ _ none :: _) _ _; refine wpList_load_mid rfl 59 _ rfl b2 (o2 + r * 6) (by rfl) x.vals _ HX.out Tryd.underlying59 rfl hu.out ?_; simp only [Act.put, List.setIfInBounds_toArray, List.set_cons_zero, List.set_cons_succ]))
          simp only [Act.put]
          have hb9 : Below wr.heap.size wr w9 := bel_new (hE0 ▸ hg9)
          have hC9 : C w9 := (HC.out _).2 (bthen' ((HC.out _).1 hCr2) hb9)
          obtain ⟨C2, hC2⟩ : ∃ C2 : World → Prop, ∀ w', C2 w' ↔ Below w9.heap.size w9 w' := ⟨_, fun _ => Iff.rfl⟩
          have hC20 : C2 { w9 with drawn := w9.drawn + 1 } := (hC2 _).2 (Below.drew (Below.refl _ _))
          have hCC : ∀ w', C2 w' → C w' := fun w' h => (HC.out _).2 (bthen' ((HC.out _).1 hC9) ((hC2 w').1 h))
          have m0 := Lib.hid (show ∀ w', C2 w' → w'.cell? ⟨n, 0, none⟩ = some (.int .i64 F) from fun w' h => l0.out w' (hCC w' h))
          have m1 := Lib.hid (show ∀ w', C2 w' → w'.cell? ⟨n, 1, none⟩ = some (.int .u32 S) from fun w' h => l1.out w' (hCC w' h))
          have m4 := Lib.hid (show ∀ w', C2 w' → w'.cell? ⟨n, 4, none⟩ = some (.slice ya L.length yc) from fun w' h => l4.out w' (hCC w' h))
          have x0 := Lib.hid (show ∀ w', C2 w' → w'.cell? ⟨E0, 0, none⟩ = some (.int .i64 XF) from fun w' h => by rw [cell_of_row w' E0 0 _ _ _ (bblock ((hC2 w').1 h) hw9), ← hXF]; rfl)
          have x1 := Lib.hid (show ∀ w', C2 w' → w'.cell? ⟨E0, 1, none⟩ = some (.int .u32 XS) from fun w' h => by rw [cell_of_row w' E0 1 _ _ _ (bblock ((hC2 w').1 h) hw9), ← hXS]; rfl)
          have lg := Lib.hid (show ∀ w', C2 w' → w'.cell? ⟨gb, r, none⟩ = some (.bool K3) from fun w' h => by rw [← hK3]; exact (HG.out.below ((HC.out _).1 (hCC w' h))).c r hltr)
          have kat := Lib.hid (show ∀ w', C2 w' → Calls Tryd.prog 23 #[.slice ya L.length yc, .int .i64 XF] w' fun e w'' => e = .returned (.int .u32 A) ∧ C2 w'' from
            fun w' h => by
              have h1 := HROW.out.below rfl ((HC.out w').1 (hCC w' h))
              rw [h1.v] at h1
              exact (rat_any _ _ _ _ _ _ _ h1 XF).mono fun e w'' ⟨he, hw⟩ => ⟨by rw [← hA]; exact he, hw ▸ h⟩)
          have HC2 := Lib.hid hC2
          have HC9 := Lib.hid ((HC.out _).1 hC9)
          clear hC2 hCC hw9 hg9 hb9 hE0 hXF hXS hA hK3 hK9 hK15 hK25 hx HX HOK hCr2 hC9
          cases K3 with
          | false =>
            have HG2 := Lib.hid (show givJ rest G y.m (r + 1) = false by rw [givJ_succ, HGV.out, EG.out]; rfl)
            refine wp_region_quiet (C := C2) (by kernel_rfl) (by kernel_rfl) hC20 ?_
            dsimp only []
            repeat (first | go_big_quiet_skip | (go_big_quiet_want; first | (refine quiet_load _ _ (by rfl) ?_ _ (by rfl) (by first | exact lg.out | exact x0.out | exact x1.out | exact m0.out | exact m1.out | exact m4.out) ?_; (· intro w; simp); (simp only [Act.put, List.setIfInBounds_toArray, List.set_cons_zero, List.set_cons_succ]); go_big_quiet_on) | (refine quiet_call 23 _ _ (by rfl) Tryd.call23 _ ?_ kat.out ?_; (· rfl); (simp only [Act.put, List.setIfInBounds_toArray, List.set_cons_zero, List.set_cons_succ]); go_big_quiet_on) | (refine quiet_eql_int _ _ _ _ (by rfl) (by rfl) (by rfl) b9.out ?_; (simp only [Act.put, List.setIfInBounds_toArray, List.set_cons_zero, List.set_cons_succ]); go_big_quiet_on) | (refine quiet_leq_int _ _ _ _ (by rfl) (by rfl) (by rfl) b15.out ?_; (simp only [Act.put, List.setIfInBounds_toArray, List.set_cons_zero, List.set_cons_succ]); go_big_quiet_on) | (refine quiet_geq_int _ _ _ _ (by rfl) (by rfl) (by rfl) b25.out ?_; (simp only [Act.put, List.setIfInBounds_toArray, List.set_cons_zero, List.set_cons_succ]); go_big_quiet_on) | (go_big_quiet_op; go_big_quiet_on) | (go_big_quiet_op; refine Exists.intro _ ⟨fun _ _ => rfl, ?_⟩; go_big_quiet_on)))
            refine wpQuiet_nil ?_
            intro w10 hC10
            have HB10 := Lib.hid (bthen' HC9.out ((HC2.out _).1 hC10))
            clear hC10 hC20 m0 m1 m4 x0 x1 lg kat HC2
            go_wp2
            go_roundw
            case rel => exact ⟨r + 1, by omega, by go_num, (HC.out _).2 HB10.out, HG2.out⟩
            case measure => simp [intOf]; omega
          | true =>
            cases K9 with
            | true =>
              cases K15 with
              | true =>
                have E := Lib.hid (show lostN (exs l) rest G y.m = true by rw [lost_def, givJ_hit hltr (by rw [EG.out]; rfl)]; simp)
                refine wp_region_quiet (C := C2) (by kernel_rfl) (by kernel_rfl) hC20 ?_
                dsimp only []
                repeat (first | go_big_quiet_skip | (go_big_quiet_want; first | (refine quiet_load _ _ (by rfl) ?_ _ (by rfl) (by first | exact lg.out | exact x0.out | exact x1.out | exact m0.out | exact m1.out | exact m4.out) ?_; (· intro w; simp); (simp only [Act.put, List.setIfInBounds_toArray, List.set_cons_zero, List.set_cons_succ]); go_big_quiet_on) | (refine quiet_call 23 _ _ (by rfl) Tryd.call23 _ ?_ kat.out ?_; (· rfl); (simp only [Act.put, List.setIfInBounds_toArray, List.set_cons_zero, List.set_cons_succ]); go_big_quiet_on) | (refine quiet_eql_int _ _ _ _ (by rfl) (by rfl) (by rfl) b9.out ?_; (simp only [Act.put, List.setIfInBounds_toArray, List.set_cons_zero, List.set_cons_succ]); go_big_quiet_on) | (refine quiet_leq_int _ _ _ _ (by rfl) (by rfl) (by rfl) b15.out ?_; (simp only [Act.put, List.setIfInBounds_toArray, List.set_cons_zero, List.set_cons_succ]); go_big_quiet_on) | (refine quiet_geq_int _ _ _ _ (by rfl) (by rfl) (by rfl) b25.out ?_; (simp only [Act.put, List.setIfInBounds_toArray, List.set_cons_zero, List.set_cons_succ]); go_big_quiet_on) | (go_big_quiet_op; go_big_quiet_on) | (go_big_quiet_op; refine Exists.intro _ ⟨fun _ _ => rfl, ?_⟩; go_big_quiet_on)))
                refine wpQuiet_nil ?_
                intro w10 hC10
                have HB10 := Lib.hid (bthen' HC9.out ((HC2.out _).1 hC10))
                clear hC10 hC20 m0 m1 m4 x0 x1 lg kat HC2
                go_wp2
                go_ret
                exact ⟨by rw [E.out]; rfl, bthen' BW.out HB10.out⟩
              | false =>
                cases K25 with
                | true =>
                  have E := Lib.hid (show lostN (exs l) rest G y.m = true by rw [lost_def, givJ_hit hltr (by rw [EG.out]; rfl)]; simp)
                  refine wp_region_quiet (C := C2) (by kernel_rfl) (by kernel_rfl) hC20 ?_
                  dsimp only []
                  repeat (first | go_big_quiet_skip | (go_big_quiet_want; first | (refine quiet_load _ _ (by rfl) ?_ _ (by rfl) (by first | exact lg.out | exact x0.out | exact x1.out | exact m0.out | exact m1.out | exact m4.out) ?_; (· intro w; simp); (simp only [Act.put, List.setIfInBounds_toArray, List.set_cons_zero, List.set_cons_succ]); go_big_quiet_on) | (refine quiet_call 23 _ _ (by rfl) Tryd.call23 _ ?_ kat.out ?_; (· rfl); (simp only [Act.put, List.setIfInBounds_toArray, List.set_cons_zero, List.set_cons_succ]); go_big_quiet_on) | (refine quiet_eql_int _ _ _ _ (by rfl) (by rfl) (by rfl) b9.out ?_; (simp only [Act.put, List.setIfInBounds_toArray, List.set_cons_zero, List.set_cons_succ]); go_big_quiet_on) | (refine quiet_leq_int _ _ _ _ (by rfl) (by rfl) (by rfl) b15.out ?_; (simp only [Act.put, List.setIfInBounds_toArray, List.set_cons_zero, List.set_cons_succ]); go_big_quiet_on) | (refine quiet_geq_int _ _ _ _ (by rfl) (by rfl) (by rfl) b25.out ?_; (simp only [Act.put, List.setIfInBounds_toArray, List.set_cons_zero, List.set_cons_succ]); go_big_quiet_on) | (go_big_quiet_op; go_big_quiet_on) | (go_big_quiet_op; refine Exists.intro _ ⟨fun _ _ => rfl, ?_⟩; go_big_quiet_on)))
                  refine wpQuiet_nil ?_
                  intro w10 hC10
                  have HB10 := Lib.hid (bthen' HC9.out ((HC2.out _).1 hC10))
                  clear hC10 hC20 m0 m1 m4 x0 x1 lg kat HC2
                  go_wp2
                  go_ret
                  exact ⟨by rw [E.out]; rfl, bthen' BW.out HB10.out⟩
                | false =>
                  have HG2 := Lib.hid (show givJ rest G y.m (r + 1) = false by rw [givJ_succ, HGV.out, EG.out]; rfl)
                  refine wp_region_quiet (C := C2) (by kernel_rfl) (by kernel_rfl) hC20 ?_
                  dsimp only []
                  repeat (first | go_big_quiet_skip | (go_big_quiet_want; first | (refine quiet_load _ _ (by rfl) ?_ _ (by rfl) (by first | exact lg.out | exact x0.out | exact x1.out | exact m0.out | exact m1.out | exact m4.out) ?_; (· intro w; simp); (simp only [Act.put, List.setIfInBounds_toArray, List.set_cons_zero, List.set_cons_succ]); go_big_quiet_on) | (refine quiet_call 23 _ _ (by rfl) Tryd.call23 _ ?_ kat.out ?_; (· rfl); (simp only [Act.put, List.setIfInBounds_toArray, List.set_cons_zero, List.set_cons_succ]); go_big_quiet_on) | (refine quiet_eql_int _ _ _ _ (by rfl) (by rfl) (by rfl) b9.out ?_; (simp only [Act.put, List.setIfInBounds_toArray, List.set_cons_zero, List.set_cons_succ]); go_big_quiet_on) | (refine quiet_leq_int _ _ _ _ (by rfl) (by rfl) (by rfl) b15.out ?_; (simp only [Act.put, List.setIfInBounds_toArray, List.set_cons_zero, List.set_cons_succ]); go_big_quiet_on) | (refine quiet_geq_int _ _ _ _ (by rfl) (by rfl) (by rfl) b25.out ?_; (simp only [Act.put, List.setIfInBounds_toArray, List.set_cons_zero, List.set_cons_succ]); go_big_quiet_on) | (go_big_quiet_op; go_big_quiet_on) | (go_big_quiet_op; refine Exists.intro _ ⟨fun _ _ => rfl, ?_⟩; go_big_quiet_on)))
                  refine wpQuiet_nil ?_
                  intro w10 hC10
                  have HB10 := Lib.hid (bthen' HC9.out ((HC2.out _).1 hC10))
                  clear hC10 hC20 m0 m1 m4 x0 x1 lg kat HC2
                  go_wp2
                  go_roundw
                  case rel => exact ⟨r + 1, by omega, by go_num, (HC.out _).2 HB10.out, HG2.out⟩
                  case measure => simp [intOf]; omega
            | false =>
              cases K25 with
              | true =>
                have E := Lib.hid (show lostN (exs l) rest G y.m = true by rw [lost_def, givJ_hit hltr (by rw [EG.out]; rfl)]; simp)
                refine wp_region_quiet (C := C2) (by kernel_rfl) (by kernel_rfl) hC20 ?_
                dsimp only []
                repeat (first | go_big_quiet_skip | (go_big_quiet_want; first | (refine quiet_load _ _ (by rfl) ?_ _ (by rfl) (by first | exact lg.out | exact x0.out | exact x1.out | exact m0.out | exact m1.out | exact m4.out) ?_; (· intro w; simp); (simp only [Act.put, List.setIfInBounds_toArray, List.set_cons_zero, List.set_cons_succ]); go_big_quiet_on) | (refine quiet_call 23 _ _ (by rfl) Tryd.call23 _ ?_ kat.out ?_; (· rfl); (simp only [Act.put, List.setIfInBounds_toArray, List.set_cons_zero, List.set_cons_succ]); go_big_quiet_on) | (refine quiet_eql_int _ _ _ _ (by rfl) (by rfl) (by rfl) b9.out ?_; (simp only [Act.put, List.setIfInBounds_toArray, List.set_cons_zero, List.set_cons_succ]); go_big_quiet_on) | (refine quiet_leq_int _ _ _ _ (by rfl) (by rfl) (by rfl) b15.out ?_; (simp only [Act.put, List.setIfInBounds_toArray, List.set_cons_zero, List.set_cons_succ]); go_big_quiet_on) | (refine quiet_geq_int _ _ _ _ (by rfl) (by rfl) (by rfl) b25.out ?_; (simp only [Act.put, List.setIfInBounds_toArray, List.set_cons_zero, List.set_cons_succ]); go_big_quiet_on) | (go_big_quiet_op; go_big_quiet_on) | (go_big_quiet_op; refine Exists.intro _ ⟨fun _ _ => rfl, ?_⟩; go_big_quiet_on)))
                refine wpQuiet_nil ?_
                intro w10 hC10
                have HB10 := Lib.hid (bthen' HC9.out ((HC2.out _).1 hC10))
                clear hC10 hC20 m0 m1 m4 x0 x1 lg kat HC2
                go_wp2
                go_ret
                exact ⟨by rw [E.out]; rfl, bthen' BW.out HB10.out⟩
              | false =>
                have HG2 := Lib.hid (show givJ rest G y.m (r + 1) = false by rw [givJ_succ, HGV.out, EG.out]; rfl)
                refine wp_region_quiet (C := C2) (by kernel_rfl) (by kernel_rfl) hC20 ?_
                dsimp only []
                repeat (first | go_big_quiet_skip | (go_big_quiet_want; first | (refine quiet_load _ _ (by rfl) ?_ _ (by rfl) (by first | exact lg.out | exact x0.out | exact x1.out | exact m0.out | exact m1.out | exact m4.out) ?_; (· intro w; simp); (simp only [Act.put, List.setIfInBounds_toArray, List.set_cons_zero, List.set_cons_succ]); go_big_quiet_on) | (refine quiet_call 23 _ _ (by rfl) Tryd.call23 _ ?_ kat.out ?_; (· rfl); (simp only [Act.put, List.setIfInBounds_toArray, List.set_cons_zero, List.set_cons_succ]); go_big_quiet_on) | (refine quiet_eql_int _ _ _ _ (by rfl) (by rfl) (by rfl) b9.out ?_; (simp only [Act.put, List.setIfInBounds_toArray, List.set_cons_zero, List.set_cons_succ]); go_big_quiet_on) | (refine quiet_leq_int _ _ _ _ (by rfl) (by rfl) (by rfl) b15.out ?_; (simp only [Act.put, List.setIfInBounds_toArray, List.set_cons_zero, List.set_cons_succ]); go_big_quiet_on) | (refine quiet_geq_int _ _ _ _ (by rfl) (by rfl) (by rfl) b25.out ?_; (simp only [Act.put, List.setIfInBounds_toArray, List.set_cons_zero, List.set_cons_succ]); go_big_quiet_on) | (go_big_quiet_op; go_big_quiet_on) | (go_big_quiet_op; refine Exists.intro _ ⟨fun _ _ => rfl, ?_⟩; go_big_quiet_on)))
                refine wpQuiet_nil ?_
                intro w10 hC10
                have HB10 := Lib.hid (bthen' HC9.out ((HC2.out _).1 hC10))
                clear hC10 hC20 m0 m1 m4 x0 x1 lg kat HC2
                go_wp2
                go_roundw
                case rel => exact ⟨r + 1, by omega, by go_num, (HC.out _).2 HB10.out, HG2.out⟩
                case measure => simp [intOf]; omega
        · obtain rfl : r = rest.length := by omega
          have E := Lib.hid (show lostN (exs l) rest G y.m = false by rw [lost_def, HLL.out, HDB.out, HGV.out]; rfl)
          have HB3 := Lib.hid (bthen' BW.out ((HC.out _).1 hCr2))
          go_wp2
          go_ret
          exact ⟨by rw [E.out]; rfl, HB3.out⟩
end Go.Proofs.YtagelhbknbpfhaaDoor

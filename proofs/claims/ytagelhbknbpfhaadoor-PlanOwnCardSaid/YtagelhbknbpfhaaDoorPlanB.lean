/-
  Package key: greatest, Last; plan's Boundary.
-/
import Derived.Test.YtagelhbknbpfhaaDoorPlanK2
namespace Go.Proofs.YtagelhbknbpfhaaDoor
open Go.RowKit Go.BigFrame
set_option maxHeartbeats 1000000
set_option maxRecDepth 100000
/-- A call through a function value. -/
theorem quiet_callv {P : Program} {C : World → Prop} {o : Oper} {a : Act} {K : Act → Prop} {v : Value} (x : Operand) (f : FuncId) (caps : Array Value) (xs : Array Operand) (ats : Array TypeId) (ho : o.op = .call { callee := .value x, args := xs, argTypes := ats }) (hf : a.eval x = .func (.func f) #[] caps)
    (hcall : ∀ args w, (callFunc f args).run P w = .ok (.enter f args) w) (args : Array Value) (hx : args.toList = xs.toList.map a.eval ++ caps.toList)
    (h : ∀ w, C w → Calls P f args w fun e w' => e = .returned v ∧ C w') (hk : K (a.put o.dst v)) : o.quiet P a C K :=
  ⟨v, fun w hw => by
    unfold Oper.quietAt
    have hx' : #[] ++ xs.map a.eval ++ caps = args := by apply Array.ext'; rw [hx]; simp
    have : (execOp a.eval o).run P w = .ok (.enter f args) w := by
      unfold execOp resolve Deferred.ofValue
      simp only [ho, hf]
      show (callFunc f (#[] ++ xs.map a.eval ++ caps)).run P w = _
      rw [hx', hcall]
    rw [this]
    exact ⟨rfl, h w hw⟩, hk⟩
theorem quiet_eql_int {P : Program} {C : World → Prop} {o : Oper} {a : Act} {Kn : Act → Prop} {K : Bool} {k : IntKind} {u v : Int} (t t' : TypeId) (x y : Operand) (ho : o.op = .binOp .eql t x y t') (hx : a.eval x = .int k u) (hy : a.eval y = .int k v) (hb : (u == v) = K) (hk : Kn (a.put o.dst (.bool K))) : o.quiet P a C Kn :=
  quiet_free (fun w => by
    unfold execOp
    simp only [ho, hx, hy]
    go_simp) hk
theorem bestK_take (l : List Ky) (k : Nat) (h : k < l.length) (x : Ky) (hx : l[k] = x) : bestK (l.take (k + 1)) = if k = 0 then x else upK (bestK (l.take k)) x := by
  rw [take_snoc l k h, hx]
  by_cases h0 : k = 0
  · subst h0; rfl
  · rw [if_neg h0, bestK_snoc _ _ (by intro e; have := congrArg List.length e; rw [List.length_take, List.length_nil] at this; omega)]

theorem greatest_any (w : World) (v : Value) (l : List Ky) (a : Option Addr) (c b o : Nat) (hl : l.length ≤ 1000) (h : RowAt Ky.vals w v l a c b o) :
    Calls Tryd.prog 49 #[.func (.func 30) #[] #[], v] w fun e w' => e = .returned (.agg (bestK l).vals.toArray) ∧ Below w.heap.size w w' := by
  have hz := zero_ky
  have hu : Hid ((Tryd.prog.info? 41).map (·.size) = some (2 : Nat)) := Lib.hid size_ky
  obtain rfl := h.v
  obtain ⟨n, hn⟩ : ∃ n, w.heap.size = n := ⟨_, rfl⟩
  have hlen : (l.length : Int) ≤ 1000 := by omega
  obtain ⟨W, hW⟩ : ∃ W : World, (w.alloc (.cells Ky.zero.vals.toArray 41)).alloc (.cells Ky.zero.vals.toArray 41) = W := ⟨_, rfl⟩
  have B0 := Lib.hid (show W.heap[n]? = some (.cells Ky.zero.vals.toArray 41 (0, 0)) by
    rw [← hW, heap_alloc_old _ _ (by simp; omega), ← hn]; exact heap_alloc_new _ _)
  have B1 := Lib.hid (show W.heap[n + 1]? = some (.cells (bestK (l.take 0)).vals.toArray 41 (0, 0)) by
    rw [← hW, ← hn]
    show _ = some (Obj.cells Ky.zero.vals.toArray 41 (0, 0))
    have := heap_alloc_new (w.alloc (.cells Ky.zero.vals.toArray 41)) (.cells Ky.zero.vals.toArray 41)
    simpa using this)
  have BW := Lib.hid (show Below w.heap.size w W by rw [← hW]; exact ((Below.refl _ _).alloc (Nat.le_refl _) _).alloc (by simp) _)
  have HW := Lib.hid hW
  have HR := Lib.hid h
  have HN := Lib.hid hn
  clear hW h
  go_enter Tryd.func49, Tryd.ntmps49
  go_upto_region 2 with fail
  rw [HW.out]
  go_wp2
  go_loopw [10] (fun i wr => ∃ k : Nat, k ≤ l.length ∧ i = .int .i64 k ∧ Below w.heap.size w wr ∧ wr.heap[n]? = some (.cells Ky.zero.vals.toArray 41 (0, 0)) ∧ wr.heap[n + 1]? = some (.cells (bestK (l.take k)).vals.toArray 41 (0, 0))) (fun i _ => l.length - (intOf i).toNat)
  case atStart => exact ⟨0, Nat.zero_le _, rfl, BW.out, B0.out, B1.out⟩
  case round =>
    obtain ⟨k, hk, rfl, hb, hb0, hb1⟩ := hrel
    have HB := Lib.hid hb
    have C0 := Lib.hid hb0
    have C1 := Lib.hid hb1
    clear hb hb0 hb1
    by_cases hlt : k < l.length
    · obtain ⟨rfl, _⟩ := HR.out.a (by omega)
      obtain ⟨x, hx⟩ : ∃ x, l[k] = x := ⟨_, rfl⟩
      have hlt' : (k : Int) < (l.length : Int) := by omega
      have HS := Lib.hid (bestK_take l k hlt x hx)
      have HX := Lib.hid (show wr.rangeAt b (o + k * 2) x.vals from by rw [← hx]; exact (HR.out.below rfl HB.out).at_ Ky.len hlt)
      obtain ⟨y, hy⟩ : ∃ y, bestK (l.take k) = y := ⟨_, rfl⟩
      rw [hy] at HS C1
      obtain ⟨D, hD⟩ : ∃ D, wr.heap.size = D := ⟨_, rfl⟩
      have DN : n + 1 < D := by rw [← hD]; exact (Array.getElem?_eq_some_iff.1 C1.out).1
      go_upto_region 5 with (first
        | (guard_target = wpList _ _ _ (Oper.mk none (Op.store _ _ _) _ _ _ none :: _) _ _; refine wpList_store_row rfl 41 _ _ rfl D (by rfl) x.vals.toArray (by rfl) Ky.zero.vals.toArray 41 (by rw [← hD]; exact heap_alloc_new _ _) rfl hu.out x.oneA ?_; intro w7 hw7 hg7)
        | (guard_target = wpList _ _ _ (Oper.mk _ (Op.load 41 _) _ _ _ none :: _) _ _; refine wpList_load_mid rfl 41 _ rfl b (o + k * 2) (by rfl) x.vals _ HX.out Tryd.underlying41 rfl hu.out ?_; simp only [Act.put, List.setIfInBounds_toArray, List.set_cons_zero, List.set_cons_succ]))
      have hb7 : Below wr.heap.size wr w7 := bel_new (hD ▸ hg7)
      have HB7 := Lib.hid (bthen' HB.out hb7)
      have E0 := Lib.hid (bblock hb7 C0.out)
      have E1 := Lib.hid (bblock hb7 C1.out)
      have DB := Lib.hid hw7
      have HDN := Lib.hid DN
      clear hw7 hg7 hD hb7 hx hy DN
      by_cases h0 : k = 0
      · have e1 : ((k : Int) == 0) = true := by simp [h0]
        have HS2 := Lib.hid (show bestK (l.take (k + 1)) = x by rw [HS.out, if_pos h0])
        have F0 := E0
        have F1 := E1
        have FD := DB
        have HB8 := HB7
        go_wp2_with (first
          | (guard_target = wpList _ _ _ (Oper.mk none (Op.store _ _ _) _ _ _ none :: _) _ _; refine wpList_store_row rfl 41 _ _ rfl (n + 1) (by rfl) x.vals.toArray (by rfl) y.vals.toArray 41 F1.out rfl hu.out x.oneA ?_; intro w9 hw9 hg9)
          | (guard_target = wpList _ _ _ (Oper.mk _ (Op.load 41 _) _ _ _ none :: _) _ _; refine wpList_load_row rfl 41 _ rfl D (by rfl) 41 x.vals.toArray (0, 0) _ FD.out Tryd.underlying41 rfl hu.out ?_; simp only [Act.put, List.setIfInBounds_toArray, List.set_cons_zero, List.set_cons_succ]))
        have HB9 := Lib.hid (show Below w.heap.size w w9 from HB8.out.grown hg9 HB8.out.size (fun k hk => by cases hk; have := HN.out; omega))
        have G0 := Lib.hid (show w9.heap[n]? = _ from (hg9.block n (by have := (Array.getElem?_eq_some_iff.1 F0.out).1; exact this) (by intro e; have := Option.some.inj e; omega)).trans F0.out)
        have G1 := Lib.hid hw9
        clear hw9 hg9
        go_roundw
        case rel => exact ⟨k + 1, by omega, by go_num, HB9.out, G0.out, by rw [HS2.out]; exact G1.out⟩
        case measure => simp [intOf]; omega
      · have e1 : ((k : Int) == 0) = false := by simp; omega
        obtain ⟨C, hC⟩ : ∃ C : World → Prop, ∀ w', C w' ↔ Below w7.heap.size w7 w' := ⟨_, fun _ => Iff.rfl⟩
        have hC0 : C w7 := (hC _).2 (Below.refl _ _)
        have a5 := Lib.hid (fun w' (h : C w') => bblock ((hC w').1 h) E1.out)
        have a7 := Lib.hid (fun w' (h : C w') => bblock ((hC w').1 h) DB.out)
        have kc := Lib.hid (show ∀ w', C w' → Calls Tryd.prog 30 #[.agg x.vals.toArray, .agg y.vals.toArray] w' fun e w'' => e = .returned (.int .i64 (x.cmp y)) ∧ C w'' from fun w' h => (compare_any x y w').mono fun e w'' ⟨he, hw⟩ => ⟨he, (hC w'').2 (bthen' ((hC w').1 h) hw)⟩)
        have hux : Hid ((Tryd.prog.info? 41).map (·.size) = some x.vals.toArray.size) := Lib.hid size_ky
        have huy : Hid ((Tryd.prog.info? 41).map (·.size) = some y.vals.toArray.size) := Lib.hid size_ky
        have HC := Lib.hid hC
        have HS2 := Lib.hid (show bestK (l.take (k + 1)) = upK y x by rw [HS.out, if_neg h0])
        obtain ⟨cv, hcv⟩ : ∃ cv, x.cmp y = cv := ⟨_, rfl⟩
        rw [hcv] at kc
        clear hC HS h0
        simp only [Act.put]
        refine wp_region_plain (C := C) hC0 ?_
        dsimp only []
        repeat (first | go_big_quiet_skip | (go_big_quiet_want; first | (refine quiet_load_agg Tryd.underlying41 rfl huy.out _ (by rfl) _ (by rfl) _ _ a5.out ?_; (simp only [Act.put, List.setIfInBounds_toArray, List.set_cons_zero, List.set_cons_succ]); go_big_quiet_on) | (refine quiet_load_agg Tryd.underlying41 rfl hux.out _ (by rfl) _ (by rfl) _ _ a7.out ?_; (simp only [Act.put, List.setIfInBounds_toArray, List.set_cons_zero, List.set_cons_succ]); go_big_quiet_on) | (refine quiet_callv _ 30 #[] _ _ (by rfl) (by rfl) Tryd.call30 _ ?_ kc.out ?_; (· rfl); (simp only [Act.put, List.setIfInBounds_toArray, List.set_cons_zero, List.set_cons_succ]); go_big_quiet_on) | (refine quiet_eql_int _ _ _ _ (by rfl) (by rfl) (by rfl) e1 ?_; (simp only [Act.put, List.setIfInBounds_toArray, List.set_cons_zero, List.set_cons_succ]); go_big_quiet_on) | (go_big_quiet_op; go_big_quiet_on) | (go_big_quiet_op; refine Exists.intro _ ⟨fun _ _ => rfl, ?_⟩; go_big_quiet_on)))
        refine wpQuiet_nil ?_
        intro w8 hC8
        have hb8 := (HC.out _).1 hC8
        have F0 := Lib.hid (bblock hb8 E0.out)
        have F1 := Lib.hid (bblock hb8 E1.out)
        have FD := Lib.hid (bblock hb8 DB.out)
        have HB8 := Lib.hid (bthen' HB7.out hb8)
        clear hC8 hC0 a5 a7 kc HC hb8
        by_cases hpos : 0 < cv
        · have HS3 := Lib.hid (show bestK (l.take (k + 1)) = x by rw [HS2.out]; unfold upK; rw [hcv, if_pos hpos])
          have hge : cv > 0 := hpos
          clear HS2
          have HS2 := HS3
          clear HS3 hcv
          go_wp2_with (first
            | (guard_target = wpList _ _ _ (Oper.mk none (Op.store _ _ _) _ _ _ none :: _) _ _; refine wpList_store_row rfl 41 _ _ rfl (n + 1) (by rfl) x.vals.toArray (by rfl) y.vals.toArray 41 F1.out rfl hu.out x.oneA ?_; intro w9 hw9 hg9)
            | (guard_target = wpList _ _ _ (Oper.mk _ (Op.load 41 _) _ _ _ none :: _) _ _; refine wpList_load_row rfl 41 _ rfl D (by rfl) 41 x.vals.toArray (0, 0) _ FD.out Tryd.underlying41 rfl hu.out ?_; simp only [Act.put, List.setIfInBounds_toArray, List.set_cons_zero, List.set_cons_succ]))
          have HB9 := Lib.hid (show Below w.heap.size w w9 from HB8.out.grown hg9 HB8.out.size (fun k hk => by cases hk; have := HN.out; omega))
          have G0 := Lib.hid (show w9.heap[n]? = _ from (hg9.block n (by have := (Array.getElem?_eq_some_iff.1 F0.out).1; exact this) (by intro e; have := Option.some.inj e; omega)).trans F0.out)
          have G1 := Lib.hid hw9
          clear hw9 hg9
          go_roundw
          case rel => exact ⟨k + 1, by omega, by go_num, HB9.out, G0.out, by rw [HS2.out]; exact G1.out⟩
          case measure => simp [intOf]; omega
        · have HS3 := Lib.hid (show bestK (l.take (k + 1)) = y by rw [HS2.out]; unfold upK; rw [hcv, if_neg hpos])
          have hge : cv ≤ 0 := by omega
          clear HS2 hcv hpos
          go_wp2
          go_roundw
          case rel => exact ⟨k + 1, by omega, by go_num, HB8.out, F0.out, by rw [HS3.out]; exact F1.out⟩
          case measure => simp [intOf]; omega
    · obtain rfl : k = l.length := by omega
      rw [List.take_length] at C1
      go_wp2_with (first
        | (guard_target = wpList _ _ _ (Oper.mk none (Op.store _ _ _) _ _ _ none :: _) _ _; refine wpList_store_row rfl 41 _ _ rfl n (by rfl) (bestK l).vals.toArray (by rfl) Ky.zero.vals.toArray 41 C0.out rfl hu.out (bestK l).oneA ?_; intro w9 hw9 hg9)
        | (guard_target = wpList _ _ _ (Oper.mk _ (Op.load 41 _) _ _ _ none :: _) _ _; refine wpList_load_row rfl 41 _ rfl (n + 1) (by rfl) 41 (bestK l).vals.toArray (0, 0) _ C1.out Tryd.underlying41 rfl hu.out ?_; simp only [Act.put, List.setIfInBounds_toArray, List.set_cons_zero, List.set_cons_succ]))
      refine bodyPost_ret (results_cell_row rfl _ w9 n 41 _ (0, 0) _ (by rfl) hw9 Tryd.underlying41 rfl hu.out) rfl ⟨rfl, ?_⟩
      exact HB.out.grown hg9 HB.out.size (fun k hk => by cases hk; have := HN.out; omega)
theorem last_any (w : World) (v : Value) (l : List Ky) (a : Option Addr) (c b o : Nat) (hl : l.length ≤ 1000) (h : RowAt Ky.vals w v l a c b o) :
    Calls Tryd.prog 37 #[v] w fun e w' => e = .returned (.agg (bestK l).vals.toArray) ∧ Below w.heap.size w w' := by
  have hz := zero_ky
  have hu : Hid ((Tryd.prog.info? 41).map (·.size) = some (2 : Nat)) := Lib.hid size_ky
  have B0 := heap_alloc_new w (.cells Ky.zero.vals.toArray 41)
  have BB := Lib.hid (bel_box w Ky.zero.vals.toArray 41)
  obtain ⟨W, hW⟩ : ∃ W : World, w.alloc (.cells Ky.zero.vals.toArray 41) = W := ⟨_, rfl⟩
  rw [hW] at B0 BB
  have C0 := Lib.hid B0
  have HG := Lib.hid (greatest_any W v l a c b o hl (h.below rfl BB.out))
  have HW := Lib.hid hW
  clear h hW B0
  go_enter Tryd.func37, Tryd.ntmps37
  go_upto_region 1 with fail
  rw [HW.out]
  go_wp2_with fail
  refine HG.out.mono ?_
  rintro e w2 ⟨rfl, hb⟩
  have HB := Lib.hid (bthen' BB.out hb)
  have C1 := Lib.hid (bblock hb C0.out)
  clear hb
  go_wp2_with (guard_target = wpList _ _ _ (Oper.mk none (Op.store _ _ _) _ _ _ none :: _) _ _; refine wpList_store_row rfl 41 _ _ rfl w.heap.size (by rfl) (bestK l).vals.toArray (by rfl) Ky.zero.vals.toArray 41 C1.out rfl hu.out (bestK l).oneA ?_; intro w9 hw9 hg9)
  refine bodyPost_ret (results_cell_row rfl _ w9 w.heap.size 41 _ (0, 0) _ (by rfl) hw9 Tryd.underlying41 rfl hu.out) rfl ⟨rfl, ?_⟩
  exact HB.out.grown hg9 HB.out.size (fun k hk => by cases hk; omega)
end Go.Proofs.YtagelhbknbpfhaaDoor

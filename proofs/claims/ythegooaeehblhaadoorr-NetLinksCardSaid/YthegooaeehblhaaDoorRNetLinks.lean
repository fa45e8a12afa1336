/-
  NetLinks: the walk: for every n, cuts, p, q and r the law returns true.
-/
import Derived.Test.YthegooaeehblhaaDoorRNetLinksP
import Derived.Test.YthegooaeehblhaaDoorRQuietB
namespace Go.Proofs.YthegooaeehblhaaDoorR
open Go.RowKit Go.BigFrame
set_option maxHeartbeats 1000000
set_option maxRecDepth 100000
/-- A row of words in memory. -/
structure WordsAt (w : World) (v : Value) (l : List Nat) (a : Option Addr) (c b o : Nat) : Prop where
  v : v = .slice a l.length c
  a : 0 < l.length → a = some ⟨b, o, none⟩ ∧ b < w.heap.size
  c : ∀ i (h : i < l.length), w.cell? ⟨b, o + i, none⟩ = some (.int .u64 l[i])
  ok : ∀ x ∈ l, x < 18446744073709551616
theorem WordsAt.below {w w' : World} {v : Value} {l : List Nat} {a : Option Addr} {c b o : Nat} (h : WordsAt w v l a c b o) (hb : Below w.heap.size w w') : WordsAt w' v l a c b o :=
  ⟨h.v, fun h0 => ⟨(h.a h0).1, Nat.lt_of_lt_of_le (h.a h0).2 hb.size⟩, fun i hi => (hb.cell (p := ⟨b, o + i, none⟩) (h.a (by omega)).2).trans (h.c i hi), h.ok⟩
/-- A call through a function value. -/
theorem quiet_callv {P : Program} {C : World → Prop} {o : Oper} {a : Act} {K : Act → Prop} {v : Value} (x : Operand) (f : FuncId) (caps : Array Value) (xs : Array Operand) (ats : Array TypeId) (ho : o.op = .call { callee := .value x, args := xs, argTypes := ats }) (hf : a.eval x = .func (.func f) #[] caps)
    (hcall : ∀ args w, (callFunc f args).run P w = .ok (.enter f args) w) (args : Array Value) (hx : args.toList = xs.toList.map a.eval ++ caps.toList)
    (h : ∀ w, C w → Calls P f args w fun e w' => e = .returned v ∧ C w') (hk : K (a.put o.dst v)) : o.quiet P a C K :=
  ⟨v, fun w hw => by
    unfold Oper.quietAt
    have hx' : #[] ++ xs.map a.eval ++ caps = args := by apply Array.ext'; rw [hx]; simp
    have : (execOp a.eval o).run P w = .ok (.enter f args) w := by
      unfold execOp resolve Deferred.ofValue
      simp only [ho, hf]
      show (callFunc f (#[] ++ xs.map a.eval ++ caps)).run P w = _
      rw [hx', hcall]
    rw [this]
    exact ⟨rfl, h w hw⟩, hk⟩
theorem atp_any (X : Nat) (n p : Int) (w : World) (hX : w.cell? ⟨X, 0, none⟩ = some (.int .i64 n)) :
    Calls Tryd.prog 9 #[.int .i64 p, .pointer (some ⟨X, 0, none⟩)] w fun e w' => e = .returned (.bool (atP n p)) ∧ w = w' := by
  by_cases h0 : 0 ≤ p
  · by_cases h1 : p < n
    · by_cases h2 : p < 64
      · have E := Lib.hid (show atP n p = true by unfold atP; rw [decide_eq_true h0, decide_eq_true h1, decide_eq_true h2]; rfl)
        go_enter Tryd.func9, Tryd.ntmps9
        go_wp2
        go_ret
        exact ⟨by rw [E.out]; rfl, rfl⟩
      · have E := Lib.hid (show atP n p = false by unfold atP; rw [decide_eq_false h2]; simp)
        go_enter Tryd.func9, Tryd.ntmps9
        go_wp2
        go_ret
        exact ⟨by rw [E.out]; rfl, rfl⟩
    · have E := Lib.hid (show atP n p = false by unfold atP; rw [decide_eq_false h1]; simp)
      go_enter Tryd.func9, Tryd.ntmps9
      go_wp2
      go_ret
      exact ⟨by rw [E.out]; rfl, rfl⟩
  · have E := Lib.hid (show atP n p = false by unfold atP; rw [decide_eq_false h0]; rfl)
    go_enter Tryd.func9, Tryd.ntmps9
    go_wp2
    go_ret
    exact ⟨by rw [E.out]; rfl, rfl⟩
theorem links_walk (n p q r : Int) (l : List Nat) (v : Value) (a : Option Addr) (c b o : Nat) (w : World) (hT : TabOk w) (hA : WordsAt w v l a c b o) :
    Calls Tryd.prog 3 #[.int .i64 n, v, .int .i64 p, .int .i64 q, .int .i64 r] w fun e w' => e = .returned (.bool true) ∧ Below w.heap.size w w' := by
  obtain rfl := hA.v
  obtain ⟨W, hW⟩ : ∃ W, w.alloc (.cells #[.int .i64 n] 3) = W := ⟨_, rfl⟩
  have HBX := Lib.hid (show Below w.heap.size w W by rw [← hW]; exact bel_box _ _ _)
  have HT := Lib.hid (hT.belowS HBX.out)
  have HW := Lib.hid (awake_any W HT.out)
  have HS := Lib.hid (hA.below HBX.out)
  have HX := Lib.hid (show W.cell? ⟨w.heap.size, 0, none⟩ = some (.int .i64 n) by rw [← hW]; exact cell_new _ _ _)
  have HXS := Lib.hid (show w.heap.size < W.heap.size by rw [← hW]; exact (Array.getElem?_eq_some_iff.1 (heap_alloc_new w _)).1)
  obtain ⟨X, hXX⟩ : ∃ X, w.heap.size = X := ⟨_, rfl⟩
  clear hT hA
  by_cases a5 : 200 < l.length
  · have a5'' : (200 : Int) < (l.length : Int) := by omega
    subst hW
    go_enter Tryd.func3, Tryd.ntmps3
    go_wp2_with fail
    refine HW.out.mono ?_
    rintro e w1 ⟨rfl, hb⟩
    have HB := Lib.hid hb
    clear hb
    go_wp2_with fail
    go_ret
    exact ⟨rfl, bthen' (bel_box _ _ _) HB.out⟩
  have a5' : (l.length : Int) ≤ 200 := by omega
  clear a5
  go_enter Tryd.func3, Tryd.ntmps3
  go_wp2_with fail
  refine HW.out.mono ?_
  rintro e w1 ⟨rfl, hb⟩
  have HB := Lib.hid hb
  have x1 : w1.cell? ⟨X, 0, none⟩ = some (.int .i64 n) := by rw [← hXX, hb.cell (p := ⟨w.heap.size, 0, none⟩) HXS.out]; exact HX.out
  have HXX := Lib.hid hXX
  clear hb hW hXX
  go_wp2_with fail
  refine (Nk.make (w0 := W) HT.out HB.out n).mono ?_
  rintro e w2 ⟨g, rfl, hL⟩
  have L0 := Lib.hid hL
  clear hL x1
  go_wp2_with fail
  go_loopw [13, 14] (fun al i wr => ∃ (k : Nat), k ≤ l.length ∧ i = .int .i64 k ∧ al = .bool (alike (l.take k) p q) ∧ Nk W wr g (cuts n (l.take k))) (fun _ i _ => l.length - (intOf i).toNat)
  case atStart => exact ⟨0, Nat.zero_le _, rfl, rfl, L0.out⟩
  case round =>
    obtain ⟨k, hk, rfl, rfl, hL⟩ := hrel
    have L2 := Lib.hid hL
    clear hL
    by_cases hlt : k < l.length
    · have hkl' : (k : Int) < (l.length : Int) := by omega
      obtain ⟨rfl, _⟩ := HS.out.a (by omega)
      have c0 := (HS.out.below L2.out.bel).c k hlt
      have hs := HS.out.ok _ (List.getElem_mem hlt)
      have ET := Lib.hid (cuts_take n l k hlt)
      have EA := Lib.hid (alike_take l p q k hlt)
      obtain ⟨s, hss⟩ : ∃ s, l[k] = s := ⟨_, rfl⟩
      rw [hss] at c0 hs ET EA
      have HSS := Lib.hid hss
      have HSL := Lib.hid hs
      clear hss hs
      obtain ⟨A, hA⟩ : ∃ A, alike (l.take k) p q = A := ⟨_, rfl⟩
      rw [hA] at EA ⊢
      clear hA
      go_wp2_with fail
      refine (L2.out.cut s HSL.out).mono ?_
      rintro e w3 ⟨rfl, hL⟩
      rw [← ET.out] at hL
      have L3 := Lib.hid hL
      clear hL c0
      go_upto_region 12 with fail
      obtain ⟨C, hC⟩ : ∃ C : World → Prop, ∀ w', C w' ↔ Below w3.heap.size w3 w' := ⟨_, fun _ => Iff.rfl⟩
      have hC0 : C { w3 with drawn := w3.drawn + 1 } := (hC _).2 (Below.drew (Below.refl _ _))
      have l1 := Lib.hid (fun w' (h : C w') => (show w'.cell? ⟨b, o + k, none⟩ = some (.int .u64 s) by
        rw [← HSS.out]; exact (HS.out.below (bthen' L3.out.bel ((hC w').1 h))).c k hlt))
      have k1 := Lib.hid (fun w' (h : C w') => (has_any s p HSL.out w').mono (fun e w'' he => (⟨he.1, he.2 ▸ h⟩ : e = .returned (.bool (hasN s p)) ∧ C w'')))
      have k2 := Lib.hid (fun w' (h : C w') => (has_any s q HSL.out w').mono (fun e w'' he => (⟨he.1, he.2 ▸ h⟩ : e = .returned (.bool (hasN s q)) ∧ C w'')))
      have HC := Lib.hid hC
      clear hC
      cases A
      ·
        refine wp_region_quiet (C := C) (by kernel_rfl) (by kernel_rfl) hC0 ?_
        dsimp only []
        repeat (first | go_big_quiet_skip | (go_big_quiet_want; first | (refine quiet_load _ _ (by rfl) ?_ _ (by rfl) (by first | exact l1.out) ?_; (· intro w; simp); (simp only [Act.put, List.setIfInBounds_toArray, List.set_cons_zero, List.set_cons_succ]); go_big_quiet_on) | (refine quiet_call 11 _ _ (by rfl) Tryd.call11 _ ?_ k1.out ?_; (· rfl); (simp only [Act.put, List.setIfInBounds_toArray, List.set_cons_zero, List.set_cons_succ]); go_big_quiet_on) | (refine quiet_call 11 _ _ (by rfl) Tryd.call11 _ ?_ k2.out ?_; (· rfl); (simp only [Act.put, List.setIfInBounds_toArray, List.set_cons_zero, List.set_cons_succ]); go_big_quiet_on) | (go_big_quiet_op; go_big_quiet_on) | (go_big_quiet_op; refine Exists.intro _ ⟨fun _ _ => rfl, ?_⟩; go_big_quiet_on)))
        refine wpQuiet_nil ?_
        intro w4 hC4
        have L4 := Lib.hid (L3.out.below ((HC.out _).1 hC4))
        clear hC4 hC0 l1 k1 k2 HC
        go_wp2
        exact ⟨⟨k + 1, by omega, by go_num, by rw [EA.out]; rfl, L4.out⟩, by simp [intOf]; omega⟩
      ·
        refine wp_region_quiet (C := C) (by kernel_rfl) (by kernel_rfl) hC0 ?_
        dsimp only []
        repeat (first | go_big_quiet_skip | (go_big_quiet_want; first | (refine quiet_load _ _ (by rfl) ?_ _ (by rfl) (by first | exact l1.out) ?_; (· intro w; simp); (simp only [Act.put, List.setIfInBounds_toArray, List.set_cons_zero, List.set_cons_succ]); go_big_quiet_on) | (refine quiet_call 11 _ _ (by rfl) Tryd.call11 _ ?_ k1.out ?_; (· rfl); (simp only [Act.put, List.setIfInBounds_toArray, List.set_cons_zero, List.set_cons_succ]); go_big_quiet_on) | (refine quiet_call 11 _ _ (by rfl) Tryd.call11 _ ?_ k2.out ?_; (· rfl); (simp only [Act.put, List.setIfInBounds_toArray, List.set_cons_zero, List.set_cons_succ]); go_big_quiet_on) | (go_big_quiet_op; go_big_quiet_on) | (go_big_quiet_op; refine Exists.intro _ ⟨fun _ _ => rfl, ?_⟩; go_big_quiet_on)))
        refine wpQuiet_nil ?_
        intro w4 hC4
        have L4 := Lib.hid (L3.out.below ((HC.out _).1 hC4))
        clear hC4 hC0 l1 k1 k2 HC
        go_wp2
        exact ⟨⟨k + 1, by omega, by go_num, by rw [EA.out]; rfl, L4.out⟩, by simp [intOf]; omega⟩
    · obtain rfl : k = l.length := by omega
      rw [List.take_length] at L2 ⊢
      obtain ⟨f1, f2, f3, f4, f5⟩ := links_law n l p q r
      obtain ⟨C, hC⟩ : ∃ C : World → Prop, ∀ w', C w' ↔ Nk W w' g (cuts n l) := ⟨_, fun _ => Iff.rfl⟩
      obtain ⟨D, hD⟩ : ∃ D : World → Prop, ∀ w', D w' ↔ Nk W w' g (healN (cuts n l)) := ⟨_, fun _ => Iff.rfl⟩
      have xX : ∀ w', Below W.heap.size W w' → w'.cell? ⟨X, 0, none⟩ = some (.int .i64 n) := fun w' hb => by rw [← HXX.out, hb.cell (p := ⟨w.heap.size, 0, none⟩) HXS.out]; exact HX.out
      have kpq := Lib.hid (fun w' (h : C w') => (((hC w').1 h).linked p q).mono (fun e w'' he => (⟨by rw [he.1, f3], (hC _).2 he.2⟩ : e = .returned (.bool (atP n p && atP n q && alike l p q)) ∧ C w'')))
      have kqp := Lib.hid (fun w' (h : C w') => (((hC w').1 h).linked q p).mono (fun e w'' he => (⟨by rw [he.1, f1, f3], (hC _).2 he.2⟩ : e = .returned (.bool (atP n p && atP n q && alike l p q)) ∧ C w'')))
      have kpp := Lib.hid (fun w' (h : C w') => (((hC w').1 h).linked p p).mono (fun e w'' he => (⟨by rw [he.1, f2], (hC _).2 he.2⟩ : e = .returned (.bool (atP n p)) ∧ C w'')))
      have kqr := Lib.hid (fun w' (h : C w') => (((hC w').1 h).linked q r).mono (fun e w'' he => (⟨he.1, (hC _).2 he.2⟩ : e = .returned (.bool (linkN (cuts n l) q r)) ∧ C w'')))
      have kpr := Lib.hid (fun w' (h : C w') => (((hC w').1 h).linked p r).mono (fun e w'' he => (⟨he.1, (hC _).2 he.2⟩ : e = .returned (.bool (linkN (cuts n l) p r)) ∧ C w'')))
      have kap := Lib.hid (fun w' (h : C w') => (atp_any X n p w' (xX w' ((hC w').1 h).bel)).mono (fun e w'' he => (⟨he.1, he.2 ▸ h⟩ : e = .returned (.bool (atP n p)) ∧ C w'')))
      have kaq := Lib.hid (fun w' (h : C w') => (atp_any X n q w' (xX w' ((hC w').1 h).bel)).mono (fun e w'' he => (⟨he.1, he.2 ▸ h⟩ : e = .returned (.bool (atP n q)) ∧ C w'')))
      have hpq := Lib.hid (fun w' (h : D w') => (((hD w').1 h).linked p q).mono (fun e w'' he => (⟨by rw [he.1, f5], (hD _).2 he.2⟩ : e = .returned (.bool (atP n p && atP n q)) ∧ D w'')))
      have hap := Lib.hid (fun w' (h : D w') => (atp_any X n p w' (xX w' ((hD w').1 h).bel)).mono (fun e w'' he => (⟨he.1, he.2 ▸ h⟩ : e = .returned (.bool (atP n p)) ∧ D w'')))
      have haq := Lib.hid (fun w' (h : D w') => (atp_any X n q w' (xX w' ((hD w').1 h).bel)).mono (fun e w'' he => (⟨he.1, he.2 ▸ h⟩ : e = .returned (.bool (atP n q)) ∧ D w'')))
      rw [f3] at f4
      have hC0 : C wr := (hC _).2 L2.out
      have HC := Lib.hid hC
      have HD := Lib.hid hD
      clear f1 f2 f3 f5 hC hD xX
      generalize alike l p q = AL at *
      generalize atP n p = AP at *
      generalize atP n q = AQ at *
      obtain ⟨PQ, hPQ⟩ : ∃ x, (AP && AQ && AL) = x := ⟨_, rfl⟩
      obtain ⟨HQ, hHQ⟩ : ∃ x, (AP && AQ) = x := ⟨_, rfl⟩
      rw [hPQ] at kpq kqp f4
      rw [hHQ] at hpq
      generalize linkN (cuts n l) q r = LQR at *
      generalize linkN (cuts n l) p r = LPR at *
      cases AP
      · cases AL
        ·
          obtain rfl : PQ = false := hPQ.symm
          obtain rfl : HQ = false := hHQ.symm
          go_upto_region 13 with fail
          refine wp_region_plain (C := C) hC0 ?_
          dsimp only []
          repeat (first | go_big_quiet_skip | (go_big_quiet_want; first | (refine quiet_call 12 _ _ (by rfl) Tryd.call12 _ ?_ kpq.out ?_; (· rfl); (simp only [Act.put, List.setIfInBounds_toArray, List.set_cons_zero, List.set_cons_succ]); go_big_quiet_on) | (refine quiet_call 12 _ _ (by rfl) Tryd.call12 _ ?_ kqp.out ?_; (· rfl); (simp only [Act.put, List.setIfInBounds_toArray, List.set_cons_zero, List.set_cons_succ]); go_big_quiet_on) | (refine quiet_call 12 _ _ (by rfl) Tryd.call12 _ ?_ kqr.out ?_; (· rfl); (simp only [Act.put, List.setIfInBounds_toArray, List.set_cons_zero, List.set_cons_succ]); go_big_quiet_on) | (refine quiet_call 12 _ _ (by rfl) Tryd.call12 _ ?_ kpr.out ?_; (· rfl); (simp only [Act.put, List.setIfInBounds_toArray, List.set_cons_zero, List.set_cons_succ]); go_big_quiet_on) | (refine quiet_call 12 _ _ (by rfl) Tryd.call12 _ ?_ kpp.out ?_; (· rfl); (simp only [Act.put, List.setIfInBounds_toArray, List.set_cons_zero, List.set_cons_succ]); go_big_quiet_on) | (refine quiet_callv _ 9 #[.pointer (some ⟨X, 0, none⟩)] _ _ (by rfl) (by rfl) Tryd.call9 _ ?_ kap.out ?_; (· rfl); (simp only [Act.put, List.setIfInBounds_toArray, List.set_cons_zero, List.set_cons_succ]); go_big_quiet_on) | (refine quiet_callv _ 9 #[.pointer (some ⟨X, 0, none⟩)] _ _ (by rfl) (by rfl) Tryd.call9 _ ?_ kaq.out ?_; (· rfl); (simp only [Act.put, List.setIfInBounds_toArray, List.set_cons_zero, List.set_cons_succ]); go_big_quiet_on) | (go_big_quiet_op; go_big_quiet_on) | (go_big_quiet_op; refine Exists.intro _ ⟨fun _ _ => rfl, ?_⟩; go_big_quiet_on)))
          refine wpQuiet_nil ?_
          intro w4 hC4
          go_upto_region 15 with fail
          refine wp_region_plain (C := C) hC4 ?_
          dsimp only []
          repeat (first | go_big_quiet_skip | (go_big_quiet_want; first | (refine quiet_call 12 _ _ (by rfl) Tryd.call12 _ ?_ kpq.out ?_; (· rfl); (simp only [Act.put, List.setIfInBounds_toArray, List.set_cons_zero, List.set_cons_succ]); go_big_quiet_on) | (refine quiet_callv _ 9 #[.pointer (some ⟨X, 0, none⟩)] _ _ (by rfl) (by rfl) Tryd.call9 _ ?_ kap.out ?_; (· rfl); (simp only [Act.put, List.setIfInBounds_toArray, List.set_cons_zero, List.set_cons_succ]); go_big_quiet_on) | (refine quiet_callv _ 9 #[.pointer (some ⟨X, 0, none⟩)] _ _ (by rfl) (by rfl) Tryd.call9 _ ?_ kaq.out ?_; (· rfl); (simp only [Act.put, List.setIfInBounds_toArray, List.set_cons_zero, List.set_cons_succ]); go_big_quiet_on) | (go_big_quiet_op; go_big_quiet_on) | (go_big_quiet_op; refine Exists.intro _ ⟨fun _ _ => rfl, ?_⟩; go_big_quiet_on)))
          refine wpQuiet_nil ?_
          intro w5 hC5
          have L5 := Lib.hid ((HC.out _).1 hC5)
          clear hC0 hC4 hC5
          go_wp2_with fail
          refine (L5.out.heal).mono ?_
          rintro e w6 ⟨rfl, hL⟩
          have hD6 := (HD.out _).2 hL
          clear hL
          go_upto_region 18 with fail
          refine wp_region_plain (C := D) hD6 ?_
          dsimp only []
          repeat (first | go_big_quiet_skip | (go_big_quiet_want; first | (refine quiet_call 12 _ _ (by rfl) Tryd.call12 _ ?_ hpq.out ?_; (· rfl); (simp only [Act.put, List.setIfInBounds_toArray, List.set_cons_zero, List.set_cons_succ]); go_big_quiet_on) | (refine quiet_callv _ 9 #[.pointer (some ⟨X, 0, none⟩)] _ _ (by rfl) (by rfl) Tryd.call9 _ ?_ hap.out ?_; (· rfl); (simp only [Act.put, List.setIfInBounds_toArray, List.set_cons_zero, List.set_cons_succ]); go_big_quiet_on) | (refine quiet_callv _ 9 #[.pointer (some ⟨X, 0, none⟩)] _ _ (by rfl) (by rfl) Tryd.call9 _ ?_ haq.out ?_; (· rfl); (simp only [Act.put, List.setIfInBounds_toArray, List.set_cons_zero, List.set_cons_succ]); go_big_quiet_on) | (go_big_quiet_op; go_big_quiet_on) | (go_big_quiet_op; refine Exists.intro _ ⟨fun _ _ => rfl, ?_⟩; go_big_quiet_on)))
          refine wpQuiet_nil ?_
          intro w7 hD7
          have L7 := Lib.hid ((HD.out _).1 hD7)
          clear hD6 hD7
          go_wp2
          go_ret
          exact ⟨rfl, bthen' HBX.out L7.out.bel⟩
        · cases AQ
          ·
            obtain rfl : PQ = false := hPQ.symm
            obtain rfl : HQ = false := hHQ.symm
            go_upto_region 13 with fail
            refine wp_region_plain (C := C) hC0 ?_
            dsimp only []
            repeat (first | go_big_quiet_skip | (go_big_quiet_want; first | (refine quiet_call 12 _ _ (by rfl) Tryd.call12 _ ?_ kpq.out ?_; (· rfl); (simp only [Act.put, List.setIfInBounds_toArray, List.set_cons_zero, List.set_cons_succ]); go_big_quiet_on) | (refine quiet_call 12 _ _ (by rfl) Tryd.call12 _ ?_ kqp.out ?_; (· rfl); (simp only [Act.put, List.setIfInBounds_toArray, List.set_cons_zero, List.set_cons_succ]); go_big_quiet_on) | (refine quiet_call 12 _ _ (by rfl) Tryd.call12 _ ?_ kqr.out ?_; (· rfl); (simp only [Act.put, List.setIfInBounds_toArray, List.set_cons_zero, List.set_cons_succ]); go_big_quiet_on) | (refine quiet_call 12 _ _ (by rfl) Tryd.call12 _ ?_ kpr.out ?_; (· rfl); (simp only [Act.put, List.setIfInBounds_toArray, List.set_cons_zero, List.set_cons_succ]); go_big_quiet_on) | (refine quiet_call 12 _ _ (by rfl) Tryd.call12 _ ?_ kpp.out ?_; (· rfl); (simp only [Act.put, List.setIfInBounds_toArray, List.set_cons_zero, List.set_cons_succ]); go_big_quiet_on) | (refine quiet_callv _ 9 #[.pointer (some ⟨X, 0, none⟩)] _ _ (by rfl) (by rfl) Tryd.call9 _ ?_ kap.out ?_; (· rfl); (simp only [Act.put, List.setIfInBounds_toArray, List.set_cons_zero, List.set_cons_succ]); go_big_quiet_on) | (refine quiet_callv _ 9 #[.pointer (some ⟨X, 0, none⟩)] _ _ (by rfl) (by rfl) Tryd.call9 _ ?_ kaq.out ?_; (· rfl); (simp only [Act.put, List.setIfInBounds_toArray, List.set_cons_zero, List.set_cons_succ]); go_big_quiet_on) | (go_big_quiet_op; go_big_quiet_on) | (go_big_quiet_op; refine Exists.intro _ ⟨fun _ _ => rfl, ?_⟩; go_big_quiet_on)))
            refine wpQuiet_nil ?_
            intro w4 hC4
            go_upto_region 15 with fail
            refine wp_region_plain (C := C) hC4 ?_
            dsimp only []
            repeat (first | go_big_quiet_skip | (go_big_quiet_want; first | (refine quiet_call 12 _ _ (by rfl) Tryd.call12 _ ?_ kpq.out ?_; (· rfl); (simp only [Act.put, List.setIfInBounds_toArray, List.set_cons_zero, List.set_cons_succ]); go_big_quiet_on) | (refine quiet_callv _ 9 #[.pointer (some ⟨X, 0, none⟩)] _ _ (by rfl) (by rfl) Tryd.call9 _ ?_ kap.out ?_; (· rfl); (simp only [Act.put, List.setIfInBounds_toArray, List.set_cons_zero, List.set_cons_succ]); go_big_quiet_on) | (refine quiet_callv _ 9 #[.pointer (some ⟨X, 0, none⟩)] _ _ (by rfl) (by rfl) Tryd.call9 _ ?_ kaq.out ?_; (· rfl); (simp only [Act.put, List.setIfInBounds_toArray, List.set_cons_zero, List.set_cons_succ]); go_big_quiet_on) | (go_big_quiet_op; go_big_quiet_on) | (go_big_quiet_op; refine Exists.intro _ ⟨fun _ _ => rfl, ?_⟩; go_big_quiet_on)))
            refine wpQuiet_nil ?_
            intro w5 hC5
            have L5 := Lib.hid ((HC.out _).1 hC5)
            clear hC0 hC4 hC5
            go_wp2_with fail
            refine (L5.out.heal).mono ?_
            rintro e w6 ⟨rfl, hL⟩
            have hD6 := (HD.out _).2 hL
            clear hL
            go_upto_region 18 with fail
            refine wp_region_plain (C := D) hD6 ?_
            dsimp only []
            repeat (first | go_big_quiet_skip | (go_big_quiet_want; first | (refine quiet_call 12 _ _ (by rfl) Tryd.call12 _ ?_ hpq.out ?_; (· rfl); (simp only [Act.put, List.setIfInBounds_toArray, List.set_cons_zero, List.set_cons_succ]); go_big_quiet_on) | (refine quiet_callv _ 9 #[.pointer (some ⟨X, 0, none⟩)] _ _ (by rfl) (by rfl) Tryd.call9 _ ?_ hap.out ?_; (· rfl); (simp only [Act.put, List.setIfInBounds_toArray, List.set_cons_zero, List.set_cons_succ]); go_big_quiet_on) | (refine quiet_callv _ 9 #[.pointer (some ⟨X, 0, none⟩)] _ _ (by rfl) (by rfl) Tryd.call9 _ ?_ haq.out ?_; (· rfl); (simp only [Act.put, List.setIfInBounds_toArray, List.set_cons_zero, List.set_cons_succ]); go_big_quiet_on) | (go_big_quiet_op; go_big_quiet_on) | (go_big_quiet_op; refine Exists.intro _ ⟨fun _ _ => rfl, ?_⟩; go_big_quiet_on)))
            refine wpQuiet_nil ?_
            intro w7 hD7
            have L7 := Lib.hid ((HD.out _).1 hD7)
            clear hD6 hD7
            go_wp2
            go_ret
            exact ⟨rfl, bthen' HBX.out L7.out.bel⟩
          ·
            obtain rfl : PQ = false := hPQ.symm
            obtain rfl : HQ = false := hHQ.symm
            go_upto_region 13 with fail
            refine wp_region_plain (C := C) hC0 ?_
            dsimp only []
            repeat (first | go_big_quiet_skip | (go_big_quiet_want; first | (refine quiet_call 12 _ _ (by rfl) Tryd.call12 _ ?_ kpq.out ?_; (· rfl); (simp only [Act.put, List.setIfInBounds_toArray, List.set_cons_zero, List.set_cons_succ]); go_big_quiet_on) | (refine quiet_call 12 _ _ (by rfl) Tryd.call12 _ ?_ kqp.out ?_; (· rfl); (simp only [Act.put, List.setIfInBounds_toArray, List.set_cons_zero, List.set_cons_succ]); go_big_quiet_on) | (refine quiet_call 12 _ _ (by rfl) Tryd.call12 _ ?_ kqr.out ?_; (· rfl); (simp only [Act.put, List.setIfInBounds_toArray, List.set_cons_zero, List.set_cons_succ]); go_big_quiet_on) | (refine quiet_call 12 _ _ (by rfl) Tryd.call12 _ ?_ kpr.out ?_; (· rfl); (simp only [Act.put, List.setIfInBounds_toArray, List.set_cons_zero, List.set_cons_succ]); go_big_quiet_on) | (refine quiet_call 12 _ _ (by rfl) Tryd.call12 _ ?_ kpp.out ?_; (· rfl); (simp only [Act.put, List.setIfInBounds_toArray, List.set_cons_zero, List.set_cons_succ]); go_big_quiet_on) | (refine quiet_callv _ 9 #[.pointer (some ⟨X, 0, none⟩)] _ _ (by rfl) (by rfl) Tryd.call9 _ ?_ kap.out ?_; (· rfl); (simp only [Act.put, List.setIfInBounds_toArray, List.set_cons_zero, List.set_cons_succ]); go_big_quiet_on) | (refine quiet_callv _ 9 #[.pointer (some ⟨X, 0, none⟩)] _ _ (by rfl) (by rfl) Tryd.call9 _ ?_ kaq.out ?_; (· rfl); (simp only [Act.put, List.setIfInBounds_toArray, List.set_cons_zero, List.set_cons_succ]); go_big_quiet_on) | (go_big_quiet_op; go_big_quiet_on) | (go_big_quiet_op; refine Exists.intro _ ⟨fun _ _ => rfl, ?_⟩; go_big_quiet_on)))
            refine wpQuiet_nil ?_
            intro w4 hC4
            go_upto_region 15 with fail
            refine wp_region_plain (C := C) hC4 ?_
            dsimp only []
            repeat (first | go_big_quiet_skip | (go_big_quiet_want; first | (refine quiet_call 12 _ _ (by rfl) Tryd.call12 _ ?_ kpq.out ?_; (· rfl); (simp only [Act.put, List.setIfInBounds_toArray, List.set_cons_zero, List.set_cons_succ]); go_big_quiet_on) | (refine quiet_callv _ 9 #[.pointer (some ⟨X, 0, none⟩)] _ _ (by rfl) (by rfl) Tryd.call9 _ ?_ kap.out ?_; (· rfl); (simp only [Act.put, List.setIfInBounds_toArray, List.set_cons_zero, List.set_cons_succ]); go_big_quiet_on) | (refine quiet_callv _ 9 #[.pointer (some ⟨X, 0, none⟩)] _ _ (by rfl) (by rfl) Tryd.call9 _ ?_ kaq.out ?_; (· rfl); (simp only [Act.put, List.setIfInBounds_toArray, List.set_cons_zero, List.set_cons_succ]); go_big_quiet_on) | (go_big_quiet_op; go_big_quiet_on) | (go_big_quiet_op; refine Exists.intro _ ⟨fun _ _ => rfl, ?_⟩; go_big_quiet_on)))
            refine wpQuiet_nil ?_
            intro w5 hC5
            have L5 := Lib.hid ((HC.out _).1 hC5)
            clear hC0 hC4 hC5
            go_wp2_with fail
            refine (L5.out.heal).mono ?_
            rintro e w6 ⟨rfl, hL⟩
            have hD6 := (HD.out _).2 hL
            clear hL
            go_upto_region 18 with fail
            refine wp_region_plain (C := D) hD6 ?_
            dsimp only []
            repeat (first | go_big_quiet_skip | (go_big_quiet_want; first | (refine quiet_call 12 _ _ (by rfl) Tryd.call12 _ ?_ hpq.out ?_; (· rfl); (simp only [Act.put, List.setIfInBounds_toArray, List.set_cons_zero, List.set_cons_succ]); go_big_quiet_on) | (refine quiet_callv _ 9 #[.pointer (some ⟨X, 0, none⟩)] _ _ (by rfl) (by rfl) Tryd.call9 _ ?_ hap.out ?_; (· rfl); (simp only [Act.put, List.setIfInBounds_toArray, List.set_cons_zero, List.set_cons_succ]); go_big_quiet_on) | (refine quiet_callv _ 9 #[.pointer (some ⟨X, 0, none⟩)] _ _ (by rfl) (by rfl) Tryd.call9 _ ?_ haq.out ?_; (· rfl); (simp only [Act.put, List.setIfInBounds_toArray, List.set_cons_zero, List.set_cons_succ]); go_big_quiet_on) | (go_big_quiet_op; go_big_quiet_on) | (go_big_quiet_op; refine Exists.intro _ ⟨fun _ _ => rfl, ?_⟩; go_big_quiet_on)))
            refine wpQuiet_nil ?_
            intro w7 hD7
            have L7 := Lib.hid ((HD.out _).1 hD7)
            clear hD6 hD7
            go_wp2
            go_ret
            exact ⟨rfl, bthen' HBX.out L7.out.bel⟩
      · cases AQ
        · cases AL
          ·
            obtain rfl : PQ = false := hPQ.symm
            obtain rfl : HQ = false := hHQ.symm
            go_upto_region 13 with fail
            refine wp_region_plain (C := C) hC0 ?_
            dsimp only []
            repeat (first | go_big_quiet_skip | (go_big_quiet_want; first | (refine quiet_call 12 _ _ (by rfl) Tryd.call12 _ ?_ kpq.out ?_; (· rfl); (simp only [Act.put, List.setIfInBounds_toArray, List.set_cons_zero, List.set_cons_succ]); go_big_quiet_on) | (refine quiet_call 12 _ _ (by rfl) Tryd.call12 _ ?_ kqp.out ?_; (· rfl); (simp only [Act.put, List.setIfInBounds_toArray, List.set_cons_zero, List.set_cons_succ]); go_big_quiet_on) | (refine quiet_call 12 _ _ (by rfl) Tryd.call12 _ ?_ kqr.out ?_; (· rfl); (simp only [Act.put, List.setIfInBounds_toArray, List.set_cons_zero, List.set_cons_succ]); go_big_quiet_on) | (refine quiet_call 12 _ _ (by rfl) Tryd.call12 _ ?_ kpr.out ?_; (· rfl); (simp only [Act.put, List.setIfInBounds_toArray, List.set_cons_zero, List.set_cons_succ]); go_big_quiet_on) | (refine quiet_call 12 _ _ (by rfl) Tryd.call12 _ ?_ kpp.out ?_; (· rfl); (simp only [Act.put, List.setIfInBounds_toArray, List.set_cons_zero, List.set_cons_succ]); go_big_quiet_on) | (refine quiet_callv _ 9 #[.pointer (some ⟨X, 0, none⟩)] _ _ (by rfl) (by rfl) Tryd.call9 _ ?_ kap.out ?_; (· rfl); (simp only [Act.put, List.setIfInBounds_toArray, List.set_cons_zero, List.set_cons_succ]); go_big_quiet_on) | (refine quiet_callv _ 9 #[.pointer (some ⟨X, 0, none⟩)] _ _ (by rfl) (by rfl) Tryd.call9 _ ?_ kaq.out ?_; (· rfl); (simp only [Act.put, List.setIfInBounds_toArray, List.set_cons_zero, List.set_cons_succ]); go_big_quiet_on) | (go_big_quiet_op; go_big_quiet_on) | (go_big_quiet_op; refine Exists.intro _ ⟨fun _ _ => rfl, ?_⟩; go_big_quiet_on)))
            refine wpQuiet_nil ?_
            intro w4 hC4
            go_upto_region 15 with fail
            refine wp_region_plain (C := C) hC4 ?_
            dsimp only []
            repeat (first | go_big_quiet_skip | (go_big_quiet_want; first | (refine quiet_call 12 _ _ (by rfl) Tryd.call12 _ ?_ kpq.out ?_; (· rfl); (simp only [Act.put, List.setIfInBounds_toArray, List.set_cons_zero, List.set_cons_succ]); go_big_quiet_on) | (refine quiet_callv _ 9 #[.pointer (some ⟨X, 0, none⟩)] _ _ (by rfl) (by rfl) Tryd.call9 _ ?_ kap.out ?_; (· rfl); (simp only [Act.put, List.setIfInBounds_toArray, List.set_cons_zero, List.set_cons_succ]); go_big_quiet_on) | (refine quiet_callv _ 9 #[.pointer (some ⟨X, 0, none⟩)] _ _ (by rfl) (by rfl) Tryd.call9 _ ?_ kaq.out ?_; (· rfl); (simp only [Act.put, List.setIfInBounds_toArray, List.set_cons_zero, List.set_cons_succ]); go_big_quiet_on) | (go_big_quiet_op; go_big_quiet_on) | (go_big_quiet_op; refine Exists.intro _ ⟨fun _ _ => rfl, ?_⟩; go_big_quiet_on)))
            refine wpQuiet_nil ?_
            intro w5 hC5
            have L5 := Lib.hid ((HC.out _).1 hC5)
            clear hC0 hC4 hC5
            go_wp2_with fail
            refine (L5.out.heal).mono ?_
            rintro e w6 ⟨rfl, hL⟩
            have hD6 := (HD.out _).2 hL
            clear hL
            go_upto_region 18 with fail
            refine wp_region_plain (C := D) hD6 ?_
            dsimp only []
            repeat (first | go_big_quiet_skip | (go_big_quiet_want; first | (refine quiet_call 12 _ _ (by rfl) Tryd.call12 _ ?_ hpq.out ?_; (· rfl); (simp only [Act.put, List.setIfInBounds_toArray, List.set_cons_zero, List.set_cons_succ]); go_big_quiet_on) | (refine quiet_callv _ 9 #[.pointer (some ⟨X, 0, none⟩)] _ _ (by rfl) (by rfl) Tryd.call9 _ ?_ hap.out ?_; (· rfl); (simp only [Act.put, List.setIfInBounds_toArray, List.set_cons_zero, List.set_cons_succ]); go_big_quiet_on) | (refine quiet_callv _ 9 #[.pointer (some ⟨X, 0, none⟩)] _ _ (by rfl) (by rfl) Tryd.call9 _ ?_ haq.out ?_; (· rfl); (simp only [Act.put, List.setIfInBounds_toArray, List.set_cons_zero, List.set_cons_succ]); go_big_quiet_on) | (go_big_quiet_op; go_big_quiet_on) | (go_big_quiet_op; refine Exists.intro _ ⟨fun _ _ => rfl, ?_⟩; go_big_quiet_on)))
            refine wpQuiet_nil ?_
            intro w7 hD7
            have L7 := Lib.hid ((HD.out _).1 hD7)
            clear hD6 hD7
            go_wp2
            go_ret
            exact ⟨rfl, bthen' HBX.out L7.out.bel⟩
          ·
            obtain rfl : PQ = false := hPQ.symm
            obtain rfl : HQ = false := hHQ.symm
            go_upto_region 13 with fail
            refine wp_region_plain (C := C) hC0 ?_
            dsimp only []
            repeat (first | go_big_quiet_skip | (go_big_quiet_want; first | (refine quiet_call 12 _ _ (by rfl) Tryd.call12 _ ?_ kpq.out ?_; (· rfl); (simp only [Act.put, List.setIfInBounds_toArray, List.set_cons_zero, List.set_cons_succ]); go_big_quiet_on) | (refine quiet_call 12 _ _ (by rfl) Tryd.call12 _ ?_ kqp.out ?_; (· rfl); (simp only [Act.put, List.setIfInBounds_toArray, List.set_cons_zero, List.set_cons_succ]); go_big_quiet_on) | (refine quiet_call 12 _ _ (by rfl) Tryd.call12 _ ?_ kqr.out ?_; (· rfl); (simp only [Act.put, List.setIfInBounds_toArray, List.set_cons_zero, List.set_cons_succ]); go_big_quiet_on) | (refine quiet_call 12 _ _ (by rfl) Tryd.call12 _ ?_ kpr.out ?_; (· rfl); (simp only [Act.put, List.setIfInBounds_toArray, List.set_cons_zero, List.set_cons_succ]); go_big_quiet_on) | (refine quiet_call 12 _ _ (by rfl) Tryd.call12 _ ?_ kpp.out ?_; (· rfl); (simp only [Act.put, List.setIfInBounds_toArray, List.set_cons_zero, List.set_cons_succ]); go_big_quiet_on) | (refine quiet_callv _ 9 #[.pointer (some ⟨X, 0, none⟩)] _ _ (by rfl) (by rfl) Tryd.call9 _ ?_ kap.out ?_; (· rfl); (simp only [Act.put, List.setIfInBounds_toArray, List.set_cons_zero, List.set_cons_succ]); go_big_quiet_on) | (refine quiet_callv _ 9 #[.pointer (some ⟨X, 0, none⟩)] _ _ (by rfl) (by rfl) Tryd.call9 _ ?_ kaq.out ?_; (· rfl); (simp only [Act.put, List.setIfInBounds_toArray, List.set_cons_zero, List.set_cons_succ]); go_big_quiet_on) | (go_big_quiet_op; go_big_quiet_on) | (go_big_quiet_op; refine Exists.intro _ ⟨fun _ _ => rfl, ?_⟩; go_big_quiet_on)))
            refine wpQuiet_nil ?_
            intro w4 hC4
            go_upto_region 15 with fail
            refine wp_region_plain (C := C) hC4 ?_
            dsimp only []
            repeat (first | go_big_quiet_skip | (go_big_quiet_want; first | (refine quiet_call 12 _ _ (by rfl) Tryd.call12 _ ?_ kpq.out ?_; (· rfl); (simp only [Act.put, List.setIfInBounds_toArray, List.set_cons_zero, List.set_cons_succ]); go_big_quiet_on) | (refine quiet_callv _ 9 #[.pointer (some ⟨X, 0, none⟩)] _ _ (by rfl) (by rfl) Tryd.call9 _ ?_ kap.out ?_; (· rfl); (simp only [Act.put, List.setIfInBounds_toArray, List.set_cons_zero, List.set_cons_succ]); go_big_quiet_on) | (refine quiet_callv _ 9 #[.pointer (some ⟨X, 0, none⟩)] _ _ (by rfl) (by rfl) Tryd.call9 _ ?_ kaq.out ?_; (· rfl); (simp only [Act.put, List.setIfInBounds_toArray, List.set_cons_zero, List.set_cons_succ]); go_big_quiet_on) | (go_big_quiet_op; go_big_quiet_on) | (go_big_quiet_op; refine Exists.intro _ ⟨fun _ _ => rfl, ?_⟩; go_big_quiet_on)))
            refine wpQuiet_nil ?_
            intro w5 hC5
            have L5 := Lib.hid ((HC.out _).1 hC5)
            clear hC0 hC4 hC5
            go_wp2_with fail
            refine (L5.out.heal).mono ?_
            rintro e w6 ⟨rfl, hL⟩
            have hD6 := (HD.out _).2 hL
            clear hL
            go_upto_region 18 with fail
            refine wp_region_plain (C := D) hD6 ?_
            dsimp only []
            repeat (first | go_big_quiet_skip | (go_big_quiet_want; first | (refine quiet_call 12 _ _ (by rfl) Tryd.call12 _ ?_ hpq.out ?_; (· rfl); (simp only [Act.put, List.setIfInBounds_toArray, List.set_cons_zero, List.set_cons_succ]); go_big_quiet_on) | (refine quiet_callv _ 9 #[.pointer (some ⟨X, 0, none⟩)] _ _ (by rfl) (by rfl) Tryd.call9 _ ?_ hap.out ?_; (· rfl); (simp only [Act.put, List.setIfInBounds_toArray, List.set_cons_zero, List.set_cons_succ]); go_big_quiet_on) | (refine quiet_callv _ 9 #[.pointer (some ⟨X, 0, none⟩)] _ _ (by rfl) (by rfl) Tryd.call9 _ ?_ haq.out ?_; (· rfl); (simp only [Act.put, List.setIfInBounds_toArray, List.set_cons_zero, List.set_cons_succ]); go_big_quiet_on) | (go_big_quiet_op; go_big_quiet_on) | (go_big_quiet_op; refine Exists.intro _ ⟨fun _ _ => rfl, ?_⟩; go_big_quiet_on)))
            refine wpQuiet_nil ?_
            intro w7 hD7
            have L7 := Lib.hid ((HD.out _).1 hD7)
            clear hD6 hD7
            go_wp2
            go_ret
            exact ⟨rfl, bthen' HBX.out L7.out.bel⟩
        · cases AL
          ·
            obtain rfl : PQ = false := hPQ.symm
            obtain rfl : HQ = true := hHQ.symm
            go_upto_region 13 with fail
            refine wp_region_plain (C := C) hC0 ?_
            dsimp only []
            repeat (first | go_big_quiet_skip | (go_big_quiet_want; first | (refine quiet_call 12 _ _ (by rfl) Tryd.call12 _ ?_ kpq.out ?_; (· rfl); (simp only [Act.put, List.setIfInBounds_toArray, List.set_cons_zero, List.set_cons_succ]); go_big_quiet_on) | (refine quiet_call 12 _ _ (by rfl) Tryd.call12 _ ?_ kqp.out ?_; (· rfl); (simp only [Act.put, List.setIfInBounds_toArray, List.set_cons_zero, List.set_cons_succ]); go_big_quiet_on) | (refine quiet_call 12 _ _ (by rfl) Tryd.call12 _ ?_ kqr.out ?_; (· rfl); (simp only [Act.put, List.setIfInBounds_toArray, List.set_cons_zero, List.set_cons_succ]); go_big_quiet_on) | (refine quiet_call 12 _ _ (by rfl) Tryd.call12 _ ?_ kpr.out ?_; (· rfl); (simp only [Act.put, List.setIfInBounds_toArray, List.set_cons_zero, List.set_cons_succ]); go_big_quiet_on) | (refine quiet_call 12 _ _ (by rfl) Tryd.call12 _ ?_ kpp.out ?_; (· rfl); (simp only [Act.put, List.setIfInBounds_toArray, List.set_cons_zero, List.set_cons_succ]); go_big_quiet_on) | (refine quiet_callv _ 9 #[.pointer (some ⟨X, 0, none⟩)] _ _ (by rfl) (by rfl) Tryd.call9 _ ?_ kap.out ?_; (· rfl); (simp only [Act.put, List.setIfInBounds_toArray, List.set_cons_zero, List.set_cons_succ]); go_big_quiet_on) | (refine quiet_callv _ 9 #[.pointer (some ⟨X, 0, none⟩)] _ _ (by rfl) (by rfl) Tryd.call9 _ ?_ kaq.out ?_; (· rfl); (simp only [Act.put, List.setIfInBounds_toArray, List.set_cons_zero, List.set_cons_succ]); go_big_quiet_on) | (go_big_quiet_op; go_big_quiet_on) | (go_big_quiet_op; refine Exists.intro _ ⟨fun _ _ => rfl, ?_⟩; go_big_quiet_on)))
            refine wpQuiet_nil ?_
            intro w4 hC4
            go_upto_region 15 with fail
            refine wp_region_plain (C := C) hC4 ?_
            dsimp only []
            repeat (first | go_big_quiet_skip | (go_big_quiet_want; first | (refine quiet_call 12 _ _ (by rfl) Tryd.call12 _ ?_ kpq.out ?_; (· rfl); (simp only [Act.put, List.setIfInBounds_toArray, List.set_cons_zero, List.set_cons_succ]); go_big_quiet_on) | (refine quiet_callv _ 9 #[.pointer (some ⟨X, 0, none⟩)] _ _ (by rfl) (by rfl) Tryd.call9 _ ?_ kap.out ?_; (· rfl); (simp only [Act.put, List.setIfInBounds_toArray, List.set_cons_zero, List.set_cons_succ]); go_big_quiet_on) | (refine quiet_callv _ 9 #[.pointer (some ⟨X, 0, none⟩)] _ _ (by rfl) (by rfl) Tryd.call9 _ ?_ kaq.out ?_; (· rfl); (simp only [Act.put, List.setIfInBounds_toArray, List.set_cons_zero, List.set_cons_succ]); go_big_quiet_on) | (go_big_quiet_op; go_big_quiet_on) | (go_big_quiet_op; refine Exists.intro _ ⟨fun _ _ => rfl, ?_⟩; go_big_quiet_on)))
            refine wpQuiet_nil ?_
            intro w5 hC5
            have L5 := Lib.hid ((HC.out _).1 hC5)
            clear hC0 hC4 hC5
            go_wp2_with fail
            refine (L5.out.heal).mono ?_
            rintro e w6 ⟨rfl, hL⟩
            have hD6 := (HD.out _).2 hL
            clear hL
            go_upto_region 18 with fail
            refine wp_region_plain (C := D) hD6 ?_
            dsimp only []
            repeat (first | go_big_quiet_skip | (go_big_quiet_want; first | (refine quiet_call 12 _ _ (by rfl) Tryd.call12 _ ?_ hpq.out ?_; (· rfl); (simp only [Act.put, List.setIfInBounds_toArray, List.set_cons_zero, List.set_cons_succ]); go_big_quiet_on) | (refine quiet_callv _ 9 #[.pointer (some ⟨X, 0, none⟩)] _ _ (by rfl) (by rfl) Tryd.call9 _ ?_ hap.out ?_; (· rfl); (simp only [Act.put, List.setIfInBounds_toArray, List.set_cons_zero, List.set_cons_succ]); go_big_quiet_on) | (refine quiet_callv _ 9 #[.pointer (some ⟨X, 0, none⟩)] _ _ (by rfl) (by rfl) Tryd.call9 _ ?_ haq.out ?_; (· rfl); (simp only [Act.put, List.setIfInBounds_toArray, List.set_cons_zero, List.set_cons_succ]); go_big_quiet_on) | (go_big_quiet_op; go_big_quiet_on) | (go_big_quiet_op; refine Exists.intro _ ⟨fun _ _ => rfl, ?_⟩; go_big_quiet_on)))
            refine wpQuiet_nil ?_
            intro w7 hD7
            have L7 := Lib.hid ((HD.out _).1 hD7)
            clear hD6 hD7
            go_wp2
            go_ret
            exact ⟨rfl, bthen' HBX.out L7.out.bel⟩
          · cases LQR
            ·
              obtain rfl : PQ = true := hPQ.symm
              obtain rfl : HQ = true := hHQ.symm
              go_upto_region 13 with fail
              refine wp_region_plain (C := C) hC0 ?_
              dsimp only []
              repeat (first | go_big_quiet_skip | (go_big_quiet_want; first | (refine quiet_call 12 _ _ (by rfl) Tryd.call12 _ ?_ kpq.out ?_; (· rfl); (simp only [Act.put, List.setIfInBounds_toArray, List.set_cons_zero, List.set_cons_succ]); go_big_quiet_on) | (refine quiet_call 12 _ _ (by rfl) Tryd.call12 _ ?_ kqp.out ?_; (· rfl); (simp only [Act.put, List.setIfInBounds_toArray, List.set_cons_zero, List.set_cons_succ]); go_big_quiet_on) | (refine quiet_call 12 _ _ (by rfl) Tryd.call12 _ ?_ kqr.out ?_; (· rfl); (simp only [Act.put, List.setIfInBounds_toArray, List.set_cons_zero, List.set_cons_succ]); go_big_quiet_on) | (refine quiet_call 12 _ _ (by rfl) Tryd.call12 _ ?_ kpr.out ?_; (· rfl); (simp only [Act.put, List.setIfInBounds_toArray, List.set_cons_zero, List.set_cons_succ]); go_big_quiet_on) | (refine quiet_call 12 _ _ (by rfl) Tryd.call12 _ ?_ kpp.out ?_; (· rfl); (simp only [Act.put, List.setIfInBounds_toArray, List.set_cons_zero, List.set_cons_succ]); go_big_quiet_on) | (refine quiet_callv _ 9 #[.pointer (some ⟨X, 0, none⟩)] _ _ (by rfl) (by rfl) Tryd.call9 _ ?_ kap.out ?_; (· rfl); (simp only [Act.put, List.setIfInBounds_toArray, List.set_cons_zero, List.set_cons_succ]); go_big_quiet_on) | (refine quiet_callv _ 9 #[.pointer (some ⟨X, 0, none⟩)] _ _ (by rfl) (by rfl) Tryd.call9 _ ?_ kaq.out ?_; (· rfl); (simp only [Act.put, List.setIfInBounds_toArray, List.set_cons_zero, List.set_cons_succ]); go_big_quiet_on) | (go_big_quiet_op; go_big_quiet_on) | (go_big_quiet_op; refine Exists.intro _ ⟨fun _ _ => rfl, ?_⟩; go_big_quiet_on)))
              refine wpQuiet_nil ?_
              intro w4 hC4
              go_upto_region 15 with fail
              refine wp_region_plain (C := C) hC4 ?_
              dsimp only []
              repeat (first | go_big_quiet_skip | (go_big_quiet_want; first | (refine quiet_call 12 _ _ (by rfl) Tryd.call12 _ ?_ kpq.out ?_; (· rfl); (simp only [Act.put, List.setIfInBounds_toArray, List.set_cons_zero, List.set_cons_succ]); go_big_quiet_on) | (refine quiet_callv _ 9 #[.pointer (some ⟨X, 0, none⟩)] _ _ (by rfl) (by rfl) Tryd.call9 _ ?_ kap.out ?_; (· rfl); (simp only [Act.put, List.setIfInBounds_toArray, List.set_cons_zero, List.set_cons_succ]); go_big_quiet_on) | (refine quiet_callv _ 9 #[.pointer (some ⟨X, 0, none⟩)] _ _ (by rfl) (by rfl) Tryd.call9 _ ?_ kaq.out ?_; (· rfl); (simp only [Act.put, List.setIfInBounds_toArray, List.set_cons_zero, List.set_cons_succ]); go_big_quiet_on) | (go_big_quiet_op; go_big_quiet_on) | (go_big_quiet_op; refine Exists.intro _ ⟨fun _ _ => rfl, ?_⟩; go_big_quiet_on)))
              refine wpQuiet_nil ?_
              intro w5 hC5
              have L5 := Lib.hid ((HC.out _).1 hC5)
              clear hC0 hC4 hC5
              go_wp2_with fail
              refine (L5.out.heal).mono ?_
              rintro e w6 ⟨rfl, hL⟩
              have hD6 := (HD.out _).2 hL
              clear hL
              go_upto_region 18 with fail
              refine wp_region_plain (C := D) hD6 ?_
              dsimp only []
              repeat (first | go_big_quiet_skip | (go_big_quiet_want; first | (refine quiet_call 12 _ _ (by rfl) Tryd.call12 _ ?_ hpq.out ?_; (· rfl); (simp only [Act.put, List.setIfInBounds_toArray, List.set_cons_zero, List.set_cons_succ]); go_big_quiet_on) | (refine quiet_callv _ 9 #[.pointer (some ⟨X, 0, none⟩)] _ _ (by rfl) (by rfl) Tryd.call9 _ ?_ hap.out ?_; (· rfl); (simp only [Act.put, List.setIfInBounds_toArray, List.set_cons_zero, List.set_cons_succ]); go_big_quiet_on) | (refine quiet_callv _ 9 #[.pointer (some ⟨X, 0, none⟩)] _ _ (by rfl) (by rfl) Tryd.call9 _ ?_ haq.out ?_; (· rfl); (simp only [Act.put, List.setIfInBounds_toArray, List.set_cons_zero, List.set_cons_succ]); go_big_quiet_on) | (go_big_quiet_op; go_big_quiet_on) | (go_big_quiet_op; refine Exists.intro _ ⟨fun _ _ => rfl, ?_⟩; go_big_quiet_on)))
              refine wpQuiet_nil ?_
              intro w7 hD7
              have L7 := Lib.hid ((HD.out _).1 hD7)
              clear hD6 hD7
              go_wp2
              go_ret
              exact ⟨rfl, bthen' HBX.out L7.out.bel⟩
            · obtain rfl := f4 hPQ.symm rfl
              obtain rfl : PQ = true := hPQ.symm
              obtain rfl : HQ = true := hHQ.symm
              go_upto_region 13 with fail
              refine wp_region_plain (C := C) hC0 ?_
              dsimp only []
              repeat (first | go_big_quiet_skip | (go_big_quiet_want; first | (refine quiet_call 12 _ _ (by rfl) Tryd.call12 _ ?_ kpq.out ?_; (· rfl); (simp only [Act.put, List.setIfInBounds_toArray, List.set_cons_zero, List.set_cons_succ]); go_big_quiet_on) | (refine quiet_call 12 _ _ (by rfl) Tryd.call12 _ ?_ kqp.out ?_; (· rfl); (simp only [Act.put, List.setIfInBounds_toArray, List.set_cons_zero, List.set_cons_succ]); go_big_quiet_on) | (refine quiet_call 12 _ _ (by rfl) Tryd.call12 _ ?_ kqr.out ?_; (· rfl); (simp only [Act.put, List.setIfInBounds_toArray, List.set_cons_zero, List.set_cons_succ]); go_big_quiet_on) | (refine quiet_call 12 _ _ (by rfl) Tryd.call12 _ ?_ kpr.out ?_; (· rfl); (simp only [Act.put, List.setIfInBounds_toArray, List.set_cons_zero, List.set_cons_succ]); go_big_quiet_on) | (refine quiet_call 12 _ _ (by rfl) Tryd.call12 _ ?_ kpp.out ?_; (· rfl); (simp only [Act.put, List.setIfInBounds_toArray, List.set_cons_zero, List.set_cons_succ]); go_big_quiet_on) | (refine quiet_callv _ 9 #[.pointer (some ⟨X, 0, none⟩)] _ _ (by rfl) (by rfl) Tryd.call9 _ ?_ kap.out ?_; (· rfl); (simp only [Act.put, List.setIfInBounds_toArray, List.set_cons_zero, List.set_cons_succ]); go_big_quiet_on) | (refine quiet_callv _ 9 #[.pointer (some ⟨X, 0, none⟩)] _ _ (by rfl) (by rfl) Tryd.call9 _ ?_ kaq.out ?_; (· rfl); (simp only [Act.put, List.setIfInBounds_toArray, List.set_cons_zero, List.set_cons_succ]); go_big_quiet_on) | (go_big_quiet_op; go_big_quiet_on) | (go_big_quiet_op; refine Exists.intro _ ⟨fun _ _ => rfl, ?_⟩; go_big_quiet_on)))
              refine wpQuiet_nil ?_
              intro w4 hC4
              go_upto_region 15 with fail
              refine wp_region_plain (C := C) hC4 ?_
              dsimp only []
              repeat (first | go_big_quiet_skip | (go_big_quiet_want; first | (refine quiet_call 12 _ _ (by rfl) Tryd.call12 _ ?_ kpq.out ?_; (· rfl); (simp only [Act.put, List.setIfInBounds_toArray, List.set_cons_zero, List.set_cons_succ]); go_big_quiet_on) | (refine quiet_callv _ 9 #[.pointer (some ⟨X, 0, none⟩)] _ _ (by rfl) (by rfl) Tryd.call9 _ ?_ kap.out ?_; (· rfl); (simp only [Act.put, List.setIfInBounds_toArray, List.set_cons_zero, List.set_cons_succ]); go_big_quiet_on) | (refine quiet_callv _ 9 #[.pointer (some ⟨X, 0, none⟩)] _ _ (by rfl) (by rfl) Tryd.call9 _ ?_ kaq.out ?_; (· rfl); (simp only [Act.put, List.setIfInBounds_toArray, List.set_cons_zero, List.set_cons_succ]); go_big_quiet_on) | (go_big_quiet_op; go_big_quiet_on) | (go_big_quiet_op; refine Exists.intro _ ⟨fun _ _ => rfl, ?_⟩; go_big_quiet_on)))
              refine wpQuiet_nil ?_
              intro w5 hC5
              have L5 := Lib.hid ((HC.out _).1 hC5)
              clear hC0 hC4 hC5
              go_wp2_with fail
              refine (L5.out.heal).mono ?_
              rintro e w6 ⟨rfl, hL⟩
              have hD6 := (HD.out _).2 hL
              clear hL
              go_upto_region 18 with fail
              refine wp_region_plain (C := D) hD6 ?_
              dsimp only []
              repeat (first | go_big_quiet_skip | (go_big_quiet_want; first | (refine quiet_call 12 _ _ (by rfl) Tryd.call12 _ ?_ hpq.out ?_; (· rfl); (simp only [Act.put, List.setIfInBounds_toArray, List.set_cons_zero, List.set_cons_succ]); go_big_quiet_on) | (refine quiet_callv _ 9 #[.pointer (some ⟨X, 0, none⟩)] _ _ (by rfl) (by rfl) Tryd.call9 _ ?_ hap.out ?_; (· rfl); (simp only [Act.put, List.setIfInBounds_toArray, List.set_cons_zero, List.set_cons_succ]); go_big_quiet_on) | (refine quiet_callv _ 9 #[.pointer (some ⟨X, 0, none⟩)] _ _ (by rfl) (by rfl) Tryd.call9 _ ?_ haq.out ?_; (· rfl); (simp only [Act.put, List.setIfInBounds_toArray, List.set_cons_zero, List.set_cons_succ]); go_big_quiet_on) | (go_big_quiet_op; go_big_quiet_on) | (go_big_quiet_op; refine Exists.intro _ ⟨fun _ _ => rfl, ?_⟩; go_big_quiet_on)))
              refine wpQuiet_nil ?_
              intro w7 hD7
              have L7 := Lib.hid ((HD.out _).1 hD7)
              clear hD6 hD7
              go_wp2
              go_ret
              exact ⟨rfl, bthen' HBX.out L7.out.bel⟩
end Go.Proofs.YthegooaeehblhaaDoorR

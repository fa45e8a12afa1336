/-
  consortref09: Epoch, Strange.
-/
import Derived.Test.YtjokfjdbioeohaaDoorRefReach
namespace Go.Proofs.YtjokfjdbioeohaaDoor
open Go.RowKit Go.BigFrame
set_option maxHeartbeats 1000000
set_option maxRecDepth 100000
theorem bitVal {members k : Nat} (hm : members < 18446744073709551616) : bits .and .u64 ((members : Int) / 2 ^ k) 1 = ((members / 2 ^ k % 2 : Nat) : Int) := by
  have h := bits_and_u64_nat (members / 2 ^ k) 1 (Nat.lt_of_le_of_lt (Nat.div_le_self _ _) hm) (by omega)
  rw [Nat.and_one_is_mod] at h
  rw [← h]; simp
theorem bitOne {members k : Nat} (hm : members < 18446744073709551616) (h : members.testBit k = true) : bits .and .u64 ((members : Int) / 2 ^ k) 1 = 1 := by
  rw [Nat.testBit_eq_decide_div_mod_eq, decide_eq_true_eq] at h
  rw [bitVal hm, h]; rfl
theorem bitZero {members k : Nat} (hm : members < 18446744073709551616) (h : members.testBit k = false) : bits .and .u64 ((members : Int) / 2 ^ k) 1 = 0 := by
  rw [Nat.testBit_eq_decide_div_mod_eq, decide_eq_false_iff_not] at h
  have : members / 2 ^ k % 2 = 0 := by omega
  rw [bitVal hm, this]; rfl
/-- The greatest of the last beats' epochs, of the first k processes. -/
def epN (n : Nat) (b : Bt) : Nat → Nat
  | 0 => n
  | 1 => max n b.ep
  | 2 => max (max n b.ep) b.ce
  | _ => max (max (max n b.ep) b.ce) b.pe
def epB (n : Nat) (o : Sd × Bool) : Nat := if o.2 then epN n o.1.b 3 else n
def epRK (m : REar) (k : Nat) : Nat := (List.range k).foldl (fun n (p : Nat) => epB n (ofR m p)) 0
theorem epRK_succ (m : REar) (k : Nat) : epRK m (k + 1) = epB (epRK m k) (ofR m k) := by
  unfold epRK
  rw [List.range_succ, List.foldl_append]; rfl
section
variable {w : World} {B : Nat} {x : Sd} {t : TypeId} {fr : Nat × Nat}
theorem Sd.c4 (h : w.heap[B]? = some (.cells x.vals.toArray t fr)) : w.cell? ⟨B, 4, none⟩ = some (.int .u64 x.b.ce) := by rw [cell_of_row w B 4 _ _ _ h]; rfl
theorem Sd.c6 (h : w.heap[B]? = some (.cells x.vals.toArray t fr)) : w.cell? ⟨B, 6, none⟩ = some (.int .u64 x.b.pe) := by rw [cell_of_row w B 6 _ _ _ h]; rfl
theorem Sd.c7 (h : w.heap[B]? = some (.cells x.vals.toArray t fr)) : w.cell? ⟨B, 7, none⟩ = some (.int .i64 x.b.pr) := by rw [cell_of_row w B 7 _ _ _ h]; rfl
theorem Sd.c8 (h : w.heap[B]? = some (.cells x.vals.toArray t fr)) : w.cell? ⟨B, 8, none⟩ = some (.int .u64 x.b.ep) := by rw [cell_of_row w B 8 _ _ _ h]; rfl
end
theorem size_tri : (Tryd.prog.info? 101).map (·.size) = some 3 := by kernel_rfl
theorem zero_tri (w : World) : (zeroValue 101).run Tryd.prog w = .ok (.agg #[.int .u64 0, .int .u64 0, .int .u64 0]) w := by kernel_rfl
theorem repoch_any (m : REar) (v : Value) (a : Option Addr) (c b o : Nat) (wf : m.Wf) (w : World) (hr : RowAt Sd.vals w v m.all a c b o) :
    Calls Tryd.prog 44 #[.agg (m.vals v).toArray] w fun e w' => e = .returned (.int .u64 (epRK m 64)) ∧ Below w.heap.size w w' := by
  have hz := zero_said
  have hz3 := zero_tri
  obtain ⟨n, hn⟩ : ∃ n, w.heap.size = n := ⟨_, rfl⟩
  obtain ⟨W, hW⟩ : ∃ W : World, w.alloc (.cells (m.vals v).toArray 65) = W := ⟨_, rfl⟩
  have B0 := Lib.hid (show W.heap[n]? = some (.cells (m.vals v).toArray 65 (0, 0)) by rw [← hW, ← hn]; exact heap_alloc_new _ _)
  have BW := Lib.hid (show Below w.heap.size w W by rw [← hW]; exact (Below.refl _ _).alloc (Nat.le_refl _) _)
  have HW := Lib.hid hW
  have WF := Lib.hid wf
  have HR := Lib.hid (hr.below rfl BW.out)
  have hue : Hid ((Tryd.prog.info? 65).map (·.size) = some (m.vals v).toArray.size) := Lib.hid size_rear
  have hus : Hid ((Tryd.prog.info? 73).map (·.size) = some 9) := Lib.hid size_said
  have hu3 : Hid ((Tryd.prog.info? 101).map (·.size) = some 3) := Lib.hid size_tri
  clear hr hW wf
  go_enter Tryd.func44, Tryd.ntmps44
  go_upto_region 1 with fail
  rw [HW.out]
  clear hn
  go_wp2_with fail
  go_loopw [3, 4] (fun s i wr => ∃ k : Nat, k ≤ 64 ∧ i = .int .i64 k ∧ s = .int .u64 (epRK m k) ∧ Below W.heap.size W wr) (fun _ i _ => 64 - (intOf i).toNat)
  case atStart => exact ⟨0, by omega, rfl, rfl, Below.refl _ _⟩
  case round =>
    obtain ⟨k, hk, rfl, rfl, hbr⟩ := hrel
    have HBr := Lib.hid hbr
    clear hbr
    by_cases hlt : k < 64
    · have hlt' : (k : Int) < 64 := by omega
      have HS := Lib.hid (epRK_succ m k)
      generalize epRK m k = s at HS
      go_wp2_with (guard_target = wpList _ _ _ (Oper.mk _ (Op.load _ _) _ _ _ none :: _) _ _; refine wpList_load_row rfl 65 _ rfl n (by rfl) 65 _ (0, 0) _ (bblock HBr.out B0.out) Tryd.underlying65 rfl hue.out ?_; simp only [Act.put, List.setIfInBounds_toArray, List.set_cons_zero, List.set_cons_succ])
      refine (rof9_any m k v a c b o WF.out.l wr (HR.out.below rfl HBr.out)).mono ?_
      rintro e w2 ⟨rfl, hb⟩
      have HB2 := Lib.hid (bthen' HBr.out hb)
      clear hb
      unfold ofRV
      generalize ofR m k = bo at HS ⊢
      obtain ⟨x, ok⟩ := bo
      try dsimp only at HS ⊢
      go_upto_region 6 with (guard_target = wpList _ _ _ (Oper.mk none (Op.store _ _ _) _ _ _ none :: _) _ _; refine wpList_store_row rfl 73 _ _ rfl w2.heap.size (by rfl) x.vals.toArray (by rfl) Sd.zero.vals.toArray 73 (heap_alloc_new _ _) rfl hus.out (Sd.oneL _) ?_; intro w5 hw5 hg5)
      have HB5 := Lib.hid (show Below W.heap.size W w5 from (HB2.out.alloc HB2.out.size _).grown hg5 (by have := HB2.out.size; simp; omega) (fun k hk => by cases hk; exact HB2.out.size))
      have y4 := Sd.c4 hw5
      have y6 := Sd.c6 hw5
      have y8 := Sd.c8 hw5
      clear hw5 hg5
      obtain ⟨Y, hY⟩ : ∃ Y, w2.heap.size = Y := ⟨_, rfl⟩
      rw [hY] at y4 y6 y8 ⊢
      clear hY
      cases ok
      · have HG := Lib.hid (show epRK m (k + 1) = s from HS.out)
        go_wp2
        exact ⟨⟨k + 1, by omega, by go_num, by rw [HG.out], HB5.out⟩, by simp [intOf]; omega⟩
      · have HG := Lib.hid (show epRK m (k + 1) = epN s x.b 3 from HS.out)
        go_upto_region 8 with (guard_target = wpList _ _ _ (Oper.mk none (Op.store _ _ _) _ _ _ none :: _) _ _; refine wpList_store_row rfl 101 _ _ rfl w5.heap.size (by rfl) #[.int .u64 x.b.ep, .int .u64 x.b.ce, .int .u64 x.b.pe] (by rfl) #[.int .u64 0, .int .u64 0, .int .u64 0] 101 (heap_alloc_new _ _) rfl hu3.out (by simp [Value.oneCell']) ?_; intro w6 hw6 hg6)
        have HB6 := Lib.hid (show Below W.heap.size W w6 from (HB5.out.alloc HB5.out.size _).grown hg6 (by have := HB5.out.size; simp; omega) (fun k hk => by cases hk; exact HB5.out.size))
        have z0 : w6.cell? ⟨w5.heap.size, 0, none⟩ = some (.int .u64 x.b.ep) := by rw [cell_of_row w6 _ 0 _ _ _ hw6]; rfl
        have z1 : w6.cell? ⟨w5.heap.size, 1, none⟩ = some (.int .u64 x.b.ce) := by rw [cell_of_row w6 _ 1 _ _ _ hw6]; rfl
        have z2 : w6.cell? ⟨w5.heap.size, 2, none⟩ = some (.int .u64 x.b.pe) := by rw [cell_of_row w6 _ 2 _ _ _ hw6]; rfl
        clear hw6 hg6 y4 y6 y8
        obtain ⟨Z, hZ⟩ : ∃ Z, w5.heap.size = Z := ⟨_, rfl⟩
        rw [hZ] at z0 z1 z2 ⊢
        clear hZ
        obtain ⟨bt, hbt⟩ : ∃ bt, x.b = bt := ⟨_, rfl⟩
        rw [hbt] at z0 z1 z2 HG
        rw [hbt]
        clear hbt
        go_wp2_with fail
        go_loop [3, 8] (fun t i => ∃ j : Nat, j ≤ 3 ∧ i = .int .i64 j ∧ t = .int .u64 (epN s bt j)) (fun _ i => 3 - (intOf i).toNat)
        case atStart => exact ⟨0, by omega, rfl, rfl⟩
        case round =>
          obtain ⟨j, hj, rfl, rfl⟩ := hrel
          have hj4 : j = 0 ∨ j = 1 ∨ j = 2 ∨ j = 3 := by omega
          rcases hj4 with rfl | rfl | rfl | rfl
          · rw [show epN s bt 0 = s from rfl]
            by_cases hc : s < bt.ep
            · have HM := Lib.hid (show epN s bt 1 = bt.ep by show max s bt.ep = bt.ep; omega)
              go_wp2
              exact ⟨⟨1, by omega, rfl, by rw [HM.out]⟩, by simp [intOf]⟩
            · have HM := Lib.hid (show epN s bt 1 = s by show max s bt.ep = s; omega)
              have hc' : decide (s < bt.ep) = false := decide_eq_false hc
              go_wp2
              exact ⟨⟨1, by omega, rfl, by rw [HM.out]⟩, by simp [intOf]⟩
          · have HD := Lib.hid (show epN s bt 2 = max (epN s bt 1) bt.ce from rfl)
            generalize epN s bt 1 = s1 at HD ⊢
            by_cases hc : s1 < bt.ce
            · have HM := Lib.hid (show epN s bt 2 = bt.ce by rw [HD.out]; omega)
              go_wp2
              exact ⟨⟨2, by omega, rfl, by rw [HM.out]⟩, by simp [intOf]⟩
            · have HM := Lib.hid (show epN s bt 2 = s1 by rw [HD.out]; omega)
              have hc' : decide (s1 < bt.ce) = false := decide_eq_false hc
              go_wp2
              exact ⟨⟨2, by omega, rfl, by rw [HM.out]⟩, by simp [intOf]⟩
          · have HD := Lib.hid (show epN s bt 3 = max (epN s bt 2) bt.pe from rfl)
            generalize epN s bt 2 = s1 at HD ⊢
            by_cases hc : s1 < bt.pe
            · have HM := Lib.hid (show epN s bt 3 = bt.pe by rw [HD.out]; omega)
              go_wp2
              exact ⟨⟨3, by omega, rfl, by rw [HM.out]⟩, by simp [intOf]⟩
            · have HM := Lib.hid (show epN s bt 3 = s1 by rw [HD.out]; omega)
              have hc' : decide (s1 < bt.pe) = false := decide_eq_false hc
              go_wp2
              exact ⟨⟨3, by omega, rfl, by rw [HM.out]⟩, by simp [intOf]⟩
          · go_wp2
            exact ⟨⟨k + 1, by omega, by go_num, by rw [HG.out], HB6.out⟩, by simp [intOf]; omega⟩
    · obtain rfl : k = 64 := by omega
      go_wp2
      go_ret
      exact ⟨rfl, bthen' BW.out HBr.out⟩
/-- Who is of another configuration. -/
def strR (m : REar) (s ce : Nat) (cr : Int) (p : Nat) : Bool := (ofR m p).2 && (s.testBit p && !(decide ((ofR m p).1.b.pe = ce) && decide ((ofR m p).1.b.pr = cr)))
theorem rstrange_any (m : REar) (s ce : Nat) (cr : Int) (hs : s < 18446744073709551616) (v : Value) (a : Option Addr) (c b o : Nat) (wf : m.Wf) (w : World) (hr : RowAt Sd.vals w v m.all a c b o) :
    Calls Tryd.prog 46 #[.agg (m.vals v).toArray, .int .u64 s, .agg #[.int .u64 ce, .int .i64 cr]] w fun e w' => e = .returned (.int .u64 (orL (strR m s ce cr) 64)) ∧ Below w.heap.size w w' := by
  have hz := zero_said
  obtain ⟨n, hn⟩ : ∃ n, w.heap.size = n := ⟨_, rfl⟩
  obtain ⟨W, hW⟩ : ∃ W : World, (w.alloc (.cells (m.vals v).toArray 65)).alloc (.cells #[.int .u64 ce, .int .i64 cr] 60) = W := ⟨_, rfl⟩
  have B0 := Lib.hid (show W.heap[n]? = some (.cells (m.vals v).toArray 65 (0, 0)) by
    rw [← hW, heap_alloc_old _ _ (by simp; omega), ← hn]; exact heap_alloc_new _ _)
  have B1 := Lib.hid (show W.heap[n + 1]? = some (.cells #[.int .u64 ce, .int .i64 cr] 60 (0, 0)) by
    rw [← hW, ← hn]
    have := heap_alloc_new (w.alloc (.cells (m.vals v).toArray 65)) (.cells #[.int .u64 ce, .int .i64 cr] 60)
    simpa using this)
  have BW := Lib.hid (show Below w.heap.size w W by rw [← hW]; exact ((Below.refl _ _).alloc (Nat.le_refl _) _).alloc (by simp) _)
  have HW := Lib.hid hW
  have WF := Lib.hid wf
  have HR := Lib.hid (hr.below rfl BW.out)
  have hue : Hid ((Tryd.prog.info? 65).map (·.size) = some (m.vals v).toArray.size) := Lib.hid size_rear
  have hus : Hid ((Tryd.prog.info? 73).map (·.size) = some 9) := Lib.hid size_said
  clear hr hW wf
  go_enter Tryd.func46, Tryd.ntmps46
  go_upto_region 1 with fail
  rw [HW.out]
  clear hn
  go_wp2_with fail
  go_loopw [7, 8] (fun t i wr => ∃ k : Nat, k ≤ 64 ∧ i = .int .i64 k ∧ t = .int .u64 (orL (strR m s ce cr) k) ∧ Below W.heap.size W wr) (fun _ i _ => 64 - (intOf i).toNat)
  case atStart => exact ⟨0, by omega, rfl, rfl, Below.refl _ _⟩
  case round =>
    obtain ⟨k, hk, rfl, rfl, hbr⟩ := hrel
    have HBr := Lib.hid hbr
    clear hbr
    by_cases hlt : k < 64
    · have hlt' : (k : Int) < 64 := by omega
      have HS := Lib.hid (orL_succ (strR m s ce cr) k)
      have HD := Lib.hid (show strR m s ce cr k = ((ofR m k).2 && (s.testBit k && !(decide ((ofR m k).1.b.pe = ce) && decide ((ofR m k).1.b.pr = cr)))) from rfl)
      have hor := Lib.hid (bits_or_u64_nat (orL (strR m s ce cr) k) (bitN k) (orL_lt _ _) (bitN_lt _))
      have hp := wrap_pow (show (0 : Int) ≤ (k : Int) by omega) hlt'
      rw [Int.toNat_natCast] at hp
      generalize orL (strR m s ce cr) k = t at HS hor
      generalize strR m s ce cr k = y at HS HD
      go_wp2_with (guard_target = wpList _ _ _ (Oper.mk _ (Op.load _ _) _ _ _ none :: _) _ _; refine wpList_load_row rfl 65 _ rfl n (by rfl) 65 _ (0, 0) _ (bblock HBr.out B0.out) Tryd.underlying65 rfl hue.out ?_; simp only [Act.put, List.setIfInBounds_toArray, List.set_cons_zero, List.set_cons_succ])
      refine (rof9_any m k v a c b o WF.out.l wr (HR.out.below rfl HBr.out)).mono ?_
      rintro e w2 ⟨rfl, hb⟩
      have HB2 := Lib.hid (bthen' HBr.out hb)
      clear hb
      unfold ofRV
      generalize ofR m k = bo at HD ⊢
      obtain ⟨x, ok⟩ := bo
      try dsimp only at HD ⊢
      go_upto_region 6 with (guard_target = wpList _ _ _ (Oper.mk none (Op.store _ _ _) _ _ _ none :: _) _ _; refine wpList_store_row rfl 73 _ _ rfl w2.heap.size (by rfl) x.vals.toArray (by rfl) Sd.zero.vals.toArray 73 (heap_alloc_new _ _) rfl hus.out (Sd.oneL _) ?_; intro w5 hw5 hg5)
      have HB5 := Lib.hid (show Below W.heap.size W w5 from (HB2.out.alloc HB2.out.size _).grown hg5 (by have := HB2.out.size; simp; omega) (fun k hk => by cases hk; exact HB2.out.size))
      have y6 := Sd.c6 hw5
      have y7 := Sd.c7 hw5
      have z0 : w5.cell? ⟨n + 1, 0, none⟩ = some (.int .u64 ce) := by rw [cell_of_row w5 _ 0 _ _ _ (bblock HB5.out B1.out)]; rfl
      have z1 : w5.cell? ⟨n + 1, 1, none⟩ = some (.int .i64 cr) := by rw [cell_of_row w5 _ 1 _ _ _ (bblock HB5.out B1.out)]; rfl
      clear hw5 hg5
      obtain ⟨Y, hY⟩ : ∃ Y, w2.heap.size = Y := ⟨_, rfl⟩
      rw [hY] at y6 y7 ⊢
      clear hY
      generalize x.b.pe = pe at HD y6
      generalize x.b.pr = pr at HD y7
      cases ok
      ·
        go_wp2
        exact ⟨⟨k + 1, by omega, by go_num, by rw [HS.out, HD.out]; rfl, HB5.out⟩, by simp [intOf]; omega⟩
      · cases hb : s.testBit k
        · have hx := bitZero hs hb
          rw [hb] at HD
          clear hb
          go_wp2
          exact ⟨⟨k + 1, by omega, by go_num, by rw [HS.out, HD.out]; rfl, HB5.out⟩, by simp [intOf]; omega⟩
        · have hx := bitOne hs hb
          rw [hb] at HD
          clear hb
          by_cases h1 : pe = ce
          · rw [decide_eq_true h1] at HD
            by_cases h2 : pr = cr
            · rw [decide_eq_true h2] at HD
              go_wp2
              exact ⟨⟨k + 1, by omega, by go_num, by rw [HS.out, HD.out]; rfl, HB5.out⟩, by simp [intOf]; omega⟩
            · rw [decide_eq_false h2] at HD
              have hor' := hor.out
              go_wp2
              exact ⟨⟨k + 1, by omega, by go_num, by rw [HS.out, HD.out]; rfl, HB5.out⟩, by simp [intOf]; omega⟩
          · rw [decide_eq_false h1] at HD
            have hor' := hor.out
            go_wp2
            exact ⟨⟨k + 1, by omega, by go_num, by rw [HS.out, HD.out]; rfl, HB5.out⟩, by simp [intOf]; omega⟩
    · obtain rfl : k = 64 := by omega
      go_wp2
      go_ret
      exact ⟨rfl, bthen' BW.out HBr.out⟩
end Go.Proofs.YtjokfjdbioeohaaDoor

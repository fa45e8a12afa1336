/-
  consortref09: Of, Reached.
-/
import Derived.Test.YtjokfjdbioeohaaDoorRefEar
namespace Go.Proofs.YtjokfjdbioeohaaDoor
open Go.RowKit Go.BigFrame
set_option maxHeartbeats 1000000
set_option maxRecDepth 100000
/-- What a process said last, of the first k. -/
def ofK (l : List Sd) (p : Int) : Nat → Sd × Bool
  | 0 => (Sd.zero, false)
  | k + 1 => if (l.getD k Sd.zero).p = p then (if (l.getD k Sd.zero).gone then (Sd.zero, false) else if (l.getD k Sd.zero).beat then (l.getD k Sd.zero, true) else ofK l p k) else ofK l p k
def ofR (m : REar) (p : Int) : Sd × Bool := ofK m.all p m.all.length
def ofRV (m : REar) (p : Int) : Value := .tuple #[.agg (ofR m p).1.vals.toArray, .bool (ofR m p).2]
theorem Sd.x0 {w : World} {b o : Nat} {x : Sd} (h : w.rangeAt b o x.vals) : w.cell? ⟨b, o, none⟩ = some (.int .i64 x.p) := h 0 _ rfl
theorem Sd.x1 {w : World} {b o : Nat} {x : Sd} (h : w.rangeAt b o x.vals) : w.cell? ⟨b, o + 1, none⟩ = some (.int .i64 x.at_) := h 1 _ rfl
theorem Sd.x2 {w : World} {b o : Nat} {x : Sd} (h : w.rangeAt b o x.vals) : w.cell? ⟨b, o + 2, none⟩ = some (.bool x.beat) := h 2 _ rfl
theorem Sd.x3 {w : World} {b o : Nat} {x : Sd} (h : w.rangeAt b o x.vals) : w.cell? ⟨b, o + 3, none⟩ = some (.bool x.gone) := h 3 _ rfl
theorem zero_said (w : World) : (zeroValue 73).run Tryd.prog w = .ok (.agg Sd.zero.vals.toArray) w := by kernel_rfl
theorem rof9_any (m : REar) (p : Int) (v : Value) (a : Option Addr) (c b o : Nat) (hl : m.all.length ≤ 1000000) (w : World) (hr : RowAt Sd.vals w v m.all a c b o) :
    Calls Tryd.prog 40 #[.agg (m.vals v).toArray, .int .i64 p] w fun e w' => e = .returned (ofRV m p) ∧ Below w.heap.size w w' := by
  obtain rfl := hr.v
  obtain ⟨n, hn⟩ : ∃ n, w.heap.size = n := ⟨_, rfl⟩
  have hz := zero_said
  obtain ⟨W, hW⟩ : ∃ W : World, (w.alloc (.cells (m.vals (.slice a m.all.length c)).toArray 65)).alloc (.cells Sd.zero.vals.toArray 73) = W := ⟨_, rfl⟩
  have B0 := Lib.hid (show W.heap[n]? = some (.cells (m.vals (.slice a m.all.length c)).toArray 65 (0, 0)) by
    rw [← hW, heap_alloc_old _ _ (by simp; omega), ← hn]; exact heap_alloc_new _ _)
  have B1 := Lib.hid (show W.heap[n + 1]? = some (.cells Sd.zero.vals.toArray 73 (0, 0)) by
    rw [← hW, ← hn]
    have := heap_alloc_new (w.alloc (.cells (m.vals (.slice a m.all.length c)).toArray 65)) (.cells Sd.zero.vals.toArray 73)
    simpa using this)
  have BW := Lib.hid (show Below w.heap.size w W by rw [← hW]; exact ((Below.refl _ _).alloc (Nat.le_refl _) _).alloc (by simp) _)
  have HW := Lib.hid hW
  have HN := Lib.hid hn
  have HR := Lib.hid (hr.below rfl BW.out)
  have hus : Hid ((Tryd.prog.info? 73).map (·.size) = some 9) := Lib.hid size_said
  have c4 : W.cell? ⟨n, 4, none⟩ = some (.slice a m.all.length c) := by rw [cell_of_row W n 4 _ _ _ B0.out]; rfl
  have hl' : (m.all.length : Int) ≤ 1000000 := by omega
  clear hr hW
  go_enter Tryd.func40, Tryd.ntmps40
  go_upto_region 1 with fail
  rw [HW.out]
  clear hn
  go_wp2_with fail
  go_loop [6] (fun i => ∃ k : Nat, k ≤ m.all.length ∧ i = .int .i64 ((k : Int) - 1) ∧ ofK m.all p k = ofK m.all p m.all.length) (fun i => (intOf i + 1).toNat)
  case atStart => exact ⟨m.all.length, Nat.le_refl _, rfl, rfl⟩
  case round =>
    obtain ⟨k, hk, rfl, hK⟩ := hrel
    have HK := Lib.hid hK
    clear hK
    match k, hk, HK with
    | 0, _, HK =>
      have HS := Lib.hid (show ofK m.all p 0 = (Sd.zero, false) from rfl)
      rw [show (((0 : Nat) : Int) - 1) = -1 from rfl]
      obtain ⟨j, x, HX⟩ : ∃ (j : Nat) (x : Sd), Hid (0 = 0 → W.rangeAt b (o + j * 9) x.vals → True) := ⟨0, Sd.zero, Lib.hid fun _ _ => trivial⟩
      go_wp2_with (guard_target = wpList _ _ _ (Oper.mk none (Op.store _ _ _) _ _ _ none :: _) _ _; refine wpList_store_row rfl 73 _ _ rfl (n + 1) (by rfl) Sd.zero.vals.toArray (by rfl) Sd.zero.vals.toArray 73 B1.out rfl hus.out (Sd.oneL _) ?_; intro w5 hw5 hg5)
      refine bodyPost_ret (results_cell_tmp1 rfl _ w5 (n + 1) 73 _ (0, 0) _ (by rfl) hw5 Tryd.underlying73 rfl hus.out) rfl ⟨?_, BW.out.grown hg5 BW.out.size (fun k hk => by cases hk; have := HN.out; omega)⟩
      unfold ofRV ofR
      rw [← HK.out, HS.out]; rfl
    | j + 1, hk, HK =>
      rw [show (((j + 1 : Nat) : Int) - 1) = (j : Int) by omega]
      have hj : j < m.all.length := by omega
      obtain ⟨rfl, _⟩ := HR.out.a (by omega)
      have HX := Lib.hid (HR.out.at_ Sd.len hj)
      have HE := Lib.hid (show m.all.getD j Sd.zero = m.all[j] by simp [hj])
      generalize m.all[j] = x at HX HE
      have hj' : (j : Int) < (m.all.length : Int) := by omega
      have x0 := Sd.x0 HX.out
      have x2 := Sd.x2 HX.out
      have x3 := Sd.x3 HX.out
      clear hj hk
      by_cases hp : x.p = p
      · have hp' : (x.p == p) = true := beq_iff_eq.2 hp
        cases hg : x.gone
        · rw [hg] at x3
          cases hb : x.beat
          · rw [hb] at x2
            have HS := Lib.hid (show ofK m.all p (j + 1) = ofK m.all p j by rw [ofK, HE.out, if_pos hp, hg, hb]; rfl)
            clear hp hg hb
            go_wp2
            exact ⟨⟨j, by omega, rfl, HS.out.symm.trans HK.out⟩, by simp [intOf]⟩
          · rw [hb] at x2
            have HS := Lib.hid (show ofK m.all p (j + 1) = (x, true) by rw [ofK, HE.out, if_pos hp, hg, hb]; rfl)
            clear hp hg hb
            go_wp2_with (first
              | (guard_target = wpList _ _ _ (Oper.mk none (Op.store _ _ _) _ _ _ none :: _) _ _; refine wpList_store_row rfl 73 _ _ rfl (n + 1) (by rfl) x.vals.toArray (by rfl) Sd.zero.vals.toArray 73 B1.out rfl hus.out (Sd.oneL _) ?_; intro w5 hw5 hg5)
              | (guard_target = wpList _ _ _ (Oper.mk _ (Op.load 73 _) _ _ _ none :: _) _ _; refine wpList_load_mid rfl 73 _ rfl b (o + j * 9) (by rfl) x.vals _ HX.out Tryd.underlying73 rfl hus.out ?_; simp only [Act.put, List.setIfInBounds_toArray, List.set_cons_zero, List.set_cons_succ]))
            refine bodyPost_ret (results_cell_tmp1 rfl _ w5 (n + 1) 73 _ (0, 0) _ (by rfl) hw5 Tryd.underlying73 rfl hus.out) rfl ⟨?_, BW.out.grown hg5 BW.out.size (fun k hk => by cases hk; have := HN.out; omega)⟩
            unfold ofRV ofR
            rw [← HK.out, HS.out]; rfl
        · rw [hg] at x3
          have HS := Lib.hid (show ofK m.all p (j + 1) = (Sd.zero, false) by rw [ofK, HE.out, if_pos hp, hg]; rfl)
          clear hp hg
          go_wp2_with (guard_target = wpList _ _ _ (Oper.mk none (Op.store _ _ _) _ _ _ none :: _) _ _; refine wpList_store_row rfl 73 _ _ rfl (n + 1) (by rfl) Sd.zero.vals.toArray (by rfl) Sd.zero.vals.toArray 73 B1.out rfl hus.out (Sd.oneL _) ?_; intro w5 hw5 hg5)
          refine bodyPost_ret (results_cell_tmp1 rfl _ w5 (n + 1) 73 _ (0, 0) _ (by rfl) hw5 Tryd.underlying73 rfl hus.out) rfl ⟨?_, BW.out.grown hg5 BW.out.size (fun k hk => by cases hk; have := HN.out; omega)⟩
          unfold ofRV ofR
          rw [← HK.out, HS.out]; rfl
      · have hp' : (x.p == p) = false := beq_eq_false_iff_ne.2 hp
        have HS := Lib.hid (show ofK m.all p (j + 1) = ofK m.all p j by rw [ofK, HE.out, if_neg hp])
        clear hp
        go_wp2
        exact ⟨⟨j, by omega, rfl, HS.out.symm.trans HK.out⟩, by simp [intOf]⟩
/-- Is a process reached, by the first k? -/
def rchK (m : REar) (p : Int) : Nat → Bool
  | 0 => false
  | k + 1 => if (m.all.getD k Sd.zero).p = p then (if (m.all.getD k Sd.zero).gone then rchK m p k else decide (m.now - (m.all.getD k Sd.zero).at_ ≤ m.timeout)) else rchK m p k
def rchR (m : REar) (p : Int) : Bool := rchK m p m.all.length
structure REar.Wf (m : REar) : Prop where
  n0 : 0 ≤ m.now
  n1 : m.now < 4611686018427387904
  a : ∀ x ∈ m.all, 0 ≤ x.at_ ∧ x.at_ ≤ m.now
  l : m.all.length ≤ 1000000
theorem rreached_any (m : REar) (p : Int) (v : Value) (a : Option Addr) (c b o : Nat) (wf : m.Wf) (w : World) (hr : RowAt Sd.vals w v m.all a c b o) :
    Calls Tryd.prog 54 #[.agg (m.vals v).toArray, .int .i64 p] w fun e w' => e = .returned (.bool (rchR m p)) ∧ Below w.heap.size w w' := by
  obtain rfl := hr.v
  obtain ⟨n, hn⟩ : ∃ n, w.heap.size = n := ⟨_, rfl⟩
  obtain ⟨W, hW⟩ : ∃ W : World, w.alloc (.cells (m.vals (.slice a m.all.length c)).toArray 65) = W := ⟨_, rfl⟩
  have B0 := Lib.hid (show W.heap[n]? = some (.cells (m.vals (.slice a m.all.length c)).toArray 65 (0, 0)) by rw [← hW, ← hn]; exact heap_alloc_new _ _)
  have BW := Lib.hid (show Below w.heap.size w W by rw [← hW]; exact (Below.refl _ _).alloc (Nat.le_refl _) _)
  have HW := Lib.hid hW
  have HN := Lib.hid hn
  have WF := Lib.hid wf
  have HR := Lib.hid (hr.below rfl BW.out)
  have c4 : W.cell? ⟨n, 4, none⟩ = some (.slice a m.all.length c) := by rw [cell_of_row W n 4 _ _ _ B0.out]; rfl
  have hl' : (m.all.length : Int) ≤ 1000000 := by have := wf.l; omega
  clear hr hW wf
  go_enter Tryd.func54, Tryd.ntmps54
  go_upto_region 1 with fail
  rw [HW.out]
  clear hn
  go_wp2_with fail
  go_loop [5] (fun i => ∃ k : Nat, k ≤ m.all.length ∧ i = .int .i64 ((k : Int) - 1) ∧ rchK m p k = rchK m p m.all.length) (fun i => (intOf i + 1).toNat)
  case atStart => exact ⟨m.all.length, Nat.le_refl _, rfl, rfl⟩
  case round =>
    obtain ⟨k, hk, rfl, hK⟩ := hrel
    have HK := Lib.hid hK
    clear hK
    match k, hk, HK with
    | 0, _, HK =>
      rw [show (((0 : Nat) : Int) - 1) = -1 from rfl]
      go_wp2
      go_ret
      exact ⟨by unfold rchR; rw [← HK.out]; rfl, BW.out⟩
    | j + 1, hk, HK =>
      rw [show (((j + 1 : Nat) : Int) - 1) = (j : Int) by omega]
      have hj : j < m.all.length := by omega
      obtain ⟨rfl, _⟩ := HR.out.a (by omega)
      have HX := Lib.hid (HR.out.at_ Sd.len hj)
      have HE := Lib.hid (show m.all.getD j Sd.zero = m.all[j] by simp [hj])
      have HA := Lib.hid (WF.out.a _ (List.getElem_mem hj))
      generalize m.all[j] = x at HX HE HA
      have hj' : (j : Int) < (m.all.length : Int) := by omega
      have hj0 : (0 : Int) ≤ (j : Int) := by omega
      have x0 := Sd.x0 HX.out
      have x3 := Sd.x3 HX.out
      clear hj hk
      by_cases hp : x.p = p
      · have hp' : (x.p == p) = true := beq_iff_eq.2 hp
        cases hg : x.gone
        · rw [hg] at x3
          have HS := Lib.hid (show rchK m p (j + 1) = decide (m.now - x.at_ ≤ m.timeout) by rw [rchK, HE.out, if_pos hp, hg]; rfl)
          have r1 : -9223372036854775808 ≤ m.now - x.at_ := by have := HA.out; have := WF.out.n0; omega
          have r2 : m.now - x.at_ < 9223372036854775808 := by have := HA.out; have := WF.out.n1; omega
          obtain ⟨C, hC⟩ : ∃ C : World → Prop, ∀ w', C w' ↔ Below W.heap.size W w' := ⟨_, fun _ => Iff.rfl⟩
          have l1 := Lib.hid (fun w' (h : C w') => (show w'.cell? ⟨b, o + j * 9 + 1, none⟩ = some (.int .i64 x.at_) by
            rw [((hC w').1 h).cell (p := ⟨b, o + j * 9 + 1, none⟩) (World.block_lt_of_cell? _ _ (Sd.x1 HX.out))]; exact Sd.x1 HX.out))
          have l2 := Lib.hid (fun w' (h : C w') => (show w'.cell? ⟨n, 2, none⟩ = some (.int .i64 m.timeout) by rw [cell_of_row w' n 2 _ _ _ (bblock ((hC w').1 h) B0.out)]; rfl))
          have l3 := Lib.hid (fun w' (h : C w') => (show w'.cell? ⟨n, 3, none⟩ = some (.int .i64 m.now) by rw [cell_of_row w' n 3 _ _ _ (bblock ((hC w').1 h) B0.out)]; rfl))
          have l4 := Lib.hid (fun w' (h : C w') => (show w'.cell? ⟨n, 4, none⟩ = some (.slice (some ⟨b, o, none⟩) m.all.length c) by rw [cell_of_row w' n 4 _ _ _ (bblock ((hC w').1 h) B0.out)]; rfl))
          have hC0 : C { W with drawn := W.drawn + 1 } := (hC _).2 (Below.drew (Below.refl _ _))
          have HC := Lib.hid hC
          clear hp hg hC
          go_upto_region 5 with fail
          refine wp_region_quiet (C := C) (by kernel_rfl) (by kernel_rfl) hC0 ?_
          dsimp only []
          repeat (first | go_big_quiet_skip | (go_big_quiet_want; first | (refine quiet_load _ _ (by rfl) ?_ _ (by rfl) (by first | exact l1.out | exact l2.out | exact l3.out | exact l4.out) ?_; (· intro w; simp); (simp only [Act.put, List.setIfInBounds_toArray, List.set_cons_zero, List.set_cons_succ]); go_big_quiet_on) | (go_big_quiet_op; go_big_quiet_on) | (go_big_quiet_op; refine Exists.intro _ ⟨fun _ _ => rfl, ?_⟩; go_big_quiet_on)))
          refine wpQuiet_nil ?_
          intro w3 hC3
          go_wp2
          go_ret
          exact ⟨by unfold rchR; rw [← HK.out, HS.out]; rfl, bthen' BW.out ((HC.out _).1 hC3)⟩
        · rw [hg] at x3
          have HS := Lib.hid (show rchK m p (j + 1) = rchK m p j by rw [rchK, HE.out, if_pos hp, hg]; rfl)
          clear hp hg
          go_wp2
          exact ⟨⟨j, by omega, rfl, HS.out.symm.trans HK.out⟩, by simp [intOf]⟩
      · have hp' : (x.p == p) = false := beq_eq_false_iff_ne.2 hp
        have HS := Lib.hid (show rchK m p (j + 1) = rchK m p j by rw [rchK, HE.out, if_neg hp])
        clear hp
        go_wp2
        exact ⟨⟨j, by omega, rfl, HS.out.symm.trans HK.out⟩, by simp [intOf]⟩
end Go.Proofs.YtjokfjdbioeohaaDoor

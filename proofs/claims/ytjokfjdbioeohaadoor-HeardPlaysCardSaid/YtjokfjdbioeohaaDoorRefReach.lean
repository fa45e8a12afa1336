/-
  consortref09: Reach, Epoch, Strange.
-/
import Derived.Test.YtjokfjdbioeohaaDoorRefOf
namespace Go.Proofs.YtjokfjdbioeohaaDoor
open Go.RowKit Go.BigFrame
set_option maxHeartbeats 1000000
set_option maxRecDepth 100000
def inRR (m : REar) (p : Nat) : Bool := decide ((p : Int) = m.me) || (othR m p && rchR m p)
def orL (f : Nat → Bool) (k : Nat) : Nat := (List.range k).foldl (fun (s p : Nat) => if f p then s ||| bitN p else s) 0
theorem orL_succ (f : Nat → Bool) (k : Nat) : orL f (k + 1) = if f k then orL f k ||| bitN k else orL f k := by
  unfold orL
  rw [List.range_succ, List.foldl_append]; rfl
theorem orL_lt (f : Nat → Bool) (k : Nat) : orL f k < 18446744073709551616 := foldOr_lt f _ _ (by decide)
theorem orL_bit (f : Nat → Bool) (i : Nat) (hi : i < 64) : (orL f 64).testBit i = f i := by
  unfold orL
  rw [testBit_foldOr f (List.range 64) (fun p hp => List.mem_range.1 hp)]
  simp [hi]
theorem rreach_any (m : REar) (v : Value) (a : Option Addr) (c b o : Nat) (wf : m.Wf) (w : World) (hr : RowAt Sd.vals w v m.all a c b o) :
    Calls Tryd.prog 42 #[.agg (m.vals v).toArray] w fun e w' => e = .returned (.int .u64 (orL (inRR m) 64)) ∧ Below w.heap.size w w' := by
  obtain ⟨n, hn⟩ : ∃ n, w.heap.size = n := ⟨_, rfl⟩
  obtain ⟨W, hW⟩ : ∃ W : World, w.alloc (.cells (m.vals v).toArray 65) = W := ⟨_, rfl⟩
  have B0 := Lib.hid (show W.heap[n]? = some (.cells (m.vals v).toArray 65 (0, 0)) by rw [← hW, ← hn]; exact heap_alloc_new _ _)
  have BW := Lib.hid (show Below w.heap.size w W by rw [← hW]; exact (Below.refl _ _).alloc (Nat.le_refl _) _)
  have HW := Lib.hid hW
  have WF := Lib.hid wf
  have HR := Lib.hid (hr.below rfl BW.out)
  have hue : Hid ((Tryd.prog.info? 65).map (·.size) = some (m.vals v).toArray.size) := Lib.hid size_rear
  obtain ⟨C, hC⟩ : ∃ C : World → Prop, ∀ w', C w' ↔ Below W.heap.size W w' := ⟨_, fun _ => Iff.rfl⟩
  have HC := Lib.hid hC
  have l0 := Lib.hid (fun w' (h : C w') => (show w'.cell? ⟨n, 0, none⟩ = some (.int .i64 m.me) by rw [cell_of_row w' n 0 _ _ _ (bblock ((hC w').1 h) B0.out)]; rfl))
  have ag := Lib.hid (fun w' (h : C w') => bblock ((hC w').1 h) B0.out)
  clear hr hW wf hC
  go_enter Tryd.func42, Tryd.ntmps42
  go_upto_region 1 with fail
  rw [HW.out]
  clear hn
  go_wp2_with fail
  go_loopw [3, 4] (fun s i wr => ∃ k : Nat, k ≤ 64 ∧ i = .int .i64 k ∧ s = .int .u64 (orL (inRR m) k) ∧ C wr) (fun _ i _ => 64 - (intOf i).toNat)
  case atStart => exact ⟨0, by omega, rfl, rfl, (HC.out _).2 (Below.refl _ _)⟩
  case round =>
    obtain ⟨k, hk, rfl, rfl, hCr⟩ := hrel
    by_cases hlt : k < 64
    · have hlt' : (k : Int) < 64 := by omega
      have HS := Lib.hid (orL_succ (inRR m) k)
      have HD := Lib.hid (show inRR m k = (decide ((k : Int) = m.me) || (othR m k && rchR m k)) from rfl)
      have hor := Lib.hid (bits_or_u64_nat (orL (inRR m) k) (bitN k) (orL_lt _ _) (bitN_lt _))
      have hp := wrap_pow (show (0 : Int) ≤ (k : Int) by omega) hlt'
      rw [Int.toNat_natCast] at hp
      have k1 := Lib.hid (fun w' (h : C w') => (other_any m v k w').mono (fun e w'' (he : e = .returned (.bool (othR m k)) ∧ Below w'.heap.size w' w'') => (⟨he.1, (HC.out w'').2 (bthen' ((HC.out w').1 h) he.2)⟩ : e = .returned (.bool (othR m k)) ∧ C w'')))
      have k2 := Lib.hid (fun w' (h : C w') => (rreached_any m k v a c b o WF.out w' (HR.out.below rfl ((HC.out w').1 h))).mono (fun e w'' (he : e = .returned (.bool (rchR m k)) ∧ Below w'.heap.size w' w'') => (⟨he.1, (HC.out w'').2 (bthen' ((HC.out w').1 h) he.2)⟩ : e = .returned (.bool (rchR m k)) ∧ C w'')))
      generalize orL (inRR m) k = s at HS hor
      generalize inRR m k = y at HS HD
      go_upto_region 5 with fail
      by_cases hme : (k : Int) = m.me
      · rw [decide_eq_true hme] at HD
        have hme' : ((k : Int) == m.me) = true := beq_iff_eq.2 hme
        clear hme
        refine wp_region_plain (C := C) hCr ?_
        dsimp only []
        repeat (first | go_big_quiet_skip | (go_big_quiet_want; first | (refine quiet_load _ _ (by rfl) ?_ _ (by rfl) (by first | exact l0.out) ?_; (· intro w; simp); (simp only [Act.put, List.setIfInBounds_toArray, List.set_cons_zero, List.set_cons_succ]); go_big_quiet_on) | (refine quiet_load_agg Tryd.underlying65 rfl hue.out _ (by rfl) _ (by rfl) _ _ ag.out ?_; (simp only [Act.put, List.setIfInBounds_toArray, List.set_cons_zero, List.set_cons_succ]); go_big_quiet_on) | (refine quiet_call 53 _ _ (by rfl) Tryd.call53 _ ?_ k1.out ?_; (· rfl); (simp only [Act.put, List.setIfInBounds_toArray, List.set_cons_zero, List.set_cons_succ]); go_big_quiet_on) | (refine quiet_call 54 _ _ (by rfl) Tryd.call54 _ ?_ k2.out ?_; (· rfl); (simp only [Act.put, List.setIfInBounds_toArray, List.set_cons_zero, List.set_cons_succ]); go_big_quiet_on) | (go_big_quiet_op; go_big_quiet_on) | (go_big_quiet_op; refine Exists.intro _ ⟨fun _ _ => rfl, ?_⟩; go_big_quiet_on)))
        trace_state
        refine wpQuiet_nil ?_
        intro w3 hC3
        have hor' := hor.out
        go_wp2
        exact ⟨⟨k + 1, by omega, by go_num, by rw [HS.out, HD.out]; rfl, hC3⟩, by simp [intOf]; omega⟩
      · rw [decide_eq_false hme] at HD
        have hme' : ((k : Int) == m.me) = false := beq_eq_false_iff_ne.2 hme
        clear hme
        cases ho : othR m k
        · rw [ho] at k1 HD
          clear ho
          refine wp_region_plain (C := C) hCr ?_
          dsimp only []
          repeat (first | go_big_quiet_skip | (go_big_quiet_want; first | (refine quiet_load _ _ (by rfl) ?_ _ (by rfl) (by first | exact l0.out) ?_; (· intro w; simp); (simp only [Act.put, List.setIfInBounds_toArray, List.set_cons_zero, List.set_cons_succ]); go_big_quiet_on) | (refine quiet_load_agg Tryd.underlying65 rfl hue.out _ (by rfl) _ (by rfl) _ _ ag.out ?_; (simp only [Act.put, List.setIfInBounds_toArray, List.set_cons_zero, List.set_cons_succ]); go_big_quiet_on) | (refine quiet_call 53 _ _ (by rfl) Tryd.call53 _ ?_ k1.out ?_; (· rfl); (simp only [Act.put, List.setIfInBounds_toArray, List.set_cons_zero, List.set_cons_succ]); go_big_quiet_on) | (refine quiet_call 54 _ _ (by rfl) Tryd.call54 _ ?_ k2.out ?_; (· rfl); (simp only [Act.put, List.setIfInBounds_toArray, List.set_cons_zero, List.set_cons_succ]); go_big_quiet_on) | (go_big_quiet_op; go_big_quiet_on) | (go_big_quiet_op; refine Exists.intro _ ⟨fun _ _ => rfl, ?_⟩; go_big_quiet_on)))
          trace_state
          refine wpQuiet_nil ?_
          intro w3 hC3
          go_wp2
          exact ⟨⟨k + 1, by omega, by go_num, by rw [HS.out, HD.out]; rfl, hC3⟩, by simp [intOf]; omega⟩
        · rw [ho] at k1 HD
          clear ho
          cases hh : rchR m k
          · rw [hh] at k2 HD
            clear hh
            refine wp_region_plain (C := C) hCr ?_
            dsimp only []
            repeat (first | go_big_quiet_skip | (go_big_quiet_want; first | (refine quiet_load _ _ (by rfl) ?_ _ (by rfl) (by first | exact l0.out) ?_; (· intro w; simp); (simp only [Act.put, List.setIfInBounds_toArray, List.set_cons_zero, List.set_cons_succ]); go_big_quiet_on) | (refine quiet_load_agg Tryd.underlying65 rfl hue.out _ (by rfl) _ (by rfl) _ _ ag.out ?_; (simp only [Act.put, List.setIfInBounds_toArray, List.set_cons_zero, List.set_cons_succ]); go_big_quiet_on) | (refine quiet_call 53 _ _ (by rfl) Tryd.call53 _ ?_ k1.out ?_; (· rfl); (simp only [Act.put, List.setIfInBounds_toArray, List.set_cons_zero, List.set_cons_succ]); go_big_quiet_on) | (refine quiet_call 54 _ _ (by rfl) Tryd.call54 _ ?_ k2.out ?_; (· rfl); (simp only [Act.put, List.setIfInBounds_toArray, List.set_cons_zero, List.set_cons_succ]); go_big_quiet_on) | (go_big_quiet_op; go_big_quiet_on) | (go_big_quiet_op; refine Exists.intro _ ⟨fun _ _ => rfl, ?_⟩; go_big_quiet_on)))
            trace_state
            refine wpQuiet_nil ?_
            intro w3 hC3
            go_wp2
            exact ⟨⟨k + 1, by omega, by go_num, by rw [HS.out, HD.out]; rfl, hC3⟩, by simp [intOf]; omega⟩
          · rw [hh] at k2 HD
            clear hh
            refine wp_region_plain (C := C) hCr ?_
            dsimp only []
            repeat (first | go_big_quiet_skip | (go_big_quiet_want; first | (refine quiet_load _ _ (by rfl) ?_ _ (by rfl) (by first | exact l0.out) ?_; (· intro w; simp); (simp only [Act.put, List.setIfInBounds_toArray, List.set_cons_zero, List.set_cons_succ]); go_big_quiet_on) | (refine quiet_load_agg Tryd.underlying65 rfl hue.out _ (by rfl) _ (by rfl) _ _ ag.out ?_; (simp only [Act.put, List.setIfInBounds_toArray, List.set_cons_zero, List.set_cons_succ]); go_big_quiet_on) | (refine quiet_call 53 _ _ (by rfl) Tryd.call53 _ ?_ k1.out ?_; (· rfl); (simp only [Act.put, List.setIfInBounds_toArray, List.set_cons_zero, List.set_cons_succ]); go_big_quiet_on) | (refine quiet_call 54 _ _ (by rfl) Tryd.call54 _ ?_ k2.out ?_; (· rfl); (simp only [Act.put, List.setIfInBounds_toArray, List.set_cons_zero, List.set_cons_succ]); go_big_quiet_on) | (go_big_quiet_op; go_big_quiet_on) | (go_big_quiet_op; refine Exists.intro _ ⟨fun _ _ => rfl, ?_⟩; go_big_quiet_on)))
            trace_state
            refine wpQuiet_nil ?_
            intro w3 hC3
            have hor' := hor.out
            go_wp2
            exact ⟨⟨k + 1, by omega, by go_num, by rw [HS.out, HD.out]; rfl, hC3⟩, by simp [intOf]; omega⟩
    · obtain rfl : k = 64 := by omega
      go_wp2
      go_ret
      exact ⟨rfl, bthen' BW.out ((HC.out _).1 hCr)⟩
end Go.Proofs.YtjokfjdbioeohaaDoor

/-
  LinkAlone: the walk: for every me, size, times and reserve the law returns true.
-/
import Derived.Test.YtjokfjdbioeohaaDoorLinkA
namespace Go.Proofs.YtjokfjdbioeohaaDoor
open Go.RowKit Go.BigFrame
set_option maxHeartbeats 400000
set_option maxRecDepth 100000
/-- Alone, after so many. -/
def alW (me size : Int) (k : Nat) : Win := { newW me (bitN me) size with sent := k }
theorem butN_self (s : Nat) : butN s s = 0 := by unfold butN; rw [Nat.and_self, Nat.xor_self]
theorem alW_zero (me size : Int) : newW me (bitN me) size = alW me size 0 := rfl
theorem alW_others (me size : Int) (k : Nat) : (alW me size k).others = 0 := butN_self _
theorem alW_low (me size : Int) (k : Nat) : lowW (alW me size k) = k := by unfold lowW; rw [alW_others, listN_zero]; rfl
theorem alW_lag (me size : Int) (k : Nat) : lagW (alW me size k) = 0 := by unfold lagW; rw [alW_others, listN_zero]; rfl
theorem alW_room (me size : Int) (k : Nat) (r : Int) : roomW (alW me size k) r = decide (r < max 1 (min size 64)) := by
  unfold roomW
  rw [alW_low]
  have e : (alW me size k).sent = k := rfl
  have e2 : (alW me size k).size = max 1 (min size 64) := rfl
  rw [e, e2, decide_eq_decide]
  omega
theorem alW_next (me size : Int) (k : Nat) : nextW (alW me size k) 0 = alW me size (k + 1) := by
  unfold nextW
  rw [alW_room, if_pos (by simp; omega)]
  rfl
theorem alW_v (me size : Int) (k : Nat) : nextV (alW me size k) 0 = .tuple #[.int .u32 ((k : Int) + 1), .int .i64 0] := by
  unfold nextV
  rw [alW_room, decide_eq_true (by omega)]
  rfl
theorem alone_walk (me size times reserve : Int) (hr : reserve ≤ 9223372036854775807) (w : World) (hT : TabOk w) :
    Calls Tryd.prog 5 #[.int .i64 me, .int .i64 size, .int .i64 times, .int .i64 reserve] w fun e w' => e = .returned (.bool true) ∧ Below w.heap.size w w' := by
  have HT := Lib.hid hT
  have HA := Lib.hid (awake_any w hT)
  have HR := Lib.hid hr
  have hpos : 0 < w.heap.size := Nat.lt_of_le_of_lt (Nat.zero_le _) hT.size
  clear hT hr
  by_cases ht : 500 < times
  · go_enter Tryd.func5, Tryd.ntmps5
    go_wp2_with (go_at_call 11; refine HA.out.mono ?_; rintro e w1 ⟨rfl, hb⟩; have HB := Lib.hid hb; clear hb)
    go_ret
    exact ⟨rfl, HB.out⟩
  · have ht' : times ≤ 500 := by omega
    clear ht
    go_enter Tryd.func5, Tryd.ntmps5
    go_wp2_with (first
      | (go_at_call 11; refine HA.out.mono ?_; rintro e w1 ⟨rfl, hb⟩; have HB := Lib.hid hb; clear hb)
      | (go_at_call 29; refine (of_one _ _ _ _ (cell_new _ _ _)).mono ?_; rintro e w' ⟨rfl, rfl⟩)
      | (go_at_call 12; refine (Lk.make (w0 := w) ((HT.out.belowS HB.out).belowS ((Below.refl _ _).alloc (Nat.le_refl _) _)) (HB.out.alloc HB.out.size _) hpos me (bitN me) size (bitN_lt _)).mono ?_; rintro e w2 ⟨g, rfl, hL⟩; have L0 := Lib.hid hL; clear hL))
    go_loopw [10, 11, 12] (fun i _ _ wr => ∃ k : Nat, ((k : Int) ≤ times ∨ k = 0) ∧ i = .int .i64 k ∧ Lk w wr g (alW me size k)) (fun i _ _ _ => (times - intOf i).toNat)
    case atStart => exact ⟨0, .inr rfl, rfl, L0.out⟩
    case round =>
      obtain ⟨k, hk, rfl, hL⟩ := hrel
      have L1 := Lib.hid hL
      clear hL
      have hk5 : k ≤ 500 := by omega
      by_cases hlt : (k : Int) < times
      · have hk0 : 0 ≤ (k : Int) + 1 := by omega
        have hk1 : (k : Int) + 1 < 4294967296 := by omega
        have v1 := alW_v me size k
        have v2 := alW_next me size k
        have v3 := alW_low me size (k + 1)
        have v4 := alW_lag me size (k + 1)
        go_wp2_with fail
        refine (L1.out.next 0 (by decide) (by show k + 1 < _; omega)).mono ?_
        rintro e w3 ⟨rfl, hL⟩
        rw [alW_next] at hL
        have L2 := Lib.hid hL
        clear hL
        go_wp2_with fail
        refine (L2.out.low).mono ?_
        rintro e w4 ⟨rfl, hL⟩
        have L3 := Lib.hid hL
        clear hL
        go_wp2_with fail
        refine (L3.out.lag).mono ?_
        rintro e w5 ⟨rfl, hL⟩
        have L4 := Lib.hid hL
        clear hL
        go_wp2_with fail
        go_roundw
        case rel => exact ⟨k + 1, by omega, by go_num, L4.out⟩
        case measure => simp [intOf]; omega
      · have hlt' : times ≤ (k : Int) := by omega
        have v0 := alW_room me size k reserve
        clear hlt
        rcases (show (size ≤ 1 ∧ max 1 (min size 64) = 1) ∨ (64 < size ∧ 1 < size ∧ max 1 (min size 64) = 64) ∨ (1 < size ∧ size ≤ 64 ∧ max 1 (min size 64) = size) by omega) with ⟨s1, s2⟩ | ⟨s0, s1, s2⟩ | ⟨s0, s1, s2⟩
        all_goals
          rw [s2] at v0
          clear s2
          go_wp2_with fail
          refine (L1.out.room reserve HR.out).mono ?_
          rintro e w3 ⟨rfl, hL⟩
          have L2 := Lib.hid hL
          clear hL
          go_wp2_with fail
          refine (copy_any g _ w3 L2.out.at_).mono ?_
          rintro e w4 ⟨rfl, hc, hb⟩
          have L3 := Lib.hid (L2.out.below hb)
          have L4 := Lib.hid hc
          clear hb hc
          go_wp2_with fail
          refine (sent_any _ _ w4 L4.out).mono ?_
          rintro e w' ⟨rfl, rfl⟩
          go_wp2_with fail
          refine (sent_any _ _ w4 L3.out.at_).mono ?_
          rintro e w' ⟨rfl, rfl⟩
          go_wp2_with fail
          go_ret
          exact ⟨rfl, L3.out.bel⟩
end Go.Proofs.YtjokfjdbioeohaaDoor

/-
  Package key: Compare, Last; cmp's Compare and Or; a drawn region with one operation that makes memory.
-/
import Derived.Test.YtagelhbknbpfhaaDoorPlan2
import Derived.Test.YtagelhbknbpfhaaDoorValsB
namespace Go.Proofs.YtagelhbknbpfhaaDoor
open Go.RowKit Go.BigFrame
set_option maxHeartbeats 1000000
set_option maxRecDepth 100000
/-- One operation makes one block. -/
def OneC (W : World) (o : Obj) (i0 : Nat) (L : Nat → Bool) (w : World) : Prop := w = if L i0 then W.alloc o else W
theorem OneC.first (W : World) (o : Obj) (i0 : Nat) : OneC W o i0 (fun _ => false) W := by simp [OneC]
theorem OneC.more {W : World} {o : Obj} {i0 : Nat} : ∀ i, i ≠ i0 → ∀ L w, OneC W o i0 L w → L i = false → OneC W o i0 (addL L i) w := by
  intro i hi L w h _
  unfold OneC addL at *
  rw [if_neg (Ne.symm hi)]; exact h
theorem OneC.make {W : World} {o : Obj} {i0 : Nat} {L : Nat → Bool} {w : World} (h : OneC W o i0 L w) (hL : L i0 = false) : w = W ∧ OneC W o i0 (addL L i0) (W.alloc o) := by
  unfold OneC addL at *
  rw [hL] at h
  simpa using h
theorem OneC.done {W : World} {o : Obj} {i0 : Nat} {L : Nat → Bool} {w : World} (h : OneC W o i0 L w) (hL : L i0 = true) : w = W.alloc o := by
  unfold OneC at h
  simpa [hL] using h
theorem OneC.bel {W : World} {o : Obj} {i0 : Nat} {L : Nat → Bool} {w : World} (h : OneC W o i0 L w) : Below W.heap.size W w := by
  unfold OneC at h
  split at h
  · subst h; exact (Below.refl _ _).alloc (Nat.le_refl _) _
  · subst h; exact Below.refl _ _
theorem nanU_any (a : Nat) (w : World) : Calls Tryd.prog 50 #[.int .u64 a] w fun e w' => e = .returned (.bool false) ∧ w = w' := by
  have e : ((a : Int) != (a : Int)) = false := by simp
  go_enter Tryd.func50, Tryd.ntmps50
  go_wp2
  go_ret
  exact ⟨rfl, rfl⟩
theorem nanI_any (a : Int) (w : World) : Calls Tryd.prog 51 #[.int .i64 a] w fun e w' => e = .returned (.bool false) ∧ w = w' := by
  have e : (a != a) = false := by simp
  go_enter Tryd.func51, Tryd.ntmps51
  go_wp2
  go_ret
  exact ⟨rfl, rfl⟩
theorem cmpU_any (a b : Nat) (w : World) : Calls Tryd.prog 45 #[.int .u64 a, .int .u64 b] w fun e w' => e = .returned (.int .i64 (cmpI a b)) ∧ w = w' := by
  by_cases h1 : (a : Int) < (b : Int)
  · have E := Lib.hid (show cmpI a b = -1 by unfold cmpI; rw [if_pos h1])
    go_enter Tryd.func45, Tryd.ntmps45
    go_wp2_with (go_at_call 50; refine (nanU_any _ _).mono ?_; rintro e w' ⟨rfl, rfl⟩)
    go_ret
    exact ⟨by rw [E.out]; rfl, rfl⟩
  · by_cases h2 : (b : Int) < (a : Int)
    · have E := Lib.hid (show cmpI a b = 1 by unfold cmpI; rw [if_neg h1, if_pos h2])
      go_enter Tryd.func45, Tryd.ntmps45
      go_wp2_with (go_at_call 50; refine (nanU_any _ _).mono ?_; rintro e w' ⟨rfl, rfl⟩)
      go_ret
      exact ⟨by rw [E.out]; rfl, rfl⟩
    · have E := Lib.hid (show cmpI a b = 0 by unfold cmpI; rw [if_neg h1, if_neg h2])
      go_enter Tryd.func45, Tryd.ntmps45
      go_wp2_with (go_at_call 50; refine (nanU_any _ _).mono ?_; rintro e w' ⟨rfl, rfl⟩)
      go_ret
      exact ⟨by rw [E.out]; rfl, rfl⟩
theorem cmpI_any (a b : Int) (w : World) : Calls Tryd.prog 46 #[.int .i64 a, .int .i64 b] w fun e w' => e = .returned (.int .i64 (cmpI a b)) ∧ w = w' := by
  by_cases h1 : a < b
  · have E := Lib.hid (show cmpI a b = -1 by unfold cmpI; rw [if_pos h1])
    go_enter Tryd.func46, Tryd.ntmps46
    go_wp2_with (go_at_call 51; refine (nanI_any _ _).mono ?_; rintro e w' ⟨rfl, rfl⟩)
    go_ret
    exact ⟨by rw [E.out]; rfl, rfl⟩
  · by_cases h2 : b < a
    · have E := Lib.hid (show cmpI a b = 1 by unfold cmpI; rw [if_neg h1, if_pos h2])
      go_enter Tryd.func46, Tryd.ntmps46
      go_wp2_with (go_at_call 51; refine (nanI_any _ _).mono ?_; rintro e w' ⟨rfl, rfl⟩)
      go_ret
      exact ⟨by rw [E.out]; rfl, rfl⟩
    · have E := Lib.hid (show cmpI a b = 0 by unfold cmpI; rw [if_neg h1, if_neg h2])
      go_enter Tryd.func46, Tryd.ntmps46
      go_wp2_with (go_at_call 51; refine (nanI_any _ _).mono ?_; rintro e w' ⟨rfl, rfl⟩)
      go_ret
      exact ⟨by rw [E.out]; rfl, rfl⟩
theorem or_any (g c : Nat) (a b : Int) (w : World) (h0 : w.cell? ⟨g, 0, none⟩ = some (.int .i64 a)) (h1 : w.cell? ⟨g, 1, none⟩ = some (.int .i64 b)) :
    Calls Tryd.prog 44 #[.slice (some ⟨g, 0, none⟩) 2 c] w fun e w' => e = .returned (.int .i64 (or2 a b)) ∧ w = w' := by
  by_cases ha : a = 0
  · subst ha
    have E := Lib.hid (show or2 0 b = b from rfl)
    by_cases hb : b = 0
    · subst hb
      go_enter Tryd.func44, Tryd.ntmps44
      go_wp2
      go_loop [8] (fun i => ∃ k : Nat, k ≤ 2 ∧ i = .int .i64 k) (fun i => 2 - (intOf i).toNat)
      case atStart => exact ⟨0, by omega, rfl⟩
      case round =>
        obtain ⟨k, hk, rfl⟩ := hrel
        have hc : k < 2 → w.cell? ⟨g, k, none⟩ = some (.int .i64 0) := fun h => by
          rcases (show k = 0 ∨ k = 1 by omega) with rfl | rfl
          · exact h0
          · exact h1
        by_cases hlt : k < 2
        · have hc' := hc hlt
          clear hc h0 h1
          go_wp2
          go_round
          case rel => exact ⟨k + 1, by omega, by go_num⟩
          case measure => simp [intOf]; omega
        · obtain rfl : k = 2 := by omega
          clear hc
          go_wp2
          go_ret
          exact ⟨rfl, rfl⟩
    · have e1 : (b != 0) = true := by simp [hb]
      go_enter Tryd.func44, Tryd.ntmps44
      go_wp2
      go_loop [8] (fun i => ∃ k : Nat, k < 2 ∧ i = .int .i64 k) (fun i => 2 - (intOf i).toNat)
      case atStart => exact ⟨0, by omega, rfl⟩
      case round =>
        obtain ⟨k, hk, rfl⟩ := hrel
        rcases (show k = 0 ∨ k = 1 by omega) with rfl | rfl
        · go_wp2
          go_round
          case rel => exact ⟨1, by omega, by go_num⟩
          case measure => simp [intOf]
        · go_wp2
          go_ret
          exact ⟨by rw [E.out]; rfl, rfl⟩
  · have e1 : (a != 0) = true := by simp [ha]
    have E := Lib.hid (show or2 a b = a by unfold or2; rw [if_neg ha])
    clear ha
    go_enter Tryd.func44, Tryd.ntmps44
    go_wp2
    go_loop [8] (fun i => i = .int .i64 0) (fun i => 0)
    case atStart => exact rfl
    case round =>
      obtain rfl := hrel
      go_wp2
      go_ret
      exact ⟨by rw [E.out]; rfl, rfl⟩
end Go.Proofs.YtagelhbknbpfhaaDoor

/-
  Package plan: Lacks, counts.
-/
import Derived.Test.YtagelhbknbpfhaaDoorPlanC
namespace Go.Proofs.YtagelhbknbpfhaaDoor
open Go.RowKit Go.BigFrame
set_option maxHeartbeats 1000000
set_option maxRecDepth 100000
def Gp.vals (x : Gp) : List Value := [.int .i64 x.whom, .int .i64 x.holder, .int .u32 x.from_, .int .u32 x.to_]
def Gp.zero : Gp := ⟨0, 0, 0, 0⟩
theorem Gp.len (x : Gp) : x.vals.length = 4 := rfl
theorem Gp.oneL (x : Gp) : ∀ v ∈ x.vals, v.oneCell' = true := by simp [Gp.vals, Value.oneCell']
theorem info_gp : (Tryd.prog.info? 48).map (fun i => (i.zero, i.size, i.bytes)) = some (some (.agg Gp.zero.vals.toArray), 4, 24) := by kernel_rfl
theorem run_buildG (x : Gp) (w : World) : (Instr.buildSlice 44 1 #[(0, .agg x.vals.toArray)]).run Tryd.prog w = .ok (.slice (some ⟨w.heap.size, 0, none⟩) 1 1) (w.alloc (.cells x.vals.toArray 48)) := by kernel_rfl
/-- What lacks of one process. -/
def gapAt (l : List Ex) (count : List Nat) (q : Nat) : List Gp := if atL count q < wholeL l q then [⟨q, holdL l q, atL count q + 1, wholeL l q⟩] else []
def lacksK (l : List Ex) (count : List Nat) (k : Nat) : List Gp := (List.range k).flatMap (gapAt l count)
theorem lacksK_succ (l : List Ex) (count : List Nat) (k : Nat) : lacksK l count (k + 1) = lacksK l count k ++ gapAt l count k := by
  unfold lacksK
  rw [List.range_succ, List.flatMap_append]; simp
theorem lacksK_len (l : List Ex) (count : List Nat) (k : Nat) : (lacksK l count k).length ≤ k := by
  induction k with
  | zero => simp [lacksK]
  | succ k ih =>
    rw [lacksK_succ, List.length_append]
    have : (gapAt l count k).length ≤ 1 := by unfold gapAt; split <;> simp
    omega
theorem lacks_any {w : World} {g : Nat} {l : List XE} (h : PlanAt w g l) (hT : TabOk w) {v : Value} {count : List Nat} {a : Option Addr} {c b o : Nat} (hc : RowAt u32v w v count a c b o) :
    Calls Tryd.prog 22 #[.pointer (some ⟨g, 0, none⟩), v] w fun e w' => ∃ v', e = .returned v' ∧ w'.ownsRow w.heap.size 48 4 v' (lacksK (exs l) count 64).length (rowOf Gp.vals (lacksK (exs l) count 64)) ∧ Below w.heap.size w w' := by
  have HP := Lib.hid h
  have HC := Lib.hid hc
  have HT := Lib.hid hT
  have hv := hc.v
  subst hv
  clear h hT hc
  go_enter Tryd.func22, Tryd.ntmps22
  go_wp2
  go_loopw [5, 8] (fun kv i wr => ∃ k : Nat, k ≤ 64 ∧ i = .int .i64 k ∧ Below w.heap.size w wr ∧ wr.ownsRow w.heap.size 48 4 kv (lacksK (exs l) count k).length (rowOf Gp.vals (lacksK (exs l) count k))) (fun _ i _ => 64 - (intOf i).toNat)
  case atStart => exact ⟨0, Nat.zero_le _, rfl, Below.refl _ _, World.ownsRow_nil _ _ _ _⟩
  case round =>
    obtain ⟨k, hk, rfl, hb, hown⟩ := hrel
    have HB := Lib.hid hb
    have HO := Lib.hid hown
    clear hb hown
    by_cases hlt : k < 64
    · have hlt' : (k : Int) < 64 := by omega
      obtain ⟨N, hN⟩ : ∃ N, wholeL (exs l) k = N := ⟨_, rfl⟩
      have hNlt : N < 4294967296 := by rw [← hN]; exact wholeL_lt HP.out.lt _
      go_wp2_with fail
      refine (whole_any (HP.out.below HB.out) _).mono ?_
      rintro e w2 ⟨rfl, hb2⟩
      rw [hN]
      have HB2 := Lib.hid hb2
      clear hb2
      go_wp2_with fail
      refine (at_any _ _ _ _ _ _ _ (HC.out.below rfl (bthen' HB.out HB2.out)) _).mono ?_
      rintro e w3 ⟨rfl, rfl⟩
      obtain ⟨A, hA⟩ : ∃ A, atL count k = A := ⟨_, rfl⟩
      rw [hA]
      by_cases hAN : A < N
      · have hAN' : (A : Int) < (N : Int) := by omega
        have HS := Lib.hid (show lacksK (exs l) count (k + 1) = lacksK (exs l) count k ++ [⟨k, holdL (exs l) k, A + 1, N⟩] by rw [lacksK_succ]; unfold gapAt; rw [hA, hN, if_pos hAN])
        have HA := Lib.hid hA
        clear hA hN
        go_wp2_with fail
        refine (holder_any ((HP.out.below HB.out).below HB2.out) ((HT.out.belowS HB.out).belowS HB2.out) _).mono ?_
        rintro e w4 ⟨rfl, hb4⟩
        have HB4 := Lib.hid (bthen' HB2.out hb4)
        clear hb4
        go_wp2_with fail
        refine (at_any _ _ _ _ _ _ _ (HC.out.below rfl (bthen' HB.out HB4.out)) _).mono ?_
        rintro e w5 ⟨rfl, rfl⟩
        rw [HA.out]
        have HLK := Lib.hid (lacksK_len (exs l) count k)
        obtain ⟨v', w8, hrun, hown8, hb8⟩ := own_step (slT := 44) Tryd.underlying44 info_gp rfl (by decide) HB.out HO.out HB4.out (Gp.vals ⟨k, holdL (exs l) k, A + 1, N⟩) rfl (Gp.oneL _) (by have := HLK.out; omega) (by decide)
        have HR := Lib.hid hrun
        rw [← rowOf_snoc, ← HS.out, show (lacksK (exs l) count k).length + 1 = (lacksK (exs l) count (k + 1)).length by rw [HS.out]; simp] at hown8
        have HO8 := Lib.hid hown8
        have HB8 := Lib.hid hb8
        obtain ⟨H, hH⟩ : ∃ H, holdL (exs l) k = H := ⟨_, rfl⟩
        rw [hH] at HR ⊢
        clear hrun hown8 hb8 hH hAN
        go_wp2_with (first
          | (guard_target = wpList _ _ _ (Oper.mk _ (Op.buildSlice _ _ _) _ _ _ none :: _) _ _; refine wpList_buildSlice rfl 44 1 _ rfl #[(0, .agg (Gp.vals ⟨k, H, A + 1, N⟩).toArray)] (by kernel_rfl) _ _ (run_buildG ⟨k, H, A + 1, N⟩ _) ?_; simp only [Act.put, List.setIfInBounds_toArray, List.set_cons_zero, List.set_cons_succ])
          | (guard_target = wpList _ _ _ (Oper.mk _ (Op.call _) _ _ _ none :: _) _ _; refine Lib.wpList_append_run _ rfl _ _ _ _ rfl _ _ rfl rfl _ _ HR.out ?_; simp only [Act.put, List.setIfInBounds_toArray, List.set_cons_zero, List.set_cons_succ]))
        go_roundw
        case rel => exact ⟨k + 1, by omega, by go_num, HB8.out, HO8.out⟩
        case measure => simp [intOf]; omega
      · have hAN' : (N : Int) ≤ (A : Int) := by omega
        have HS := Lib.hid (show lacksK (exs l) count (k + 1) = lacksK (exs l) count k by rw [lacksK_succ]; unfold gapAt; rw [hA, hN, if_neg hAN, List.append_nil])
        clear hA hN hAN
        go_wp2
        go_roundw
        case rel => exact ⟨k + 1, by omega, by go_num, bthen' HB.out HB2.out, by rw [HS.out]; exact row_below HO.out HB2.out⟩
        case measure => simp [intOf]; omega
    · obtain rfl : k = 64 := by omega
      go_wp2
      go_ret
      exact ⟨_, rfl, HO.out, HB.out⟩
end Go.Proofs.YtagelhbknbpfhaaDoor

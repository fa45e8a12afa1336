/-
  Package plan: Keep's own function fits.
-/
import Derived.Test.YtagelhbknbpfhaaDoorPlanM
namespace Go.Proofs.YtagelhbknbpfhaaDoor
open Go.RowKit Go.BigFrame
set_option maxHeartbeats 1000000
set_option maxRecDepth 100000
/-- Up to which number each process's messages are kept. -/
structure KeptAt (w : World) (g : Nat) (kept : Nat → Nat) : Prop where
  blk : ∃ cs : Array Value, w.heap[g]? = some (.cells cs 76 (0, 0)) ∧ cs.size = 64
  c : ∀ i, i < 64 → w.cell? ⟨g, i, none⟩ = some (.int .u32 (kept i))
theorem KeptAt.lt {w : World} {g : Nat} {kept : Nat → Nat} (h : KeptAt w g kept) : g < w.heap.size := by
  obtain ⟨cs, h1, _⟩ := h.blk
  exact (Array.getElem?_eq_some_iff.1 h1).1
theorem KeptAt.nf {w : World} {g : Nat} {kept : Nat → Nat} (h : KeptAt w g kept) (k : Nat) : w.frozen? ⟨g, k, none⟩ = false := by
  obtain ⟨cs, h1, _⟩ := h.blk
  simp [World.frozen?, h1]
theorem KeptAt.below {w w' : World} {g : Nat} {kept : Nat → Nat} (h : KeptAt w g kept) (hb : Below w.heap.size w w') : KeptAt w' g kept := by
  obtain ⟨cs, h1, h2⟩ := h.blk
  exact ⟨⟨cs, bblock hb h1, h2⟩, fun i hi => (hb.cell (p := ⟨g, i, none⟩) h.lt).trans (h.c i hi)⟩
theorem KeptAt.set {w : World} {g : Nat} {kept : Nat → Nat} (h : KeptAt w g kept) (i v : Nat) (hi : i < 64) : KeptAt (w.setCell ⟨g, i, none⟩ (.int .u32 v)) g (fun q => if q = i then v else kept q) := by
  obtain ⟨cs, h1, h2⟩ := h.blk
  refine ⟨⟨_, rowCell h1 i _, by simpa using h2⟩, fun j hj => ?_⟩
  rw [cell_of_row _ g j _ _ _ (rowCell h1 i _)]
  by_cases e : j = i
  · subst e
    rw [if_pos rfl, Array.getElem?_setIfInBounds_self_of_lt (by omega)]
  · rw [if_neg e, Array.getElem?_setIfInBounds_ne (by omega)]
    have := h.c j hj
    rw [cell_of_row _ g j _ _ _ h1] at this
    exact this
/-- Does one of the numbers that a message leans on bar it? -/
def barQ (kept : Nat → Nat) (deps : List Nat) (q : Nat) : Bool := (decide (64 ≤ q) && decide (0 < deps.getD q 0)) || (decide (q < 64) && decide (kept q < deps.getD q 0))
theorem fitJ_succ (kept : Nat → Nat) (deps : List Nat) (k : Nat) : fitJ kept deps (k + 1) = (fitJ kept deps k && !barQ kept deps k) := by
  unfold fitJ
  rw [List.range_succ, List.all_append]
  simp [barQ]
theorem fitJ_end (kept : Nat → Nat) (deps : List Nat) : fitJ kept deps deps.length = fitK kept deps := rfl
theorem fitK_bar {kept : Nat → Nat} {deps : List Nat} {k : Nat} (hk : k < deps.length) (h : barQ kept deps k = true) : fitK kept deps = false := by
  unfold fitK
  rw [List.all_eq_false]
  exact ⟨k, by simpa using hk, by unfold barQ at h; rw [h]; simp⟩
theorem fits_any {w : World} {K : Nat} {kept : Nat → Nat} (h : KeptAt w K kept) (y : MsE) (hy : y.Ok w) :
    Calls Tryd.prog 39 #[.agg y.vals.toArray, .pointer (some ⟨K, 0, none⟩)] w fun e w' => e = .returned (.bool (fitK kept y.m.deps)) ∧ Below w.heap.size w w' := by
  obtain ⟨n, hn⟩ : ∃ n, w.heap.size = n := ⟨_, rfl⟩
  obtain ⟨W, hW⟩ : ∃ W : World, w.alloc (.cells y.vals.toArray 59) = W := ⟨_, rfl⟩
  have B0 : W.heap[n]? = some (.cells y.vals.toArray 59 (0, 0)) := by rw [← hW, ← hn]; exact heap_alloc_new _ _
  have BW := Lib.hid (show Below w.heap.size w W by rw [← hW]; exact bel_box _ _ _)
  have BN := Lib.hid (show Below n w W by rw [← hn]; exact BW.out)
  have HW := Lib.hid hW
  have HK := Lib.hid (h.below BW.out)
  have hy' := hy.below rfl BW.out
  have hdl : (y.m.deps.length : Int) ≤ 9223372036854775807 := by have := hy.dl; omega
  obtain ⟨a, c, b, o, hr⟩ := hy'.r
  have HR := Lib.hid hr
  have c4 : W.cell? ⟨n, 4, none⟩ = some y.sl := by rw [cell_of_row W n 4 _ _ _ B0]; rfl
  rw [hr.v] at c4
  clear hr hy' hy h hW B0
  obtain ⟨d, hd⟩ : ∃ d, y.m.deps = d := ⟨_, rfl⟩
  rw [hd] at HR c4 hdl ⊢
  clear hd
  go_enter Tryd.func39, Tryd.ntmps39
  go_upto_region 1 with fail
  rw [HW.out]
  go_wp2
  clear c4
  go_loopw [9] (fun i wr => ∃ k : Nat, k ≤ d.length ∧ i = .int .i64 k ∧ wr = W ∧ fitJ kept d k = true) (fun i _ => d.length - (intOf i).toNat)
  case atStart => exact ⟨0, Nat.zero_le _, rfl, rfl, rfl⟩
  case round =>
    obtain ⟨k, hk, rfl, rfl, hf⟩ := hrel
    have HF := Lib.hid hf
    clear hf
    by_cases hlt : k < d.length
    · obtain ⟨rfl, _⟩ := HR.out.a (by omega)
      have hlt' : (k : Int) < (d.length : Int) := by omega
      obtain ⟨x, hx⟩ : ∃ x, d[k] = x := ⟨_, rfl⟩
      have hgd : d.getD k 0 = x := by simp [hlt, hx]
      have cx := HR.out.at_ u32v_len hlt 0 (.int .u32 d[k]) rfl
      rw [hx, Nat.mul_one, Nat.add_zero] at cx
      by_cases h64 : k < 64
      · have h64' : (k : Int) < 64 := by omega
        have ck := HK.out.c k h64
        obtain ⟨z, hz⟩ : ∃ z, kept k = z := ⟨_, rfl⟩
        rw [hz] at ck
        by_cases hb : z < x
        · have hb' : (z : Int) < (x : Int) := by omega
          have E := Lib.hid (show fitK kept d = false from fitK_bar hlt (by unfold barQ; rw [hgd, hz]; simp [h64, hb]))
          clear hz hx hgd hb
          go_wp2
          go_ret
          exact ⟨by rw [E.out]; rfl, by first | exact BN.out | exact BW.out⟩
        · have hb' : (x : Int) ≤ (z : Int) := by omega
          have HS := Lib.hid (show fitJ kept d (k + 1) = true by rw [fitJ_succ, HF.out]; unfold barQ; rw [hgd, hz]; simp [hb]; omega)
          clear hz hx hgd hb
          go_wp2
          go_roundw
          case rel => exact ⟨k + 1, by omega, by go_num, by trivial, HS.out⟩
          case measure => simp [intOf]; omega
      · have h64' : 64 ≤ (k : Int) := by omega
        by_cases hb : 0 < x
        · have hb' : (0 : Int) < (x : Int) := by omega
          have E := Lib.hid (show fitK kept d = false from fitK_bar hlt (by unfold barQ; rw [hgd]; simp [hb]; omega))
          clear hx hgd hb
          go_wp2
          go_ret
          exact ⟨by rw [E.out]; rfl, by first | exact BN.out | exact BW.out⟩
        · have hb' : (x : Int) ≤ 0 := by omega
          have HS := Lib.hid (show fitJ kept d (k + 1) = true by rw [fitJ_succ, HF.out]; unfold barQ; rw [hgd]; simp [h64]; omega)
          clear hx hgd hb
          go_wp2
          go_roundw
          case rel => exact ⟨k + 1, by omega, by go_num, by trivial, HS.out⟩
          case measure => simp [intOf]; omega
    · obtain rfl : k = d.length := by omega
      have E := Lib.hid (show fitK kept d = true by rw [← fitJ_end]; exact HF.out)
      go_wp2
      go_ret
      exact ⟨by rw [E.out]; rfl, by first | exact BN.out | exact BW.out⟩
end Go.Proofs.YtagelhbknbpfhaaDoor

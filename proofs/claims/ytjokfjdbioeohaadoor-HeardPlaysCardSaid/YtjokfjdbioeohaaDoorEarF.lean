/-
  Package heard: New, Tick, Hear, Of.
-/
import Derived.Test.YtjokfjdbioeohaaDoorEar
namespace Go.Proofs.YtjokfjdbioeohaaDoor
open Go.RowKit Go.BigFrame
set_option maxHeartbeats 1000000
set_option maxRecDepth 100000
def earZ (k : Nat) : Value := if k < 3 then .int .i64 0 else if k = 3 then .int .u64 0 else Ent.zero.vals.getD ((k - 4) % 8) undef
def earZero : Array Value := ((List.range 516).map earZ).toArray
theorem earZero_size : earZero.size = 516 := by simp [earZero]
theorem earZero_at {k : Nat} (h : k < 516) : earZero[k]? = some (earZ k) := by simp [earZero, h]
theorem zero_ear (w : World) : (zeroValue 99).run Tryd.prog w = .ok (.agg earZero) w := by kernel_rfl
def newE (me n timeout : Int) : Ear := ⟨me, timeout, 0, butN (allN n) (bitN me), fun _ => Ent.zero⟩
theorem newE_at (me n timeout : Int) (w : World) (g : Nat) (hg : w.heap[g]? = some (.cells (((earZero.setIfInBounds 0 (.int .i64 me)).setIfInBounds 1 (.int .i64 timeout)).setIfInBounds 3 (.int .u64 (butN (allN n) (bitN me)))) 99 (0, 0))) : EarAt w g (newE me n timeout) := by
  have hz := earZero_size
  have hc : ∀ k, w.cell? ⟨g, k, none⟩ = (((earZero.setIfInBounds 0 (.int .i64 me)).setIfInBounds 1 (.int .i64 timeout)).setIfInBounds 3 (.int .u64 (butN (allN n) (bitN me))))[k]? := fun k => cell_of_row w g k _ _ _ hg
  refine ⟨(Array.getElem?_eq_some_iff.1 hg).1, fun k => by simp [World.frozen?, hg], ?_, ?_, ?_, ?_, fun i hi => ?_⟩
  · rw [hc]; simp [hz, newE]
  · rw [hc]; simp [hz, newE]
  · rw [hc, Array.getElem?_setIfInBounds_ne (by omega), Array.getElem?_setIfInBounds_ne (by omega), Array.getElem?_setIfInBounds_ne (by omega), earZero_at (by omega)]; rfl
  · rw [hc]; simp [hz, newE]
  · intro j v hv
    have hj : j < 8 := by
      have := (List.getElem?_eq_some_iff.1 hv).1
      simpa [Ent.vals, Bt.vals] using this
    rw [hc, Array.getElem?_setIfInBounds_ne (by omega), Array.getElem?_setIfInBounds_ne (by omega), Array.getElem?_setIfInBounds_ne (by omega), earZero_at (by omega)]
    unfold earZ
    rw [if_neg (by omega), if_neg (by omega), show (4 + i * 8 + j - 4) % 8 = j by omega, List.getD_eq_getElem?_getD]
    have hv' : Ent.zero.vals[j]? = some v := hv
    rw [hv']; rfl
theorem enew_any (me n timeout : Int) (w : World) :
    Calls Tryd.prog 33 #[.int .i64 me, .int .i64 n, .int .i64 timeout] w fun e w' =>
      e = .returned (.pointer (some ⟨w.heap.size + 1, 0, none⟩)) ∧ EarAt w' (w.heap.size + 1) (newE me n timeout) ∧ Below w.heap.size w w' := by
  have hz := zero_ear
  have hzs := earZero_size
  go_enter Tryd.func33, Tryd.ntmps33
  go_wp2_with (first
    | (go_at_call 52; refine (all_any n _).mono ?_; rintro e w' ⟨rfl, rfl⟩)
    | (go_at_call 27; refine (less_one _ _ _ _ (allN_lt n) _ (cell_new _ _ _)).mono ?_; rintro e w' ⟨rfl, rfl⟩))
  go_ret
  exact ⟨rfl, newE_at me n timeout _ _ (heap_alloc2_new _ _ _), ((Below.refl _ _).alloc (Nat.le_refl _) _).alloc (by simp) _⟩
/-- The clock ticks. -/
def tickE (m : Ear) : Ear := { m with now := m.now + 1 }
theorem EarAt.tick {w : World} {g : Nat} {m : Ear} (h : EarAt w g m) : EarAt (w.setCell ⟨g, 2, none⟩ (.int .i64 (m.now + 1))) g (tickE m) := by
  have ho : ∀ k, k ≠ 2 → (w.setCell ⟨g, 2, none⟩ (.int .i64 (m.now + 1))).cell? ⟨g, k, none⟩ = w.cell? ⟨g, k, none⟩ := fun k hk => World.cell?_setCell_other _ _ _ _ (by intro e; (simp at e <;> omega))
  refine ⟨by simpa [World.setCell] using h.lt, fun k => (World.frozen?_setCell ..).trans (h.nf k), (ho 0 (by omega)).trans h.c0, (ho 1 (by omega)).trans h.c1, World.cell?_setCell_same _ _ _ h.c2, (ho 3 (by omega)).trans h.c3, fun i hi j v hv => ?_⟩
  rw [ho _ (by omega)]
  exact h.e i hi j v hv
theorem tick_any (g : Nat) (m : Ear) (w : World) (hw : EarAt w g m) (wf : m.Wf) :
    Calls Tryd.prog 34 #[.pointer (some ⟨g, 0, none⟩)] w fun e w' => e = .returned (.tuple #[]) ∧ EarAt w' g (tickE m) ∧ w.grownBy w' (some g) := by
  have h2 := hw.c2
  have f2 := hw.nf 2
  have HW := Lib.hid hw
  have h5 : -9223372036854775808 ≤ m.now + 1 := by have := wf.n0; omega
  have h4 : m.now + 1 < 9223372036854775808 := by have := wf.n1; omega
  clear hw wf
  go_enter Tryd.func34, Tryd.ntmps34
  go_wp2
  go_end0
  exact ⟨rfl, HW.out.tick, grown_set (grown_of_below (Below.refl _ _) g) _ _⟩
theorem newE_wf (me n timeout : Int) : (newE me n timeout).Wf := ⟨butN_lt (allN_lt n) _, Int.le_refl _, by show (0 : Int) < _; omega, fun i _ => ⟨Int.le_refl _, Int.le_refl _⟩⟩
theorem Ear.Wf.tick {m : Ear} (h : m.Wf) (hn : m.now + 1 < 4611686018427387904) : (tickE m).Wf :=
  ⟨h.others, by have := h.n0; show 0 ≤ m.now + 1; omega, hn, fun i hi => ⟨(h.a i hi).1, by have := (h.a i hi).2; show (m.l i).at_ ≤ m.now + 1; omega⟩⟩
theorem Ear.Wf.upd {m : Ear} (h : m.Wf) (p : Nat) (f : Ent → Ent) (hf : ∀ x, 0 ≤ x.at_ ∧ x.at_ ≤ m.now → 0 ≤ (f x).at_ ∧ (f x).at_ ≤ m.now) : (m.upd p f).Wf :=
  ⟨h.others, h.n0, h.n1, fun i hi => by
    show 0 ≤ (if i = p then f (m.l i) else m.l i).at_ ∧ (if i = p then f (m.l i) else m.l i).at_ ≤ m.now
    split
    · exact hf _ (h.a i hi)
    · exact h.a i hi⟩
end Go.Proofs.YtjokfjdbioeohaaDoor

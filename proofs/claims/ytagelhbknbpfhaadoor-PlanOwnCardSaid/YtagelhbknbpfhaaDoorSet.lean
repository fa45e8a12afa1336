/-
  What the functions of package set come to, each once.
-/
import Derived.Test.YtagelhbknbpfhaaDoorProg
import Derived.Test.YtagelhbknbpfhaaDoorBits
import Derived.WalkKit
import Derived.WalkSpells
import Derived.Lib.Hide
import Derived.Laws.Bits64b
import Derived.Deep.QuietTactic
import Derived.BigQuiet
namespace Go.Proofs.YtagelhbknbpfhaaDoor
open Go.RowKit
set_option maxHeartbeats 400000

/-- The table of math/bits lies in its variable. -/
def TabOk (w : World) : Prop := ∀ j, j < 64 → w.cell? ⟨0, j, none⟩ = some (.int .u8 (Lib.deBruijn64tab.getD j 0))
theorem TabOk.size {w : World} (h : TabOk w) : 0 < w.heap.size := World.block_lt_of_cell? w _ (h 0 (by decide))
theorem TabOk.below {w w' : World} {B : Nat} (h : TabOk w) (hb : Below B w w') (hB : 0 < B) : TabOk w' := fun j hj => by
  rw [hb.cell (p := ⟨_, j, none⟩) hB]; exact h j hj
theorem TabOk.belowS {w w' : World} (h : TabOk w) (hb : Below w.heap.size w w') : TabOk w' := h.below hb h.size

theorem bit_any (p : Int) (w : World) : Calls Tryd.prog 43 #[.int .i64 p] w fun e w' => e = .returned (.int .u64 (bitN p)) ∧ w = w' := by
  by_cases h0 : p < 0
  · go_enter Tryd.func43, Tryd.ntmps43
    go_wp2
    go_ret
    exact ⟨by rw [bitN_out (.inl h0)]; rfl, rfl⟩
  · by_cases h1 : 64 ≤ p
    · have h2 : 0 ≤ p := by omega
      go_enter Tryd.func43, Tryd.ntmps43
      go_wp2
      go_ret
      exact ⟨by rw [bitN_out (.inr h1)]; rfl, rfl⟩
    · have h2 : 0 ≤ p := by omega
      have h3 : p < 64 := by omega
      have H := Lib.hid (wrap_pow h2 h3)
      clear h0 h1
      go_enter Tryd.func43, Tryd.ntmps43
      go_wp2
      go_ret
      exact ⟨by rw [← H.out]; rfl, rfl⟩
theorem neq0 (n : Nat) : (((n : Nat) : Int) != 0) = (n != 0) := by
  by_cases h : n = 0
  · subst h; rfl
  · have : (n : Int) ≠ 0 := by omega
    rw [bne_iff_ne.2 this, bne_iff_ne.2 h]
theorem eq0 (n : Nat) : (((n : Nat) : Int) == 0) = (n == 0) := by
  by_cases h : n = 0
  · subst h; rfl
  · have : (n : Int) ≠ 0 := by omega
    rw [beq_eq_false_iff_ne.2 this, beq_eq_false_iff_ne.2 h]
theorem ret_bool {a b : Bool} (h : a = b) : Ending.returned (.bool a) = .returned (.bool b) := by rw [h]
theorem ret_int {k : IntKind} {a b : Int} (h : a = b) : Ending.returned (.int k a) = .returned (.int k b) := by rw [h]
theorem has_any (s : Nat) (p : Int) (hs : s < 18446744073709551616) (w : World) :
    Calls Tryd.prog 28 #[.int .u64 s, .int .i64 p] w fun e w' => e = .returned (.bool (hasN s p)) ∧ w = w' := by
  have hb := bits_and_u64_nat s (bitN p) hs (bitN_lt p)
  go_enter Tryd.func28, Tryd.ntmps28
  go_wp2_with (go_at_call 43; refine (bit_any _ _).mono ?_; rintro e w' ⟨rfl, rfl⟩)
  go_ret
  exact ⟨ret_bool (by rw [← hasN_eq]; exact neq0 _), rfl⟩
theorem with_slice (s : Nat) (b o c : Nat) (xs : List Int) (hs : s < 18446744073709551616) (hx : xs.length ≤ 1000000) (w : World)
    (hc : ∀ i, i < xs.length → w.cell? ⟨b, o + i, none⟩ = some (.int .i64 (xs.getD i 0))) :
    Calls Tryd.prog 33 #[.int .u64 s, .slice (some ⟨b, o, none⟩) xs.length c] w fun e w' => e = .returned (.int .u64 (withN s xs)) ∧ w = w' := by
  go_enter Tryd.func33, Tryd.ntmps33
  go_wp2
  go_loop [0, 9] (fun t i => ∃ k : Nat, k ≤ xs.length ∧ i = .int .i64 k ∧ t = .int .u64 (withN s (xs.take k))) (fun _ i => xs.length - (intOf i).toNat)
  case atStart => exact ⟨0, Nat.zero_le _, rfl, rfl⟩
  case round =>
    obtain ⟨k, hk, rfl, rfl⟩ := hrel
    by_cases hlt : k < xs.length
    · have hcell := hc k hlt
      have hor := bits_or_u64_nat (withN s (xs.take k)) (bitN xs[k]) (withN_lt hs _) (bitN_lt _)
      have hst := Lib.hid (withN_take s xs k hlt)
      go_wp2_with (go_at_call 43; refine (bit_any _ _).mono ?_; rintro e w' ⟨rfl, rfl⟩)
      go_round
      case rel => exact ⟨k + 1, by omega, by go_num, by rw [hst.out]⟩
      case measure => simp [intOf]; omega
    · go_wp2
      go_ret
      exact ⟨by rw [List.take_of_length_le (by omega)]; rfl, rfl⟩
theorem with_nil (s : Nat) (w : World) :
    Calls Tryd.prog 33 #[.int .u64 s, .slice none 0 0] w fun e w' => e = .returned (.int .u64 s) ∧ w = w' := by
  go_enter Tryd.func33, Tryd.ntmps33
  go_wp2
  go_loop [0, 9] (fun t i => i = .int .i64 0 ∧ t = .int .u64 s) (fun _ _ => 0)
  case atStart => exact ⟨rfl, rfl⟩
  case round =>
    obtain ⟨rfl, rfl⟩ := hrel
    go_wp2
    go_ret
    exact ⟨rfl, rfl⟩
/-- One more. -/
theorem with_one (s : Nat) (g c : Nat) (p : Int) (hs : s < 18446744073709551616) (w : World) (hc : w.cell? ⟨g, 0, none⟩ = some (.int .i64 p)) :
    Calls Tryd.prog 33 #[.int .u64 s, .slice (some ⟨g, 0, none⟩) 1 c] w fun e w' => e = .returned (.int .u64 (s ||| bitN p : Nat)) ∧ w = w' :=
  with_slice s g 0 c [p] hs (by simp) w (fun i hi => by
    have : i = 0 := by simp at hi; omega
    subst this; exact hc)
theorem of_one (g c : Nat) (p : Int) (w : World) (hc : w.cell? ⟨g, 0, none⟩ = some (.int .i64 p)) :
    Calls Tryd.prog 32 #[.slice (some ⟨g, 0, none⟩) 1 c] w fun e w' => e = .returned (.int .u64 (bitN p)) ∧ w = w' := by
  have h0 := with_one 0 g c p (by decide) w hc
  rw [Nat.zero_or] at h0
  have H := Lib.hid h0
  clear h0
  go_enter Tryd.func32, Tryd.ntmps32
  go_wp2_with (go_at_call 33; refine H.out.mono ?_; rintro e w' ⟨rfl, rfl⟩)
  go_ret
  exact ⟨rfl, rfl⟩
theorem but_any (s t : Nat) (hs : s < 18446744073709551616) (ht : t < 18446744073709551616) (w : World) :
    Calls Tryd.prog 47 #[.int .u64 s, .int .u64 t] w fun e w' => e = .returned (.int .u64 (butN s t)) ∧ w = w' := by
  have hb := bits_but hs ht
  go_enter Tryd.func47, Tryd.ntmps47
  go_wp2
  go_ret
  exact ⟨rfl, rfl⟩
/-- Less, of one. -/
theorem less_one (s : Nat) (g c : Nat) (p : Int) (hs : s < 18446744073709551616) (w : World) (hc : w.cell? ⟨g, 0, none⟩ = some (.int .i64 p)) :
    Calls Tryd.prog 31 #[.int .u64 s, .slice (some ⟨g, 0, none⟩) 1 c] w fun e w' => e = .returned (.int .u64 (butN s (bitN p))) ∧ w = w' := by
  go_enter Tryd.func31, Tryd.ntmps31
  go_wp2_with (first | (go_at_call 32; refine (of_one _ _ _ _ hc).mono ?_; rintro e w' ⟨rfl, rfl⟩) | (go_at_call 47; refine (but_any _ _ hs (bitN_lt _) _).mono ?_; rintro e w' ⟨rfl, rfl⟩))
  go_ret
  exact ⟨rfl, rfl⟩
theorem tz_core (x k idx : Nat) (w : World) (hx0 : ((x : Int) == 0) = false)
    (key : IntKind.u64.wrap (bits BinOp.and IntKind.u64 (x : Int) (IntKind.u64.wrap (-(x : Int))) * 285870213051353865) / 288230376151711744 = (idx : Int))
    (hi : idx < 64) (hk : k < 64) (hcell : w.cell? ⟨0, idx, none⟩ = some (.int .u8 k)) :
    Calls Tryd.prog 48 #[.int .u64 x] w fun e w' => e = .returned (.int .i64 k) ∧ w = w' := by
  go_enter Tryd.func48, Tryd.ntmps48
  go_wp2_with (simp only [key])
  go_ret
  exact ⟨rfl, rfl⟩
theorem tz_key (x a : Nat) (hx : x < 18446744073709551616) (hx0 : x ≠ 0) (hlow : x &&& (18446744073709551616 - x) = a) :
    IntKind.u64.wrap (bits BinOp.and IntKind.u64 (x : Int) (IntKind.u64.wrap (-(x : Int))) * 285870213051353865) / 288230376151711744 = ((a * 285870213051353865 % 18446744073709551616 / 288230376151711744 : Nat) : Int) := by
  have e1 : IntKind.u64.wrap (-(x : Int)) = ((18446744073709551616 - x : Nat) : Int) := by rw [IntKind.wrap_u64]; omega
  rw [e1, bits_and_u64_nat x _ hx (by omega), hlow, IntKind.wrap_u64]
  omega
theorem tz_any (x : Nat) (hx : x < 18446744073709551616) (hx0 : x ≠ 0) (w : World) (hT : TabOk w) :
    Calls Tryd.prog 48 #[.int .u64 x] w fun e w' => e = .returned (.int .i64 (Lib.ctz 64 x)) ∧ w = w' := by
  obtain ⟨hlow, hk⟩ := Lib.lowest_bit 64 x hx0 hx
  obtain ⟨hi, htab⟩ := Lib.deBruijn64_at _ hk
  have hcell := hT _ hi
  rw [htab] at hcell
  exact tz_core x _ _ w (by simp; omega) (tz_key x _ hx hx0 hlow) hi hk hcell
/-- The least one; -1 of none. -/
def minN (s : Nat) : Int := if s = 0 then -1 else Lib.ctz 64 s
theorem min_any (s : Nat) (hs : s < 18446744073709551616) (w : World) (hT : TabOk w) :
    Calls Tryd.prog 36 #[.int .u64 s] w fun e w' => e = .returned (.int .i64 (minN s)) ∧ w = w' := by
  by_cases h0 : s = 0
  · subst h0
    go_enter Tryd.func36, Tryd.ntmps36
    go_wp2
    go_ret
    exact ⟨rfl, rfl⟩
  · have h1 : ((s : Int) == 0) = false := by simp; omega
    have H := Lib.hid (tz_any s hs h0 w hT)
    have E := Lib.hid (show minN s = Lib.ctz 64 s by unfold minN; rw [if_neg h0])
    clear h0 hT
    go_enter Tryd.func36, Tryd.ntmps36
    go_wp2_with (go_at_call 48; refine H.out.mono ?_; rintro e w' ⟨rfl, rfl⟩)
    go_ret
    exact ⟨by rw [E.out]; rfl, rfl⟩
end Go.Proofs.YtagelhbknbpfhaaDoor

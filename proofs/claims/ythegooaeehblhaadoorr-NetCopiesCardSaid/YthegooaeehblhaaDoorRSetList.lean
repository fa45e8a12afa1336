/-
  What (set.Set).List comes to: a slice of its own that holds the members, rising.
-/
import Derived.Test.YthegooaeehblhaaDoorRSet
import Derived.Carry
namespace Go.Proofs.YthegooaeehblhaaDoorR
open Go.RowKit
set_option maxHeartbeats 400000

theorem info_int : (Tryd.prog.info? 3).map (fun i => (i.zero, i.size, i.bytes)) = some (some (.int .i64 0), 1, 8) := by kernel_rfl
/-- A slice value that is the call's own (from block B on) and reads as these ints. -/
def IntsOwn (w : World) (B : Nat) (v : Value) (xs : List Nat) : Prop := w.ownsRow B 3 1 v xs.length (xs.map fun (n : Nat) => Value.int .i64 (n : Int))
theorem listN_snoc_step {s t : Nat} {done : List Nat} (h : listN s = done ++ listN t) (h0 : t ≠ 0) (ht : t < 18446744073709551616) :
    listN s = (done ++ [Lib.ctz 64 t]) ++ listN (t &&& (t - 1)) := by
  rw [h, (listN_step h0 ht).2.1]; simp
theorem minN_pos {t : Nat} (h : t ≠ 0) : minN t = (Lib.ctz 64 t : Nat) := by unfold minN; rw [if_neg h]
set_option maxRecDepth 100000 in
theorem list_any (s : Nat) (hs : s < 18446744073709551616) (w : World) (hT : TabOk w) :
    Calls Tryd.prog 25 #[.int .u64 s] w fun e w' => ∃ v, e = .returned v ∧ IntsOwn w' w.heap.size v (listN s) ∧ Below w.heap.size w w' := by
  obtain ⟨i0, hi, hz0, hz1, hz2⟩ := info_parts info_int
  obtain ⟨B, hB⟩ : ∃ B, B = w.heap.size := ⟨_, rfl⟩
  have HB := Lib.hid hB
  clear hB
  have HTab := Lib.hid hT
  clear hT
  go_enter Tryd.func25, Tryd.ntmps25
  go_wp2
  go_loopw [3, 4] (fun v i wr => ∃ (t : Nat) (done : List Nat), t < 18446744073709551616 ∧ i = .int .u64 t ∧ listN s = done ++ listN t ∧ IntsOwn wr B v done ∧ Below w.heap.size w wr) (fun _ i _ => (intOf i).toNat)
  case atStart => exact ⟨s, [], hs, rfl, rfl, World.ownsRow_nil _ _ _ _, Below.refl _ _⟩
  case round =>
    obtain ⟨t, done, ht, rfl, hl, hown, hbel⟩ := hrel
    by_cases h0 : t = 0
    · subst h0
      have HL := Lib.hid hl
      clear hl
      go_wp2
      go_ret
      refine ⟨_, rfl, ?_, hbel⟩
      rw [HL.out, listN_zero, List.append_nil]
      rw [← HB.out]; exact hown
    · have h1 : ((t : Int) != 0) = true := by simp; omega
      have HT2 := Lib.hid (HTab.out.belowS hbel)
      have HM := Lib.hid (min_any t ht wr HT2.out)
      have HS := Lib.hid (listN_snoc_step hl h0 ht)
      have HN := Lib.hid (listN_step h0 ht)
      have HL := Lib.hid hl
      have HMP := Lib.hid (minN_pos h0)
      clear hl
      have hown' : wr.ownsRow B 3 1 _ done.length (done.map fun (n : Nat) => Value.int .i64 (n : Int)) := hown
      have hlen : done.length ≤ 64 := by
        have e1 := listN_length s
        rw [HL.out, List.length_append] at e1
        omega
      have hsz := hbel.size
      have hBs : B ≤ wr.heap.size := by rw [HB.out]; exact hsz
      have hband : bits .and .u64 (t : Int) ((t : Int) - 1) = ((t &&& (t - 1) : Nat) : Int) := by rw [u64_pred h0]; exact bits_and_u64_nat _ _ ht (by omega)
      have HLT := Lib.hid (fun k hk => hown'.lt k hk)
      clear hown
      go_wp2_with (first | (go_at_call 35; refine HM.out.mono ?_; rintro e w' ⟨rfl, rfl⟩) | (at_builtin; go_loud (refine wpList_append_own _ rfl _ _ 56 rfl B 3 i0 (.int .i64 0) 1 8 Tryd.underlying56 hi hz0 hz1 hz2 rfl (by decide) _ _ _ rfl (hown'.alloc _) ⟨wr.heap.size, 0, none⟩ 1 1 [.int .i64 (minN t)] rfl rfl ?c1 ?c2 ?c3 ?c4 ?c5 ?_)))
      case c1 => exact cell_one_new _ _ _
      case c2 => intro u hu; simp at hu; subst hu; rfl
      case c3 => unfold maxLen; omega
      case c4 => omega
      case c5 => simp; omega
      intro v' w1 hown1 hgrow _
      have HG := Lib.hid hgrow
      clear hgrow
      go_wp2
      refine ⟨⟨t &&& (t - 1), done ++ [Lib.ctz 64 t], and_lt64 ht, rfl, HS.out, ?_, ?_⟩, ?_⟩
      · unfold IntsOwn
        rw [HMP.out] at hown1
        simpa using hown1
      · exact (hbel.alloc hsz _).grown HG.out (by simp; omega) (fun k hk => by have := (HLT.out k hk).1; rw [HB.out] at this; exact this)
      · have := HN.out.2.2
        simp only [intOf]
        omega
end Go.Proofs.YthegooaeehblhaaDoorR

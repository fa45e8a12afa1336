/-
  Package heard: ears that live in memory of a call's own; the answers that the document fixes ahead (awake).
-/
import Derived.Test.YtjokfjdbioeohaaDoorEarE
import Derived.Test.YtjokfjdbioeohaaDoorLinkA
namespace Go.Proofs.YtjokfjdbioeohaaDoor
open Go.RowKit Go.BigFrame
set_option maxHeartbeats 1000000
set_option maxRecDepth 100000
/-- An ear in memory of the call's own. -/
structure Ek (w0 w : World) (g : Nat) (m : Ear) : Prop where
  tab : TabOk w
  at_ : EarAt w g m
  bel : Below w0.heap.size w0 w
  new : w0.heap.size ≤ g
  pos : 0 < w0.heap.size
  wf : m.Wf
section
variable {w0 w w' : World} {g : Nat} {m m' : Ear}
theorem Ek.below (h : Ek w0 w g m) (hb : Below w.heap.size w w') : Ek w0 w' g m :=
  ⟨h.tab.belowS hb, h.at_.below hb, bthen' h.bel hb, h.new, h.pos, h.wf⟩
theorem Ek.grown (h : Ek w0 w g m) (hg : w.grownBy w' (some g)) (hw : EarAt w' g m') (wf : m'.Wf) : Ek w0 w' g m' :=
  ⟨h.tab.grown hg (by have := h.new; have := h.pos; omega), hw, below_grown h.bel hg h.new, h.new, h.pos, wf⟩
theorem Ek.keep {c : Nat} (h : Ek w0 w c m) (hg : w.grownBy w' (some g)) (hne : c ≠ g) (hn : w0.heap.size ≤ g) : Ek w0 w' c m :=
  ⟨h.tab.grown hg (by have := h.pos; omega), h.at_.grown hg hne, below_grown h.bel hg hn, h.new, h.pos, h.wf⟩
theorem Ek.make (hT : TabOk w) (hb : Below w0.heap.size w0 w) (hpos : 0 < w0.heap.size) (me n timeout : Int) :
    Calls Tryd.prog 33 #[.int .i64 me, .int .i64 n, .int .i64 timeout] w fun e w' => ∃ g, e = .returned (.pointer (some ⟨g, 0, none⟩)) ∧ Ek w0 w' g (newE me n timeout) ∧ w.heap.size < g ∧ Below w.heap.size w w' :=
  (enew_any me n timeout w).mono fun _ _ ⟨he, hw, hb'⟩ => ⟨_, he, ⟨hT.belowS hb', hw, bthen' hb hb', by have := hb.size; omega, hpos, newE_wf _ _ _⟩, by omega, hb'⟩
theorem Ek.tick (h : Ek w0 w g m) (hn : m.now + 1 < 4611686018427387904) :
    Calls Tryd.prog 34 #[.pointer (some ⟨g, 0, none⟩)] w fun e w' => e = .returned (.tuple #[]) ∧ Ek w0 w' g (tickE m) ∧ w.grownBy w' (some g) :=
  (tick_any g m w h.at_ h.wf).mono fun _ _ ⟨he, hw, hg⟩ => ⟨he, h.grown hg hw (h.wf.tick hn), hg⟩
theorem Ek.hear (h : Ek w0 w g m) (p : Int) :
    Calls Tryd.prog 35 #[.pointer (some ⟨g, 0, none⟩), .int .i64 p] w fun e w' => e = .returned (.tuple #[]) ∧ Ek w0 w' g (hearE m p) ∧ w.grownBy w' (some g) :=
  (hear_any g m p w h.at_ h.wf).mono fun _ _ ⟨he, hw, hg⟩ => ⟨he, h.grown hg hw (h.wf.hear p), hg⟩
theorem Ek.beat (h : Ek w0 w g m) (p : Int) (b : Bt) :
    Calls Tryd.prog 37 #[.pointer (some ⟨g, 0, none⟩), .int .i64 p, b.v] w fun e w' => e = .returned (.tuple #[]) ∧ Ek w0 w' g (beatE m p b) ∧ w.grownBy w' (some g) :=
  (beat_any g m p b w h.at_ h.wf).mono fun _ _ ⟨he, hw, hg⟩ => ⟨he, h.grown hg hw (h.wf.beat p b), hg⟩
theorem Ek.forget (h : Ek w0 w g m) (s : Nat) (hs : s < 18446744073709551616) :
    Calls Tryd.prog 38 #[.pointer (some ⟨g, 0, none⟩), .int .u64 s] w fun e w' => e = .returned (.tuple #[]) ∧ Ek w0 w' g (forgetE m s) ∧ w.grownBy w' (some g) :=
  (forget_any g m s hs w h.tab h.at_ h.wf).mono fun _ _ ⟨he, hw, hg⟩ => ⟨he, h.grown hg hw (h.wf.forget s), hg⟩
theorem Ek.of (h : Ek w0 w g m) (p : Int) :
    Calls Tryd.prog 39 #[.pointer (some ⟨g, 0, none⟩), .int .i64 p] w fun e w' => e = .returned (ofV m p) ∧ Ek w0 w' g m ∧ Below w.heap.size w w' :=
  (eof_any g m p w h.at_ h.wf).mono fun _ _ ⟨he, hb⟩ => ⟨he, h.below hb, hb⟩
theorem Ek.reach (h : Ek w0 w g m) :
    Calls Tryd.prog 41 #[.pointer (some ⟨g, 0, none⟩)] w fun e w' => e = .returned (.int .u64 (reachE m)) ∧ Ek w0 w' g m ∧ Below w.heap.size w w' :=
  (reach_any g m w h.tab h.at_ h.wf).mono fun _ _ ⟨he, hb⟩ => ⟨he, h.below hb, hb⟩
theorem Ek.epoch (h : Ek w0 w g m) :
    Calls Tryd.prog 43 #[.pointer (some ⟨g, 0, none⟩)] w fun e w' => e = .returned (.int .u64 (epochE m)) ∧ Ek w0 w' g m ∧ Below w.heap.size w w' :=
  (epoch_any g m w h.at_).mono fun _ _ ⟨he, hb⟩ => ⟨he, h.below hb, hb⟩
theorem Ek.strange (h : Ek w0 w g m) (s ce : Nat) (cr : Int) (hs : s < 18446744073709551616) :
    Calls Tryd.prog 45 #[.pointer (some ⟨g, 0, none⟩), .int .u64 s, .agg #[.int .u64 ce, .int .i64 cr]] w fun e w' => e = .returned (.int .u64 (strE m s ce cr)) ∧ Ek w0 w' g m ∧ Below w.heap.size w w' :=
  (strange_any g m s ce cr hs w h.tab h.at_ h.wf).mono fun _ _ ⟨he, hb⟩ => ⟨he, h.below hb, hb⟩
end
/-- The ears that awake goes through. -/
def hw0 : Ear := newE 0 3 2
def hw1 : Ear := hearE hw0 1
def hwb : Bt := ⟨4, 0, 0, 0, 3⟩
def hw2 : Ear := beatE hw1 2 hwb
def hw3 : Ear := tickE hw2
def hw4 : Ear := tickE hw3
def hw5 : Ear := tickE hw4
theorem hw_n2 : hw2.now = 0 := by decide +kernel
theorem hw_n3 : hw3.now = 1 := by decide +kernel
theorem hw_n4 : hw4.now = 2 := by decide +kernel
theorem hw_r4 : reachE hw4 = 7 := by decide +kernel
theorem hw_r5 : reachE hw5 = 1 := by decide +kernel
theorem hw_of : ofV hw5 2 = .tuple #[.agg #[.int .u64 4, .int .i64 0, .int .u64 0, .int .i64 0, .int .u64 3], .bool true] := by
  unfold ofV
  rw [show ofE hw5 2 = (hwb, true) by unfold ofE; rw [if_pos (by decide +kernel)]; rfl]
  rfl
theorem hw_ep : epochE hw5 = 4 := by decide +kernel
theorem hw_all : allN 3 = 7 := by decide +kernel
theorem hw_str : strE hw5 7 9 0 = 4 := by decide +kernel
theorem hw_bit : bitN 2 = 4 := by decide +kernel
theorem hawake_any (w : World) (hT : TabOk w) : Calls Tryd.prog 32 #[] w fun e w' => e = .returned (.bool true) ∧ Below w.heap.size w w' := by
  have HT := Lib.hid hT
  have hpos : 0 < w.heap.size := Nat.lt_of_le_of_lt (Nat.zero_le _) hT.size
  clear hT
  have v1 := hw_r4
  have v2 := hw_r5
  have v3 := hw_of
  have v4 := hw_ep
  have v5 := hw_all
  have v6 := hw_str
  have v7 := hw_bit
  go_enter Tryd.func32, Tryd.ntmps32
  go_wp2_with fail
  refine (Ek.make (w0 := w) HT.out (Below.refl _ _) hpos 0 3 2).mono ?_
  rintro e w1 ⟨g, rfl, hL, -, -⟩
  have L0 := Lib.hid hL
  clear hL
  go_wp2_with fail
  refine (L0.out.hear (m := hw0) 1).mono ?_
  rintro e w2 ⟨rfl, hL, -⟩
  have L1 := Lib.hid hL
  clear hL
  go_wp2_with fail
  refine (L1.out.beat (m := hw1) 2 hwb).mono ?_
  rintro e w3 ⟨rfl, hL, -⟩
  have L2 := Lib.hid hL
  clear hL
  go_wp2_with fail
  refine (L2.out.tick (m := hw2) (by rw [hw_n2]; decide)).mono ?_
  rintro e w4 ⟨rfl, hL, -⟩
  have L3 := Lib.hid hL
  clear hL
  go_wp2_with fail
  refine (L3.out.tick (m := hw3) (by rw [hw_n3]; decide)).mono ?_
  rintro e w5 ⟨rfl, hL, -⟩
  have L4 := Lib.hid hL
  clear hL
  go_wp2_with fail
  refine (L4.out.reach (m := hw4)).mono ?_
  rintro e w6 ⟨rfl, hL, -⟩
  have L5 := Lib.hid hL
  clear hL
  go_wp2_with fail
  refine (L5.out.tick (m := hw4) (by rw [hw_n4]; decide)).mono ?_
  rintro e w7 ⟨rfl, hL, -⟩
  have L6 := Lib.hid hL
  clear hL
  go_wp2_with fail
  refine (L6.out.of (m := hw5) 2).mono ?_
  rintro e w8 ⟨rfl, hL, -⟩
  have L7 := Lib.hid hL
  clear hL
  rw [hw_of]
  have L8 := Lib.hid (L7.out.below ((Below.refl w8.heap.size w8).alloc (Nat.le_refl _) (.cells hwb.vals.toArray 67)))
  have B8 := Lib.hid (heap_alloc_new w8 (.cells hwb.vals.toArray 67))
  go_wp2_with fail
  refine (L8.out.reach (m := hw5)).mono ?_
  rintro e w9 ⟨rfl, hL, hb⟩
  have L9 := Lib.hid hL
  have x4 : w9.cell? ⟨w8.heap.size, 4, none⟩ = some (.int .u64 3) := by rw [cell_of_row w9 _ 4 _ _ _ (bblock hb B8.out)]; rfl
  clear hL hb
  go_wp2_with fail
  refine (L9.out.epoch (m := hw5)).mono ?_
  rintro e w10 ⟨rfl, hL, -⟩
  have L10 := Lib.hid hL
  clear hL x4
  go_wp2_with fail
  refine (all_any 3 _).mono ?_
  rintro e w' ⟨rfl, rfl⟩
  go_wp2_with fail
  refine (L10.out.strange (m := hw5) 7 9 0 (by decide)).mono ?_
  rintro e w11 ⟨rfl, hL, -⟩
  have L11 := Lib.hid hL
  clear hL
  go_wp2_with fail
  refine (of_one _ _ _ _ (cell_new _ _ _)).mono ?_
  rintro e w' ⟨rfl, rfl⟩
  go_wp2_with fail
  go_ret
  exact ⟨rfl, L11.out.bel.alloc L11.out.bel.size _⟩
end Go.Proofs.YtjokfjdbioeohaaDoor

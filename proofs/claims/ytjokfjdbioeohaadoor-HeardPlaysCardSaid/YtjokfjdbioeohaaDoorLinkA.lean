/-
  Package link: windows that live in memory of a call's own; the answers that the document fixes ahead (awake).
-/
import Derived.Test.YtjokfjdbioeohaaDoorLinkC
namespace Go.Proofs.YtjokfjdbioeohaaDoor
open Go.RowKit Go.BigFrame
set_option maxHeartbeats 400000
set_option maxRecDepth 100000
/-- A window in memory of the call's own. -/
structure Lk (w0 w : World) (g : Nat) (m : Win) : Prop where
  tab : TabOk w
  at_ : WinAt w g m
  bel : Below w0.heap.size w0 w
  new : w0.heap.size ≤ g
  pos : 0 < w0.heap.size
  wf : m.Wf
theorem TabOk.grown {w w' : World} {g : Nat} (h : TabOk w) (hg : w.grownBy w' (some g)) (hne : g ≠ 0) : TabOk w' := fun j hj => by
  have e := hg.block 0 h.size (by intro e; exact hne (Option.some.inj e).symm)
  rw [World.cell?_of_block (w := w) (a := ⟨_, j, none⟩) e]; exact h j hj
theorem below_grown {w0 w w' : World} {g : Nat} (h : Below w0.heap.size w0 w) (hg : w.grownBy w' (some g)) (hn : w0.heap.size ≤ g) : Below w0.heap.size w0 w' :=
  h.grown hg h.size (fun k hk => by cases hk; exact hn)
section
variable {w0 w w' : World} {g : Nat} {m m' : Win}
theorem Lk.below (h : Lk w0 w g m) (hb : Below w.heap.size w w') : Lk w0 w' g m :=
  ⟨h.tab.belowS hb, h.at_.below hb, bthen' h.bel hb, h.new, h.pos, h.wf⟩
theorem Lk.grown (h : Lk w0 w g m) (hg : w.grownBy w' (some g)) (hw : WinAt w' g m') (wf : m'.Wf) : Lk w0 w' g m' :=
  ⟨h.tab.grown hg (by have := h.new; have := h.pos; omega), hw, below_grown h.bel hg h.new, h.new, h.pos, wf⟩
end
theorem Win.Wf.next {m : Win} (h : m.Wf) (hs : m.sent + 1 < 4294967296) (r : Int) : (nextW m r).Wf := by
  unfold nextW
  split
  · exact ⟨h.others, hs, fun i hi => Nat.le_succ_of_le (h.got i hi), h.size0, h.size1⟩
  · exact h
theorem Win.Wf.gotW {m : Win} (h : m.Wf) (p : Int) (n : Nat) : (gotW m p n).Wf := by
  unfold Proofs.YtjokfjdbioeohaaDoor.gotW
  split
  · refine ⟨h.others, h.sent, fun i hi => ?_, h.size0, h.size1⟩
    have := h.got i hi
    show (if (i : Int) = p then max (m.got i) (min n m.sent) else m.got i) ≤ m.sent
    split <;> omega
  · exact h
section
variable {w0 w : World} {g : Nat} {m : Win}
theorem Lk.next (h : Lk w0 w g m) (r : Int) (hr : r ≤ 9223372036854775807) (hs : m.sent + 1 < 4294967296) :
    Calls Tryd.prog 16 #[.pointer (some ⟨g, 0, none⟩), .int .i64 r] w fun e w' => e = .returned (nextV m r) ∧ Lk w0 w' g (nextW m r) :=
  (next_any g m r hr w h.tab h.at_ h.wf hs).mono fun _ _ ⟨he, hw, hg⟩ => ⟨he, h.grown hg hw (h.wf.next hs r)⟩
theorem Lk.got (h : Lk w0 w g m) (p : Int) (n : Nat) :
    Calls Tryd.prog 18 #[.pointer (some ⟨g, 0, none⟩), .int .i64 p, .int .u32 n] w fun e w' => e = .returned (.tuple #[]) ∧ Lk w0 w' g (gotW m p n) :=
  (got_any g m p n w h.at_ h.wf).mono fun _ _ ⟨he, hw, hg⟩ => ⟨he, h.grown hg hw (h.wf.gotW p n)⟩
theorem Lk.room (h : Lk w0 w g m) (r : Int) (hr : r ≤ 9223372036854775807) :
    Calls Tryd.prog 14 #[.pointer (some ⟨g, 0, none⟩), .int .i64 r] w fun e w' => e = .returned (.bool (roomW m r)) ∧ Lk w0 w' g m :=
  (room_any g m r hr w h.tab h.at_ h.wf).mono fun _ _ ⟨he, hb⟩ => ⟨he, h.below hb⟩
theorem Lk.low (h : Lk w0 w g m) :
    Calls Tryd.prog 21 #[.pointer (some ⟨g, 0, none⟩)] w fun e w' => e = .returned (.int .u32 (lowW m)) ∧ Lk w0 w' g m :=
  (low_any g m w h.tab h.at_ h.wf).mono fun _ _ ⟨he, hb⟩ => ⟨he, h.below hb⟩
theorem Lk.lag (h : Lk w0 w g m) :
    Calls Tryd.prog 23 #[.pointer (some ⟨g, 0, none⟩)] w fun e w' => e = .returned (.int .u64 (lagW m)) ∧ Lk w0 w' g m :=
  (lag_any g m w h.tab h.at_ h.wf).mono fun _ _ ⟨he, hb⟩ => ⟨he, h.below hb⟩
theorem Lk.sent (h : Lk w0 w g m) :
    Calls Tryd.prog 20 #[.pointer (some ⟨g, 0, none⟩)] w fun e w' => e = .returned (.int .u32 m.sent) ∧ Lk w0 w' g m :=
  (sent_any g m w h.at_).mono fun _ _ ⟨he, hb⟩ => ⟨he, hb ▸ h⟩
theorem Lk.of (h : Lk w0 w g m) (p : Int) :
    Calls Tryd.prog 25 #[.pointer (some ⟨g, 0, none⟩), .int .i64 p] w fun e w' => e = .returned (.int .u32 (ofW m p)) ∧ Lk w0 w' g m :=
  (of_any g m p w h.at_ h.wf).mono fun _ _ ⟨he, hb⟩ => ⟨he, hb ▸ h⟩
end
/-- The windows that awake goes through. -/
def aw0 : Win := newW 0 3 2
def aw1 : Win := nextW aw0 0
def aw2 : Win := nextW aw1 0
def aw3 : Win := nextW aw2 0
def aw4 : Win := gotW aw3 1 1
def aw5 : Win := nextW aw4 0
theorem aw_s1 : aw0.sent = 0 := rfl
theorem aw_v0 : nextV aw0 0 = .tuple #[.int .u32 1, .int .i64 0] := by unfold nextV; rw [show roomW aw0 0 = true by decide +kernel]; rfl
theorem aw_1 : aw1.sent = 1 := by decide +kernel
theorem aw_v1 : nextV aw1 0 = .tuple #[.int .u32 2, .int .i64 0] := by unfold nextV; rw [show roomW aw1 0 = true by decide +kernel, aw_1]; rfl
theorem aw_2 : aw2.sent = 2 := by decide +kernel
theorem aw_v2 : nextV aw2 0 = .tuple #[.int .u32 0, .int .i64 6] := by unfold nextV; rw [show roomW aw2 0 = false by decide +kernel]; rfl
theorem aw_3 : aw3.sent = 2 := by decide +kernel
theorem aw_4 : aw4.sent = 2 := by decide +kernel
theorem aw_v4 : nextV aw4 0 = .tuple #[.int .u32 3, .int .i64 0] := by unfold nextV; rw [show roomW aw4 0 = true by decide +kernel, aw_4]; rfl
theorem aw_5 : aw5.sent = 3 := by decide +kernel
theorem aw_low : lowW aw5 = 1 := by decide +kernel
theorem aw_lag : lagW aw5 = 2 := by decide +kernel
theorem aw_of : ofW aw5 0 = 3 := by decide +kernel
theorem with_01 : withN 0 [0, 1] = 3 := by decide +kernel
theorem of_01 (g c : Nat) (w : World) (h0 : w.cell? ⟨g, 0, none⟩ = some (.int .i64 0)) (h1 : w.cell? ⟨g, 1, none⟩ = some (.int .i64 1)) :
    Calls Tryd.prog 29 #[.slice (some ⟨g, 0, none⟩) 2 c] w fun e w' => e = .returned (.int .u64 3) ∧ w = w' := by
  have H := Lib.hid (with_slice 0 g 0 c [0, 1] (by decide) (by simp) w (fun i hi => by
    have : i = 0 ∨ i = 1 := by simp at hi; omega
    rcases this with rfl | rfl
    · exact h0
    · exact h1))
  rw [with_01] at H
  go_enter Tryd.func29, Tryd.ntmps29
  go_wp2_with (go_at_call 50; refine H.out.mono ?_; rintro e w' ⟨rfl, rfl⟩)
  go_ret
  exact ⟨rfl, rfl⟩
/-- A new window, in memory of the call's own. -/
theorem Lk.make {w0 w : World} (hT : TabOk w) (hb : Below w0.heap.size w0 w) (hpos : 0 < w0.heap.size) (me : Int) (members : Nat) (size : Int) (hm : members < 18446744073709551616) :
    Calls Tryd.prog 12 #[.int .i64 me, .int .u64 members, .int .i64 size] w fun e w' => ∃ g, e = .returned (.pointer (some ⟨g, 0, none⟩)) ∧ Lk w0 w' g (newW me members size) :=
  (new_any me members size hm w).mono fun _ _ ⟨he, hw, hb'⟩ => ⟨_, he, hT.belowS hb', hw, bthen' hb hb', by have := hb.size; omega, hpos, newW_wf hm⟩
theorem awake_any (w : World) (hT : TabOk w) : Calls Tryd.prog 11 #[] w fun e w' => e = .returned (.bool true) ∧ Below w.heap.size w w' := by
  have HT := Lib.hid hT
  have hpos : 0 < w.heap.size := Nat.lt_of_le_of_lt (Nat.zero_le _) hT.size
  clear hT
  have v0 := aw_v0
  have v1 := aw_v1
  have v2 := aw_v2
  have v4 := aw_v4
  have x1 := aw_low
  have x2 := aw_lag
  have x3 := aw_of
  have x4 := aw_5
  go_enter Tryd.func11, Tryd.ntmps11
  go_wp2_with fail
  refine (of_01 _ _ _ (by go_simp) (by go_simp)).mono ?_
  rintro e w' ⟨rfl, rfl⟩
  go_wp2_with fail
  refine (Lk.make (w0 := w) (HT.out.belowS ((Below.refl _ _).alloc (Nat.le_refl _) _)) ((Below.refl _ _).alloc (Nat.le_refl _) _) hpos 0 3 2 (by decide)).mono ?_
  rintro e w1 ⟨g, rfl, hL⟩
  have L0 := Lib.hid hL
  clear hL
  go_wp2_with fail
  refine (L0.out.next (m := aw0) 0 (by decide) (by decide)).mono ?_
  rintro e w2 ⟨rfl, hL⟩
  have L1 := Lib.hid hL
  clear hL
  go_wp2_with fail
  refine (L1.out.next (m := aw1) 0 (by decide) (by rw [aw_1]; decide)).mono ?_
  rintro e w3 ⟨rfl, hL⟩
  have L2 := Lib.hid hL
  clear hL
  go_wp2_with fail
  refine (L2.out.next (m := aw2) 0 (by decide) (by rw [aw_2]; decide)).mono ?_
  rintro e w4 ⟨rfl, hL⟩
  have L3 := Lib.hid hL
  clear hL
  go_wp2_with fail
  refine (L3.out.got (m := aw3) 1 1).mono ?_
  rintro e w5 ⟨rfl, hL⟩
  have L4 := Lib.hid hL
  clear hL
  go_wp2_with fail
  refine (L4.out.next (m := aw4) 0 (by decide) (by rw [aw_4]; decide)).mono ?_
  rintro e w6 ⟨rfl, hL⟩
  have L5 := Lib.hid hL
  clear hL
  go_wp2_with fail
  refine (L5.out.low (m := aw5)).mono ?_
  rintro e w7 ⟨rfl, hL⟩
  have L6 := Lib.hid hL
  clear hL
  go_wp2_with fail
  refine (L6.out.sent (m := aw5)).mono ?_
  rintro e w8 ⟨rfl, hL⟩
  have L7 := Lib.hid hL
  clear hL
  go_wp2_with fail
  refine (L7.out.lag (m := aw5)).mono ?_
  rintro e w9 ⟨rfl, hL⟩
  have L8 := Lib.hid hL
  clear hL
  go_wp2_with fail
  refine (of_one _ _ _ _ (cell_new _ _ _)).mono ?_
  rintro e w' ⟨rfl, rfl⟩
  have L9 := Lib.hid (L8.out.below ((Below.refl _ _).alloc (Nat.le_refl _) (.cells #[.int .i64 1] 3)))
  have x5 : bitN 1 = 2 := rfl
  go_wp2_with fail
  refine (L9.out.of (m := aw5) 0).mono ?_
  rintro e w10 ⟨rfl, hL⟩
  have L10 := Lib.hid hL
  clear hL
  go_wp2_with fail
  go_ret
  exact ⟨rfl, L10.out.bel⟩
end Go.Proofs.YtjokfjdbioeohaaDoor

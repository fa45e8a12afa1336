/-
  LinkPlays: the walk: for every script the law returns true.
-/
import Derived.Test.YtjokfjdbioeohaaDoorLinkRef4
import Derived.Test.YtjokfjdbioeohaaDoorLinkBounds
namespace Go.Proofs.YtjokfjdbioeohaaDoor
open Go.RowKit Go.BigFrame
set_option maxHeartbeats 1000000
set_option maxRecDepth 100000
/-- The document's window in a block of its own. -/
def RefAt (w : World) (B : Nat) (m : Win) : Prop := ∃ cs, w.heap[B]? = some (.cells cs 32 (0, 0)) ∧ RefCells cs m
/-- Both windows. -/
structure Duo (w0 w : World) (g B : Nat) (m r : Win) : Prop where
  lk : Lk w0 w g m
  ref : RefAt w B r
  new : w0.heap.size ≤ B
  ne : B ≠ g
section
variable {w0 w w' : World} {g B : Nat} {m m' r r' : Win}
theorem RefAt.below (h : RefAt w B r) (hb : Below w.heap.size w w') : RefAt w' B r := by
  obtain ⟨cs, h1, h2⟩ := h; exact ⟨cs, bblock hb h1, h2⟩
theorem Duo.below (h : Duo w0 w g B m r) (hb : Below w.heap.size w w') : Duo w0 w' g B m r := ⟨h.lk.below hb, h.ref.below hb, h.new, h.ne⟩
theorem RefAt.grown (h : RefAt w B r) (hg : w.grownBy w' (some g)) (hne : B ≠ g) : RefAt w' B r := by
  obtain ⟨cs, h1, h2⟩ := h
  exact ⟨cs, by rw [hg.block B (Array.getElem?_eq_some_iff.1 h1).1 (by intro e; exact hne (Option.some.inj e))]; exact h1, h2⟩
theorem Duo.act (h : Duo w0 w g B m r) (hg : w.grownBy w' (some g)) (hw : WinAt w' g m') (wf : m'.Wf) : Duo w0 w' g B m' r :=
  ⟨h.lk.grown hg hw wf, h.ref.grown hg h.ne, h.new, h.ne⟩
theorem Duo.put (h : Duo w0 w g B m r) {cs : Array Value} (hg : w.grownBy w' (some B)) (hw : w'.heap[B]? = some (.cells cs 32 (0, 0))) (hc : RefCells cs r') : Duo w0 w' g B m r' :=
  ⟨h.lk.keep hg (Ne.symm h.ne) h.new, ⟨cs, hw, hc⟩, h.new, h.ne⟩
end
theorem RefAt.lt {w : World} {B : Nat} {r : Win} (h : RefAt w B r) : B < w.heap.size := by
  obtain ⟨cs, h1, _⟩ := h; exact (Array.getElem?_eq_some_iff.1 h1).1
theorem BoxAct.lt {w : World} {B : Nat} {a : LAct} (h : BoxAct w B a) : B < w.heap.size := (Array.getElem?_eq_some_iff.1 h).1
theorem Duo.side {w0 w w' : World} {g B z : Nat} {m r : Win} (h : Duo w0 w g B m r) (hg : w.grownBy w' (some z)) (h1 : z ≠ g) (h2 : z ≠ B) (h3 : w0.heap.size ≤ z) : Duo w0 w' g B m r :=
  ⟨h.lk.keep hg (Ne.symm h1) h3, h.ref.grown hg (Ne.symm h2), h.new, h.ne⟩
theorem plays_walk (me : Int) (members : Nat) (size : Int) (l : List LAct) (v : Value) (a : Option Addr) (c b o : Nat) (hm : members < 18446744073709551616) (w : World) (hT : TabOk w) (hA : ActsAt w v l a c b o) :
    Calls Tryd.prog 3 #[.int .i64 me, .int .u64 members, .int .i64 size, v] w fun e w' => e = .returned (.bool true) ∧ Below w.heap.size w w' := by
  obtain rfl := hA.v
  have hz := zero_ref
  have hzs := refZero_size
  have HT := Lib.hid hT
  have HW := Lib.hid (awake_any w hT)
  have HS := Lib.hid hA
  have HM := Lib.hid hm
  have hpos : 0 < w.heap.size := Nat.lt_of_le_of_lt (Nat.zero_le _) hT.size
  clear hT hA hm
  by_cases h3 : 300 < l.length
  · have h3' : (300 : Int) < (l.length : Int) := by omega
    go_enter Tryd.func3, Tryd.ntmps3
    go_wp2_with (go_at_call 11; refine HW.out.mono ?_; rintro e w1 ⟨rfl, hb⟩; have HB := Lib.hid hb; clear hb)
    go_ret
    exact ⟨rfl, HB.out⟩
  · have h3' : (l.length : Int) ≤ 300 := by omega
    have HL3 := Lib.hid (show l.length ≤ 300 by omega)
    clear h3
    go_enter Tryd.func3, Tryd.ntmps3
    go_wp2_with fail
    refine HW.out.mono ?_
    rintro e w1 ⟨rfl, hb⟩
    have HB := Lib.hid hb
    clear hb
    go_wp2_with fail
    refine (Lk.make (w0 := w) (HT.out.belowS HB.out) HB.out hpos me members size HM.out).mono ?_
    rintro e w2 ⟨g, rfl, hL⟩
    have L0 := Lib.hid hL
    clear hL
    go_wp2_with fail
    refine (rnew_any me members size HM.out w2).mono ?_
    rintro e w3 ⟨cs0, rfl, hc0, hb⟩
    have C0 := Lib.hid hc0
    have L1 := Lib.hid (L0.out.below hb)
    have hi0 : Hid ((Tryd.prog.info? 32).map (·.size) = some cs0.size) := Lib.hid (by rw [hc0.n]; exact size_ref)
    clear hb hc0
    go_wp2_with (refine wpList_store_row rfl 32 _ _ rfl w3.heap.size (by rfl) cs0 (by rfl) refZero 32 (heap_alloc_new _ _) (by rw [refZero_size, C0.out.n]) hi0.out C0.out.one ?_; intro w4 hw4 hg4)
    have D0 := Lib.hid (show Duo w w4 g w3.heap.size (bdW me members size l 0) (bdW me members size l 0) from
      ⟨(L1.out.below ((Below.refl _ _).alloc (Nat.le_refl _) _)).keep hg4 (by have := L1.out.at_.lt; omega) (L1.out.bel.size), ⟨cs0, hw4, C0.out⟩, L1.out.bel.size, by have := L1.out.at_.lt; omega⟩)
    obtain ⟨B, hB⟩ : ∃ B, w3.heap.size = B := ⟨_, rfl⟩
    rw [hB] at D0
    rw [hB]
    clear hB hw4 hg4 C0 hi0 L1 L0 HW HB HT
    go_loopw [11, 12, 13, 14, 15, 16, 17] (fun i _ _ _ _ _ _ wr => ∃ k : Nat, k ≤ l.length ∧ i = .int .i64 k ∧ Duo w wr g B (bdW me members size l k) (bdW me members size l k)) (fun i _ _ _ _ _ _ _ => l.length - (intOf i).toNat)
    case atStart => exact ⟨0, Nat.zero_le _, rfl, D0.out⟩
    case round =>
      obtain ⟨k, hk, rfl, hL⟩ := hrel
      have D2 := Lib.hid hL
      clear hL D0
      by_cases hlt : k < l.length
      · have hkl' : (k : Int) < (l.length : Int) := by omega
        have S := HS.out.below D2.out.lk.bel
        have c0 := S.p k hlt
        have c1 := S.n k hlt
        have c2 := S.s k hlt
        have hok := Lib.hid (S.ok _ (List.getElem_mem hlt))
        obtain ⟨rfl, _⟩ := HS.out.a (by omega)
        have E := Lib.hid (bdW_succ me members size l k hlt)
        have HS1 := Lib.hid (bdW_sent me members size l k HL3.out)
        have HS2 := Lib.hid (bdW_sent me members size l (k + 1) HL3.out)
        obtain ⟨x, hx⟩ : ∃ x, l[k] = x := ⟨_, rfl⟩
        rw [hx] at E c0 c1 c2 hok
        obtain ⟨m, hm⟩ : ∃ m, bdW me members size l k = m := ⟨_, rfl⟩
        obtain ⟨m', hm'⟩ : ∃ m', bdW me members size l (k + 1) = m' := ⟨_, rfl⟩
        rw [hm, hm'] at E
        rw [hm] at D2 HS1
        rw [hm'] at HS2
        have HM' := Lib.hid hm'
        clear S hx hm hm'
        obtain ⟨W, hW⟩ : ∃ W : World, W = wr.alloc (.cells #[.int .i64 x.p, .int .i64 x.n, .int .u32 x.s] 35) := ⟨_, rfl⟩
        have HWW := Lib.hid hW
        have DW := Lib.hid (show Duo w W g B m m by rw [hW]; exact D2.out.below ((Below.refl _ _).alloc (Nat.le_refl _) _))
        have BW := Lib.hid (show BoxAct W wr.heap.size x by rw [hW]; exact heap_alloc_new _ _)
        have hne : Hid (wr.heap.size ≠ g) := Lib.hid (by have := D2.out.lk.at_.lt; omega)
        have hneB : Hid (wr.heap.size ≠ B) := Lib.hid (by obtain ⟨cs, h, _⟩ := D2.out.ref; have := (Array.getElem?_eq_some_iff.1 h).1; omega)
        obtain ⟨cs, hcs, hrc⟩ := DW.out.ref
        have HCS := Lib.hid hcs
        have HRC := Lib.hid hrc
        have hsz : Hid ((Tryd.prog.info? 32).map (·.size) = some cs.size) := Lib.hid (by rw [hrc.n]; exact size_ref)
        obtain ⟨C, hC⟩ : ∃ C : World → Prop, ∀ w', C w' ↔ Below W.heap.size W w' := ⟨_, fun _ => Iff.rfl⟩
        have l1 := Lib.hid (fun w' h => (BW.out.below ((hC w').1 h)).c1)
        have ag := Lib.hid (fun w' (h : C w') => bblock ((hC w').1 h) HCS.out)
        have k1 := Lib.hid (fun w' (h : C w') => (room_any g m x.n hok.out.n w' (DW.out.below ((hC w').1 h)).lk.tab (DW.out.below ((hC w').1 h)).lk.at_ DW.out.lk.wf).mono (fun e w'' (he : e = .returned (.bool (roomW m x.n)) ∧ Below w'.heap.size w' w'') => (⟨he.1, (hC w'').2 (bthen' ((hC w').1 h) he.2)⟩ : e = .returned (.bool (roomW m x.n)) ∧ C w'')))
        have k2 := Lib.hid (fun w' (h : C w') => (rroom_any cs m x.n hok.out.n DW.out.lk.wf HRC.out w').mono (fun e w'' (he : e = .returned (.bool (roomW m x.n)) ∧ Below w'.heap.size w' w'') => (⟨he.1, (hC w'').2 (bthen' ((hC w').1 h) he.2)⟩ : e = .returned (.bool (roomW m x.n)) ∧ C w'')))
        have hC0 : C { W with drawn := W.drawn + 1 } := (hC _).2 (Below.drew (Below.refl _ _))
        have HC := Lib.hid hC
        rw [hW] at hC0
        clear hC hW hcs hrc
        go_wp2
        refine wp_region_quiet (C := C) (by kernel_rfl) (by kernel_rfl) hC0 ?_
        dsimp only []
        repeat (first | go_big_quiet_skip | (go_big_quiet_want; first | (refine quiet_load _ _ (by rfl) ?_ _ (by rfl) (by first | exact l1.out) ?_; (· intro w; simp); (simp only [Act.put, List.setIfInBounds_toArray, List.set_cons_zero, List.set_cons_succ]); go_big_quiet_on) | (refine quiet_load_agg Tryd.underlying32 rfl hsz.out _ (by rfl) _ (by rfl) _ _ ag.out ?_; (simp only [Act.put, List.setIfInBounds_toArray, List.set_cons_zero, List.set_cons_succ]); go_big_quiet_on) | (refine quiet_call 14 _ _ (by rfl) Tryd.call14 _ ?_ k1.out ?_; (· rfl); (simp only [Act.put, List.setIfInBounds_toArray, List.set_cons_zero, List.set_cons_succ]); go_big_quiet_on) | (refine quiet_call 15 _ _ (by rfl) Tryd.call15 _ ?_ k2.out ?_; (· rfl); (simp only [Act.put, List.setIfInBounds_toArray, List.set_cons_zero, List.set_cons_succ]); go_big_quiet_on) | (go_big_quiet_op; go_big_quiet_on) | (go_big_quiet_op; refine Exists.intro _ ⟨fun _ _ => rfl, ?_⟩; go_big_quiet_on)))
        refine wpQuiet_nil ?_
        intro w3 hC3
        have D3 := Lib.hid (DW.out.below ((HC.out _).1 hC3))
        have B3 := Lib.hid (BW.out.below ((HC.out _).1 hC3))
        clear hC3 hC0 l1 k1 k2 c0 c1 c2
        have WF' := Lib.hid (show m'.Wf by rw [E.out]; exact D3.out.lk.wf.act (by have := HS1.out; omega) x)
        obtain ⟨cs3, hcs3, hrc3⟩ := D3.out.ref
        have HCS3 := Lib.hid hcs3
        have HRC3 := Lib.hid hrc3
        have hsz3 : Hid ((Tryd.prog.info? 32).map (·.size) = some cs3.size) := Lib.hid (by rw [hrc3.n]; exact size_ref)
        clear hcs3 hrc3 HCS HRC hsz ag
        have b0 := B3.out.c0
        by_cases hp : x.p < 0
        · have b1 := B3.out.c1
          have E2 := Lib.hid (show m' = nextW m x.n by rw [E.out]; unfold actW; rw [if_pos hp])
          cases hr : roomW m x.n
          · have hv : nextV m x.n = .tuple #[.int .u32 0, .int .i64 6] := by unfold nextV; rw [hr]; rfl
            clear hr
            go_wp2_with fail
            refine (next_any g m x.n hok.out.n w3 D3.out.lk.tab D3.out.lk.at_ D3.out.lk.wf (by have := HS1.out; omega)).mono ?_
            rintro e w4 ⟨rfl, hw, hg⟩
            have D4 := Lib.hid (D3.out.act hg (by rw [E2.out]; exact hw) WF'.out)
            have B4 := Lib.hid (B3.out.grown hg hne.out)
            clear hw hg b0 b1
            have b0 := B4.out.c0
            have b1 := B4.out.c1
            obtain ⟨cs4, hcs4, hrc4⟩ := D4.out.ref
            have HCS4 := Lib.hid hcs4
            have HRC4 := Lib.hid hrc4
            have hsz4 : Hid ((Tryd.prog.info? 32).map (·.size) = some cs4.size) := Lib.hid (by rw [hrc4.n]; exact size_ref)
            clear hcs4 hrc4
            go_wp2_with (refine wpList_load_row rfl 32 _ rfl B (by rfl) 32 cs4 (0, 0) _ HCS4.out Tryd.underlying32 rfl hsz4.out ?_; simp only [Act.put, List.setIfInBounds_toArray, List.set_cons_zero, List.set_cons_succ])
            refine (rnext_any cs4 m x.n hok.out.n D3.out.lk.wf (by have := HS1.out; omega) HRC4.out w4).mono ?_
            rintro e w5 ⟨cs5, n5, c5, rfl, hv5, hrc5, hb⟩
            rw [hv] at hv5
            simp only [Value.tuple.injEq, Array.mk.injEq, List.cons.injEq, Value.int.injEq, and_true, true_and] at hv5
            obtain ⟨rfl, rfl⟩ := hv5
            have D5 := Lib.hid (D4.out.below hb)
            have B5 := Lib.hid (B4.out.below hb)
            have HRC5 := Lib.hid hrc5
            have hsz5 : Hid ((Tryd.prog.info? 32).map (·.size) = some cs5.size) := Lib.hid (by rw [hrc5.n]; exact size_ref)
            have DA := Lib.hid (D5.out.below ((Below.refl _ _).alloc (Nat.le_refl _) (.cells refZero 32)))
            have BA := Lib.hid (B5.out.below ((Below.refl _ _).alloc (Nat.le_refl _) (.cells refZero 32)))
            have G5 := Lib.hid (show g < w5.heap.size from D5.out.lk.at_.lt)
            have BL5 := Lib.hid (show B < w5.heap.size from D5.out.ref.lt)
            clear hrc5 hb b0 b1
            go_wp2_with (first
              | (refine wpList_store_row rfl 32 _ _ rfl w5.heap.size (by rfl) cs5 (by rfl) refZero 32 (heap_alloc_new _ _) (by rw [refZero_size, HRC5.out.n]) hsz5.out HRC5.out.one ?_; intro w6 hw6 hg6; have D6 := Lib.hid (DA.out.side hg6 (Nat.ne_of_gt G5.out) (Nat.ne_of_gt BL5.out) D5.out.lk.bel.size); have B6 := Lib.hid (BA.out.grown hg6 (Nat.ne_of_lt B5.out.lt)); have HW6 := Lib.hid hw6; clear hw6 hg6; obtain ⟨cur6, hcur6, hq6⟩ := D6.out.ref; have HCUR6 := Lib.hid hcur6; have HQ6 := Lib.hid (show cur6.size = cs5.size by rw [hq6.n, HRC5.out.n]); clear hcur6 hq6)
              | (refine wpList_load_row rfl 32 _ rfl w5.heap.size (by rfl) 32 cs5 (0, 0) _ HW6.out Tryd.underlying32 rfl hsz5.out ?_; simp only [Act.put, List.setIfInBounds_toArray, List.set_cons_zero, List.set_cons_succ])
              | (refine wpList_store_row rfl 32 _ _ rfl B (by rfl) cs5 (by rfl) cur6 32 HCUR6.out HQ6.out hsz5.out HRC5.out.one ?_; intro w7 hw7 hg7; have D7 := Lib.hid (show Duo w w7 g B m' m' from D6.out.put hg7 hw7 (by rw [E2.out]; exact HRC5.out)); have B7 := Lib.hid (B6.out.grown hg7 hneB.out); clear hw7 hg7))
            obtain ⟨cs7, hcs7, hrc7⟩ := D7.out.ref
            have HCS7 := Lib.hid hcs7
            have HRC7 := Lib.hid hrc7
            have hsz7 : Hid ((Tryd.prog.info? 32).map (·.size) = some cs7.size) := Lib.hid (by rw [hrc7.n]; exact size_ref)
            clear hcs7 hrc7
            obtain ⟨C2, hC2⟩ : ∃ C2 : World → Prop, ∀ w', C2 w' ↔ Below w7.heap.size w7 w' := ⟨_, fun _ => Iff.rfl⟩
            have l0 := Lib.hid (fun w' h => (B7.out.below ((hC2 w').1 h)).c0)
            have l66 := Lib.hid (fun w' (h : C2 w') => (show w'.cell? ⟨B, 66, none⟩ = some (.int .u32 m'.sent) by rw [cell_of_row w' _ 66 _ _ _ (bblock ((hC2 w').1 h) HCS7.out)]; exact HRC7.out.sent))
            have ag := Lib.hid (fun w' (h : C2 w') => bblock ((hC2 w').1 h) HCS7.out)
            have DC := Lib.hid (fun w' (h : C2 w') => D7.out.below ((hC2 w').1 h))
            have k1 := Lib.hid (fun w' (h : C2 w') => (sent_any g m' w' (DC.out w' h).lk.at_).mono (fun e w'' (he : e = .returned (.int .u32 m'.sent) ∧ w' = w'') => (⟨he.1, he.2 ▸ h⟩ : e = .returned (.int .u32 m'.sent) ∧ C2 w'')))
            have k2 := Lib.hid (fun w' (h : C2 w') => (low_any g m' w' (DC.out w' h).lk.tab (DC.out w' h).lk.at_ WF'.out).mono (fun e w'' (he : e = .returned (.int .u32 (lowW m')) ∧ Below w'.heap.size w' w'') => (⟨he.1, (hC2 w'').2 (bthen' ((hC2 w').1 h) he.2)⟩ : e = .returned (.int .u32 (lowW m')) ∧ C2 w'')))
            have k3 := Lib.hid (fun w' (h : C2 w') => (rlow_any cs7 m' HRC7.out w').mono (fun e w'' (he : e = .returned (.int .u32 (lowW m')) ∧ Below w'.heap.size w' w'') => (⟨he.1, (hC2 w'').2 (bthen' ((hC2 w').1 h) he.2)⟩ : e = .returned (.int .u32 (lowW m')) ∧ C2 w'')))
            have k4 := Lib.hid (fun w' (h : C2 w') => (lag_any g m' w' (DC.out w' h).lk.tab (DC.out w' h).lk.at_ WF'.out).mono (fun e w'' (he : e = .returned (.int .u64 (lagW m')) ∧ Below w'.heap.size w' w'') => (⟨he.1, (hC2 w'').2 (bthen' ((hC2 w').1 h) he.2)⟩ : e = .returned (.int .u64 (lagW m')) ∧ C2 w'')))
            have k5 := Lib.hid (fun w' (h : C2 w') => (rlag_any cs7 m' HRC7.out w').mono (fun e w'' (he : e = .returned (.int .u64 (lagW m')) ∧ Below w'.heap.size w' w'') => (⟨he.1, (hC2 w'').2 (bthen' ((hC2 w').1 h) he.2)⟩ : e = .returned (.int .u64 (lagW m')) ∧ C2 w'')))
            have k6 := Lib.hid (fun w' (h : C2 w') => (of_any g m' x.p w' (DC.out w' h).lk.at_ WF'.out).mono (fun e w'' (he : e = .returned (.int .u32 (ofW m' x.p)) ∧ w' = w'') => (⟨he.1, he.2 ▸ h⟩ : e = .returned (.int .u32 (ofW m' x.p)) ∧ C2 w'')))
            have k7 := Lib.hid (fun w' (h : C2 w') => (of_any g m' me w' (DC.out w' h).lk.at_ WF'.out).mono (fun e w'' (he : e = .returned (.int .u32 (ofW m' me)) ∧ w' = w'') => (⟨he.1, he.2 ▸ h⟩ : e = .returned (.int .u32 (ofW m' me)) ∧ C2 w'')))
            have k8 := Lib.hid (fun w' (h : C2 w') => (rof_any cs7 m' x.p HRC7.out w').mono (fun e w'' (he : e = .returned (.int .u32 (ofW m' x.p)) ∧ Below w'.heap.size w' w'') => (⟨he.1, (hC2 w'').2 (bthen' ((hC2 w').1 h) he.2)⟩ : e = .returned (.int .u32 (ofW m' x.p)) ∧ C2 w'')))
            have k9 := Lib.hid (fun w' (h : C2 w') => (rof_any cs7 m' me HRC7.out w').mono (fun e w'' (he : e = .returned (.int .u32 (ofW m' me)) ∧ Below w'.heap.size w' w'') => (⟨he.1, (hC2 w'').2 (bthen' ((hC2 w').1 h) he.2)⟩ : e = .returned (.int .u32 (ofW m' me)) ∧ C2 w'')))
            have hC20 : C2 { w7 with drawn := w7.drawn + 1 } := (hC2 _).2 (Below.drew (Below.refl _ _))
            have HC2 := Lib.hid hC2
            clear hC2
            go_wp2
            try simp only [Act.put]
            refine wp_region_quiet (C := C2) (by kernel_rfl) (by kernel_rfl) hC20 ?_
            dsimp only []
            repeat (first | go_big_quiet_skip | (go_big_quiet_want; first | (refine quiet_load _ _ (by rfl) ?_ _ (by rfl) (by first | exact l0.out | exact l66.out) ?_; (· intro w; simp); (simp only [Act.put, List.setIfInBounds_toArray, List.set_cons_zero, List.set_cons_succ]); go_big_quiet_on) | (refine quiet_load_agg Tryd.underlying32 rfl hsz7.out _ (by rfl) _ (by rfl) _ _ ag.out ?_; (simp only [Act.put, List.setIfInBounds_toArray, List.set_cons_zero, List.set_cons_succ]); go_big_quiet_on) | (refine quiet_call 20 _ _ (by rfl) Tryd.call20 _ ?_ k1.out ?_; (· rfl); (simp only [Act.put, List.setIfInBounds_toArray, List.set_cons_zero, List.set_cons_succ]); go_big_quiet_on) | (refine quiet_call 21 _ _ (by rfl) Tryd.call21 _ ?_ k2.out ?_; (· rfl); (simp only [Act.put, List.setIfInBounds_toArray, List.set_cons_zero, List.set_cons_succ]); go_big_quiet_on) | (refine quiet_call 22 _ _ (by rfl) Tryd.call22 _ ?_ k3.out ?_; (· rfl); (simp only [Act.put, List.setIfInBounds_toArray, List.set_cons_zero, List.set_cons_succ]); go_big_quiet_on) | (refine quiet_call 23 _ _ (by rfl) Tryd.call23 _ ?_ k4.out ?_; (· rfl); (simp only [Act.put, List.setIfInBounds_toArray, List.set_cons_zero, List.set_cons_succ]); go_big_quiet_on) | (refine quiet_call 24 _ _ (by rfl) Tryd.call24 _ ?_ k5.out ?_; (· rfl); (simp only [Act.put, List.setIfInBounds_toArray, List.set_cons_zero, List.set_cons_succ]); go_big_quiet_on) | (refine quiet_call 25 _ _ (by rfl) Tryd.call25 _ ?_ k6.out ?_; (· rfl); (simp only [Act.put, List.setIfInBounds_toArray, List.set_cons_zero, List.set_cons_succ]); go_big_quiet_on) | (refine quiet_call 25 _ _ (by rfl) Tryd.call25 _ ?_ k7.out ?_; (· rfl); (simp only [Act.put, List.setIfInBounds_toArray, List.set_cons_zero, List.set_cons_succ]); go_big_quiet_on) | (refine quiet_call 26 _ _ (by rfl) Tryd.call26 _ ?_ k8.out ?_; (· rfl); (simp only [Act.put, List.setIfInBounds_toArray, List.set_cons_zero, List.set_cons_succ]); go_big_quiet_on) | (refine quiet_call 26 _ _ (by rfl) Tryd.call26 _ ?_ k9.out ?_; (· rfl); (simp only [Act.put, List.setIfInBounds_toArray, List.set_cons_zero, List.set_cons_succ]); go_big_quiet_on) | (go_big_quiet_op; go_big_quiet_on) | (go_big_quiet_op; refine Exists.intro _ ⟨fun _ _ => rfl, ?_⟩; go_big_quiet_on)))
            refine wpQuiet_nil ?_
            intro w8 hC8
            have D8 := Lib.hid (D7.out.below ((HC2.out _).1 hC8))
            clear hC8 hC20 l0 l66 k1 k2 k3 k4 k5 k6 k7 k8 k9
            go_wp2
            exact ⟨⟨k + 1, by omega, by go_num, by rw [HM'.out]; exact D8.out⟩, by simp [intOf]; omega⟩
          · have hv : nextV m x.n = .tuple #[.int .u32 ((m.sent : Int) + 1), .int .i64 0] := by unfold nextV; rw [hr]; rfl
            have hs3 : (m.sent : Int) + 1 < 4294967296 := by have := HS1.out; omega
            clear hr
            go_wp2_with fail
            refine (next_any g m x.n hok.out.n w3 D3.out.lk.tab D3.out.lk.at_ D3.out.lk.wf (by have := HS1.out; omega)).mono ?_
            rintro e w4 ⟨rfl, hw, hg⟩
            have D4 := Lib.hid (D3.out.act hg (by rw [E2.out]; exact hw) WF'.out)
            have B4 := Lib.hid (B3.out.grown hg hne.out)
            clear hw hg b0 b1
            have b0 := B4.out.c0
            have b1 := B4.out.c1
            obtain ⟨cs4, hcs4, hrc4⟩ := D4.out.ref
            have HCS4 := Lib.hid hcs4
            have HRC4 := Lib.hid hrc4
            have hsz4 : Hid ((Tryd.prog.info? 32).map (·.size) = some cs4.size) := Lib.hid (by rw [hrc4.n]; exact size_ref)
            clear hcs4 hrc4
            go_wp2_with (refine wpList_load_row rfl 32 _ rfl B (by rfl) 32 cs4 (0, 0) _ HCS4.out Tryd.underlying32 rfl hsz4.out ?_; simp only [Act.put, List.setIfInBounds_toArray, List.set_cons_zero, List.set_cons_succ])
            refine (rnext_any cs4 m x.n hok.out.n D3.out.lk.wf (by have := HS1.out; omega) HRC4.out w4).mono ?_
            rintro e w5 ⟨cs5, n5, c5, rfl, hv5, hrc5, hb⟩
            rw [hv] at hv5
            simp only [Value.tuple.injEq, Array.mk.injEq, List.cons.injEq, Value.int.injEq, and_true, true_and] at hv5
            obtain ⟨rfl, rfl⟩ := hv5
            have D5 := Lib.hid (D4.out.below hb)
            have B5 := Lib.hid (B4.out.below hb)
            have HRC5 := Lib.hid hrc5
            have hsz5 : Hid ((Tryd.prog.info? 32).map (·.size) = some cs5.size) := Lib.hid (by rw [hrc5.n]; exact size_ref)
            have DA := Lib.hid (D5.out.below ((Below.refl _ _).alloc (Nat.le_refl _) (.cells refZero 32)))
            have BA := Lib.hid (B5.out.below ((Below.refl _ _).alloc (Nat.le_refl _) (.cells refZero 32)))
            have G5 := Lib.hid (show g < w5.heap.size from D5.out.lk.at_.lt)
            have BL5 := Lib.hid (show B < w5.heap.size from D5.out.ref.lt)
            clear hrc5 hb b0 b1
            go_wp2_with (first
              | (refine wpList_store_row rfl 32 _ _ rfl w5.heap.size (by rfl) cs5 (by rfl) refZero 32 (heap_alloc_new _ _) (by rw [refZero_size, HRC5.out.n]) hsz5.out HRC5.out.one ?_; intro w6 hw6 hg6; have D6 := Lib.hid (DA.out.side hg6 (Nat.ne_of_gt G5.out) (Nat.ne_of_gt BL5.out) D5.out.lk.bel.size); have B6 := Lib.hid (BA.out.grown hg6 (Nat.ne_of_lt B5.out.lt)); have HW6 := Lib.hid hw6; clear hw6 hg6; obtain ⟨cur6, hcur6, hq6⟩ := D6.out.ref; have HCUR6 := Lib.hid hcur6; have HQ6 := Lib.hid (show cur6.size = cs5.size by rw [hq6.n, HRC5.out.n]); clear hcur6 hq6)
              | (refine wpList_load_row rfl 32 _ rfl w5.heap.size (by rfl) 32 cs5 (0, 0) _ HW6.out Tryd.underlying32 rfl hsz5.out ?_; simp only [Act.put, List.setIfInBounds_toArray, List.set_cons_zero, List.set_cons_succ])
              | (refine wpList_store_row rfl 32 _ _ rfl B (by rfl) cs5 (by rfl) cur6 32 HCUR6.out HQ6.out hsz5.out HRC5.out.one ?_; intro w7 hw7 hg7; have D7 := Lib.hid (show Duo w w7 g B m' m' from D6.out.put hg7 hw7 (by rw [E2.out]; exact HRC5.out)); have B7 := Lib.hid (B6.out.grown hg7 hneB.out); clear hw7 hg7))
            obtain ⟨cs7, hcs7, hrc7⟩ := D7.out.ref
            have HCS7 := Lib.hid hcs7
            have HRC7 := Lib.hid hrc7
            have hsz7 : Hid ((Tryd.prog.info? 32).map (·.size) = some cs7.size) := Lib.hid (by rw [hrc7.n]; exact size_ref)
            clear hcs7 hrc7
            obtain ⟨C2, hC2⟩ : ∃ C2 : World → Prop, ∀ w', C2 w' ↔ Below w7.heap.size w7 w' := ⟨_, fun _ => Iff.rfl⟩
            have l0 := Lib.hid (fun w' h => (B7.out.below ((hC2 w').1 h)).c0)
            have l66 := Lib.hid (fun w' (h : C2 w') => (show w'.cell? ⟨B, 66, none⟩ = some (.int .u32 m'.sent) by rw [cell_of_row w' _ 66 _ _ _ (bblock ((hC2 w').1 h) HCS7.out)]; exact HRC7.out.sent))
            have ag := Lib.hid (fun w' (h : C2 w') => bblock ((hC2 w').1 h) HCS7.out)
            have DC := Lib.hid (fun w' (h : C2 w') => D7.out.below ((hC2 w').1 h))
            have k1 := Lib.hid (fun w' (h : C2 w') => (sent_any g m' w' (DC.out w' h).lk.at_).mono (fun e w'' (he : e = .returned (.int .u32 m'.sent) ∧ w' = w'') => (⟨he.1, he.2 ▸ h⟩ : e = .returned (.int .u32 m'.sent) ∧ C2 w'')))
            have k2 := Lib.hid (fun w' (h : C2 w') => (low_any g m' w' (DC.out w' h).lk.tab (DC.out w' h).lk.at_ WF'.out).mono (fun e w'' (he : e = .returned (.int .u32 (lowW m')) ∧ Below w'.heap.size w' w'') => (⟨he.1, (hC2 w'').2 (bthen' ((hC2 w').1 h) he.2)⟩ : e = .returned (.int .u32 (lowW m')) ∧ C2 w'')))
            have k3 := Lib.hid (fun w' (h : C2 w') => (rlow_any cs7 m' HRC7.out w').mono (fun e w'' (he : e = .returned (.int .u32 (lowW m')) ∧ Below w'.heap.size w' w'') => (⟨he.1, (hC2 w'').2 (bthen' ((hC2 w').1 h) he.2)⟩ : e = .returned (.int .u32 (lowW m')) ∧ C2 w'')))
            have k4 := Lib.hid (fun w' (h : C2 w') => (lag_any g m' w' (DC.out w' h).lk.tab (DC.out w' h).lk.at_ WF'.out).mono (fun e w'' (he : e = .returned (.int .u64 (lagW m')) ∧ Below w'.heap.size w' w'') => (⟨he.1, (hC2 w'').2 (bthen' ((hC2 w').1 h) he.2)⟩ : e = .returned (.int .u64 (lagW m')) ∧ C2 w'')))
            have k5 := Lib.hid (fun w' (h : C2 w') => (rlag_any cs7 m' HRC7.out w').mono (fun e w'' (he : e = .returned (.int .u64 (lagW m')) ∧ Below w'.heap.size w' w'') => (⟨he.1, (hC2 w'').2 (bthen' ((hC2 w').1 h) he.2)⟩ : e = .returned (.int .u64 (lagW m')) ∧ C2 w'')))
            have k6 := Lib.hid (fun w' (h : C2 w') => (of_any g m' x.p w' (DC.out w' h).lk.at_ WF'.out).mono (fun e w'' (he : e = .returned (.int .u32 (ofW m' x.p)) ∧ w' = w'') => (⟨he.1, he.2 ▸ h⟩ : e = .returned (.int .u32 (ofW m' x.p)) ∧ C2 w'')))
            have k7 := Lib.hid (fun w' (h : C2 w') => (of_any g m' me w' (DC.out w' h).lk.at_ WF'.out).mono (fun e w'' (he : e = .returned (.int .u32 (ofW m' me)) ∧ w' = w'') => (⟨he.1, he.2 ▸ h⟩ : e = .returned (.int .u32 (ofW m' me)) ∧ C2 w'')))
            have k8 := Lib.hid (fun w' (h : C2 w') => (rof_any cs7 m' x.p HRC7.out w').mono (fun e w'' (he : e = .returned (.int .u32 (ofW m' x.p)) ∧ Below w'.heap.size w' w'') => (⟨he.1, (hC2 w'').2 (bthen' ((hC2 w').1 h) he.2)⟩ : e = .returned (.int .u32 (ofW m' x.p)) ∧ C2 w'')))
            have k9 := Lib.hid (fun w' (h : C2 w') => (rof_any cs7 m' me HRC7.out w').mono (fun e w'' (he : e = .returned (.int .u32 (ofW m' me)) ∧ Below w'.heap.size w' w'') => (⟨he.1, (hC2 w'').2 (bthen' ((hC2 w').1 h) he.2)⟩ : e = .returned (.int .u32 (ofW m' me)) ∧ C2 w'')))
            have hC20 : C2 { w7 with drawn := w7.drawn + 1 } := (hC2 _).2 (Below.drew (Below.refl _ _))
            have HC2 := Lib.hid hC2
            clear hC2
            go_wp2
            try simp only [Act.put]
            refine wp_region_quiet (C := C2) (by kernel_rfl) (by kernel_rfl) hC20 ?_
            dsimp only []
            repeat (first | go_big_quiet_skip | (go_big_quiet_want; first | (refine quiet_load _ _ (by rfl) ?_ _ (by rfl) (by first | exact l0.out | exact l66.out) ?_; (· intro w; simp); (simp only [Act.put, List.setIfInBounds_toArray, List.set_cons_zero, List.set_cons_succ]); go_big_quiet_on) | (refine quiet_load_agg Tryd.underlying32 rfl hsz7.out _ (by rfl) _ (by rfl) _ _ ag.out ?_; (simp only [Act.put, List.setIfInBounds_toArray, List.set_cons_zero, List.set_cons_succ]); go_big_quiet_on) | (refine quiet_call 20 _ _ (by rfl) Tryd.call20 _ ?_ k1.out ?_; (· rfl); (simp only [Act.put, List.setIfInBounds_toArray, List.set_cons_zero, List.set_cons_succ]); go_big_quiet_on) | (refine quiet_call 21 _ _ (by rfl) Tryd.call21 _ ?_ k2.out ?_; (· rfl); (simp only [Act.put, List.setIfInBounds_toArray, List.set_cons_zero, List.set_cons_succ]); go_big_quiet_on) | (refine quiet_call 22 _ _ (by rfl) Tryd.call22 _ ?_ k3.out ?_; (· rfl); (simp only [Act.put, List.setIfInBounds_toArray, List.set_cons_zero, List.set_cons_succ]); go_big_quiet_on) | (refine quiet_call 23 _ _ (by rfl) Tryd.call23 _ ?_ k4.out ?_; (· rfl); (simp only [Act.put, List.setIfInBounds_toArray, List.set_cons_zero, List.set_cons_succ]); go_big_quiet_on) | (refine quiet_call 24 _ _ (by rfl) Tryd.call24 _ ?_ k5.out ?_; (· rfl); (simp only [Act.put, List.setIfInBounds_toArray, List.set_cons_zero, List.set_cons_succ]); go_big_quiet_on) | (refine quiet_call 25 _ _ (by rfl) Tryd.call25 _ ?_ k6.out ?_; (· rfl); (simp only [Act.put, List.setIfInBounds_toArray, List.set_cons_zero, List.set_cons_succ]); go_big_quiet_on) | (refine quiet_call 25 _ _ (by rfl) Tryd.call25 _ ?_ k7.out ?_; (· rfl); (simp only [Act.put, List.setIfInBounds_toArray, List.set_cons_zero, List.set_cons_succ]); go_big_quiet_on) | (refine quiet_call 26 _ _ (by rfl) Tryd.call26 _ ?_ k8.out ?_; (· rfl); (simp only [Act.put, List.setIfInBounds_toArray, List.set_cons_zero, List.set_cons_succ]); go_big_quiet_on) | (refine quiet_call 26 _ _ (by rfl) Tryd.call26 _ ?_ k9.out ?_; (· rfl); (simp only [Act.put, List.setIfInBounds_toArray, List.set_cons_zero, List.set_cons_succ]); go_big_quiet_on) | (go_big_quiet_op; go_big_quiet_on) | (go_big_quiet_op; refine Exists.intro _ ⟨fun _ _ => rfl, ?_⟩; go_big_quiet_on)))
            refine wpQuiet_nil ?_
            intro w8 hC8
            have D8 := Lib.hid (D7.out.below ((HC2.out _).1 hC8))
            clear hC8 hC20 l0 l66 k1 k2 k3 k4 k5 k6 k7 k8 k9
            go_wp2
            exact ⟨⟨k + 1, by omega, by go_num, by rw [HM'.out]; exact D8.out⟩, by simp [intOf]; omega⟩
        · have b1 := B3.out.c2
          have hp' : 0 ≤ x.p := by omega
          have E2 := Lib.hid (show m' = gotW m x.p x.s by rw [E.out]; unfold actW; rw [if_neg hp])
          clear hp
          go_wp2_with fail
          refine (got_any g m x.p x.s w3 D3.out.lk.at_ D3.out.lk.wf).mono ?_
          rintro e w4 ⟨rfl, hw, hg⟩
          have D4 := Lib.hid (D3.out.act hg (by rw [E2.out]; exact hw) WF'.out)
          have B4 := Lib.hid (B3.out.grown hg hne.out)
          clear hw hg b0 b1
          have b0 := B4.out.c0
          have b1 := B4.out.c2
          obtain ⟨cs4, hcs4, hrc4⟩ := D4.out.ref
          have HCS4 := Lib.hid hcs4
          have HRC4 := Lib.hid hrc4
          have hsz4 : Hid ((Tryd.prog.info? 32).map (·.size) = some cs4.size) := Lib.hid (by rw [hrc4.n]; exact size_ref)
          clear hcs4 hrc4
          go_wp2_with (refine wpList_load_row rfl 32 _ rfl B (by rfl) 32 cs4 (0, 0) _ HCS4.out Tryd.underlying32 rfl hsz4.out ?_; simp only [Act.put, List.setIfInBounds_toArray, List.set_cons_zero, List.set_cons_succ])
          refine (rgot_any cs4 m x.p x.s D3.out.lk.wf HRC4.out w4).mono ?_
          rintro e w5 ⟨cs5, rfl, hrc5, hb⟩
          have D5 := Lib.hid (D4.out.below hb)
          have B5 := Lib.hid (B4.out.below hb)
          have HRC5 := Lib.hid hrc5
          have hsz5 : Hid ((Tryd.prog.info? 32).map (·.size) = some cs5.size) := Lib.hid (by rw [hrc5.n]; exact size_ref)
          obtain ⟨cur5, hcur5, hq5⟩ := D5.out.ref
          have HCUR5 := Lib.hid hcur5
          have HQ5 := Lib.hid (show cur5.size = cs5.size by rw [hq5.n, hrc5.n])
          clear hrc5 hb hcur5 hq5 b0 b1
          go_wp2_with (refine wpList_store_row rfl 32 _ _ rfl B (by rfl) cs5 (by rfl) cur5 32 HCUR5.out HQ5.out hsz5.out HRC5.out.one ?_; intro w7 hw7 hg7)
          have D7 := Lib.hid (show Duo w w7 g B m' m' from D5.out.put hg7 hw7 (by rw [E2.out]; exact HRC5.out))
          have B7 := Lib.hid (B5.out.grown hg7 hneB.out)
          clear hw7 hg7
          obtain ⟨cs7, hcs7, hrc7⟩ := D7.out.ref
          have HCS7 := Lib.hid hcs7
          have HRC7 := Lib.hid hrc7
          have hsz7 : Hid ((Tryd.prog.info? 32).map (·.size) = some cs7.size) := Lib.hid (by rw [hrc7.n]; exact size_ref)
          clear hcs7 hrc7
          obtain ⟨C2, hC2⟩ : ∃ C2 : World → Prop, ∀ w', C2 w' ↔ Below w7.heap.size w7 w' := ⟨_, fun _ => Iff.rfl⟩
          have l0 := Lib.hid (fun w' h => (B7.out.below ((hC2 w').1 h)).c0)
          have l66 := Lib.hid (fun w' (h : C2 w') => (show w'.cell? ⟨B, 66, none⟩ = some (.int .u32 m'.sent) by rw [cell_of_row w' _ 66 _ _ _ (bblock ((hC2 w').1 h) HCS7.out)]; exact HRC7.out.sent))
          have ag := Lib.hid (fun w' (h : C2 w') => bblock ((hC2 w').1 h) HCS7.out)
          have DC := Lib.hid (fun w' (h : C2 w') => D7.out.below ((hC2 w').1 h))
          have k1 := Lib.hid (fun w' (h : C2 w') => (sent_any g m' w' (DC.out w' h).lk.at_).mono (fun e w'' (he : e = .returned (.int .u32 m'.sent) ∧ w' = w'') => (⟨he.1, he.2 ▸ h⟩ : e = .returned (.int .u32 m'.sent) ∧ C2 w'')))
          have k2 := Lib.hid (fun w' (h : C2 w') => (low_any g m' w' (DC.out w' h).lk.tab (DC.out w' h).lk.at_ WF'.out).mono (fun e w'' (he : e = .returned (.int .u32 (lowW m')) ∧ Below w'.heap.size w' w'') => (⟨he.1, (hC2 w'').2 (bthen' ((hC2 w').1 h) he.2)⟩ : e = .returned (.int .u32 (lowW m')) ∧ C2 w'')))
          have k3 := Lib.hid (fun w' (h : C2 w') => (rlow_any cs7 m' HRC7.out w').mono (fun e w'' (he : e = .returned (.int .u32 (lowW m')) ∧ Below w'.heap.size w' w'') => (⟨he.1, (hC2 w'').2 (bthen' ((hC2 w').1 h) he.2)⟩ : e = .returned (.int .u32 (lowW m')) ∧ C2 w'')))
          have k4 := Lib.hid (fun w' (h : C2 w') => (lag_any g m' w' (DC.out w' h).lk.tab (DC.out w' h).lk.at_ WF'.out).mono (fun e w'' (he : e = .returned (.int .u64 (lagW m')) ∧ Below w'.heap.size w' w'') => (⟨he.1, (hC2 w'').2 (bthen' ((hC2 w').1 h) he.2)⟩ : e = .returned (.int .u64 (lagW m')) ∧ C2 w'')))
          have k5 := Lib.hid (fun w' (h : C2 w') => (rlag_any cs7 m' HRC7.out w').mono (fun e w'' (he : e = .returned (.int .u64 (lagW m')) ∧ Below w'.heap.size w' w'') => (⟨he.1, (hC2 w'').2 (bthen' ((hC2 w').1 h) he.2)⟩ : e = .returned (.int .u64 (lagW m')) ∧ C2 w'')))
          have k6 := Lib.hid (fun w' (h : C2 w') => (of_any g m' x.p w' (DC.out w' h).lk.at_ WF'.out).mono (fun e w'' (he : e = .returned (.int .u32 (ofW m' x.p)) ∧ w' = w'') => (⟨he.1, he.2 ▸ h⟩ : e = .returned (.int .u32 (ofW m' x.p)) ∧ C2 w'')))
          have k7 := Lib.hid (fun w' (h : C2 w') => (of_any g m' me w' (DC.out w' h).lk.at_ WF'.out).mono (fun e w'' (he : e = .returned (.int .u32 (ofW m' me)) ∧ w' = w'') => (⟨he.1, he.2 ▸ h⟩ : e = .returned (.int .u32 (ofW m' me)) ∧ C2 w'')))
          have k8 := Lib.hid (fun w' (h : C2 w') => (rof_any cs7 m' x.p HRC7.out w').mono (fun e w'' (he : e = .returned (.int .u32 (ofW m' x.p)) ∧ Below w'.heap.size w' w'') => (⟨he.1, (hC2 w'').2 (bthen' ((hC2 w').1 h) he.2)⟩ : e = .returned (.int .u32 (ofW m' x.p)) ∧ C2 w'')))
          have k9 := Lib.hid (fun w' (h : C2 w') => (rof_any cs7 m' me HRC7.out w').mono (fun e w'' (he : e = .returned (.int .u32 (ofW m' me)) ∧ Below w'.heap.size w' w'') => (⟨he.1, (hC2 w'').2 (bthen' ((hC2 w').1 h) he.2)⟩ : e = .returned (.int .u32 (ofW m' me)) ∧ C2 w'')))
          have hC20 : C2 { w7 with drawn := w7.drawn + 1 } := (hC2 _).2 (Below.drew (Below.refl _ _))
          have HC2 := Lib.hid hC2
          clear hC2
          go_wp2
          try simp only [Act.put]
          refine wp_region_quiet (C := C2) (by kernel_rfl) (by kernel_rfl) hC20 ?_
          dsimp only []
          repeat (first | go_big_quiet_skip | (go_big_quiet_want; first | (refine quiet_load _ _ (by rfl) ?_ _ (by rfl) (by first | exact l0.out | exact l66.out) ?_; (· intro w; simp); (simp only [Act.put, List.setIfInBounds_toArray, List.set_cons_zero, List.set_cons_succ]); go_big_quiet_on) | (refine quiet_load_agg Tryd.underlying32 rfl hsz7.out _ (by rfl) _ (by rfl) _ _ ag.out ?_; (simp only [Act.put, List.setIfInBounds_toArray, List.set_cons_zero, List.set_cons_succ]); go_big_quiet_on) | (refine quiet_call 20 _ _ (by rfl) Tryd.call20 _ ?_ k1.out ?_; (· rfl); (simp only [Act.put, List.setIfInBounds_toArray, List.set_cons_zero, List.set_cons_succ]); go_big_quiet_on) | (refine quiet_call 21 _ _ (by rfl) Tryd.call21 _ ?_ k2.out ?_; (· rfl); (simp only [Act.put, List.setIfInBounds_toArray, List.set_cons_zero, List.set_cons_succ]); go_big_quiet_on) | (refine quiet_call 22 _ _ (by rfl) Tryd.call22 _ ?_ k3.out ?_; (· rfl); (simp only [Act.put, List.setIfInBounds_toArray, List.set_cons_zero, List.set_cons_succ]); go_big_quiet_on) | (refine quiet_call 23 _ _ (by rfl) Tryd.call23 _ ?_ k4.out ?_; (· rfl); (simp only [Act.put, List.setIfInBounds_toArray, List.set_cons_zero, List.set_cons_succ]); go_big_quiet_on) | (refine quiet_call 24 _ _ (by rfl) Tryd.call24 _ ?_ k5.out ?_; (· rfl); (simp only [Act.put, List.setIfInBounds_toArray, List.set_cons_zero, List.set_cons_succ]); go_big_quiet_on) | (refine quiet_call 25 _ _ (by rfl) Tryd.call25 _ ?_ k6.out ?_; (· rfl); (simp only [Act.put, List.setIfInBounds_toArray, List.set_cons_zero, List.set_cons_succ]); go_big_quiet_on) | (refine quiet_call 25 _ _ (by rfl) Tryd.call25 _ ?_ k7.out ?_; (· rfl); (simp only [Act.put, List.setIfInBounds_toArray, List.set_cons_zero, List.set_cons_succ]); go_big_quiet_on) | (refine quiet_call 26 _ _ (by rfl) Tryd.call26 _ ?_ k8.out ?_; (· rfl); (simp only [Act.put, List.setIfInBounds_toArray, List.set_cons_zero, List.set_cons_succ]); go_big_quiet_on) | (refine quiet_call 26 _ _ (by rfl) Tryd.call26 _ ?_ k9.out ?_; (· rfl); (simp only [Act.put, List.setIfInBounds_toArray, List.set_cons_zero, List.set_cons_succ]); go_big_quiet_on) | (go_big_quiet_op; go_big_quiet_on) | (go_big_quiet_op; refine Exists.intro _ ⟨fun _ _ => rfl, ?_⟩; go_big_quiet_on)))
          refine wpQuiet_nil ?_
          intro w8 hC8
          have D8 := Lib.hid (D7.out.below ((HC2.out _).1 hC8))
          clear hC8 hC20 l0 l66 k1 k2 k3 k4 k5 k6 k7 k8 k9
          go_wp2
          exact ⟨⟨k + 1, by omega, by go_num, by rw [HM'.out]; exact D8.out⟩, by simp [intOf]; omega⟩
      · go_wp2
        go_ret
        exact ⟨rfl, D2.out.lk.bel⟩
end Go.Proofs.YtjokfjdbioeohaaDoor

/-
  A net in memory of a call's own; awake.
-/
import Derived.Test.YthegooaeehblhaaDoorRNetT
import Derived.Test.YthegooaeehblhaaDoorRValsB
namespace Go.Proofs.YthegooaeehblhaaDoorR
open Go.RowKit Go.BigFrame
set_option maxHeartbeats 1000000
set_option maxRecDepth 100000
theorem Nt.Wf.sendN {t : Nt} (h : t.Wf) {d : Dg} (hd : d.data.length ≤ 9223372036854775807) : (sendN t d).Wf := by
  unfold Proofs.YthegooaeehblhaaDoorR.sendN
  split
  · rename_i h0
    refine h.app hd ?_
    unfold sendC at h0
    revert h0
    split
    · split
      · split
        · exact fun _ => by assumption
        · exact fun h => absurd h (by decide)
      · exact fun h => absurd h (by decide)
    · exact fun h => absurd h (by decide)
  · exact h
theorem getD_wf {t : Nt} (h : t.Wf) (i : Nat) : (t.l.getD i Dg.zero).data.length ≤ 9223372036854775807 := by
  by_cases hi : i < t.l.length
  · rw [List.getD_eq_getElem?_getD, List.getElem?_eq_getElem hi]
    exact h.d _ (List.getElem_mem hi)
  · rw [List.getD_eq_getElem?_getD, List.getElem?_eq_none (by omega)]
    exact Nat.zero_le _
theorem Nt.Wf.dblN {t : Nt} (h : t.Wf) (i : Int) : (dblN t i).Wf := by
  unfold Proofs.YthegooaeehblhaaDoorR.dblN
  split
  · rename_i h0
    unfold dblB at h0
    rw [Bool.and_eq_true, decide_eq_true_iff] at h0
    exact h.app (getD_wf h _) h0.2
  · exact h
theorem turnD_len (d : Dg) (a : Int) (m : UInt8) : (turnD d a m).data.length = d.data.length := by unfold turnD; exact List.length_set ..
theorem Nt.Wf.turnN {t : Nt} (h : t.Wf) (i a : Int) (m : UInt8) : (turnN t i a m).Wf := by
  unfold Proofs.YthegooaeehblhaaDoorR.turnN
  split
  · refine ⟨h.n, h.links, by show (t.l.set _ _).length ≤ _; rw [List.length_set]; exact h.l, fun x hx => ?_⟩
    rcases List.mem_or_eq_of_mem_set hx with hx | hx
    · exact h.d x hx
    · rw [hx, turnD_len]; exact getD_wf h _
  · exact h
/-- A net in memory that has been made since w0. -/
structure Nk (w0 w : World) (g : Nat) (t : Nt) : Prop where
  tab : TabOk w0
  at_ : ∃ rb, NetAt w w0.heap.size g t rb
  bel : Below w0.heap.size w0 w
  lo : w0.heap.size ≤ g
  wf : t.Wf
section
variable {w0 w w' : World} {g : Nat} {t t' : Nt}
theorem Nk.tabw (h : Nk w0 w g t) : TabOk w := h.tab.belowS h.bel
theorem Nk.below (h : Nk w0 w g t) (hb : Below w.heap.size w w') : Nk w0 w' g t := by
  obtain ⟨rb, ha⟩ := h.at_
  exact ⟨h.tab, ⟨rb, ha.below hb⟩, bthen' h.bel hb, h.lo, h.wf⟩
theorem Nk.act (h : Nk w0 w g t) {f : FuncId} {args : Array Value} {v : Value} (hc : ∀ rb, NetAt w w0.heap.size g t rb → Calls Tryd.prog f args w (ActPost w w0.heap.size g rb t' v)) (wf' : t'.Wf) : Calls Tryd.prog f args w fun e w' => e = .returned v ∧ Nk w0 w' g t' := by
  obtain ⟨rb, ha⟩ := h.at_
  exact (hc rb ha).mono fun e w' ⟨rb', he, hn, hg, _⟩ => ⟨he, h.tab, ⟨rb', hn⟩, hg.below h.bel h.lo (fun k hk => (ha.rlt hk).1), h.lo, wf'⟩
theorem Nk.own (h : Nk w0 w g t) {f : FuncId} {args : Array Value} {v : Value} (hc : ∀ rb, NetAt w w0.heap.size g t rb → Calls Tryd.prog f args w fun e w' => e = .returned v ∧ NetAt w' w0.heap.size g t' rb ∧ w.grownBy w' (some g)) (wf' : t'.Wf) : Calls Tryd.prog f args w fun e w' => e = .returned v ∧ Nk w0 w' g t' := by
  obtain ⟨rb, ha⟩ := h.at_
  exact (hc rb ha).mono fun e w' ⟨he, hn, hg⟩ => ⟨he, h.tab, ⟨rb, hn⟩, (Chg.of_grown hg rb).below h.bel h.lo (fun k hk => (ha.rlt hk).1), h.lo, wf'⟩
theorem Nk.see (h : Nk w0 w g t) {f : FuncId} {args : Array Value} {v : Value} (hc : ∀ rb, NetAt w w0.heap.size g t rb → Calls Tryd.prog f args w fun e w' => e = .returned v ∧ w = w') : Calls Tryd.prog f args w fun e w' => e = .returned v ∧ Nk w0 w' g t := by
  obtain ⟨rb, ha⟩ := h.at_
  exact (hc rb ha).mono fun e w' ⟨he, hw⟩ => ⟨he, hw ▸ h⟩
theorem Nk.send (h : Nk w0 w g t) (d : Dg) (hd : d.data.length ≤ 9223372036854775807) : Calls Tryd.prog 18 #[.pointer (some ⟨g, 0, none⟩), .agg d.vals.toArray] w fun e w' => e = .returned (.int .i64 (sendC t d)) ∧ Nk w0 w' g (sendN t d) :=
  h.act (fun _ ha => send_any ha h.wf h.bel.size d) (h.wf.sendN hd)
theorem Nk.turn (h : Nk w0 w g t) (i a : Int) (m : UInt8) : Calls Tryd.prog 22 #[.pointer (some ⟨g, 0, none⟩), .int .i64 i, .int .i64 a, .int .u8 m.toNat] w fun e w' => e = .returned (.bool (turnB t i m)) ∧ Nk w0 w' g (turnN t i a m) :=
  h.act (fun _ ha => turn_any ha h.wf i a m) (h.wf.turnN i a m)
theorem Nk.double (h : Nk w0 w g t) (i : Int) : Calls Tryd.prog 31 #[.pointer (some ⟨g, 0, none⟩), .int .i64 i] w fun e w' => e = .returned (.bool (dblB t i)) ∧ Nk w0 w' g (dblN t i) :=
  h.act (fun _ ha => double_any ha h.wf h.bel.size i) (h.wf.dblN i)
theorem Nk.drop (h : Nk w0 w g t) (i : Int) : Calls Tryd.prog 30 #[.pointer (some ⟨g, 0, none⟩), .int .i64 i] w fun e w' => e = .returned (.bool (thereN t i)) ∧ Nk w0 w' g (dropN t i) :=
  h.act (fun _ ha => drop_any ha h.wf i) (h.wf.drop i)
theorem Nk.take (h : Nk w0 w g t) (i : Int) : Calls Tryd.prog 16 #[.pointer (some ⟨g, 0, none⟩), .int .i64 i] w fun e w' => e = .returned (takeV t i) ∧ Nk w0 w' g (dropN t i) :=
  h.act (fun _ ha => take_any ha h.wf i) (h.wf.drop i)
theorem Nk.cut (h : Nk w0 w g t) (s : Nat) (hs : s < 18446744073709551616) : Calls Tryd.prog 10 #[.pointer (some ⟨g, 0, none⟩), .int .u64 s] w fun e w' => e = .returned (.tuple #[]) ∧ Nk w0 w' g (cutN t s) :=
  h.own (fun _ ha => cut_any ha h.wf h.tabw s hs) (h.wf.cut s)
theorem Nk.heal (h : Nk w0 w g t) : Calls Tryd.prog 13 #[.pointer (some ⟨g, 0, none⟩)] w fun e w' => e = .returned (.tuple #[]) ∧ Nk w0 w' g (healN t) :=
  h.own (fun _ ha => heal_any ha h.wf h.tabw) h.wf.heal
theorem Nk.len (h : Nk w0 w g t) : Calls Tryd.prog 19 #[.pointer (some ⟨g, 0, none⟩)] w fun e w' => e = .returned (.int .i64 t.l.length) ∧ Nk w0 w' g t :=
  h.see (fun _ ha => len_any ha h.wf)
theorem Nk.linked (h : Nk w0 w g t) (p q : Int) : Calls Tryd.prog 12 #[.pointer (some ⟨g, 0, none⟩), .int .i64 p, .int .i64 q] w fun e w' => e = .returned (.bool (linkN t p q)) ∧ Nk w0 w' g t :=
  h.see (fun _ ha => linked_any ha h.wf p q)
theorem Nk.at (h : Nk w0 w g t) (i : Int) : Calls Tryd.prog 21 #[.pointer (some ⟨g, 0, none⟩), .int .i64 i] w fun e w' => e = .returned (atV t i) ∧ Nk w0 w' g t := by
  obtain ⟨rb, ha⟩ := h.at_
  exact (at_any ha h.wf i).mono fun e w' ⟨he, hb⟩ => ⟨he, h.below hb⟩
theorem Nk.make (hT : TabOk w0) (hb : Below w0.heap.size w0 w) (n : Int) : Calls Tryd.prog 8 #[.int .i64 n] w fun e w' => ∃ g, e = .returned (.pointer (some ⟨g, 0, none⟩)) ∧ Nk w0 w' g (newN n) :=
  (nnew_any n w (hT.belowS hb)).mono fun _ _ ⟨g, he, ha, hb', hg⟩ => ⟨g, he, hT, ⟨none, ha.mono hb.size⟩, bthen' hb hb', Nat.le_trans hb.size hg, newN_wf n⟩
end
/-! ### awake -/
def aw0 : Nt := newN 3
def awd : Dg := ⟨1, 2, [97, 98], false⟩
def awe : Dg := ⟨0, 1, [], false⟩
def aw1 : Nt := sendN aw0 awd
def aw2 : Nt := turnN aw1 0 1 1
def aw3 : Nt := turnN aw2 0 1 1
def aw4 : Nt := cutN aw3 1
def aw5 : Nt := sendN aw4 awe
def aw6 : Nt := dropN aw5 0
theorem aw_s0 : sendC aw0 awd = 0 := by decide +kernel
theorem aw_t1 : turnB aw1 0 1 = true := by decide +kernel
theorem aw_t2 : turnB aw2 0 1 = false := by decide +kernel
theorem aw_s4 : sendC aw4 awe = 5 := by decide +kernel
theorem aw_k5 : takeO aw5 0 = (⟨1, 2, [97, 99], true⟩, true) := by kernel_rfl
theorem aw_v5 : takeV aw5 0 = .tuple #[.agg (⟨1, 2, [97, 99], true⟩ : Dg).vals.toArray, .bool true] := by unfold takeV; rw [aw_k5]
theorem aw_n6 : aw6.l.length = 0 := by decide +kernel
theorem aw_l1 : linkN aw6 1 2 = true := by decide +kernel
theorem aw_l2 : linkN aw6 0 1 = false := by decide +kernel
theorem awake_any (w : World) (hT : TabOk w) : Calls Tryd.prog 7 #[] w fun e w' => e = .returned (.bool true) ∧ Below w.heap.size w w' := by
  have HT := Lib.hid hT
  have HS0 := Lib.hid aw_s0
  have HS4 := Lib.hid aw_s4
  have HV5 := Lib.hid aw_v5
  have HN6 := Lib.hid aw_n6
  have hu : Hid ((Tryd.prog.info? 35).map (·.size) = some (4 : Nat)) := Lib.hid size_dg
  have hz := zero_dg
  clear hT
  go_enter Tryd.func7, Tryd.ntmps7
  go_wp2_with fail
  refine (Nk.make (w0 := w) HT.out (Below.refl _ _) 3).mono ?_
  rintro e w1 ⟨g, rfl, hL⟩
  have L1 := Lib.hid hL
  clear hL
  go_wp2_with fail
  refine (L1.out.send (t := aw0) awd (by decide)).mono ?_
  rintro e w2 ⟨rfl, hL⟩
  have L2 := Lib.hid hL
  clear hL
  rw [HS0.out]
  go_wp2_with fail
  refine (L2.out.turn (t := aw1) 0 1 1).mono ?_
  rintro e w3 ⟨rfl, hL⟩
  have L3 := Lib.hid hL
  clear hL
  rw [aw_t1]
  go_wp2_with fail
  refine (L3.out.turn (t := aw2) 0 1 1).mono ?_
  rintro e w4 ⟨rfl, hL⟩
  have L4 := Lib.hid hL
  clear hL
  rw [aw_t2]
  go_wp2_with fail
  refine (of_one _ _ _ _ (cell_new _ _ _)).mono ?_
  rintro e w' ⟨rfl, rfl⟩
  have L5 := Lib.hid (L4.out.below ((Below.refl _ _).alloc (Nat.le_refl _) (.cells #[.int .i64 0] 3)))
  go_wp2_with fail
  refine (L5.out.cut (t := aw3) 1 (by decide)).mono ?_
  rintro e w6 ⟨rfl, hL⟩
  have L6 := Lib.hid hL
  clear hL
  go_wp2_with fail
  refine (L6.out.send (t := aw4) awe (by decide)).mono ?_
  rintro e w7 ⟨rfl, hL⟩
  have L7 := Lib.hid hL
  clear hL
  rw [HS4.out]
  go_wp2_with fail
  refine (L7.out.take (t := aw5) 0).mono ?_
  rintro e w8 ⟨rfl, hL⟩
  have L8 := Lib.hid hL
  clear hL
  rw [HV5.out]
  go_upto_region 10 with (guard_target = wpList _ _ _ (Oper.mk none (Op.store _ _ _) _ _ _ none :: _) _ _; refine wpList_store_row rfl 35 _ _ rfl w8.heap.size (by rfl) (⟨1, 2, [97, 99], true⟩ : Dg).vals.toArray (by rfl) Dg.zero.vals.toArray 35 (heap_alloc_new _ _) rfl hu.out (Dg.oneA _) ?_; intro w9 hw9 hg9)
  have L9 := Lib.hid (L8.out.below (bel_new hg9))
  have y2 : w9.cell? ⟨w8.heap.size, 2, none⟩ = some (.string ⟨#[97, 99]⟩) := by rw [cell_of_row w9 _ 2 _ _ _ hw9]; rfl
  have y3 : w9.cell? ⟨w8.heap.size, 3, none⟩ = some (.bool true) := by rw [cell_of_row w9 _ 3 _ _ _ hw9]; rfl
  clear hw9 hg9
  go_wp2_with fail
  refine (L9.out.len (t := aw6)).mono ?_
  rintro e wa ⟨rfl, hL⟩
  have La := Lib.hid hL
  clear hL
  rw [HN6.out]
  go_wp2_with fail
  refine (La.out.linked (t := aw6) 1 2).mono ?_
  rintro e wb ⟨rfl, hL⟩
  have Lb := Lib.hid hL
  clear hL
  rw [aw_l1]
  go_wp2_with fail
  refine (Lb.out.linked (t := aw6) 0 1).mono ?_
  rintro e wc ⟨rfl, hL⟩
  have Lc := Lib.hid hL
  clear hL
  rw [aw_l2]
  go_wp2
  go_ret
  exact ⟨rfl, Lc.out.bel⟩
end Go.Proofs.YthegooaeehblhaaDoorR

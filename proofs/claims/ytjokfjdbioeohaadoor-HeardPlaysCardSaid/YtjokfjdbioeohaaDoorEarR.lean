/-
  Package heard: Of, Reach, Epoch, Strange.
-/
import Derived.Test.YtjokfjdbioeohaaDoorEarH
namespace Go.Proofs.YtjokfjdbioeohaaDoor
open Go.RowKit Go.BigFrame
set_option maxHeartbeats 1000000
set_option maxRecDepth 100000
theorem results_cell_tmp1 {P : Program} {fn : Func} {p u : Tmp} {ty : TypeId} (h : fn.results = #[.cell p ty, .tmp u]) (tmps : Array Value) (w : World) (g : Nat) (t : TypeId) (cs : Array Value) (fr : Nat × Nat) (d : TypeDesc)
    (hp : tmps.getD p undef = .pointer (some ⟨g, 0, none⟩)) (hg : w.heap[g]? = some (.cells cs t fr))
    (hu : P.underlying ty = some d) (hd : (match d with | .struct _ | .array _ _ => true | _ => false) = true) (hi : (P.info? ty).map (·.size) = some cs.size) :
    (results fn tmps).run P w = .ok (.tuple #[.agg cs, tmps.getD u undef]) w := by
  have hp' : tmps[p]?.getD undef = .pointer (some ⟨g, 0, none⟩) := by simpa using hp
  simp [results, h, hp', asAddr, run_loadVar_row w g t ty cs fr d hg hu hd hi]
/-- What a process said last. -/
def ofE (m : Ear) (p : Int) : Bt × Bool := if hasN m.others p && (m.l p.toNat).said then ((m.l p.toNat).b, true) else (Bt.zero, false)
def ofV (m : Ear) (p : Int) : Value := .tuple #[(ofE m p).1.v, .bool (ofE m p).2]
theorem EarAt.rb {w : World} {g : Nat} {m : Ear} (h : EarAt w g m) {i : Nat} (hi : i < 64) : w.rangeAt g (4 + i * 8) (m.l i).b.vals := by
  intro j v hv
  refine h.e i hi j v ?_
  have hj := (List.getElem?_eq_some_iff.1 hv).1
  unfold Ent.vals
  rw [List.getElem?_append_left hj]; exact hv
theorem Bt.oneL (b : Bt) : ∀ v ∈ b.vals.toArray.toList, v.oneCell' = true := by simp [Bt.vals, Value.oneCell']
theorem eof_any (g : Nat) (m : Ear) (p : Int) (w : World) (hw : EarAt w g m) (wf : m.Wf) :
    Calls Tryd.prog 39 #[.pointer (some ⟨g, 0, none⟩), .int .i64 p] w fun e w' => e = .returned (ofV m p) ∧ Below w.heap.size w w' := by
  have hz := zero_beat
  have HA := Lib.hid (hw.below ((Below.refl w.heap.size w).alloc (Nat.le_refl _) (.cells Bt.zero.vals.toArray 67)))
  have H := Lib.hid (has_any m.others p wf.others (w.alloc (.cells Bt.zero.vals.toArray 67)))
  have hu : Hid ((Tryd.prog.info? 67).map (·.size) = some (5 : Nat)) := Lib.hid size_beat
  have c3 := HA.out.c3
  clear hw wf
  cases hh : hasN m.others p
  · rw [hh] at H
    have E := Lib.hid (show ofE m p = (Bt.zero, false) by unfold ofE; rw [hh]; rfl)
    clear hh
    go_enter Tryd.func39, Tryd.ntmps39
    go_wp2_with fail
    refine H.out.mono ?_
    rintro e w1 ⟨rfl, rfl⟩
    obtain ⟨q, hq⟩ : ∃ q : Nat, q < 64 := ⟨0, by decide⟩
    go_wp2_with (first
      | (refine wpList_load_mid rfl 67 _ rfl g (4 + q * 8) (by rfl) (m.l q).b.vals _ (HA.out.rb hq) Tryd.underlying67 rfl hu.out ?_; simp only [Act.put, List.setIfInBounds_toArray, List.set_cons_zero, List.set_cons_succ])
      | (refine wpList_store_row rfl 67 _ _ rfl w.heap.size (by rfl) Bt.zero.vals.toArray (by rfl) Bt.zero.vals.toArray 67 (heap_alloc_new _ _) rfl hu.out Bt.zero.oneL ?_; intro w2 hw2 hg2))
    refine bodyPost_ret (results_cell_tmp1 rfl _ w2 w.heap.size 67 _ (0, 0) _ (by rfl) hw2 Tryd.underlying67 rfl hu.out) rfl ⟨by unfold ofV; rw [E.out]; rfl, ((Below.refl _ _).alloc (Nat.le_refl _) _).grown hg2 (by simp) (fun k hk => by cases hk; exact Nat.le_refl _)⟩
  · rw [hh] at H
    obtain ⟨hp0, hp1⟩ := hasN_range hh
    obtain ⟨q, rfl⟩ := Int.eq_ofNat_of_zero_le hp0
    have hq : q < 64 := by omega
    have x5 := HA.out.x5 hq
    cases hs : (m.l q).said
    · have E := Lib.hid (show ofE m q = (Bt.zero, false) by unfold ofE; rw [hh, Int.toNat_natCast, hs]; rfl)
      rw [hs] at x5
      clear hh hs
      go_enter Tryd.func39, Tryd.ntmps39
      go_wp2_with fail
      refine H.out.mono ?_
      rintro e w1 ⟨rfl, rfl⟩
      go_wp2_with (first
        | (refine wpList_load_mid rfl 67 _ rfl g (4 + q * 8) (by rfl) (m.l q).b.vals _ (HA.out.rb hq) Tryd.underlying67 rfl hu.out ?_; simp only [Act.put, List.setIfInBounds_toArray, List.set_cons_zero, List.set_cons_succ])
        | (refine wpList_store_row rfl 67 _ _ rfl w.heap.size (by rfl) Bt.zero.vals.toArray (by rfl) Bt.zero.vals.toArray 67 (heap_alloc_new _ _) rfl hu.out Bt.zero.oneL ?_; intro w2 hw2 hg2))
      refine bodyPost_ret (results_cell_tmp1 rfl _ w2 w.heap.size 67 _ (0, 0) _ (by rfl) hw2 Tryd.underlying67 rfl hu.out) rfl ⟨by unfold ofV; rw [E.out]; rfl, ((Below.refl _ _).alloc (Nat.le_refl _) _).grown hg2 (by simp) (fun k hk => by cases hk; exact Nat.le_refl _)⟩
    · have E := Lib.hid (show ofE m q = ((m.l q).b, true) by unfold ofE; rw [hh, Int.toNat_natCast, hs]; rfl)
      rw [hs] at x5
      clear hh hs
      go_enter Tryd.func39, Tryd.ntmps39
      go_wp2_with fail
      refine H.out.mono ?_
      rintro e w1 ⟨rfl, rfl⟩
      go_wp2_with (first
        | (refine wpList_load_mid rfl 67 _ rfl g (4 + q * 8) (by rfl) (m.l q).b.vals _ (HA.out.rb hq) Tryd.underlying67 rfl hu.out ?_; simp only [Act.put, List.setIfInBounds_toArray, List.set_cons_zero, List.set_cons_succ])
        | (refine wpList_store_row rfl 67 _ _ rfl w.heap.size (by rfl) (m.l q).b.vals.toArray (by rfl) Bt.zero.vals.toArray 67 (heap_alloc_new _ _) rfl hu.out (m.l q).b.oneL ?_; intro w2 hw2 hg2))
      refine bodyPost_ret (results_cell_tmp1 rfl _ w2 w.heap.size 67 _ (0, 0) _ (by rfl) hw2 Tryd.underlying67 rfl hu.out) rfl ⟨by unfold ofV; rw [E.out]; rfl, ((Below.refl _ _).alloc (Nat.le_refl _) _).grown hg2 (by simp) (fun k hk => by cases hk; exact Nat.le_refl _)⟩
/-- Who is reached. -/
def inR (m : Ear) (p : Nat) : Bool := (m.l p).ever && decide (m.now - (m.l p).at_ ≤ m.timeout)
def reachL (m : Ear) (ps : List Nat) : Nat := ps.foldl (fun s p => if inR m p then s ||| bitN p else s) (bitN m.me)
def reachE (m : Ear) : Nat := reachL m (listN m.others)
theorem reachL_snoc (m : Ear) (ps : List Nat) (p : Nat) : reachL m (ps ++ [p]) = if inR m p then reachL m ps ||| bitN p else reachL m ps := by simp [reachL]
theorem reachL_lt (m : Ear) (ps : List Nat) : reachL m ps < 18446744073709551616 := by
  unfold reachL
  suffices h : ∀ (l : List Nat) (s : Nat), s < 18446744073709551616 → l.foldl (fun s p => if inR m p then s ||| bitN p else s) s < 18446744073709551616 from h _ _ (bitN_lt _)
  intro l
  induction l with
  | nil => exact fun s h => h
  | cons p l ih =>
    intro s h
    refine ih _ ?_
    show (if inR m p then s ||| bitN p else s) < _
    split
    · exact or_lt64 h (bitN_lt _)
    · exact h
theorem size_entry : (Tryd.prog.info? 96).map (·.size) = some 8 := by kernel_rfl
theorem zero_entry (w : World) : (zeroValue 96).run Tryd.prog w = .ok (.agg Ent.zero.vals.toArray) w := by kernel_rfl
theorem Ent.oneL (x : Ent) : ∀ v ∈ x.vals.toArray.toList, v.oneCell' = true := by simp [Ent.vals, Bt.vals, Value.oneCell']
theorem EarAt.grown {w w' : World} {g z : Nat} {m : Ear} (h : EarAt w g m) (hg : w.grownBy w' (some z)) (hne : g ≠ z) : EarAt w' g m := by
  have hb := hg.block g h.lt (by intro e; exact hne (Option.some.inj e))
  have hc : ∀ o, w'.cell? ⟨g, o, none⟩ = w.cell? ⟨g, o, none⟩ := fun o => World.cell?_of_block (w := w) (a := ⟨g, o, none⟩) hb
  have hf : ∀ o, w'.frozen? ⟨g, o, none⟩ = w.frozen? ⟨g, o, none⟩ := fun o => by simp [World.frozen?, hb]
  exact ⟨Nat.lt_of_lt_of_le h.lt hg.size, fun k => (hf k).trans (h.nf k), (hc 0).trans h.c0, (hc 1).trans h.c1, (hc 2).trans h.c2, (hc 3).trans h.c3, fun i hi j v hv => (hc _).trans (h.e i hi j v hv)⟩
theorem reach_any (g : Nat) (m : Ear) (w : World) (hT : TabOk w) (hw : EarAt w g m) (wf : m.Wf) :
    Calls Tryd.prog 41 #[.pointer (some ⟨g, 0, none⟩)] w fun e w' => e = .returned (.int .u64 (reachE m)) ∧ Below w.heap.size w w' := by
  have h0 := hw.c0
  have HA := Lib.hid ((Below.refl w.heap.size w).alloc (Nat.le_refl _) (.cells #[.int .i64 m.me] 3))
  have HT := Lib.hid hT
  have HW := Lib.hid hw
  have WF := Lib.hid wf
  have hz := zero_entry
  have hu : Hid ((Tryd.prog.info? 96).map (·.size) = some (8 : Nat)) := Lib.hid size_entry
  unfold reachE
  have hl := listN_length m.others
  have hq1 := Lib.hid (fun q (h : q ∈ listN m.others) => listN_lt h)
  have H := Lib.hid (fun w (h : TabOk w) => list_any m.others wf.others w h)
  obtain ⟨ls, hls⟩ : ∃ ls, listN m.others = ls := ⟨_, rfl⟩
  rw [hls] at H hl hq1
  rw [hls]
  clear hT hw wf hls
  go_enter Tryd.func41, Tryd.ntmps41
  go_wp2_with fail
  refine (of_one _ _ _ _ (cell_new _ _ _)).mono ?_
  rintro e w' ⟨rfl, rfl⟩
  have c3 := (HW.out.below HA.out).c3
  go_wp2_with fail
  refine (H.out _ (HT.out.belowS HA.out)).mono ?_
  rintro e w1 ⟨v, rfl, hown, hb⟩
  obtain ⟨a, c, gl, rfl, ha, hcl⟩ := hown.form
  have HX := Lib.hid (bthen' HA.out hb)
  have HCL := Lib.hid hcl
  have HA1 := Lib.hid ha
  have HW1 := Lib.hid (HW.out.below HX.out)
  clear hb hcl hown ha h0 c3
  go_wp2
  go_loopw [3, 5, 6, 19] (fun t _ _ i wr => ∃ k : Nat, k ≤ ls.length ∧ i = .int .i64 k ∧ t = .int .u64 (reachL m (ls.take k)) ∧ Below w1.heap.size w1 wr) (fun _ _ _ i _ => ls.length - (intOf i).toNat)
  case atStart => exact ⟨0, Nat.zero_le _, rfl, rfl, Below.refl _ _⟩
  case round =>
    obtain ⟨k, hk, rfl, rfl, hbr⟩ := hrel
    have HB := Lib.hid hbr
    clear hbr
    by_cases hlt : k < ls.length
    · obtain ⟨q, hqk⟩ : ∃ q, ls[k] = q := ⟨_, rfl⟩
      have hq : q < 64 := hq1.out q (by rw [← hqk]; exact List.getElem_mem hlt)
      obtain rfl := HA1.out (by omega)
      have hcell := HCL.out k hlt
      rw [show ls.getD k 0 = q by simp [hlt, hqk], ← HB.out.cell (p := ⟨gl, k, none⟩) (World.block_lt_of_cell? _ _ hcell)] at hcell
      have HE := Lib.hid (HW1.out.below HB.out)
      have HS := Lib.hid (show reachL m (ls.take (k + 1)) = if inR m q then reachL m (ls.take k) ||| bitN q else reachL m (ls.take k) by rw [take_snoc _ _ hlt, hqk, reachL_snoc])
      have hq64' : (q : Int) < 64 := by omega
      have hkl : (k : Int) < (ls.length : Int) := by omega
      have G := Lib.hid (show g < wr.heap.size from HE.out.lt)
      clear hqk
      go_wp2_with (first
        | (refine wpList_load_mid rfl 96 _ rfl g (4 + q * 8) (by rfl) (m.l q).vals _ (HE.out.e q hq) Tryd.underlying96 rfl hu.out ?_; simp only [Act.put, List.setIfInBounds_toArray, List.set_cons_zero, List.set_cons_succ])
        | (refine wpList_store_row rfl 96 _ _ rfl wr.heap.size (by rfl) (m.l q).vals.toArray (by rfl) Ent.zero.vals.toArray 96 (heap_alloc_new _ _) rfl hu.out (m.l q).oneL ?_; intro w2 hw2 hg2))
      have HE2 := Lib.hid ((HE.out.below ((Below.refl _ _).alloc (Nat.le_refl _) (.cells Ent.zero.vals.toArray 96))).grown hg2 (Nat.ne_of_lt G.out))
      have HB2 := Lib.hid (show Below wr.heap.size wr w2 from ((Below.refl _ _).alloc (Nat.le_refl _) _).grown hg2 (by simp) (fun k hk => by cases hk; exact Nat.le_refl _))
      have HW2 := Lib.hid hw2
      obtain ⟨C, hC⟩ : ∃ C : World → Prop, ∀ w', C w' ↔ Below w2.heap.size w2 w' := ⟨_, fun _ => Iff.rfl⟩
      have l6 := Lib.hid (fun w' (h : C w') => (show w'.cell? ⟨wr.heap.size, 6, none⟩ = some (.bool (m.l q).ever) by rw [cell_of_row w' _ 6 _ _ _ (bblock ((hC w').1 h) HW2.out)]; rfl))
      have l7 := Lib.hid (fun w' (h : C w') => (show w'.cell? ⟨wr.heap.size, 7, none⟩ = some (.int .i64 (m.l q).at_) by rw [cell_of_row w' _ 7 _ _ _ (bblock ((hC w').1 h) HW2.out)]; rfl))
      have l1 := Lib.hid (fun w' (h : C w') => (HE2.out.below ((hC w').1 h)).c1)
      have l2 := Lib.hid (fun w' (h : C w') => (HE2.out.below ((hC w').1 h)).c2)
      have hC0 : C { w2 with drawn := w2.drawn + 1 } := (hC _).2 (Below.drew (Below.refl _ _))
      have HC := Lib.hid hC
      clear hC hw2 hg2
      cases hev : (m.l q).ever
      · have HG := Lib.hid (show reachL m (ls.take (k + 1)) = reachL m (ls.take k) by rw [HS.out]; unfold inR; rw [hev]; rfl)
        rw [hev] at l6
        clear hev
        refine wp_region_quiet (C := C) (by kernel_rfl) (by kernel_rfl) hC0 ?_
        dsimp only []
        repeat (first | go_big_quiet_skip | (go_big_quiet_want; first | (refine quiet_load _ _ (by rfl) ?_ _ (by rfl) (by first | exact l1.out | exact l2.out | exact l6.out | exact l7.out) ?_; (· intro w; simp); (simp only [Act.put, List.setIfInBounds_toArray, List.set_cons_zero, List.set_cons_succ]); go_big_quiet_on) | (go_big_quiet_op; go_big_quiet_on) | (go_big_quiet_op; refine Exists.intro _ ⟨fun _ _ => rfl, ?_⟩; go_big_quiet_on)))
        refine wpQuiet_nil ?_
        intro w3 hC3
        go_wp2
        exact ⟨⟨k + 1, by omega, by go_num, by rw [HG.out], bthen' HB.out (bthen' HB2.out ((HC.out _).1 hC3))⟩, by simp [intOf]; omega⟩
      · rw [hev] at l6
        have r1 : -9223372036854775808 ≤ m.now - (m.l q).at_ := by have := WF.out.a q hq; omega
        have r2 : m.now - (m.l q).at_ < 9223372036854775808 := by have := WF.out.a q hq; have := WF.out.n1; omega
        by_cases hle : m.now - (m.l q).at_ ≤ m.timeout
        · have HG := Lib.hid (show reachL m (ls.take (k + 1)) = reachL m (ls.take k) ||| bitN q by rw [HS.out]; unfold inR; rw [hev, decide_eq_true hle]; rfl)
          have HLT := Lib.hid (reachL_lt m (ls.take k))
          clear hev
          refine wp_region_quiet (C := C) (by kernel_rfl) (by kernel_rfl) hC0 ?_
          dsimp only []
          repeat (first | go_big_quiet_skip | (go_big_quiet_want; first | (refine quiet_load _ _ (by rfl) ?_ _ (by rfl) (by first | exact l1.out | exact l2.out | exact l6.out | exact l7.out) ?_; (· intro w; simp); (simp only [Act.put, List.setIfInBounds_toArray, List.set_cons_zero, List.set_cons_succ]); go_big_quiet_on) | (go_big_quiet_op; go_big_quiet_on) | (go_big_quiet_op; refine Exists.intro _ ⟨fun _ _ => rfl, ?_⟩; go_big_quiet_on)))
          refine wpQuiet_nil ?_
          intro w3 hC3
          go_wp2_with fail
          refine (with_one _ _ _ _ HLT.out _ (cell_new _ _ _)).mono ?_
          rintro e w' ⟨rfl, rfl⟩
          go_wp2
          exact ⟨⟨k + 1, by omega, by go_num, by rw [HG.out], (bthen' HB.out (bthen' HB2.out ((HC.out _).1 hC3))).alloc (bthen' HB.out (bthen' HB2.out ((HC.out _).1 hC3))).size _⟩, by simp [intOf]; omega⟩
        · have HG := Lib.hid (show reachL m (ls.take (k + 1)) = reachL m (ls.take k) by rw [HS.out]; unfold inR; rw [hev, decide_eq_false hle]; rfl)
          clear hev
          refine wp_region_quiet (C := C) (by kernel_rfl) (by kernel_rfl) hC0 ?_
          dsimp only []
          repeat (first | go_big_quiet_skip | (go_big_quiet_want; first | (refine quiet_load _ _ (by rfl) ?_ _ (by rfl) (by first | exact l1.out | exact l2.out | exact l6.out | exact l7.out) ?_; (· intro w; simp); (simp only [Act.put, List.setIfInBounds_toArray, List.set_cons_zero, List.set_cons_succ]); go_big_quiet_on) | (go_big_quiet_op; go_big_quiet_on) | (go_big_quiet_op; refine Exists.intro _ ⟨fun _ _ => rfl, ?_⟩; go_big_quiet_on)))
          refine wpQuiet_nil ?_
          intro w3 hC3
          go_wp2
          exact ⟨⟨k + 1, by omega, by go_num, by rw [HG.out], bthen' HB.out (bthen' HB2.out ((HC.out _).1 hC3))⟩, by simp [intOf]; omega⟩
    · obtain rfl : k = ls.length := by omega
      go_wp2
      go_ret
      exact ⟨by rw [List.take_length]; rfl, bthen' HX.out HB.out⟩
end Go.Proofs.YtjokfjdbioeohaaDoor

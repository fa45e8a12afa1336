/-
  Package heard: Epoch, Strange.
-/
import Derived.Test.YtjokfjdbioeohaaDoorEarR
namespace Go.Proofs.YtjokfjdbioeohaaDoor
open Go.RowKit Go.BigFrame
set_option maxHeartbeats 1000000
set_option maxRecDepth 100000
theorem wpList_index {P : Program} {ops : Array Oper} {rest : List Oper} {o : Oper} {a : Act} {w : World} {Q : Exit → Act → World → Prop} (hgd : o.guard = none) (t : TypeId) (x i : Operand) (ho : o.op = .index t x i)
    (xv iv v : Value) (hx : a.eval x = xv) (hi : a.eval i = iv) (hr : (Instr.index t xv iv).run P w = .ok v w) (h : wpList P ops Q rest (a.put o.dst v) w) : wpList P ops Q (o :: rest) a w :=
  wpList_plain hgd fun K hK => by
    unfold Oper.wp execOp
    simp only [ho, hx, hi, Sem.run_bind, hr, Result.andThen_ok, Sem.run_pure]
    exact hK _ _ h
/-- The cells of all entries. -/
def earList (m : Ear) : List Value := (List.range 512).map fun k => (m.l (k / 8)).vals.getD (k % 8) undef
theorem earList_length (m : Ear) : (earList m).length = 512 := by simp [earList]
theorem earList_at (m : Ear) {k : Nat} (h : k < 512) : (earList m)[k]? = some ((m.l (k / 8)).vals.getD (k % 8) undef) := by simp [earList, h]
theorem EarAt.all {w : World} {g : Nat} {m : Ear} (h : EarAt w g m) : w.rangeAt g 4 (earList m) := by
  intro k v hv
  have hk : k < 512 := by have := (List.getElem?_eq_some_iff.1 hv).1; rw [earList_length] at this; exact this
  rw [earList_at m hk] at hv
  have hl : (m.l (k / 8)).vals.length = 8 := rfl
  have e := h.e (k / 8) (by omega) (k % 8) v (by
    rw [← hv, List.getD_eq_getElem?_getD]
    have : k % 8 < (m.l (k / 8)).vals.length := by omega
    simp [List.getElem?_eq_getElem this])
  rw [show 4 + k / 8 * 8 + k % 8 = 4 + k by omega] at e
  exact e
theorem earList_part (m : Ear) {k : Nat} (hk : k < 64) : (earList m).toArray.extract (k * 8) (k * 8 + 8) = (m.l k).vals.toArray := by
  apply Array.ext_getElem?
  intro i
  rw [Array.getElem?_extract]
  by_cases hi : i < 8
  · rw [if_pos (by simp [earList_length]; omega), List.getElem?_toArray, List.getElem?_toArray, earList_at m (by omega), show (k * 8 + i) / 8 = k by omega, show (k * 8 + i) % 8 = i by omega, List.getD_eq_getElem?_getD]
    have : i < (m.l k).vals.length := hi
    simp [List.getElem?_eq_getElem this]
  · rw [if_neg (by simp [earList_length]; omega), List.getElem?_toArray, List.getElem?_eq_none (by show 8 ≤ i; omega)]
theorem index_ear (m : Ear) {k : Nat} (hk : k < 64) (w : World) : (Instr.index 97 (.agg (earList m).toArray) (.int .i64 k)).run Tryd.prog w = .ok (.agg (m.l k).vals.toArray) w := by
  have hu := Tryd.underlying97
  have hs : (sizeOf 96).run Tryd.prog w = .ok 8 w := by kernel_rfl
  have e := earList_part m hk
  simp only [List.extract_toArray, Nat.add_sub_cancel_left, Array.mk.injEq, List.extract_eq_take_drop] at e
  have h : (part 96 (earList m).toArray (k * 8)).run Tryd.prog w = .ok (.agg (m.l k).vals.toArray) w := by
    have ha : (isAgg 96).run Tryd.prog w = .ok true w := by kernel_rfl
    simp only [part, Sem.run_bind, ha, hs, Result.andThen_ok, if_true, Sem.run_pure, earList_part m hk]
  have hk' : (k : Int) < 64 := by omega
  have h0 : (0 : Int) ≤ (k : Int) := by omega
  simp only [Instr.index, asIntOf, Sem.run_bind, Sem.run_pure, Result.andThen_ok, run_underlying hu, Int.toNat_natCast]
  rw [if_pos ⟨h0, by simpa using hk'⟩]
  simp only [Sem.run_bind, hs, Result.andThen_ok, h]
/-- The greatest epoch. -/
def epStep (n : Nat) (x : Ent) : Nat := max (max (max n x.b.ep) x.b.ce) x.b.pe
def epochL (m : Ear) (ps : List Nat) : Nat := ps.foldl (fun n p => epStep n (m.l p)) 0
def epochE (m : Ear) : Nat := epochL m (List.range 64)
theorem epochL_succ (m : Ear) (k : Nat) : epochL m (List.range (k + 1)) = epStep (epochL m (List.range k)) (m.l k) := by
  unfold epochL
  rw [List.range_succ, List.foldl_append]; rfl
theorem run_max4 {P : Program} (a b c d : Nat) (ts : Array TypeId) (t : TypeId) (w : World) : (Builtin.max_ ts t #[.int .u64 a, .int .u64 b, .int .u64 c, .int .u64 d]).run P w = .ok (.int .u64 (max (max (max a b) c) d : Nat)) w := by
  have h : ∀ (x y : Nat) (w : World), (Builtin.max2 (.int .u64 x) (.int .u64 y)).run P w = .ok (.int .u64 (max x y : Nat)) w := by
    intro x y w
    have e2 : (Builtin.max2 (.int .u64 x) (.int .u64 y)).run P w = .ok (.int .u64 (if (y : Int) > x then y else x)) w := by
      simp [Builtin.max2]
    rw [e2]
    congr 2
    split <;> omega
  simp only [Builtin.max_, List.foldlM_cons, List.foldlM_nil, Sem.run_bind, h, Result.andThen_ok, Sem.run_pure]
theorem size_all : (Tryd.prog.info? 97).map (·.size) = some 512 := by kernel_rfl
section
variable {w : World} {B : Nat} {x : Ent} {t : TypeId} {fr : Nat × Nat}
theorem Ent.c0 (h : w.heap[B]? = some (.cells x.vals.toArray t fr)) : w.cell? ⟨B, 0, none⟩ = some (.int .u64 x.b.ce) := by rw [cell_of_row w B 0 _ _ _ h]; rfl
theorem Ent.c2 (h : w.heap[B]? = some (.cells x.vals.toArray t fr)) : w.cell? ⟨B, 2, none⟩ = some (.int .u64 x.b.pe) := by rw [cell_of_row w B 2 _ _ _ h]; rfl
theorem Ent.c4 (h : w.heap[B]? = some (.cells x.vals.toArray t fr)) : w.cell? ⟨B, 4, none⟩ = some (.int .u64 x.b.ep) := by rw [cell_of_row w B 4 _ _ _ h]; rfl
end
theorem epoch_any (g : Nat) (m : Ear) (w : World) (hw : EarAt w g m) :
    Calls Tryd.prog 43 #[.pointer (some ⟨g, 0, none⟩)] w fun e w' => e = .returned (.int .u64 (epochE m)) ∧ Below w.heap.size w w' := by
  have hz := zero_entry
  have hu : Hid ((Tryd.prog.info? 96).map (·.size) = some (8 : Nat)) := Lib.hid size_entry
  have ha : Hid ((Tryd.prog.info? 97).map (·.size) = some (earList m).length) := Lib.hid (by rw [earList_length]; exact size_all)
  have HW := Lib.hid hw.all
  have HI := Lib.hid (fun k (h : k < 64) w => index_ear m h w)
  unfold epochE
  clear hw
  go_enter Tryd.func43, Tryd.ntmps43
  go_wp2_with (refine wpList_load_mid rfl 97 _ rfl g 4 (by rfl) (earList m) _ HW.out Tryd.underlying97 rfl ha.out ?_; simp only [Act.put, List.setIfInBounds_toArray, List.set_cons_zero, List.set_cons_succ])
  go_loopw [3, 5, 10] (fun t _ i wr => ∃ k : Nat, k ≤ 64 ∧ i = .int .i64 k ∧ t = .int .u64 (epochL m (List.range k)) ∧ Below w.heap.size w wr) (fun _ _ i _ => 64 - (intOf i).toNat)
  case atStart => exact ⟨0, by omega, rfl, rfl, Below.refl _ _⟩
  case round =>
    obtain ⟨k, hk, rfl, rfl, hbr⟩ := hrel
    have HB := Lib.hid hbr
    clear hbr
    by_cases hlt : k < 64
    · have hlt' : (k : Int) < 64 := by omega
      have HS := Lib.hid (epochL_succ m k)
      generalize epochL m (List.range k) = n at HS
      have hmx := fun ts t w => (show (Builtin.max_ ts t #[.int .u64 n, .int .u64 (m.l k).b.ep, .int .u64 (m.l k).b.ce, .int .u64 (m.l k).b.pe]).run Tryd.prog w = .ok (.int .u64 (epStep n (m.l k) : Nat)) w from run_max4 _ _ _ _ ts t w)
      go_wp2_with (first
        | (refine wpList_index rfl 97 _ _ rfl _ _ _ (by rfl) (by rfl) (HI.out k hlt _) ?_; simp only [Act.put, List.setIfInBounds_toArray, List.set_cons_zero, List.set_cons_succ])
        | (refine wpList_store_row rfl 96 _ _ rfl wr.heap.size (by rfl) (m.l k).vals.toArray (by rfl) Ent.zero.vals.toArray 96 (heap_alloc_new _ _) rfl hu.out (m.l k).oneL ?_; intro w2 hw2 hg2; have x0 := Ent.c0 hw2; have x2 := Ent.c2 hw2; have x4 := Ent.c4 hw2; have X1 := Lib.hid hw2; have X2 := Lib.hid hg2; clear hw2 hg2))
      exact ⟨⟨k + 1, by omega, by go_num, by rw [HS.out], bthen' HB.out (((Below.refl _ _).alloc (Nat.le_refl _) _).grown X2.out (by simp) (fun k hk => by cases hk; exact Nat.le_refl _))⟩, by simp [intOf]; omega⟩
    · obtain rfl : k = 64 := by omega
      go_wp2
      go_ret
      exact ⟨rfl, HB.out⟩
/-- Who is of another configuration. -/
def isStr (m : Ear) (ce : Nat) (cr : Int) (p : Nat) : Bool := (ofE m p).2 && !(decide ((ofE m p).1.pe = ce) && decide ((ofE m p).1.pr = cr))
def strL (m : Ear) (ce : Nat) (cr : Int) (ps : List Nat) : Nat := ps.foldl (fun s p => if isStr m ce cr p then s ||| bitN p else s) 0
def strE (m : Ear) (s ce : Nat) (cr : Int) : Nat := strL m ce cr (listN (s &&& m.others))
theorem strL_snoc (m : Ear) (ce : Nat) (cr : Int) (ps : List Nat) (p : Nat) : strL m ce cr (ps ++ [p]) = if isStr m ce cr p then strL m ce cr ps ||| bitN p else strL m ce cr ps := by simp [strL]
theorem foldOr_lt (f : Nat → Bool) (l : List Nat) : ∀ s : Nat, s < 18446744073709551616 → l.foldl (fun (s p : Nat) => if f p then s ||| bitN p else s) s < 18446744073709551616 := by
  induction l with
  | nil => exact fun s h => h
  | cons p l ih =>
    intro s h
    refine ih _ ?_
    show (if f p then s ||| bitN p else s) < _
    split
    · exact or_lt64 h (bitN_lt _)
    · exact h
theorem strL_lt (m : Ear) (ce : Nat) (cr : Int) (ps : List Nat) : strL m ce cr ps < 18446744073709551616 := foldOr_lt _ _ _ (by decide)
section
variable {w : World} {B : Nat} {b : Bt} {t : TypeId} {fr : Nat × Nat}
theorem Bt.c2 (h : w.heap[B]? = some (.cells b.vals.toArray t fr)) : w.cell? ⟨B, 2, none⟩ = some (.int .u64 b.pe) := by rw [cell_of_row w B 2 _ _ _ h]; rfl
theorem Bt.c3 (h : w.heap[B]? = some (.cells b.vals.toArray t fr)) : w.cell? ⟨B, 3, none⟩ = some (.int .i64 b.pr) := by rw [cell_of_row w B 3 _ _ _ h]; rfl
end
theorem strange_any (g : Nat) (m : Ear) (s ce : Nat) (cr : Int) (hs : s < 18446744073709551616) (w : World) (hT : TabOk w) (hw : EarAt w g m) (wf : m.Wf) :
    Calls Tryd.prog 45 #[.pointer (some ⟨g, 0, none⟩), .int .u64 s, .agg #[.int .u64 ce, .int .i64 cr]] w fun e w' => e = .returned (.int .u64 (strE m s ce cr)) ∧ Below w.heap.size w w' := by
  have hz := zero_beat
  have HA := Lib.hid ((Below.refl w.heap.size w).alloc (Nat.le_refl _) (.cells #[.int .u64 ce, .int .i64 cr] 60))
  have HBX := Lib.hid (heap_alloc_new w (.cells #[.int .u64 ce, .int .i64 cr] 60))
  have HT := Lib.hid hT
  have HW := Lib.hid hw
  have WF := Lib.hid wf
  have hu : Hid ((Tryd.prog.info? 67).map (·.size) = some (5 : Nat)) := Lib.hid size_beat
  unfold strE
  have hl := listN_length (s &&& m.others)
  have hq1 := Lib.hid (fun q (h : q ∈ listN (s &&& m.others)) => listN_lt h)
  have H := Lib.hid (fun w (h : TabOk w) => list_any (s &&& m.others) (and_lt64 hs) w h)
  have HB := Lib.hid (both_any s m.others hs wf.others)
  obtain ⟨ls, hls⟩ : ∃ ls, listN (s &&& m.others) = ls := ⟨_, rfl⟩
  rw [hls] at H hl hq1
  rw [hls]
  have c3 := (HW.out.below HA.out).c3
  clear hT hw wf hls hs
  go_enter Tryd.func45, Tryd.ntmps45
  go_wp2_with fail
  refine (HB.out _).mono ?_
  rintro e w' ⟨rfl, rfl⟩
  go_wp2_with fail
  refine (H.out _ (HT.out.belowS HA.out)).mono ?_
  rintro e w1 ⟨v, rfl, hown, hb⟩
  obtain ⟨a, c, gl, rfl, ha, hcl⟩ := hown.form
  have HX := Lib.hid (bthen' HA.out hb)
  have HCL := Lib.hid hcl
  have HA1 := Lib.hid ha
  have HW1 := Lib.hid (HW.out.below HX.out)
  have HBX1 := Lib.hid (bblock hb HBX.out)
  clear hb hcl hown ha c3
  go_wp2
  go_loopw [7, 9, 10, 11, 20] (fun t _ _ _ i wr => ∃ k : Nat, k ≤ ls.length ∧ i = .int .i64 k ∧ t = .int .u64 (strL m ce cr (ls.take k)) ∧ Below w1.heap.size w1 wr) (fun _ _ _ _ i _ => ls.length - (intOf i).toNat)
  case atStart => exact ⟨0, Nat.zero_le _, rfl, rfl, Below.refl _ _⟩
  case round =>
    obtain ⟨k, hk, rfl, rfl, hbr⟩ := hrel
    have HB := Lib.hid hbr
    clear hbr
    by_cases hlt : k < ls.length
    · obtain ⟨q, hqk⟩ : ∃ q, ls[k] = q := ⟨_, rfl⟩
      have hq : q < 64 := hq1.out q (by rw [← hqk]; exact List.getElem_mem hlt)
      obtain rfl := HA1.out (by omega)
      have hcell := HCL.out k hlt
      rw [show ls.getD k 0 = q by simp [hlt, hqk], ← HB.out.cell (p := ⟨gl, k, none⟩) (World.block_lt_of_cell? _ _ hcell)] at hcell
      have HE := Lib.hid (HW1.out.below HB.out)
      have HBX2 := Lib.hid (bblock HB.out HBX1.out)
      have HS := Lib.hid (show strL m ce cr (ls.take (k + 1)) = if isStr m ce cr q then strL m ce cr (ls.take k) ||| bitN q else strL m ce cr (ls.take k) by rw [take_snoc _ _ hlt, hqk, strL_snoc])
      have hkl : (k : Int) < (ls.length : Int) := by omega
      have HLT := Lib.hid (strL_lt m ce cr (ls.take k))
      clear hqk
      generalize strL m ce cr (ls.take k) = n at HS HLT
      go_wp2_with fail
      refine (eof_any g m q _ HE.out WF.out).mono ?_
      rintro e w2 ⟨rfl, hb⟩
      have HB2 := Lib.hid hb
      have BX3 := Lib.hid (bblock hb HBX2.out)
      clear hb hcell
      unfold isStr at HS
      unfold ofV
      generalize ofE m q = bo at HS ⊢
      obtain ⟨b, ok⟩ := bo
      try dsimp only at HS ⊢
      unfold Bt.v
      have HN := Lib.hid (show w.heap.size < w2.heap.size from (Array.getElem?_eq_some_iff.1 BX3.out).1)
      have HB3 := Lib.hid (fun w3 (h : (w2.alloc (.cells Bt.zero.vals.toArray 67)).grownBy w3 (some w2.heap.size)) => (show Below w.heap.size w w3 from
        bthen' (bthen' (bthen' HX.out HB.out) HB2.out) (((Below.refl _ _).alloc (Nat.le_refl _) _).grown h (by simp) (fun k hk => by cases hk; exact Nat.le_refl _))))
      have HB4 := Lib.hid (fun w3 (h : (w2.alloc (.cells Bt.zero.vals.toArray 67)).grownBy w3 (some w2.heap.size)) => (show Below w1.heap.size w1 w3 from
        bthen' (bthen' HB.out HB2.out) (((Below.refl _ _).alloc (Nat.le_refl _) _).grown h (by simp) (fun k hk => by cases hk; exact Nat.le_refl _))))
      have HBX3 := Lib.hid (fun w3 (h : (w2.alloc (.cells Bt.zero.vals.toArray 67)).grownBy w3 (some w2.heap.size)) => (show w3.heap[w.heap.size]? = some (.cells #[.int .u64 ce, .int .i64 cr] 60 (0, 0)) by
        rw [h.block _ (by simp; have := HN.out; omega) (by intro e; have := Option.some.inj e; have := HN.out; omega), heap_alloc_old _ _ HN.out]; exact BX3.out))
      cases ok
      · have HG := Lib.hid (show strL m ce cr (ls.take (k + 1)) = n by rw [HS.out]; rfl)
        go_wp2_with (refine wpList_store_row rfl 67 _ _ rfl w2.heap.size (by rfl) b.vals.toArray (by rfl) Bt.zero.vals.toArray 67 (heap_alloc_new _ _) rfl hu.out b.oneL ?_; intro w3 hw3 hg3; have y2 := Bt.c2 hw3; have y3 := Bt.c3 hw3; have y0 := cell_of_row w3 w.heap.size 0 _ _ _ (HBX3.out w3 hg3); have y1 := cell_of_row w3 w.heap.size 1 _ _ _ (HBX3.out w3 hg3); have X2 := Lib.hid hg3; clear hw3 hg3)
        exact ⟨⟨k + 1, by omega, by go_num, by rw [HG.out], HB4.out _ X2.out⟩, by simp [intOf]; omega⟩
      · by_cases h1 : b.pe = ce
        · by_cases h2 : b.pr = cr
          · have HG := Lib.hid (show strL m ce cr (ls.take (k + 1)) = n by rw [HS.out, decide_eq_true h1, decide_eq_true h2]; rfl)
            go_wp2_with (refine wpList_store_row rfl 67 _ _ rfl w2.heap.size (by rfl) b.vals.toArray (by rfl) Bt.zero.vals.toArray 67 (heap_alloc_new _ _) rfl hu.out b.oneL ?_; intro w3 hw3 hg3; have y2 := Bt.c2 hw3; have y3 := Bt.c3 hw3; have y0 := cell_of_row w3 w.heap.size 0 _ _ _ (HBX3.out w3 hg3); have y1 := cell_of_row w3 w.heap.size 1 _ _ _ (HBX3.out w3 hg3); have X2 := Lib.hid hg3; clear hw3 hg3)
            exact ⟨⟨k + 1, by omega, by go_num, by rw [HG.out], HB4.out _ X2.out⟩, by simp [intOf]; omega⟩
          · have HG := Lib.hid (show strL m ce cr (ls.take (k + 1)) = n ||| bitN q by rw [HS.out, decide_eq_true h1, decide_eq_false h2]; rfl)
            go_wp2_with (refine wpList_store_row rfl 67 _ _ rfl w2.heap.size (by rfl) b.vals.toArray (by rfl) Bt.zero.vals.toArray 67 (heap_alloc_new _ _) rfl hu.out b.oneL ?_; intro w3 hw3 hg3; have y2 := Bt.c2 hw3; have y3 := Bt.c3 hw3; have y0 := cell_of_row w3 w.heap.size 0 _ _ _ (HBX3.out w3 hg3); have y1 := cell_of_row w3 w.heap.size 1 _ _ _ (HBX3.out w3 hg3); have X2 := Lib.hid hg3; clear hw3 hg3)
            refine (with_one _ _ _ _ HLT.out _ (cell_new _ _ _)).mono ?_
            rintro e w' ⟨rfl, rfl⟩
            go_wp2
            exact ⟨⟨k + 1, by omega, by go_num, by rw [HG.out], (HB4.out _ X2.out).alloc (HB4.out _ X2.out).size _⟩, by simp [intOf]; omega⟩
        · have HG := Lib.hid (show strL m ce cr (ls.take (k + 1)) = n ||| bitN q by rw [HS.out, decide_eq_false h1]; rfl)
          go_wp2_with (refine wpList_store_row rfl 67 _ _ rfl w2.heap.size (by rfl) b.vals.toArray (by rfl) Bt.zero.vals.toArray 67 (heap_alloc_new _ _) rfl hu.out b.oneL ?_; intro w3 hw3 hg3; have y2 := Bt.c2 hw3; have y3 := Bt.c3 hw3; have y0 := cell_of_row w3 w.heap.size 0 _ _ _ (HBX3.out w3 hg3); have y1 := cell_of_row w3 w.heap.size 1 _ _ _ (HBX3.out w3 hg3); have X2 := Lib.hid hg3; clear hw3 hg3)
          refine (with_one _ _ _ _ HLT.out _ (cell_new _ _ _)).mono ?_
          rintro e w' ⟨rfl, rfl⟩
          go_wp2
          exact ⟨⟨k + 1, by omega, by go_num, by rw [HG.out], (HB4.out _ X2.out).alloc (HB4.out _ X2.out).size _⟩, by simp [intOf]; omega⟩
    · obtain rfl : k = ls.length := by omega
      go_wp2
      go_ret
      exact ⟨by rw [List.take_length]; rfl, bthen' HX.out HB.out⟩
end Go.Proofs.YtjokfjdbioeohaaDoor

/-
  An own row grown by one element, and plan's Boundary.
-/
import Derived.Test.YtagelhbknbpfhaaDoorPlanB
import Derived.Lib.AppendZeros
namespace Go.Proofs.YtagelhbknbpfhaaDoor
open Go.RowKit Go.BigFrame
set_option maxHeartbeats 1000000
set_option maxRecDepth 100000
theorem row_same {w w' : World} {B : Nat} {e : TypeId} {sz : Nat} {kv : Value} {n : Nat} {l : List Value} (h : w.ownsRow B e sz kv n l) (hr : ∀ k, kv.ownBlock = some k → w'.heap[k]? = w.heap[k]?) : w'.ownsRow B e sz kv n l :=
  ⟨h.1, h.2.imp id fun ⟨b, cap, cur, hv, hb, hh, r⟩ => ⟨b, cap, cur, hv, hb, by rw [hr b (by rw [hv]; rfl)]; exact hh, r⟩⟩
theorem row_below {w w' : World} {B : Nat} {e : TypeId} {sz : Nat} {kv : Value} {n : Nat} {l : List Value} (h : w.ownsRow B e sz kv n l) (hb : Below w.heap.size w w') : w'.ownsRow B e sz kv n l :=
  row_same h (fun k e => hb.block k (h.lt k e).2)
/-- One more element in an own row: the element lies in a block just made. -/
theorem own_step {W w w7 : World} {slT elT : TypeId} {zv : Value} {sz bytes : Nat} (hsl : Tryd.prog.underlying slT = some (.slice elT)) (hinfo : (Tryd.prog.info? elT).map (fun i => (i.zero, i.size, i.bytes)) = some (some zv, sz, bytes)) (hzs : zv.cells.size = sz) (hsz : 0 < sz)
    (hW : Below W.heap.size W w) {kv : Value} {n : Nat} {cs : List Value} (hown : w.ownsRow W.heap.size elT sz kv n cs) (h7 : Below w.heap.size w w7) (d : List Value) (hd : d.length = sz) (h1 : ∀ u ∈ d, u.oneCell' = true) (hn : n < 1000000) (hby : bytes ≤ 1000) :
    ∃ v' w8, (Builtin.append_ #[slT, slT] slT #[kv, .slice (some ⟨w7.heap.size, 0, none⟩) 1 1]).run Tryd.prog (w7.alloc (.cells d.toArray elT)) = .ok v' w8 ∧ w8.ownsRow W.heap.size elT sz v' (n + 1) (cs ++ d) ∧ Below W.heap.size W w8 := by
  obtain ⟨i0, hi, hz0, hz1, hz2⟩ := info_parts hinfo
  have hb : Below w7.heap.size w7 (w7.alloc (.cells d.toArray elT)) := (Below.refl _ _).alloc (Nat.le_refl _) _
  have hb7 := bthen' h7 hb
  have hown' := row_below hown hb7
  have hsz7 := Nat.le_trans hW.size hb7.size
  have hmul : (n + 1) * bytes ≤ 1000000 * 1000 := Nat.mul_le_mul (by omega) hby
  obtain ⟨v', w', h1', h2, h3, h4⟩ := run_append_src (P := Tryd.prog) (w7.alloc (.cells d.toArray elT)) W.heap.size slT slT elT i0 zv sz bytes hsl hi hz0 hz1 hz2 hzs hsz kv n cs hown'
    (some ⟨w7.heap.size, 0, none⟩) 1 1 d (by omega) (fun _ => ⟨_, rfl, fun j u hj => by
      have e : (⟨w7.heap.size, 0, none⟩ : Addr).add j = ⟨w7.heap.size, j, none⟩ := by simp [Addr.add]; exact fun h => h.symm
      rw [e, cell_of_row _ w7.heap.size j _ _ _ (heap_alloc_new w7 _), List.getElem?_toArray]
      exact hj⟩) h1 (by unfold maxLen; omega) (by omega) hsz7
  refine ⟨v', w', h1', h2, ⟨h3.os.trans (hb7.os.trans hW.os), h3.tape.trans (hb7.tape.trans hW.tape), h3.output.trans (hb7.output.trans hW.output), Nat.le_trans hsz7 h3.size, fun q hq => ?_⟩⟩
  have q1 := Nat.lt_of_lt_of_le hq hW.size
  have q2 := Nat.lt_of_lt_of_le q1 hb7.size
  rw [h3.block q q2 (fun e => by have := (hown.lt q e.symm).1; omega), hb7.block q q1, hW.block q hq]
theorem wpList_buildSlice {P : Program} {ops : Array Oper} {rest : List Oper} {o : Oper} {a : Act} {w : World} {Q : Exit → Act → World → Prop} (hgd : o.guard = none) (t : TypeId) (len : Nat) (parts : Array (Nat × Operand)) (ho : o.op = .buildSlice t len parts) (ps : Array (Nat × Value)) (hp : (parts.map fun (i, x) => (i, a.eval x)) = ps)
    (v : Value) (w' : World) (hr : (Instr.buildSlice t len ps).run P w = .ok v w') (h : wpList P ops Q rest (a.put o.dst v) w') : wpList P ops Q (o :: rest) a w :=
  wpList_plain hgd fun K hK => by
    unfold Oper.wp execOp
    simp only [ho, hp, Sem.run_bind, hr, Result.andThen_ok, Sem.run_pure]
    exact hK _ _ h
theorem run_buildK (x : Ky) (w : World) : (Instr.buildSlice 73 1 #[(0, .agg x.vals.toArray)]).run Tryd.prog w = .ok (.slice (some ⟨w.heap.size, 0, none⟩) 1 1) (w.alloc (.cells x.vals.toArray 41)) := by kernel_rfl
theorem lasts_take (l : List XE) (k : Nat) (h : k < l.length) : (exs (l.take (k + 1))).map Ex.last = (exs (l.take k)).map Ex.last ++ [l[k].x.last] := by
  rw [exs_take l k h, List.map_append]; rfl
theorem boundary_any {w : World} {g : Nat} {l : List XE} (h : PlanAt w g l) :
    Calls Tryd.prog 20 #[.pointer (some ⟨g, 0, none⟩)] w fun e w' => e = .returned (.agg (bndL (exs l)).vals.toArray) ∧ Below w.heap.size w w' := by
  have hz := zero_ex
  have hz2 := zero_ky
  have hu : Hid ((Tryd.prog.info? 64).map (·.size) = some (6 : Nat)) := Lib.hid size_ex
  have huk : Hid ((Tryd.prog.info? 41).map (·.size) = some (2 : Nat)) := Lib.hid size_ky
  obtain ⟨n, hn⟩ : ∃ n, w.heap.size = n := ⟨_, rfl⟩
  have BB := Lib.hid (bel_box w Ky.zero.vals.toArray 41)
  have B0 := heap_alloc_new w (.cells Ky.zero.vals.toArray 41)
  obtain ⟨W, hW⟩ : ∃ W : World, w.alloc (.cells Ky.zero.vals.toArray 41) = W := ⟨_, rfl⟩
  rw [hW] at B0 BB
  rw [hn] at B0
  obtain ⟨v, a, c, b, o, h1, h2⟩ := h.below BB.out
  obtain rfl := h2.r.v
  have c0 : W.cell? ⟨g, 0, none⟩ = some (.slice a l.length c) := by rw [cell_of_row W g 0 _ _ _ h1]; rfl
  have H2 := Lib.hid h2
  have C0 := Lib.hid B0
  have HW := Lib.hid hW
  have HN := Lib.hid hn
  have hlen : (l.length : Int) ≤ 1000 := by have := h2.len; omega
  clear h1 h2 hW B0 h
  go_enter Tryd.func20, Tryd.ntmps20
  go_upto_region 1 with fail
  rw [HW.out]
  clear hn
  go_wp2
  clear c0
  go_loopw [3, 11] (fun kv i wr => ∃ k : Nat, k ≤ l.length ∧ i = .int .i64 k ∧ Below W.heap.size W wr ∧ wr.ownsRow W.heap.size 41 2 kv k (rowOf Ky.vals ((exs (l.take k)).map Ex.last))) (fun _ i _ => l.length - (intOf i).toNat)
  case atStart => exact ⟨0, Nat.zero_le _, rfl, Below.refl _ _, World.ownsRow_nil _ _ _ _⟩
  case round =>
    obtain ⟨k, hk, rfl, hb, hown⟩ := hrel
    have HB := Lib.hid hb
    have HO := Lib.hid hown
    clear hb hown
    by_cases hlt : k < l.length
    · obtain ⟨rfl, _⟩ := H2.out.r.a (by omega)
      obtain ⟨y, hy⟩ : ∃ y, l[k] = y := ⟨_, rfl⟩
      have hlt' : (k : Int) < (l.length : Int) := by omega
      have HS := Lib.hid (show rowOf Ky.vals ((exs (l.take (k + 1))).map Ex.last) = rowOf Ky.vals ((exs (l.take k)).map Ex.last) ++ y.x.last.vals by rw [lasts_take l k hlt, hy, rowOf_snoc])
      have HX := Lib.hid (show wr.rangeAt b (o + k * 6) y.vals from by rw [← hy]; exact (H2.out.r.below rfl HB.out).at_ XE.len hlt)
      have HOK := Lib.hid (show y.Ok wr from by rw [← hy]; exact (H2.out.ok _ (List.getElem_mem hlt)).below rfl HB.out)
      obtain ⟨D, hD⟩ : ∃ D, wr.heap.size = D := ⟨_, rfl⟩
      go_upto_region 5 with (first
        | (guard_target = wpList _ _ _ (Oper.mk none (Op.store _ _ _) _ _ _ none :: _) _ _; refine wpList_store_row rfl 64 _ _ rfl D (by rfl) y.vals.toArray (by rfl) exZero.toArray 64 (by rw [← hD]; exact heap_alloc_new _ _) rfl hu.out HOK.out.oneA ?_; intro w7 hw7 hg7)
        | (guard_target = wpList _ _ _ (Oper.mk _ (Op.load 64 _) _ _ _ none :: _) _ _; refine wpList_load_mid rfl 64 _ rfl b (o + k * 6) (by rfl) y.vals _ HX.out Tryd.underlying64 rfl hu.out ?_; simp only [Act.put, List.setIfInBounds_toArray, List.set_cons_zero, List.set_cons_succ]))
      have hb7 : Below wr.heap.size wr w7 := bel_new (hD ▸ hg7)
      have H7 := Lib.hid hb7
      have HB7 := Lib.hid (bthen' HB.out hb7)
      have HOK7 := Lib.hid (HOK.out.below rfl hb7)
      have DB := Lib.hid hw7
      clear hw7 hg7 hD hb7
      clear hy
      obtain ⟨v', w8, hrun, hown8, hb8⟩ := own_step (slT := 73) Tryd.underlying73 info_ky rfl (by decide) HB.out HO.out H7.out y.x.last.vals rfl y.x.last.oneL (by omega) (by decide)
      have HR := Lib.hid hrun
      rw [← HS.out] at hown8
      have HO8 := Lib.hid hown8
      have HB8 := Lib.hid hb8
      have MID := Lib.hid (show w7.rangeAt D 4 y.x.last.vals from by
        intro j u hj
        rw [cell_of_row w7 D (4 + j) _ _ _ DB.out]
        have hj2 : j < 2 := (List.getElem?_eq_some_iff.1 hj).1
        match j, hj2 with
        | 0, _ => exact hj
        | 1, _ => exact hj)
      clear hrun hown8 hb8
      go_wp2_with (first
        | (guard_target = wpList _ _ _ (Oper.mk _ (Op.load 41 _) _ _ _ none :: _) _ _; refine wpList_load_mid rfl 41 _ rfl D 4 (by rfl) y.x.last.vals _ MID.out Tryd.underlying41 rfl huk.out ?_; simp only [Act.put, List.setIfInBounds_toArray, List.set_cons_zero, List.set_cons_succ])
        | (guard_target = wpList _ _ _ (Oper.mk _ (Op.buildSlice _ _ _) _ _ _ none :: _) _ _; refine wpList_buildSlice rfl 73 1 _ rfl #[(0, .agg y.x.last.vals.toArray)] (by kernel_rfl) _ _ (run_buildK y.x.last w7) ?_; simp only [Act.put, List.setIfInBounds_toArray, List.set_cons_zero, List.set_cons_succ])
        | (guard_target = wpList _ _ _ (Oper.mk _ (Op.call _) _ _ _ none :: _) _ _; refine Lib.wpList_append_run _ rfl _ _ _ _ rfl _ _ rfl rfl _ _ HR.out ?_; simp only [Act.put, List.setIfInBounds_toArray, List.set_cons_zero, List.set_cons_succ]))
      go_roundw
      case rel => exact ⟨k + 1, by omega, by go_num, HB8.out, HO8.out⟩
      case measure => simp [intOf]; omega
    · obtain rfl : k = l.length := by omega
      rw [List.take_length] at HO
      have hll : ((exs l).map Ex.last).length = l.length := by simp [exs]
      obtain ⟨a', c', b', hrow, _⟩ := RowAt.own (f := Ky.vals) HO.out hll.symm Ky.len
      have HL := Lib.hid (last_any wr _ _ a' c' b' 0 (by rw [hll]; exact H2.out.len) hrow)
      clear hrow hll
      go_wp2_with fail
      refine HL.out.mono ?_
      rintro e w9 ⟨rfl, hb9⟩
      have HB9 := Lib.hid (bthen' BB.out (bthen' HB.out hb9))
      have C1 := Lib.hid (bblock hb9 (bblock HB.out C0.out))
      clear hb9
      go_wp2_with (guard_target = wpList _ _ _ (Oper.mk none (Op.store _ _ _) _ _ _ none :: _) _ _; refine wpList_store_row rfl 41 _ _ rfl n (by rfl) (bndL (exs l)).vals.toArray (by rfl) Ky.zero.vals.toArray 41 C1.out rfl huk.out (bndL (exs l)).oneA ?_; intro w10 hw10 hg10)
      refine bodyPost_ret (results_cell_row rfl _ w10 n 41 _ (0, 0) _ (by rfl) hw10 Tryd.underlying41 rfl huk.out) rfl ⟨rfl, ?_⟩
      exact HB9.out.grown hg10 HB9.out.size (fun k hk => by cases hk; rw [HN.out]; exact Nat.le_refl _)
end Go.Proofs.YtagelhbknbpfhaaDoor

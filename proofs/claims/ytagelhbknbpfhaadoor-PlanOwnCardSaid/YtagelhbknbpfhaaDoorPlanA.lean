/-
  consortlaw15: awake.
-/
import Derived.Test.YtagelhbknbpfhaaDoorPlanX
import Derived.Test.YtagelhbknbpfhaaDoorPlanH
namespace Go.Proofs.YtagelhbknbpfhaaDoor
open Go.RowKit Go.BigFrame
set_option maxHeartbeats 1000000
set_option maxRecDepth 100000
theorem wpList_build {P : Program} {ops : Array Oper} {rest : List Oper} {o : Oper} {a : Act} {w : World} {Q : Exit → Act → World → Prop} (hgd : o.guard = none) (t : TypeId) (parts : Array (Nat × Operand)) (ho : o.op = .build t parts) (ps : Array (Nat × Value)) (hp : (parts.map fun (i, x) => (i, a.eval x)) = ps)
    (v : Value) (hr : ∀ w, (Instr.build t ps).run P w = .ok v w) (h : wpList P ops Q rest (a.put o.dst v) w) : wpList P ops Q (o :: rest) a w :=
  wpList_plain hgd fun K hK => by
    unfold Oper.wp execOp
    simp only [ho, hp, Sem.run_bind, hr, Result.andThen_ok, Sem.run_pure]
    exact hK _ _ h
theorem zero_cf (w : World) : (zeroValue 62).run Tryd.prog w = .ok (.agg (cfV 0 0)) w := by kernel_rfl
theorem run_cf3 (w : World) : (Instr.build 62 #[(0, .int .u64 3)]).run Tryd.prog w = .ok (.agg (cfV 3 0)) w := by kernel_rfl
theorem run_u2 (a b : Nat) (w : World) : (Instr.buildSlice 23 2 #[(0, .int .u32 a), (1, .int .u32 b)]).run Tryd.prog w = .ok (.slice (some ⟨w.heap.size, 0, none⟩) 2 2) (w.alloc (.cells #[.int .u32 a, .int .u32 b] 35)) := by kernel_rfl
theorem run_u1 (a : Nat) (w : World) : (Instr.buildSlice 23 1 #[(0, .int .u32 a)]).run Tryd.prog w = .ok (.slice (some ⟨w.heap.size, 0, none⟩) 1 1) (w.alloc (.cells #[.int .u32 a] 35)) := by kernel_rfl
theorem run_ky (s : Nat) (f : Int) (w : World) : (Instr.build 41 #[(0, .int .u64 s), (1, .int .i64 f)]).run Tryd.prog w = .ok (.agg (Ky.vals ⟨s, f⟩).toArray) w := by kernel_rfl
def awE0 (s : Value) : XE := ⟨⟨0, 3, 0, [0, 2], 0, 0⟩, s⟩
def awE1 (s : Value) : XE := ⟨⟨2, 3, 0, [0, 3], 4, 1⟩, s⟩
def awE2 : XE := ⟨⟨3, 0, 0, [], 0, 0⟩, .slice none 0 0⟩
def awF : XE := ⟨⟨0, 0, 0, [], 0, 0⟩, .slice none 0 0⟩
theorem run_e0 (A : Nat) (w : World) : (Instr.build 64 #[(0, .int .i64 0), (1, .agg (cfV 3 0)), (2, .slice (some ⟨A, 0, none⟩) 2 2)]).run Tryd.prog w = .ok (.agg (awE0 (.slice (some ⟨A, 0, none⟩) 2 2)).vals.toArray) w := by kernel_rfl
theorem run_e1 (A : Nat) (w : World) : (Instr.build 64 #[(0, .int .i64 2), (1, .agg (cfV 3 0)), (2, .slice (some ⟨A, 0, none⟩) 2 2), (3, .agg (Ky.vals ⟨4, 1⟩).toArray)]).run Tryd.prog w = .ok (.agg (awE1 (.slice (some ⟨A, 0, none⟩) 2 2)).vals.toArray) w := by kernel_rfl
theorem run_e2 (w : World) : (Instr.build 64 #[(0, .int .i64 3)]).run Tryd.prog w = .ok (.agg awE2.vals.toArray) w := by kernel_rfl
theorem run_ef (w : World) : (Instr.build 64 #[(0, .int .i64 0)]).run Tryd.prog w = .ok (.agg awF.vals.toArray) w := by kernel_rfl
theorem run_eF1 (w : World) : (Instr.buildSlice 22 1 #[(0, .agg awF.vals.toArray)]).run Tryd.prog w = .ok (.slice (some ⟨w.heap.size, 0, none⟩) 1 1) (w.alloc (.cells (rowOf XE.vals [awF]).toArray 64)) := by kernel_rfl
theorem run_e3 (x y z : XE) (w : World) : (Instr.buildSlice 22 3 #[(0, .agg x.vals.toArray), (1, .agg y.vals.toArray), (2, .agg z.vals.toArray)]).run Tryd.prog w = .ok (.slice (some ⟨w.heap.size, 0, none⟩) 3 3) (w.alloc (.cells (rowOf XE.vals [x, y, z]).toArray 64)) := by kernel_rfl
theorem row_made {α : Type} {f : α → List Value} {w : World} {l : List α} {A : Nat} {t : TypeId} {fr : Nat × Nat} (c : Nat) (h : w.heap[A]? = some (.cells (rowOf f l).toArray t fr)) : RowAt f w (.slice (some ⟨A, 0, none⟩) l.length c) l (some ⟨A, 0, none⟩) c A 0 :=
  ⟨rfl, fun _ => ⟨rfl, (Array.getElem?_eq_some_iff.1 h).1⟩, fun j u hj => by rw [Nat.zero_add, cell_of_row w A j _ _ _ h, List.getElem?_toArray]; exact hj⟩
theorem row_nil {α : Type} (f : α → List Value) (w : World) : RowAt f w (.slice none 0 0) [] none 0 0 0 := ⟨rfl, fun h => by simp at h, fun j u hj => by simp [rowOf] at hj⟩
def awX : List Ex := [⟨0, 3, 0, [0, 2], 0, 0⟩, ⟨2, 3, 0, [0, 3], 4, 1⟩]
theorem aw_new (s0 s1 : Value) : newL 0 (exs [awE0 s0, awE1 s1, awE2]) = some awX := by kernel_rfl
theorem aw_no : newL 1 (exs [awF]) = none := by kernel_rfl
def awM0 : MsE := ⟨⟨1, 2, 0, 0, [], []⟩, .slice none 0 0⟩
def awM1 (s : Value) : MsE := ⟨⟨1, 3, 0, 0, [1], []⟩, s⟩
theorem run_m0 (w : World) : (Instr.build 59 #[(0, .int .i64 1), (1, .int .u32 2)]).run Tryd.prog w = .ok (.agg awM0.vals.toArray) w := by kernel_rfl
theorem run_m1 (A : Nat) (w : World) : (Instr.build 59 #[(0, .int .i64 1), (1, .int .u32 3), (4, .slice (some ⟨A, 0, none⟩) 1 1)]).run Tryd.prog w = .ok (.agg (awM1 (.slice (some ⟨A, 0, none⟩) 1 1)).vals.toArray) w := by kernel_rfl
theorem run_mm (x y : MsE) (w : World) : (Instr.buildSlice 50 2 #[(0, .agg x.vals.toArray), (1, .agg y.vals.toArray)]).run Tryd.prog w = .ok (.slice (some ⟨w.heap.size, 0, none⟩) 2 2) (w.alloc (.cells (rowOf MsE.vals [x, y]).toArray 59)) := by kernel_rfl
theorem aw_lacks : lacksK awX [0, 2] 64 = [⟨1, 2, 3, 3⟩] := by kernel_rfl
theorem aw_fin (s : Value) : Fin awX (msgs [awM0, awM1 s]) (fun i => wholeL awX i) (lowerK (fun i => wholeL awX i) (awM1 s).m) :=
  Fin.step _ _ (awM1 s).m (by kernel_rfl) (Fin.done _ (by kernel_rfl))
theorem aw_keep (s : Value) (kf : Nat → Nat) (h : Fin awX (msgs [awM0, awM1 s]) (fun i => wholeL awX i) kf) : ([awM0, awM1 s].filter fun y => keepM awX kf y.m) = [awM0] := by
  rw [h.det (aw_fin s)]
  kernel_rfl
section
variable {P : Program} {ops : Array Oper} {rest : List Oper} {o : Oper} {a : Act} {w : World} {Q : Exit → Act → World → Prop}
theorem wpList_valg {v : Value} (hw : Region.wanted o (yielded ops a.tmps) = true) (hr : (execOp a.eval o).run P w = .ok (.value v) w) (h : wpList P ops Q rest (a.put o.dst v) w) : wpList P ops Q (o :: rest) a w := by
  unfold wpList
  rw [if_pos hw]
  refine .inl ?_
  unfold Oper.wp
  rw [hr]
  exact h
theorem run_load_mid' {ty : TypeId} {d : TypeDesc} {cs : List Value} (hu : P.underlying ty = some d) (hd : d.isRow = true) (hi : (P.info? ty).map (·.size) = some cs.length) (x : Operand) (ho : o.op = .load ty x) (b k : Nat) (hx : a.eval x = .pointer (some ⟨b, k, none⟩)) (hv : w.rangeAt b k cs) :
    (execOp a.eval o).run P w = .ok (.value (.agg cs.toArray)) w := by
  unfold execOp
  simp only [ho, hx, run_loadAt_mid w b k ty cs d hv hu hd hi, Sem.run_bind, Sem.run_pure, Result.andThen_ok]
theorem run_build' {v : Value} (t : TypeId) (parts : Array (Nat × Operand)) (ho : o.op = .build t parts) (vs : Array (Nat × Value)) (hp : (parts.map fun (i, x) => (i, a.eval x)) = vs) (_ : Unit) (hr : ∀ w, (Instr.build t vs).run P w = .ok v w) (w : World) : (execOp a.eval o).run P w = .ok (.value v) w := by
  unfold execOp
  simp only [ho, hp, Sem.run_bind, hr, Result.andThen_ok, Sem.run_pure]
end
theorem exec_eql_gp {o : Oper} {x y : Operand} {r : TypeId} (ho : o.op = .binOp .eql 48 x y r) (ev : Operand → Value) (d : Gp) (hx : ev x = .agg d.vals.toArray) (hy : ev y = .agg d.vals.toArray) (w : World) :
    (execOp ev o).run Tryd.prog w = .ok (.value (.bool true)) w := by
  obtain ⟨dst, op, type, pos, after, guard⟩ := o
  dsimp only at ho
  subst ho
  unfold Gp.vals at hx hy
  unfold execOp
  simp only [hx, hy]
  go_simp
theorem exec_eql_ky {o : Oper} {x y : Operand} {r : TypeId} (ho : o.op = .binOp .eql 41 x y r) (ev : Operand → Value) (d e : Ky) (hx : ev x = .agg d.vals.toArray) (hy : ev y = .agg e.vals.toArray) (w : World) :
    (execOp ev o).run Tryd.prog w = .ok (.value (.bool (d.st == e.st && d.fr == e.fr))) w := by
  obtain ⟨dst, op, type, pos, after, guard⟩ := o
  dsimp only at ho
  subst ho
  unfold Ky.vals at hx hy
  unfold execOp
  simp only [hx, hy]
  go_simp
  simp only [Int.natCast_inj]
  by_cases h1 : d.st = e.st <;> by_cases h2 : d.fr = e.fr <;> simp [h1, h2]
theorem of_slice (b o c : Nat) (xs : List Int) (hx : xs.length ≤ 1000000) (w : World) (hc : ∀ i, i < xs.length → w.cell? ⟨b, o + i, none⟩ = some (.int .i64 (xs.getD i 0))) :
    Calls Tryd.prog 32 #[.slice (some ⟨b, o, none⟩) xs.length c] w fun e w' => e = .returned (.int .u64 (withN 0 xs)) ∧ w = w' := by
  have H := Lib.hid (with_slice 0 b o c xs (by decide) hx w hc)
  clear hc
  go_enter Tryd.func32, Tryd.ntmps32
  go_wp2_with (go_at_call 33; refine H.out.mono ?_; rintro e w' ⟨rfl, rfl⟩)
  go_ret
  exact ⟨rfl, rfl⟩
theorem awake_any (w : World) (hT : TabOk w) : Calls Tryd.prog 9 #[] w fun e w' => e = .returned (.bool true) ∧ Below w.heap.size w w' := by
  have hzc := zero_cf
  have HT := Lib.hid hT
  have huc : Hid ((Tryd.prog.info? 62).map (·.size) = some (2 : Nat)) := Lib.hid size_cf
  obtain ⟨n, hn⟩ : ∃ n, w.heap.size = n := ⟨_, rfl⟩
  clear hT
  go_enter Tryd.func9, Tryd.ntmps9
  go_upto_region 2 with (first
    | (guard_target = wpList _ _ _ (Oper.mk none (Op.store _ _ _) _ _ _ none :: _) _ _; refine wpList_store_row rfl 62 _ _ rfl n (by rfl) (cfV 3 0) (by rfl) (cfV 0 0) 62 (by rw [← hn]; exact heap_alloc_new _ _) rfl huc.out (by decide) ?_; intro w1 hw1 hg1)
    | (guard_target = wpList _ _ _ (Oper.mk _ (Op.build _ _) _ _ _ none :: _) _ _; refine wpList_build rfl _ _ rfl #[(0, .int .u64 3)] (by kernel_rfl) _ run_cf3 ?_; simp only [Act.put, List.setIfInBounds_toArray, List.set_cons_zero, List.set_cons_succ]))
  simp only [Act.put]
  have B1 := Lib.hid (bel_new (hn ▸ hg1))
  obtain ⟨W2, hW2⟩ : ∃ W2 : World, w1.alloc (.cells #[.int .u32 (0 : Nat), .int .u32 (2 : Nat)] 35) = W2 := ⟨_, rfl⟩
  have b2 : Below w1.heap.size w1 W2 := by rw [← hW2]; exact bel_box _ _ _
  obtain ⟨A0, hA0⟩ : ∃ A0, w1.heap.size = A0 := ⟨_, rfl⟩
  have d2 : W2.heap[A0]? = some (.cells (rowOf u32v [0, 2]).toArray 35 (0, 0)) := by rw [← hW2, ← hA0]; exact heap_alloc_new _ _
  obtain ⟨W3, hW3⟩ : ∃ W3 : World, W2.alloc (.cells #[.int .u32 (0 : Nat), .int .u32 (3 : Nat)] 35) = W3 := ⟨_, rfl⟩
  have b3 : Below W2.heap.size W2 W3 := by rw [← hW3]; exact bel_box _ _ _
  obtain ⟨A1, hA1⟩ : ∃ A1, W2.heap.size = A1 := ⟨_, rfl⟩
  have d3 : W3.heap[A1]? = some (.cells (rowOf u32v [0, 3]).toArray 35 (0, 0)) := by rw [← hW3, ← hA1]; exact heap_alloc_new _ _
  obtain ⟨x0, hx0⟩ : ∃ x0 : XE, x0 = awE0 (.slice (some ⟨A0, 0, none⟩) 2 2) := ⟨_, rfl⟩
  obtain ⟨x1, hx1⟩ : ∃ x1 : XE, x1 = awE1 (.slice (some ⟨A1, 0, none⟩) 2 2) := ⟨_, rfl⟩
  obtain ⟨W4, hW4⟩ : ∃ W4 : World, W3.alloc (.cells (rowOf XE.vals [x0, x1, awE2]).toArray 64) = W4 := ⟨_, rfl⟩
  have b4 : Below W3.heap.size W3 W4 := by rw [← hW4]; exact bel_box _ _ _
  obtain ⟨A2, hA2⟩ : ∃ A2, W3.heap.size = A2 := ⟨_, rfl⟩
  have d4 : W4.heap[A2]? = some (.cells (rowOf XE.vals [x0, x1, awE2]).toArray 64 (0, 0)) := by rw [← hW4, ← hA2]; exact heap_alloc_new _ _
  have EX := Lib.hid (show ExsAt W4 (.slice (some ⟨A2, 0, none⟩) 3 3) [x0, x1, awE2] (some ⟨A2, 0, none⟩) 3 A2 0 from by
    refine ⟨row_made 3 d4, fun y hy => ?_, by simp⟩
    simp only [List.mem_cons, List.not_mem_nil, or_false] at hy
    rcases hy with rfl | rfl | rfl
    · subst hx0
      exact ⟨⟨_, _, _, _, row_made (l := [0, 2]) 2 (bblock b4 (bblock b3 d2))⟩, by simp [awE0], by simp [awE0], by simp [awE0]⟩
    · subst hx1
      exact ⟨⟨_, _, _, _, row_made (l := [0, 3]) 2 (bblock b4 d3)⟩, by simp [awE1], by simp [awE1], by simp [awE1]⟩
    · exact ⟨⟨_, _, _, _, row_nil u32v W4⟩, fun n h => by simp [awE2] at h, by decide, by decide⟩)
  have EQ := Lib.hid (show newL 0 (exs [x0, x1, awE2]) = some awX by rw [hx0, hx1]; exact aw_new _ _)
  have B4 := Lib.hid (bthen' (bthen' (bthen' B1.out b2) b3) b4)
  have HN := Lib.hid (new_any 0 EX.out (fun y hy => by
    simp only [List.mem_cons, List.not_mem_nil, or_false] at hy
    rcases hy with rfl | rfl | rfl
    · subst hx0; simp [awE0]
    · subst hx1; simp [awE1]
    · simp [awE2]))
  have R2 := Lib.hid (show (Instr.buildSlice 23 2 #[(0, .int .u32 (0 : Nat)), (1, .int .u32 (2 : Nat))]).run Tryd.prog w1 = .ok (.slice (some ⟨A0, 0, none⟩) 2 2) W2 by rw [run_u2, hW2, hA0])
  have R3 := Lib.hid (show (Instr.buildSlice 23 2 #[(0, .int .u32 (0 : Nat)), (1, .int .u32 (3 : Nat))]).run Tryd.prog W2 = .ok (.slice (some ⟨A1, 0, none⟩) 2 2) W3 by rw [run_u2, hW3, hA1])
  have R4 := Lib.hid (show (Instr.buildSlice 22 3 #[(0, .agg x0.vals.toArray), (1, .agg x1.vals.toArray), (2, .agg awE2.vals.toArray)]).run Tryd.prog W3 = .ok (.slice (some ⟨A2, 0, none⟩) 3 3) W4 by rw [run_e3, hW4, hA2])
  have RE0 := Lib.hid (show ∀ w, (Instr.build 64 #[(0, .int .i64 0), (1, .agg (cfV 3 0)), (2, .slice (some ⟨A0, 0, none⟩) 2 2)]).run Tryd.prog w = .ok (.agg x0.vals.toArray) w by rw [hx0]; exact run_e0 A0)
  have RE1 := Lib.hid (show ∀ w, (Instr.build 64 #[(0, .int .i64 2), (1, .agg (cfV 3 0)), (2, .slice (some ⟨A1, 0, none⟩) 2 2), (3, .agg (Ky.vals ⟨4, 1⟩).toArray)]).run Tryd.prog w = .ok (.agg x1.vals.toArray) w by rw [hx1]; exact run_e1 A1)
  have C1 := Lib.hid hw1
  have C2 := Lib.hid (bblock b2 hw1)
  clear hw1 hg1 hW2 hW3 hW4 b2 b3 b4 d2 d3 d4 hx0 hx1 hA0 hA1 hA2 hn
  go_wp2_with (first
    | (guard_target = wpList _ _ _ (Oper.mk _ (Op.load _ _) _ _ _ none :: _) _ _; first
        | (refine wpList_load_row rfl 62 _ rfl n (by rfl) 62 (cfV 3 0) (0, 0) _ C1.out Tryd.underlying62 rfl huc.out ?_; simp only [Act.put, List.setIfInBounds_toArray, List.set_cons_zero, List.set_cons_succ])
        | (refine wpList_load_row rfl 62 _ rfl n (by rfl) 62 (cfV 3 0) (0, 0) _ C2.out Tryd.underlying62 rfl huc.out ?_; simp only [Act.put, List.setIfInBounds_toArray, List.set_cons_zero, List.set_cons_succ]))
    | (guard_target = wpList _ _ _ (Oper.mk _ (Op.buildSlice _ 2 #[_, (1, Operand.const (Value.int IntKind.u32 2))]) _ _ _ none :: _) _ _; refine wpList_buildSlice rfl 23 2 _ rfl #[(0, .int .u32 (0 : Nat)), (1, .int .u32 (2 : Nat))] (by kernel_rfl) _ _ R2.out ?_; simp only [Act.put, List.setIfInBounds_toArray, List.set_cons_zero, List.set_cons_succ])
    | (guard_target = wpList _ _ _ (Oper.mk _ (Op.buildSlice _ 2 #[_, (1, Operand.const (Value.int IntKind.u32 3))]) _ _ _ none :: _) _ _; refine wpList_buildSlice rfl 23 2 _ rfl #[(0, .int .u32 (0 : Nat)), (1, .int .u32 (3 : Nat))] (by kernel_rfl) _ _ R3.out ?_; simp only [Act.put, List.setIfInBounds_toArray, List.set_cons_zero, List.set_cons_succ])
    | (guard_target = wpList _ _ _ (Oper.mk _ (Op.buildSlice _ 3 _) _ _ _ none :: _) _ _; refine wpList_buildSlice rfl 22 3 _ rfl #[(0, .agg x0.vals.toArray), (1, .agg x1.vals.toArray), (2, .agg awE2.vals.toArray)] (by kernel_rfl) _ _ R4.out ?_; simp only [Act.put, List.setIfInBounds_toArray, List.set_cons_zero, List.set_cons_succ])
    | (guard_target = wpList _ _ _ (Oper.mk _ (Op.build 64 #[_, _, _]) _ _ _ none :: _) _ _; refine wpList_build rfl _ _ rfl #[(0, .int .i64 0), (1, .agg (cfV 3 0)), (2, .slice (some ⟨A0, 0, none⟩) 2 2)] (by kernel_rfl) _ RE0.out ?_; simp only [Act.put, List.setIfInBounds_toArray, List.set_cons_zero, List.set_cons_succ])
    | (guard_target = wpList _ _ _ (Oper.mk _ (Op.build 41 _) _ _ _ none :: _) _ _; refine wpList_build rfl _ _ rfl #[(0, .int .u64 (4 : Nat)), (1, .int .i64 1)] (by kernel_rfl) _ (run_ky 4 1) ?_; simp only [Act.put, List.setIfInBounds_toArray, List.set_cons_zero, List.set_cons_succ])
    | (guard_target = wpList _ _ _ (Oper.mk _ (Op.build 64 #[_, _, _, _]) _ _ _ none :: _) _ _; refine wpList_build rfl _ _ rfl #[(0, .int .i64 2), (1, .agg (cfV 3 0)), (2, .slice (some ⟨A1, 0, none⟩) 2 2), (3, .agg (Ky.vals ⟨4, 1⟩).toArray)] (by kernel_rfl) _ RE1.out ?_; simp only [Act.put, List.setIfInBounds_toArray, List.set_cons_zero, List.set_cons_succ])
    | (guard_target = wpList _ _ _ (Oper.mk _ (Op.build 64 #[_]) _ _ _ none :: _) _ _; refine wpList_build rfl _ _ rfl #[(0, .int .i64 3)] (by kernel_rfl) _ run_e2 ?_; simp only [Act.put, List.setIfInBounds_toArray, List.set_cons_zero, List.set_cons_succ]))
  refine HN.out.mono ?_
  rintro e w5 ⟨hb5, hpost⟩
  rw [EQ.out] at hpost
  obtain ⟨g, ys, hys, rfl, hp, _⟩ : ∃ g ys, some awX = some (exs ys) ∧ e = .returned (.tuple #[.pointer (some ⟨g, 0, none⟩), .bool true]) ∧ PlanAt w5 g ys ∧ W4.heap.size ≤ g := by
    rcases hpost with ⟨h, _⟩ | h
    · cases h
    · exact h
  have HYS := Lib.hid (Option.some.inj hys).symm
  have HP := Lib.hid hp
  have B5 := Lib.hid (bthen' B4.out hb5)
  clear hpost hys hp hb5 HN EX EQ R2 R3 R4 RE0 RE1 C1 C2 B4 B1
  obtain ⟨V2, hV2⟩ : ∃ V2 : World, w5.alloc (.cells (rowOf XE.vals [awF]).toArray 64) = V2 := ⟨_, rfl⟩
  have v2 : Below w5.heap.size w5 V2 := by rw [← hV2]; exact bel_box _ _ _
  obtain ⟨A3, hA3⟩ : ∃ A3, w5.heap.size = A3 := ⟨_, rfl⟩
  have e2 : V2.heap[A3]? = some (.cells (rowOf XE.vals [awF]).toArray 64 (0, 0)) := by rw [← hV2, ← hA3]; exact heap_alloc_new _ _
  have HN := Lib.hid (new_any 1 (l := [awF]) (v := .slice (some ⟨A3, 0, none⟩) 1 1) ⟨row_made 1 e2, fun y hy => by
    obtain rfl := List.mem_singleton.1 hy
    exact ⟨⟨_, _, _, _, row_nil u32v V2⟩, fun n h => by simp [awF] at h, by decide, by decide⟩, by decide⟩ (fun y hy => by obtain rfl := List.mem_singleton.1 hy; decide))
  have R4 := Lib.hid (show (Instr.buildSlice 22 1 #[(0, .agg awF.vals.toArray)]).run Tryd.prog w5 = .ok (.slice (some ⟨A3, 0, none⟩) 1 1) V2 by rw [run_eF1, hV2, hA3])
  have HP2 := Lib.hid (HP.out.below v2)
  have B6 := Lib.hid (bthen' B5.out v2)
  clear hV2 hA3 v2 e2 HP B5
  go_wp2_with (first
    | (guard_target = wpList _ _ _ (Oper.mk _ (Op.buildSlice _ 1 _) _ _ _ none :: _) _ _; refine wpList_buildSlice rfl 22 1 _ rfl #[(0, .agg awF.vals.toArray)] (by kernel_rfl) _ _ R4.out ?_; simp only [Act.put, List.setIfInBounds_toArray, List.set_cons_zero, List.set_cons_succ])
    | (guard_target = wpList _ _ _ (Oper.mk _ (Op.build _ _) _ _ _ none :: _) _ _; refine wpList_build rfl _ _ rfl #[(0, .int .i64 0)] (by kernel_rfl) _ run_ef ?_; simp only [Act.put, List.setIfInBounds_toArray, List.set_cons_zero, List.set_cons_succ]))
  refine HN.out.mono ?_
  rintro e w6 ⟨hb6, hpost⟩
  obtain rfl : e = .returned (.tuple #[.pointer none, .bool false]) := by
    rcases hpost with ⟨_, h⟩ | ⟨_, _, h, _⟩
    · exact h
    · rw [aw_no] at h; cases h
  have HP3 := Lib.hid (HP2.out.below hb6)
  have B7 := Lib.hid (bthen' B6.out hb6)
  clear hpost hb6 HN R4 HP2 B6
  obtain ⟨V3, hV3⟩ : ∃ V3 : World, w6.alloc (.cells #[.int .u32 (0 : Nat), .int .u32 (2 : Nat)] 35) = V3 := ⟨_, rfl⟩
  have v3 : Below w6.heap.size w6 V3 := by rw [← hV3]; exact bel_box _ _ _
  obtain ⟨A4, hA4⟩ : ∃ A4, w6.heap.size = A4 := ⟨_, rfl⟩
  have e3 : V3.heap[A4]? = some (.cells (rowOf u32v [0, 2]).toArray 35 (0, 0)) := by rw [← hV3, ← hA4]; exact heap_alloc_new _ _
  have R2 := Lib.hid (show (Instr.buildSlice 23 2 #[(0, .int .u32 (0 : Nat)), (1, .int .u32 (2 : Nat))]).run Tryd.prog w6 = .ok (.slice (some ⟨A4, 0, none⟩) 2 2) V3 by rw [run_u2, hV3, hA4])
  have HP4 := Lib.hid (HP3.out.below v3)
  have B8 := Lib.hid (bthen' B7.out v3)
  have HL := Lib.hid (lacks_any HP4.out (HT.out.belowS B8.out) (row_made (l := [0, 2]) 2 e3))
  clear hV3 hA4 v3 e3 HP3 B7
  go_wp2_with (guard_target = wpList _ _ _ (Oper.mk _ (Op.buildSlice _ 2 _) _ _ _ none :: _) _ _; refine wpList_buildSlice rfl 23 2 _ rfl #[(0, .int .u32 (0 : Nat)), (1, .int .u32 (2 : Nat))] (by kernel_rfl) _ _ R2.out ?_; simp only [Act.put, List.setIfInBounds_toArray, List.set_cons_zero, List.set_cons_succ])
  refine HL.out.mono ?_
  rintro e w7 ⟨lv, rfl, hlv, hb7⟩
  rw [HYS.out, aw_lacks] at hlv
  obtain ⟨la, lc, lb, hlr, _⟩ := RowAt.own (f := Gp.vals) (l := [⟨1, 2, 3, 3⟩]) hlv rfl Gp.len
  obtain rfl := hlr.v
  obtain ⟨rfl, _⟩ := hlr.a (by decide)
  have LR := Lib.hid hlr
  have HP5 := Lib.hid (HP4.out.below hb7)
  have B9 := Lib.hid (bthen' B8.out hb7)
  clear hlv hlr hb7 HL R2 HP4 B8
  go_upto_region 7 with fail
  obtain ⟨V4, hV4⟩ : ∃ V4 : World, w7.alloc (.cells #[.int .u32 (1 : Nat)] 35) = V4 := ⟨_, rfl⟩
  have v4 : Below w7.heap.size w7 V4 := by rw [← hV4]; exact bel_box _ _ _
  obtain ⟨A5, hA5⟩ : ∃ A5, w7.heap.size = A5 := ⟨_, rfl⟩
  have e4 : V4.heap[A5]? = some (.cells (rowOf u32v [1]).toArray 35 (0, 0)) := by rw [← hV4, ← hA5]; exact heap_alloc_new _ _
  obtain ⟨y1, hy1⟩ : ∃ y1 : MsE, y1 = awM1 (.slice (some ⟨A5, 0, none⟩) 1 1) := ⟨_, rfl⟩
  obtain ⟨V5, hV5⟩ : ∃ V5 : World, V4.alloc (.cells (rowOf MsE.vals [awM0, y1]).toArray 59) = V5 := ⟨_, rfl⟩
  have v5 : Below V4.heap.size V4 V5 := by rw [← hV5]; exact bel_box _ _ _
  obtain ⟨A6, hA6⟩ : ∃ A6, V4.heap.size = A6 := ⟨_, rfl⟩
  have e5 : V5.heap[A6]? = some (.cells (rowOf MsE.vals [awM0, y1]).toArray 59 (0, 0)) := by rw [← hV5, ← hA6]; exact heap_alloc_new _ _
  have MS := Lib.hid (show MsgsAt V5 (.slice (some ⟨A6, 0, none⟩) 2 2) [awM0, y1] (some ⟨A6, 0, none⟩) 2 A6 0 from by
    refine ⟨row_made 2 e5, fun y hy => ?_⟩
    simp only [List.mem_cons, List.not_mem_nil, or_false] at hy
    rcases hy with rfl | rfl
    · exact ⟨⟨_, _, _, _, row_nil u32v V5⟩, fun n h => by simp [awM0] at h, by decide, by decide, by simp [awM0], by simp [awM0]⟩
    · subst hy1
      exact ⟨⟨_, _, _, _, row_made (l := [1]) 1 (bblock v5 e4)⟩, by simp [awM1], by simp [awM1], by simp [awM1], by simp [awM1], by simp [awM1]⟩)
  have R1 := Lib.hid (show (Instr.buildSlice 23 1 #[(0, .int .u32 (1 : Nat))]).run Tryd.prog w7 = .ok (.slice (some ⟨A5, 0, none⟩) 1 1) V4 by rw [run_u1, hV4, hA5])
  have RM1 := Lib.hid (show ∀ w, (Instr.build 59 #[(0, .int .i64 1), (1, .int .u32 3), (4, .slice (some ⟨A5, 0, none⟩) 1 1)]).run Tryd.prog w = .ok (.agg y1.vals.toArray) w by rw [hy1]; exact run_m1 A5)
  have RM := Lib.hid (show (Instr.buildSlice 50 2 #[(0, .agg awM0.vals.toArray), (1, .agg y1.vals.toArray)]).run Tryd.prog V4 = .ok (.slice (some ⟨A6, 0, none⟩) 2 2) V5 by rw [run_mm, hV5, hA6])
  have HP6 := Lib.hid ((HP5.out.below v4).below v5)
  have B10 := Lib.hid (bthen' (bthen' B9.out v4) v5)
  have LR2 := Lib.hid ((LR.out.below rfl v4).below rfl v5)
  have HY1 := Lib.hid hy1
  have HK := Lib.hid (keep_any HP6.out MS.out (by simp))
  clear hV4 hA5 v4 e4 hV5 v5 hA6 e5 hy1 HP5 B9 LR
  go_wp2_with (first
    | (guard_target = wpList _ _ _ (Oper.mk _ (Op.build _ #[_, _]) _ _ _ none :: _) _ _; refine wpList_build rfl _ _ rfl #[(0, .int .i64 1), (1, .int .u32 2)] (by kernel_rfl) _ run_m0 ?_; simp only [Act.put, List.setIfInBounds_toArray, List.set_cons_zero, List.set_cons_succ])
    | (guard_target = wpList _ _ _ (Oper.mk _ (Op.build _ #[_, _, _]) _ _ _ none :: _) _ _; refine wpList_build rfl _ _ rfl #[(0, .int .i64 1), (1, .int .u32 3), (4, .slice (some ⟨A5, 0, none⟩) 1 1)] (by kernel_rfl) _ RM1.out ?_; simp only [Act.put, List.setIfInBounds_toArray, List.set_cons_zero, List.set_cons_succ])
    | (guard_target = wpList _ _ _ (Oper.mk _ (Op.buildSlice _ 1 _) _ _ _ none :: _) _ _; refine wpList_buildSlice rfl 23 1 _ rfl #[(0, .int .u32 (1 : Nat))] (by kernel_rfl) _ _ R1.out ?_; simp only [Act.put, List.setIfInBounds_toArray, List.set_cons_zero, List.set_cons_succ])
    | (guard_target = wpList _ _ _ (Oper.mk _ (Op.buildSlice _ 2 _) _ _ _ none :: _) _ _; refine wpList_buildSlice rfl 50 2 _ rfl #[(0, .agg awM0.vals.toArray), (1, .agg y1.vals.toArray)] (by kernel_rfl) _ _ RM.out ?_; simp only [Act.put, List.setIfInBounds_toArray, List.set_cons_zero, List.set_cons_succ]))
  refine HK.out.mono ?_
  rintro e w8 ⟨kv, kf, rfl, hkf, hkv, hb8⟩
  rw [HYS.out, HY1.out] at hkf hkv
  rw [aw_keep _ kf hkf] at hkv
  have hkl : ∃ ka kc, kv = .slice ka 1 kc := by
    obtain ⟨g2, cap2, h, _⟩ := hkv.form (by decide)
    exact ⟨_, _, h⟩
  obtain ⟨ka, kc, rfl⟩ := hkl
  have HP7 := Lib.hid (HP6.out.below hb8)
  have B11 := Lib.hid (bthen' B10.out hb8)
  have LR3 := Lib.hid (LR2.out.below rfl hb8)
  clear hkf hkv hb8 HK MS R1 RM1 RM HP6 B10 LR2 HY1
  go_upto_region 8 with fail
  go_wp2_with fail
  refine (whole_any HP7.out 1).mono ?_
  rintro e w9 ⟨rfl, h9⟩
  rw [HYS.out, show wholeL awX 1 = 3 by kernel_rfl]
  have HP8 := Lib.hid (HP7.out.below h9)
  have B12 := Lib.hid (bthen' B11.out h9)
  have LR4 := Lib.hid (LR3.out.below rfl h9)
  clear h9
  go_wp2_with fail
  refine (holder_any HP8.out (HT.out.belowS B12.out) 1).mono ?_
  rintro e w10 ⟨rfl, h10⟩
  rw [HYS.out, show holdL awX 1 = 2 by kernel_rfl]
  have HP9 := Lib.hid (HP8.out.below h10)
  have B13 := Lib.hid (bthen' B12.out h10)
  have LR5 := Lib.hid (LR4.out.below rfl h10)
  have hug : Hid ((Tryd.prog.info? 48).map (·.size) = some (4 : Nat)) := Lib.hid (by kernel_rfl)
  have MG := Lib.hid (show w10.rangeAt lb 0 (Gp.vals ⟨1, 2, 3, 3⟩) from LR5.out.at_ Gp.len (i := 0) (by decide))
  have g0 : w10.cell? ⟨lb, 0, none⟩ = some (.int .i64 1) := MG.out 0 _ rfl
  have g1 : w10.cell? ⟨lb, 1, none⟩ = some (.int .i64 2) := MG.out 1 _ rfl
  have g2 : w10.cell? ⟨lb, 2, none⟩ = some (.int .u32 3) := MG.out 2 _ rfl
  have g3 : w10.cell? ⟨lb, 3, none⟩ = some (.int .u32 3) := MG.out 3 _ rfl
  clear h10 LR3 LR4 MG LR5
  go_wp2_with fail
  refine (companions_any HP9.out).mono ?_
  rintro e w11 ⟨rfl, h11⟩
  rw [HYS.out, show compS awX = 5 by kernel_rfl]
  have HP10 := Lib.hid (HP9.out.below h11)
  have B14 := Lib.hid (bthen' B13.out h11)
  clear h11 g0 g1 g2 g3
  go_wp2_with fail
  refine (of_slice _ 0 2 [0, 2] (by decide) _ (fun i hi => ?_)).mono ?_
  · rw [cell_of_row _ _ (0 + i) _ _ _ (heap_alloc_new w11 _)]
    have hi2 : i < 2 := hi
    match i, hi2 with
    | 0, _ => rfl
    | 1, _ => rfl
  rintro e w12 ⟨rfl, rfl⟩
  rw [show withN 0 [0, 2] = 5 by kernel_rfl]
  have HP11 := Lib.hid (HP10.out.below (bel_box w11 #[.int .i64 0, .int .i64 2] 3))
  have B15 := Lib.hid (bthen' B14.out (bel_box w11 #[.int .i64 0, .int .i64 2] 3))
  go_wp2_with fail
  refine (boundary_any HP11.out).mono ?_
  rintro e w13 ⟨rfl, h13⟩
  rw [HYS.out, show (bndL awX).vals = [.int .u64 (4 : Nat), .int .i64 1] by kernel_rfl]
  have B16 := Lib.hid (bthen' B15.out h13)
  clear h13
  go_wp2
  go_ret
  exact ⟨rfl, B16.out⟩
end Go.Proofs.YtagelhbknbpfhaaDoor

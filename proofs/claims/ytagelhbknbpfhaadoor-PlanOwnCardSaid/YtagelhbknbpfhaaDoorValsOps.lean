/-
  The operations of a drawn region, one by one, under XVals' walk.
-/
import Derived.Test.YtagelhbknbpfhaaDoorVals
import Derived.Test.YtagelhbknbpfhaaDoorWorld
import Derived.Deep.MidRow
namespace Go.Proofs.YtagelhbknbpfhaaDoor
open Go.RowKit
section
variable {P : Program} {ops : Array Oper} {C : (Nat → Bool) → World → Prop} {Q : Act → Prop} {i : Nat} {o : Oper} {rest : List Oper} {a : Act}
theorem wpVals_skip (hw : Region.wanted o (yielded ops a.tmps) = false) (hm : ∀ L w, C L w → L i = false → C (addL L i) w) (h : wpVals P ops C Q (i + 1) rest (a.put o.dst undef)) : wpVals P ops C Q i (o :: rest) a := by
  unfold wpVals
  rw [if_neg (by rw [hw]; exact Bool.false_ne_true)]
  exact ⟨hm, h⟩
theorem wpVals_step {v : Value} (hw : Region.wanted o (yielded ops a.tmps) = true) (hv : valsOp P ops C i o a v) (h : wpVals P ops C Q (i + 1) rest (a.put o.dst v)) : wpVals P ops C Q i (o :: rest) a := by
  unfold wpVals
  rw [if_pos hw]
  exact ⟨v, hv, h⟩
theorem wpVals_free {v : Value} (hw : Region.wanted o (yielded ops a.tmps) = true) (hm : ∀ L w, C L w → L i = false → C (addL L i) w) (hr : ∀ w, (execOp a.eval o).run P w = .ok (.value v) w)
    (h : wpVals P ops C Q (i + 1) rest (a.put o.dst v)) : wpVals P ops C Q i (o :: rest) a :=
  wpVals_step hw (fun L w hC hL _ => by rw [hr w]; exact ⟨rfl, hm L w hC hL⟩) h
theorem wpVals_move (x : Operand) (ho : o.op = .move x) (hw : Region.wanted o (yielded ops a.tmps) = true) (hm : ∀ L w, C L w → L i = false → C (addL L i) w)
    (h : wpVals P ops C Q (i + 1) rest (a.put o.dst (a.eval x))) : wpVals P ops C Q i (o :: rest) a :=
  wpVals_free hw hm (fun w => BigFrame.run_move x ho w) h
theorem wpVals_assign (x : Operand) (ho : o.op = .assign x) (hw : Region.wanted o (yielded ops a.tmps) = true) (hm : ∀ L w, C L w → L i = false → C (addL L i) w)
    (h : wpVals P ops C Q (i + 1) rest (a.put o.dst (a.eval x))) : wpVals P ops C Q i (o :: rest) a :=
  wpVals_free hw hm (fun w => BigFrame.run_assign x ho w) h
theorem wpVals_load {v : Value} (t : TypeId) (x : Operand) (ho : o.op = .load t x) (hw : Region.wanted o (yielded ops a.tmps) = true) (hm : ∀ L w, C L w → L i = false → C (addL L i) w) (hag : ∀ w, (isAgg t).run P w = .ok false w)
    (ad : Addr) (hx : a.eval x = .pointer (some ad)) (hv : ∀ L w, C L w → w.cell? ad = some v) (h : wpVals P ops C Q (i + 1) rest (a.put o.dst v)) : wpVals P ops C Q i (o :: rest) a :=
  wpVals_step hw (fun L w hC hL _ => by
    have : (execOp a.eval o).run P w = .ok (.value v) w := by
      unfold execOp
      simp [ho, hx, Instr.loadAt, loadVar, Instr.sureAddr, Sem.run_bind, hag, hv L w hC]
    rw [this]; exact ⟨rfl, hm L w hC hL⟩) h
theorem wpVals_load_agg {ty : TypeId} {d : TypeDesc} {cs : Array Value} (hu : P.underlying ty = some d) (hd : (match d with | .struct _ | .array _ _ => true | _ => false) = true) (hi : (P.info? ty).map (·.size) = some cs.size)
    (x : Operand) (ho : o.op = .load ty x) (hw : Region.wanted o (yielded ops a.tmps) = true) (hm : ∀ L w, C L w → L i = false → C (addL L i) w) (g : Nat) (hx : a.eval x = .pointer (some ⟨g, 0, none⟩)) (t : TypeId) (fr : Nat × Nat)
    (hv : ∀ L w, C L w → w.heap[g]? = some (.cells cs t fr)) (h : wpVals P ops C Q (i + 1) rest (a.put o.dst (.agg cs))) : wpVals P ops C Q i (o :: rest) a :=
  wpVals_step hw (fun L w hC hL _ => by
    have : (execOp a.eval o).run P w = .ok (.value (.agg cs)) w := by
      unfold execOp
      simp only [ho, hx, Instr.loadAt, Instr.sureAddr, Sem.run_bind, Sem.run_pure, Result.andThen_ok, run_loadVar_row w g t ty cs fr d (hv L w hC) hu hd hi]
    rw [this]; exact ⟨rfl, hm L w hC hL⟩) h
theorem wpVals_call {v : Value} (f : FuncId) (xs : Array Operand) (ats : Array TypeId) (ho : o.op = .call { callee := .value (.func f), args := xs, argTypes := ats }) (hw : Region.wanted o (yielded ops a.tmps) = true)
    (hcall : ∀ args w, (callFunc f args).run P w = .ok (.enter f args) w) (args : Array Value) (hx : (xs.toList.map a.eval).toArray = args)
    (hv : ∀ L w, C L w → L i = false → (∀ j, waits ops i j = true → L j = true) → Calls P f args w fun e w' => e = .returned v ∧ C (addL L i) w') (h : wpVals P ops C Q (i + 1) rest (a.put o.dst v)) : wpVals P ops C Q i (o :: rest) a :=
  wpVals_step hw (fun L w hC hL hwt => by
    obtain ⟨dst, op, type, pos, after, guard⟩ := o
    dsimp only at ho
    subst ho
    have hx' : #[] ++ xs.map a.eval ++ #[] = args := by rw [← hx]; apply Array.ext'; simp
    rw [execOp_call_go, hx', hcall]
    exact hv L w hC hL hwt) h
theorem wpVals_store_agg (t : TypeId) (x v : Operand) (ho : o.op = .store t x v) (hw : Region.wanted o (yielded ops a.tmps) = true) (g : Nat) (hx : a.eval x = .pointer (some ⟨g, 0, none⟩)) (cs : Array Value) (hv : a.eval v = .agg cs) (tt : TypeId)
    (hg : ∀ L w, C L w → ∃ cur : Array Value, w.heap[g]? = some (.cells cur tt (0, 0)) ∧ cur.size = cs.size) (hi : (P.info? t).map (·.size) = some cs.size) (h1 : ∀ v ∈ cs.toList, v.oneCell' = true)
    (hC : ∀ L w w', C L w → L i = false → (∀ j, waits ops i j = true → L j = true) → w'.heap[g]? = some (.cells cs tt (0, 0)) → w.grownBy w' (some g) → C (addL L i) w') (h : wpVals P ops C Q (i + 1) rest (a.put o.dst undef)) : wpVals P ops C Q i (o :: rest) a :=
  wpVals_step hw (fun L w hCw hL hwt => by
    obtain ⟨cur, hg, hsz⟩ := hg L w hCw
    cases hq : P.info? t with
    | none => simp [hq] at hi
    | some ii =>
      have hs : ii.size = cs.size := by simpa [hq] using hi
      have hst := run_storeCells_at P g 0 tt cs.toList 0 cur w hg (by simp; omega) h1
      have e2 : (cur.toList.take (0 + 0) ++ cs.toList ++ cur.toList.drop (0 + 0 + cs.toList.length)).toArray = cs := by
        have : cur.toList.drop cs.size = [] := by rw [List.drop_eq_nil_iff]; simp; omega
        simp [this]
      rw [e2] at hst
      have hrun : (Instr.storeAt t (.pointer (some ⟨g, 0, none⟩)) (.agg cs)).run P w = .ok () (w.setRow g cs) := by
        simp only [Instr.storeAt, Instr.sureAddr, Sem.run_bind, Sem.run_pure, Result.andThen_ok, storeVar, sizeOf, typeInfo]
        simp [hq, hs, Value.cells, hst]
      have hrun2 : (execOp a.eval o).run P w = .ok .skip (w.setRow g cs) := by
        unfold execOp
        simp only [ho, hx, hv, Sem.run_bind, hrun, Result.andThen_ok, Sem.run_pure]
      rw [hrun2]
      exact ⟨rfl, hC L w _ hCw hL hwt (setRow_heap w g cur cs tt _ hg) ⟨rfl, rfl, rfl, by simp, fun k _ hk => setRow_other w g k cs (fun e => hk (by rw [e]))⟩⟩) h
/-- A plain value stored into one cell. -/
theorem wpVals_store {u : Value} (t : TypeId) (x v : Operand) (ho : o.op = .store t x v) (hw : Region.wanted o (yielded ops a.tmps) = true) (ad : Addr) (hx : a.eval x = .pointer (some ad)) (hv : a.eval v = u) (hi : (P.info? t).map (·.size) = some 1)
    (h1 : u.oneCell' = true) (hg : ∀ L w, C L w → (∃ c, w.cell? ad = some c) ∧ w.frozen? ad = false)
    (hC : ∀ L w, C L w → L i = false → (∀ j, waits ops i j = true → L j = true) → C (addL L i) (w.setCell ad u)) (h : wpVals P ops C Q (i + 1) rest (a.put o.dst undef)) : wpVals P ops C Q i (o :: rest) a :=
  wpVals_step hw (fun L w hCw hL hwt => by
    obtain ⟨⟨c, hc⟩, hf⟩ := hg L w hCw
    have hcs : u.cells = #[u] := by cases u <;> first | rfl | cases h1
    have hst : (store ad u).run P w = .ok () (w.setCell ad u) := by
      rw [run_store P w _ u _ h1, hc]; simp [hf]
    have hadd : ad.add 0 = ad := by simp [Addr.add]
    cases hq : P.info? t with
    | none => simp [hq] at hi
    | some ii =>
      have hs : ii.size = 1 := by simpa [hq] using hi
      have hrun : (Instr.storeAt t (.pointer (some ad)) u).run P w = .ok () (w.setCell ad u) := by
        simp only [Instr.storeAt, Instr.sureAddr, Sem.run_bind, Sem.run_pure, Result.andThen_ok, storeVar, sizeOf, typeInfo]
        simp [hq, hs, hcs, storeCells, hadd, hst]
      have hrun2 : (execOp a.eval o).run P w = .ok .skip (w.setCell ad u) := by
        unfold execOp
        simp only [ho, hx, hv, Sem.run_bind, hrun, Result.andThen_ok, Sem.run_pure]
      rw [hrun2]
      exact ⟨rfl, hC L w hCw hL hwt⟩) h
/-- A value of many cells stored into the middle of a block. -/
theorem wpVals_store_mid (t : TypeId) (x v : Operand) (ho : o.op = .store t x v) (hw : Region.wanted o (yielded ops a.tmps) = true) (b k : Nat) (hx : a.eval x = .pointer (some ⟨b, k, none⟩)) (cells : Array Value) (hv : a.eval v = .agg cells)
    (ht : ∀ L w, C L w → w.there b k cells.size) (hi : (P.info? t).map (·.size) = some cells.size) (h1 : cells.all (·.oneCell') = true)
    (hC : ∀ L w, C L w → L i = false → (∀ j, waits ops i j = true → L j = true) → C (addL L i) (w.setCells b k cells.toList)) (h : wpVals P ops C Q (i + 1) rest (a.put o.dst undef)) : wpVals P ops C Q i (o :: rest) a :=
  wpVals_step hw (fun L w hCw hL hwt => by
    have hrun := run_storeAt_mid (P := P) w b k t cells (ht L w hCw) hi h1
    have hrun2 : (execOp a.eval o).run P w = .ok .skip (w.setCells b k cells.toList) := by
      unfold execOp
      simp only [ho, hx, hv, Sem.run_bind, hrun, Result.andThen_ok, Sem.run_pure]
    rw [hrun2]
    exact ⟨rfl, hC L w hCw hL hwt⟩) h
end
end Go.Proofs.YtagelhbknbpfhaaDoor

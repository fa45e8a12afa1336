/-
  Small words on worlds: what stays behind a call that makes memory of its own; a slice of ints that a call made; the quiet walk of a region over any class of worlds.
-/
import Derived.Test.YtagelhbknbpfhaaDoorSetList
import Derived.Deep.Quiet
import Derived.BigQuiet
import Derived.Laws.Rows
namespace Go.Proofs.YtagelhbknbpfhaaDoor
open Go.RowKit
/-- What was there reads as it did. -/
theorem bcell {W w1 : World} (hb : Below W.heap.size W w1) : (∀ b o, b < W.heap.size → w1.cell? ⟨b, o, none⟩ = W.cell? ⟨b, o, none⟩) ∧ (∀ b o, b < W.heap.size → w1.frozen? ⟨b, o, none⟩ = W.frozen? ⟨b, o, none⟩) :=
  ⟨fun b o h => hb.cell (p := ⟨b, o, none⟩) h, fun b o h => hb.frozen (p := ⟨b, o, none⟩) h⟩
theorem bblock {W w1 : World} (hb : Below W.heap.size W w1) {g : Nat} {x : Obj} (h : W.heap[g]? = some x) : w1.heap[g]? = some x := by
  rw [hb.block g (Array.getElem?_eq_some_iff.1 h).1]; exact h
/-- The form of an own slice of ints. -/
theorem IntsOwn.form {w : World} {B : Nat} {v : Value} {xs : List Nat} (h : IntsOwn w B v xs) :
    ∃ (a : Option Addr) (c g : Nat), v = .slice a xs.length c ∧ (0 < xs.length → a = some ⟨g, 0, none⟩) ∧
      ∀ i, i < xs.length → w.cell? ⟨g, i, none⟩ = some (.int .i64 ((xs.getD i 0 : Nat) : Int)) := by
  obtain ⟨hl, hv | ⟨g, cap, cur, hv, hg, hh, hn, hm, hc, ht⟩⟩ := h
  · refine ⟨none, 0, 0, ?_, fun h0 => ?_, fun i hi => ?_⟩
    · rw [hv.1, hv.2]
    · omega
    · omega
  · refine ⟨some ⟨g, 0, none⟩, cap, g, hv, fun _ => rfl, fun i hi => ?_⟩
    unfold World.cell?
    simp only [hh, Option.isSome_none, Bool.false_eq_true, if_false]
    have e : cur.toList[i]? = (cur.toList.take (xs.length * 1))[i]? := by rw [List.getElem?_take, if_pos (by omega)]
    rw [← Array.getElem?_toList, e, ht]
    simp [hi]
/-- The one cell of a new block. -/
theorem cell_new (w : World) (v : Value) (t : TypeId) : (w.alloc (.cells #[v] t)).cell? ⟨w.heap.size, 0, none⟩ = some v := by
  rw [cell_of_row _ w.heap.size 0 #[v] t (0, 0) (heap_alloc_new w _)]; rfl
theorem bthen {B : Nat} {a b c : World} (h : Below B a b) (k : Below b.heap.size b c) (hB : B ≤ b.heap.size) : Below B a c := h.trans (k.mono hB)
theorem bthen' {a b c : World} (h : Below a.heap.size a b) (k : Below b.heap.size b c) : Below a.heap.size a c := bthen h k h.size
section
variable {P : Program} {C : World → Prop} {o : Oper} {a : Act} {K : Act → Prop}
theorem quiet_free {v : Value} (hr : ∀ w, (execOp a.eval o).run P w = .ok (.value v) w) (hk : K (a.put o.dst v)) : o.quiet P a C K :=
  ⟨v, fun w _ => by unfold Oper.quietAt; rw [hr w]; exact ⟨rfl, rfl⟩, hk⟩
theorem quiet_load {v : Value} (t : TypeId) (x : Operand) (ho : o.op = .load t x) (hag : ∀ w, (isAgg t).run P w = .ok false w) (ad : Addr) (hx : a.eval x = .pointer (some ad))
    (hv : ∀ w, C w → w.cell? ad = some v) (hk : K (a.put o.dst v)) : o.quiet P a C K :=
  ⟨v, fun w hw => by
    unfold Oper.quietAt
    have : (execOp a.eval o).run P w = .ok (.value v) w := by
      unfold execOp
      simp [ho, hx, Instr.loadAt, loadVar, Instr.sureAddr, Sem.run_bind, hag, hv w hw]
    rw [this]; exact ⟨rfl, rfl⟩, hk⟩
theorem quiet_call {v : Value} (f : FuncId) (xs : Array Operand) (ats : Array TypeId) (ho : o.op = .call { callee := .value (.func f), args := xs, argTypes := ats })
    (hcall : ∀ args w, (callFunc f args).run P w = .ok (.enter f args) w) (args : Array Value) (hx : (xs.toList.map a.eval).toArray = args)
    (h : ∀ w, C w → Calls P f args w fun e w' => e = .returned v ∧ C w') (hk : K (a.put o.dst v)) : o.quiet P a C K :=
  ⟨v, fun w hw => by
    unfold Oper.quietAt
    obtain ⟨dst, op, type, pos, after, guard⟩ := o
    dsimp only at ho
    subst ho
    have hx' : #[] ++ xs.map a.eval ++ #[] = args := by rw [← hx]; apply Array.ext'; simp
    rw [execOp_call_go, hx', hcall]
    exact ⟨rfl, h w hw⟩, hk⟩
/-- A whole struct or array loaded in the quiet walk: its block reads the same in every world of the class. -/
theorem quiet_load_agg {ty : TypeId} {d : TypeDesc} {cs : Array Value} (hu : P.underlying ty = some d) (hd : (match d with | .struct _ | .array _ _ => true | _ => false) = true) (hi : (P.info? ty).map (·.size) = some cs.size)
    (x : Operand) (ho : o.op = .load ty x) (g : Nat) (hx : a.eval x = .pointer (some ⟨g, 0, none⟩)) (t : TypeId) (fr : Nat × Nat)
    (hv : ∀ w, C w → w.heap[g]? = some (.cells cs t fr)) (hk : K (a.put o.dst (.agg cs))) : o.quiet P a C K :=
  ⟨.agg cs, fun w hw => by
    unfold Oper.quietAt
    have : (execOp a.eval o).run P w = .ok (.value (.agg cs)) w := by
      unfold execOp
      simp only [ho, hx, Instr.loadAt, Instr.sureAddr, Sem.run_bind, Sem.run_pure, Result.andThen_ok, run_loadVar_row w g t ty cs fr d (hv w hw) hu hd hi]
    rw [this]; exact ⟨rfl, rfl⟩, hk⟩
end
section
variable {P : Program}
/-- A whole struct or array stored into its block. -/
theorem wpList_store_row {ops : Array Oper} {rest : List Oper} {o : Oper} {a : Act} {w : World} {Q : Exit → Act → World → Prop} (hgd : o.guard = none) (t : TypeId) (x v : Operand) (ho : o.op = .store t x v)
    (g : Nat) (hx : a.eval x = .pointer (some ⟨g, 0, none⟩)) (cs : Array Value) (hv : a.eval v = .agg cs) (cur : Array Value) (tt : TypeId) (hg : w.heap[g]? = some (.cells cur tt (0, 0))) (hsz : cur.size = cs.size)
    (hi : (P.info? t).map (·.size) = some cs.size) (h1 : ∀ v ∈ cs.toList, v.oneCell' = true)
    (h : ∀ w', w'.heap[g]? = some (.cells cs tt (0, 0)) → w.grownBy w' (some g) → wpList P ops Q rest (a.put o.dst undef) w') : wpList P ops Q (o :: rest) a w := by
  refine wpList_plain hgd fun K hK => ?_
  cases hq : P.info? t with
  | none => simp [hq] at hi
  | some i =>
    have hs : i.size = cs.size := by simpa [hq] using hi
    have hst := run_storeCells_at P g 0 tt cs.toList 0 cur w hg (by simp; omega) h1
    have e2 : (cur.toList.take (0 + 0) ++ cs.toList ++ cur.toList.drop (0 + 0 + cs.toList.length)).toArray = cs := by
      have : cur.toList.drop cs.size = [] := by rw [List.drop_eq_nil_iff]; simp; omega
      simp [this]
    rw [e2] at hst
    have hrun : (Instr.storeAt t (.pointer (some ⟨g, 0, none⟩)) (.agg cs)).run P w = .ok () (w.setRow g cs) := by
      simp only [Instr.storeAt, Instr.sureAddr, Sem.run_bind, Sem.run_pure, Result.andThen_ok, storeVar, sizeOf, typeInfo]
      simp [hq, hs, Value.cells, hst]
    unfold Oper.wp execOp
    simp only [ho, hx, hv, Sem.run_bind, hrun, Result.andThen_ok, Sem.run_pure]
    exact hK _ _ (h _ (setRow_heap w g cur cs tt _ hg) ⟨rfl, rfl, rfl, by simp, fun k _ hk => setRow_other w g k cs (fun e => hk (by rw [e]))⟩)
end
end Go.Proofs.YtagelhbknbpfhaaDoor

/-
  Words on worlds and rows that several packages' proofs share. No function of the program but set.List's outcome.
-/
import Derived.Test.YtagelhbknbpfhaaDoorMixOps
import Derived.Test.YtagelhbknbpfhaaDoorQuietB
import Derived.Test.YtagelhbknbpfhaaDoorSetList
import Derived.Lib.OwnKind
import Derived.Deep.MidRow
namespace Go.Proofs.YtagelhbknbpfhaaDoor
open Go.RowKit Go.BigFrame
set_option maxHeartbeats 400000
theorem take_snoc {α : Type} (l : List α) (k : Nat) (h : k < l.length) : l.take (k + 1) = l.take k ++ [l[k]] := List.take_succ_eq_append_getElem h
theorem below_drewN {B : Nat} {a w : World} (h : Below B a w) (n : Nat) : Below B a (w.drewN n) := ⟨h.os, h.tape, h.output, h.size, h.block⟩
theorem grown_of_below {w w' : World} (h : Below w.heap.size w w') (g : Nat) : w.grownBy w' (some g) := ⟨h.os, h.tape, h.output, h.size, fun k hk _ => h.block k hk⟩
theorem grown_set {w w' : World} {g : Nat} (h : w.grownBy w' (some g)) (k : Nat) (v : Value) : w.grownBy (w'.setCell ⟨g, k, none⟩ v) (some g) :=
  ⟨h.os, h.tape, h.output, by simpa [World.setCell] using h.size, fun i hi hne => by
    rw [Below.heap_setCell w' ⟨g, k, none⟩ v i (by intro e; exact hne (by rw [e]))]; exact h.block i hi hne⟩
theorem grown_trans {a b c : World} {g : Nat} (h : a.grownBy b (some g)) (k : b.grownBy c (some g)) : a.grownBy c (some g) :=
  ⟨k.os.trans h.os, k.tape.trans h.tape, k.output.trans h.output, Nat.le_trans h.size k.size, fun i hi hne => (k.block i (Nat.lt_of_lt_of_le hi h.size) hne).trans (h.block i hi hne)⟩
theorem grown_after {a b c : World} {g : Nat} (h : Below a.heap.size a b) (k : b.grownBy c (some g)) : a.grownBy c (some g) := grown_trans (grown_of_below h g) k
theorem TabOk.grown {w w' : World} {g : Nat} (h : TabOk w) (hg : w.grownBy w' (some g)) (hne : g ≠ 0) : TabOk w' := fun j hj => by
  rw [World.cell?_of_block (w := w) (a := ⟨0, j, none⟩) (hg.block _ h.size (by intro e; exact hne (Option.some.inj e).symm))]
  exact h j hj
theorem below_grown {w0 w w' : World} {g : Nat} (h : Below w0.heap.size w0 w) (hg : w.grownBy w' (some g)) (hn : w0.heap.size ≤ g) : Below w0.heap.size w0 w' :=
  h.grown hg h.size (fun k hk => by cases hk; exact hn)
theorem bel_box (w : World) (cs : Array Value) (t : TypeId) : Below w.heap.size w (w.alloc (.cells cs t)) := (Below.refl _ _).alloc (Nat.le_refl _) _
/-- Only a new block was written. -/
theorem bel_new {w w' : World} {o : Obj} (hg : (w.alloc o).grownBy w' (some w.heap.size)) : Below w.heap.size w w' :=
  ((Below.refl _ _).alloc (Nat.le_refl _) _).grown hg (by simp) (fun k hk => by cases hk; exact Nat.le_refl _)
theorem wpList_val {P : Program} {ops : Array Oper} {rest : List Oper} {o : Oper} {a : Act} {w : World} {Q : Exit → Act → World → Prop} {v : Value} (hgd : o.guard = none) (hr : (execOp a.eval o).run P w = .ok (.value v) w)
    (h : wpList P ops Q rest (a.put o.dst v) w) : wpList P ops Q (o :: rest) a w :=
  wpList_plain hgd fun K hK => by
    unfold Oper.wp
    rw [hr]
    exact hK _ _ h
/-- The form of an own slice of ints, and where it lies. -/
theorem IntsOwn.form' {w : World} {B : Nat} {v : Value} {xs : List Nat} (h : IntsOwn w B v xs) :
    ∃ (a : Option Addr) (c g : Nat), v = .slice a xs.length c ∧ (0 < xs.length → a = some ⟨g, 0, none⟩ ∧ B ≤ g) ∧
      ∀ i, i < xs.length → w.cell? ⟨g, i, none⟩ = some (.int .i64 ((xs.getD i 0 : Nat) : Int)) := by
  obtain ⟨hl, hv | ⟨g, cap, cur, hv, hg, hh, hn, hm, hc, ht⟩⟩ := h
  · refine ⟨none, 0, 0, ?_, fun h0 => ?_, fun i hi => ?_⟩
    · rw [hv.1, hv.2]
    · omega
    · omega
  · refine ⟨some ⟨g, 0, none⟩, cap, g, hv, fun _ => ⟨rfl, hg⟩, fun i hi => ?_⟩
    unfold World.cell?
    simp only [hh, Option.isSome_none, Bool.false_eq_true, if_false]
    have e : cur.toList[i]? = (cur.toList.take (xs.length * 1))[i]? := by rw [List.getElem?_take, if_pos (by omega)]
    rw [← Array.getElem?_toList, e, ht]
    simp [hi]
theorem results_cell_tmp1 {P : Program} {fn : Func} {p u : Tmp} {ty : TypeId} (h : fn.results = #[.cell p ty, .tmp u]) (tmps : Array Value) (w : World) (g : Nat) (t : TypeId) (cs : Array Value) (fr : Nat × Nat) (d : TypeDesc)
    (hp : tmps.getD p undef = .pointer (some ⟨g, 0, none⟩)) (hg : w.heap[g]? = some (.cells cs t fr))
    (hu : P.underlying ty = some d) (hd : (match d with | .struct _ | .array _ _ => true | _ => false) = true) (hi : (P.info? ty).map (·.size) = some cs.size) :
    (results fn tmps).run P w = .ok (.tuple #[.agg cs, tmps.getD u undef]) w := by
  have hp' : tmps[p]?.getD undef = .pointer (some ⟨g, 0, none⟩) := by simpa using hp
  simp [results, h, hp', asAddr, run_loadVar_row w g t ty cs fr d hg hu hd hi]
/-- The cells of a row of elements. -/
def rowOf {α : Type} (f : α → List Value) (l : List α) : List Value := l.flatMap f
section
variable {α : Type} {f : α → List Value} {sz : Nat}
theorem rowOf_length (hf : ∀ x, (f x).length = sz) (l : List α) : (rowOf f l).length = l.length * sz := by
  induction l with
  | nil => simp [rowOf]
  | cons x l ih =>
    have : rowOf f (x :: l) = f x ++ rowOf f l := rfl
    rw [this, List.length_append, hf, ih, List.length_cons, Nat.add_mul]; omega
theorem rowOf_snoc (l : List α) (x : α) : rowOf f (l ++ [x]) = rowOf f l ++ f x := by simp [rowOf]
theorem rowOf_at (hf : ∀ x, (f x).length = sz) : ∀ (l : List α) (i j : Nat) (hi : i < l.length), j < sz → (rowOf f l)[i * sz + j]? = (f l[i])[j]?
  | x :: l, 0, j, _, hj => by
    have : rowOf f (x :: l) = f x ++ rowOf f l := rfl
    rw [this, Nat.zero_mul, Nat.zero_add, List.getElem?_append_left (by rw [hf]; exact hj)]; rfl
  | x :: l, i + 1, j, hi, hj => by
    have : rowOf f (x :: l) = f x ++ rowOf f l := rfl
    rw [this, List.getElem?_append_right (by rw [hf, Nat.add_mul]; omega), hf, show (i + 1) * sz + j - sz = i * sz + j by rw [Nat.add_mul]; omega]
    exact rowOf_at hf l i j (by simpa using hi) hj
theorem rowOf_one (hf : ∀ x, ∀ v ∈ f x, v.oneCell' = true) (l : List α) : ∀ v ∈ rowOf f l, v.oneCell' = true := by
  intro v hv
  obtain ⟨x, _, hx⟩ := List.mem_flatMap.1 hv
  exact hf x v hx
end
/-- A row that is only read. -/
structure RowAt {α : Type} (f : α → List Value) (w : World) (v : Value) (l : List α) (a : Option Addr) (c b o : Nat) : Prop where
  v : v = .slice a l.length c
  a : 0 < l.length → a = some ⟨b, o, none⟩ ∧ b < w.heap.size
  r : w.rangeAt b o (rowOf f l)
section
variable {α : Type} {f : α → List Value} {sz : Nat} {w w' : World} {v : Value} {l : List α} {a : Option Addr} {c b o : Nat}
theorem RowAt.below (h : RowAt f w v l a c b o) {n : Nat} (hn : n = w.heap.size) (hb : Below n w w') : RowAt f w' v l a c b o := by
  subst hn
  refine ⟨h.v, fun h0 => ⟨(h.a h0).1, Nat.lt_of_lt_of_le (h.a h0).2 hb.size⟩, fun j u hj => ?_⟩
  have hl : 0 < l.length := by
    cases l with
    | nil => simp [rowOf] at hj
    | cons x l => simp
  exact (hb.cell (p := ⟨b, o + j, none⟩) (h.a hl).2).trans (h.r j u hj)
theorem RowAt.at_ (h : RowAt f w v l a c b o) (hf : ∀ x, (f x).length = sz) {i : Nat} (hi : i < l.length) : w.rangeAt b (o + i * sz) (f l[i]) := by
  intro j u hj
  have hjl : j < sz := by have := (List.getElem?_eq_some_iff.1 hj).1; rw [hf] at this; exact this
  rw [Nat.add_assoc]
  exact h.r (i * sz + j) u (by rw [rowOf_at hf l i j hi hjl]; exact hj)
theorem RowAt.grown (h : RowAt f w v l a c b o) {g : Nat} (hg : w.grownBy w' (some g)) (hne : 0 < l.length → b ≠ g) : RowAt f w' v l a c b o := by
  refine ⟨h.v, fun h0 => ⟨(h.a h0).1, Nat.lt_of_lt_of_le (h.a h0).2 hg.size⟩, fun j u hj => ?_⟩
  have hl : 0 < l.length := by
    cases l with
    | nil => simp [rowOf] at hj
    | cons x l => simp
  rw [World.cell?_of_block (w := w) (a := ⟨b, o + j, none⟩) (hg.block b (h.a hl).2 (by intro e; exact hne hl (Option.some.inj e)))]
  exact h.r j u hj
/-- A row of the call's own may be read. -/
theorem RowAt.own {base n : Nat} {e : TypeId} (h : w.ownsRow base e sz v n (rowOf f l)) (hn : n = l.length) (hf : ∀ x, (f x).length = sz) : ∃ a c b, RowAt f w v l a c b 0 ∧ (0 < l.length → base ≤ b) := by
  subst hn
  rcases h.2 with ⟨rfl, h0⟩ | ⟨g, cap, cur, rfl, hb, hg, hc, hm, hs, ht⟩
  · refine ⟨none, 0, 0, ⟨by rw [h0], fun h1 => by omega, fun j u hj => ?_⟩, fun h1 => by omega⟩
    have : l = [] := List.length_eq_zero_iff.1 h0
    subst this
    simp [rowOf] at hj
  · refine ⟨some ⟨g, 0, none⟩, cap, g, ⟨rfl, fun _ => ⟨rfl, (Array.getElem?_eq_some_iff.1 hg).1⟩, fun j u hj => ?_⟩, fun _ => hb⟩
    rw [Nat.zero_add, cell_of_row w g j _ _ _ hg]
    have hjl : j < l.length * sz := by have := (List.getElem?_eq_some_iff.1 hj).1; rw [rowOf_length hf] at this; exact this
    rw [← ht, List.getElem?_take, if_pos hjl] at hj
    simpa using hj
end
/-- A row whose one cell is set. -/
theorem rowCell {w : World} {g : Nat} {cs : Array Value} {t : TypeId} {fr : Nat × Nat} (h : w.heap[g]? = some (.cells cs t fr)) (k : Nat) (v : Value) : (w.setCell ⟨g, k, none⟩ v).heap[g]? = some (.cells (cs.setIfInBounds k v) t fr) := by
  unfold World.setCell
  simp [Array.getElem?_modify, h]
theorem rowOther (w : World) {g : Nat} (k : Nat) (v : Value) {b : Nat} (hb : b ≠ g) : (w.setCell ⟨g, k, none⟩ v).heap[b]? = w.heap[b]? := Below.heap_setCell w ⟨g, k, none⟩ v b hb
section
variable {P : Program} {ops : Array Oper} {C : (Nat → Bool) → World → Prop} {Q : Act → Prop} {i : Nat} {o : Oper} {rest : List Oper} {a : Act}
theorem wpVals_append {v : Value} (s x : Operand) (t : TypeId) (ho : o.op = .call { callee := .builtin .append, args := #[s, x], argTypes := #[t, t] }) (hw : Region.wanted o (yielded ops a.tmps) = true) (vs vx : Value) (hs : a.eval s = vs) (hx : a.eval x = vx)
    (hC : ∀ L w, C L w → L i = false → (∀ j, waits ops i j = true → L j = true) → ∃ w', (Builtin.append_ #[t, t] o.type #[vs, vx]).run P w = .ok v w' ∧ C (addL L i) w') (h : wpVals P ops C Q (i + 1) rest (a.put o.dst v)) : wpVals P ops C Q i (o :: rest) a :=
  wpVals_step hw (fun L w hCw hL hwt => by
    obtain ⟨w', hr, hc⟩ := hC L w hCw hL hwt
    have hrun2 : (execOp a.eval o).run P w = .ok (.value v) w' := by
      unfold execOp
      simp only [ho, resolve, invoke, builtin, Sem.run_bind, Sem.run_pure, Result.andThen_ok, List.map_toArray, List.map_cons, List.map_nil, hs, hx, hr]
    rw [hrun2]
    exact ⟨rfl, hc⟩) h
theorem wpVals_slice {v : Value} (t : TypeId) (x : Operand) (lo hi mx : Option Operand) (ho : o.op = .slice t x lo hi mx) (hw : Region.wanted o (yielded ops a.tmps) = true) (hm : ∀ L w, C L w → L i = false → C (addL L i) w) (vx : Value) (vl vh vm : Option Value) (hx : a.eval x = vx) (hl : lo.map a.eval = vl) (hh : hi.map a.eval = vh) (hmx : mx.map a.eval = vm)
    (hr : ∀ w, (Instr.sliceAt t vx vl vh vm).run P w = .ok v w) (h : wpVals P ops C Q (i + 1) rest (a.put o.dst v)) : wpVals P ops C Q i (o :: rest) a :=
  wpVals_free hw hm (fun w => by
    unfold execOp
    simp only [ho, hx, hl, hh, hmx, Sem.run_bind, hr, Result.andThen_ok, Sem.run_pure]) h
theorem wpList_clear {w w' : World} {Q : Exit → Act → World → Prop} {v : Value} (hgd : o.guard = none) (x : Operand) (t : TypeId) (ho : o.op = .call { callee := .builtin .clear, args := #[x], argTypes := #[t] }) (vx : Value) (hx : a.eval x = vx)
    (hr : (Builtin.clear_ #[t] o.type #[vx]).run P w = .ok v w') (h : wpList P ops Q rest (a.put o.dst v) w') : wpList P ops Q (o :: rest) a w :=
  wpList_plain hgd fun K hK => by
    have hrun2 : (execOp a.eval o).run P w = .ok (.value v) w' := by
      unfold execOp
      simp only [ho, resolve, invoke, builtin, Sem.run_bind, Sem.run_pure, Result.andThen_ok, List.map_toArray, List.map_cons, List.map_nil, hx, hr]
    unfold Oper.wp
    rw [hrun2]
    exact hK _ _ h
end
end Go.Proofs.YtagelhbknbpfhaaDoor

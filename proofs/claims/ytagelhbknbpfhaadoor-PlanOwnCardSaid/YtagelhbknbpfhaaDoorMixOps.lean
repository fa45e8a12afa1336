/-
  The operations of a drawn region under XMix' walk; append onto a row of the call's own from whatever source; 'append(append([]T{}, xs...), x)'.
-/
import Derived.Test.YtagelhbknbpfhaaDoorMix
import Derived.Test.YtagelhbknbpfhaaDoorPlain
import Derived.Maps.AppendAt
import Derived.Deep.AppendLies
import Derived.Deep.MidRow
import Derived.Lib.Hide
namespace Go.Proofs.YtagelhbknbpfhaaDoor
open Go Go.RowKit
section
variable {P : Program} {ops : Array Oper} {C : MixC} {Q : ((Nat → Value) → Act) → Prop} {i : Nat} {o : Oper} {rest : List Oper} {A : (Nat → Value) → Act}
theorem mix_val {v : Value} (hw : ∀ vs, Region.wanted o (yielded ops (A vs).tmps) = true)
    (hv : ∀ vs L w, C L vs w → L i = false → (∀ j, waits ops i j = true → L j = true) → valsUpon P (C (addL L i) vs) v ((execOp (A vs).eval o).run P w)) (h : wpMix P ops C Q (i + 1) rest (fun vs => (A vs).put o.dst v)) : wpMix P ops C Q i (o :: rest) A :=
  wpMix_step (some v) (fun vs L w hC hL hwt _ => by simp only []; rw [if_pos (hw vs)]; exact hv vs L w hC hL hwt) h
theorem mix_open (hw : ∀ vs, Region.wanted o (yielded ops (A vs).tmps) = true)
    (hv : ∀ vs L w, C L vs w → L i = false → (∀ j, waits ops i j = true → L j = true) → openUpon P (fun u => C (addL L i) (updV vs i u)) ((execOp (A vs).eval o).run P w)) (h : wpMix P ops C Q (i + 1) rest (fun vs => (A vs).put o.dst (vs i))) : wpMix P ops C Q i (o :: rest) A :=
  wpMix_step none (fun vs L w hC hL hwt _ => by simp only []; rw [if_pos (hw vs)]; exact hv vs L w hC hL hwt) h
theorem mix_skip (hw : ∀ vs, Region.wanted o (yielded ops (A vs).tmps) = false) (hm : ∀ L vs w, C L vs w → L i = false → C (addL L i) vs w) (h : wpMix P ops C Q (i + 1) rest (fun vs => (A vs).put o.dst undef)) : wpMix P ops C Q i (o :: rest) A :=
  wpMix_step (some undef) (fun vs L w hC hL _ _ => by simp only []; rw [if_neg (by rw [hw vs]; exact Bool.false_ne_true)]; exact ⟨trivial, hm L vs w hC hL⟩) h
theorem mix_free {v : Value} (hw : ∀ vs, Region.wanted o (yielded ops (A vs).tmps) = true) (hm : ∀ L vs w, C L vs w → L i = false → C (addL L i) vs w) (hr : ∀ vs w, (execOp (A vs).eval o).run P w = .ok (.value v) w)
    (h : wpMix P ops C Q (i + 1) rest (fun vs => (A vs).put o.dst v)) : wpMix P ops C Q i (o :: rest) A :=
  mix_val hw (fun vs L w hC hL _ => by rw [hr vs w]; exact ⟨rfl, hm L vs w hC hL⟩) h
theorem mix_move {v : Value} (x : Operand) (ho : o.op = .move x) (hw : ∀ vs, Region.wanted o (yielded ops (A vs).tmps) = true) (hm : ∀ L vs w, C L vs w → L i = false → C (addL L i) vs w) (hx : ∀ vs, (A vs).eval x = v)
    (h : wpMix P ops C Q (i + 1) rest (fun vs => (A vs).put o.dst v)) : wpMix P ops C Q i (o :: rest) A :=
  mix_free hw hm (fun vs w => by rw [BigFrame.run_move x ho w, hx]) h
theorem mix_load {v : Value} (t : TypeId) (x : Operand) (ho : o.op = .load t x) (hw : ∀ vs, Region.wanted o (yielded ops (A vs).tmps) = true) (hm : ∀ L vs w, C L vs w → L i = false → C (addL L i) vs w) (hag : ∀ w, (isAgg t).run P w = .ok false w)
    (ad : Addr) (hx : ∀ vs, (A vs).eval x = .pointer (some ad)) (hv : ∀ L vs w, C L vs w → L i = false → w.cell? ad = some v) (h : wpMix P ops C Q (i + 1) rest (fun vs => (A vs).put o.dst v)) : wpMix P ops C Q i (o :: rest) A :=
  mix_val hw (fun vs L w hC hL _ => by
    have : (execOp (A vs).eval o).run P w = .ok (.value v) w := by
      unfold execOp
      simp [ho, hx vs, Instr.loadAt, loadVar, Instr.sureAddr, Sem.run_bind, hag, hv L vs w hC hL]
    rw [this]; exact ⟨rfl, hm L vs w hC hL⟩) h
theorem mix_load_agg {ty : TypeId} {d : TypeDesc} {cs : Array Value} (hu : P.underlying ty = some d) (hd : (match d with | .struct _ | .array _ _ => true | _ => false) = true) (hi : (P.info? ty).map (·.size) = some cs.size)
    (x : Operand) (ho : o.op = .load ty x) (hw : ∀ vs, Region.wanted o (yielded ops (A vs).tmps) = true) (hm : ∀ L vs w, C L vs w → L i = false → C (addL L i) vs w) (g : Nat) (hx : ∀ vs, (A vs).eval x = .pointer (some ⟨g, 0, none⟩)) (t : TypeId) (fr : Nat × Nat)
    (hv : ∀ L vs w, C L vs w → L i = false → w.heap[g]? = some (.cells cs t fr)) (h : wpMix P ops C Q (i + 1) rest (fun vs => (A vs).put o.dst (.agg cs))) : wpMix P ops C Q i (o :: rest) A :=
  mix_val hw (fun vs L w hC hL _ => by
    have : (execOp (A vs).eval o).run P w = .ok (.value (.agg cs)) w := by
      unfold execOp
      simp only [ho, hx vs, Instr.loadAt, Instr.sureAddr, Sem.run_bind, Sem.run_pure, Result.andThen_ok, run_loadVar_row w g t ty cs fr d (hv L vs w hC hL) hu hd hi]
    rw [this]; exact ⟨rfl, hm L vs w hC hL⟩) h
theorem mix_call {v : Value} (f : FuncId) (xs : Array Operand) (ats : Array TypeId) (ho : o.op = .call { callee := .value (.func f), args := xs, argTypes := ats }) (hw : ∀ vs, Region.wanted o (yielded ops (A vs).tmps) = true)
    (hcall : ∀ args w, (callFunc f args).run P w = .ok (.enter f args) w) (args : Array Value) (hx : ∀ vs, (xs.toList.map (A vs).eval).toArray = args)
    (hv : ∀ vs L w, C L vs w → L i = false → (∀ j, waits ops i j = true → L j = true) → Calls P f args w fun e w' => e = .returned v ∧ C (addL L i) vs w') (h : wpMix P ops C Q (i + 1) rest (fun vs => (A vs).put o.dst v)) : wpMix P ops C Q i (o :: rest) A :=
  mix_val hw (fun vs L w hC hL hwt => by
    obtain ⟨dst, op, type, pos, after, guard⟩ := o
    dsimp only at ho
    subst ho
    have hx' : #[] ++ xs.map (A vs).eval ++ #[] = args := by rw [← hx vs]; apply Array.ext'; simp
    rw [execOp_call_go, hx', hcall]
    exact hv vs L w hC hL hwt) h
/-- A load whose cell is known for what has not been done yet. -/
theorem mix_loadC {v : Value} (t : TypeId) (x : Operand) (ho : o.op = .load t x) (hw : ∀ vs, Region.wanted o (yielded ops (A vs).tmps) = true) (hm : ∀ L vs w, C L vs w → L i = false → C (addL L i) vs w) (hag : ∀ w, (isAgg t).run P w = .ok false w)
    (ad : Addr) (hx : ∀ vs, (A vs).eval x = .pointer (some ad)) (hv : ∀ L vs w, C L vs w → L i = false → Closed ops L → w.cell? ad = some v) (h : wpMix P ops C Q (i + 1) rest (fun vs => (A vs).put o.dst v)) : wpMix P ops C Q i (o :: rest) A :=
  wpMix_step (some v) (fun vs L w hC hL _ hcl => by
    simp only []
    rw [if_pos (hw vs)]
    have : (execOp (A vs).eval o).run P w = .ok (.value v) w := by
      unfold execOp
      simp [ho, hx vs, Instr.loadAt, loadVar, Instr.sureAddr, Sem.run_bind, hag, hv L vs w hC hL hcl]
    rw [this]; exact ⟨rfl, hm L vs w hC hL⟩) h
theorem mix_load_aggC {ty : TypeId} {d : TypeDesc} {cs : Array Value} (hu : P.underlying ty = some d) (hd : (match d with | .struct _ | .array _ _ => true | _ => false) = true) (hi : (P.info? ty).map (·.size) = some cs.size)
    (x : Operand) (ho : o.op = .load ty x) (hw : ∀ vs, Region.wanted o (yielded ops (A vs).tmps) = true) (hm : ∀ L vs w, C L vs w → L i = false → C (addL L i) vs w) (g : Nat) (hx : ∀ vs, (A vs).eval x = .pointer (some ⟨g, 0, none⟩)) (t : TypeId) (fr : Nat × Nat)
    (hv : ∀ L vs w, C L vs w → L i = false → Closed ops L → w.heap[g]? = some (.cells cs t fr)) (h : wpMix P ops C Q (i + 1) rest (fun vs => (A vs).put o.dst (.agg cs))) : wpMix P ops C Q i (o :: rest) A :=
  wpMix_step (some (.agg cs)) (fun vs L w hC hL _ hcl => by
    simp only []
    rw [if_pos (hw vs)]
    have : (execOp (A vs).eval o).run P w = .ok (.value (.agg cs)) w := by
      unfold execOp
      simp only [ho, hx vs, Instr.loadAt, Instr.sureAddr, Sem.run_bind, Sem.run_pure, Result.andThen_ok, run_loadVar_row w g t ty cs fr d (hv L vs w hC hL hcl) hu hd hi]
    rw [this]; exact ⟨rfl, hm L vs w hC hL⟩) h
theorem mix_load_midC {ty : TypeId} {d : TypeDesc} {cs : List Value} (hu : P.underlying ty = some d) (hd : d.isRow = true) (hi : (P.info? ty).map (·.size) = some cs.length)
    (x : Operand) (ho : o.op = .load ty x) (hw : ∀ vs, Region.wanted o (yielded ops (A vs).tmps) = true) (hm : ∀ L vs w, C L vs w → L i = false → C (addL L i) vs w) (b k : Nat) (hx : ∀ vs, (A vs).eval x = .pointer (some ⟨b, k, none⟩))
    (hv : ∀ L vs w, C L vs w → L i = false → Closed ops L → w.rangeAt b k cs) (h : wpMix P ops C Q (i + 1) rest (fun vs => (A vs).put o.dst (.agg cs.toArray))) : wpMix P ops C Q i (o :: rest) A :=
  wpMix_step (some (.agg cs.toArray)) (fun vs L w hC hL _ hcl => by
    simp only []
    rw [if_pos (hw vs)]
    have : (execOp (A vs).eval o).run P w = .ok (.value (.agg cs.toArray)) w := by
      unfold execOp
      simp only [ho, hx vs, run_loadAt_mid w b k ty cs d (hv L vs w hC hL hcl) hu hd hi, Sem.run_bind, Sem.run_pure, Result.andThen_ok]
    rw [this]; exact ⟨rfl, hm L vs w hC hL⟩) h
/-- A slice literal, wherever it comes to lie. -/
theorem mix_build (t : TypeId) (len : Nat) (parts : Array (Nat × Operand)) (ho : o.op = .buildSlice t len parts) (hw : ∀ vs, Region.wanted o (yielded ops (A vs).tmps) = true) (ps : (Nat → Value) → Array (Nat × Value)) (hp : ∀ vs, (parts.map fun (i, x) => (i, (A vs).eval x)) = ps vs)
    (hC : ∀ vs L w, C L vs w → L i = false → (∀ j, waits ops i j = true → L j = true) → ∃ v w', (Instr.buildSlice t len (ps vs)).run P w = .ok v w' ∧ C (addL L i) (updV vs i v) w') (h : wpMix P ops C Q (i + 1) rest (fun vs => (A vs).put o.dst (vs i))) : wpMix P ops C Q i (o :: rest) A :=
  mix_open hw (fun vs L w hCw hL hwt => by
    obtain ⟨v, w', hr, hc⟩ := hC vs L w hCw hL hwt
    have hrun2 : (execOp (A vs).eval o).run P w = .ok (.value v) w' := by
      unfold execOp
      simp only [ho, hp vs, Sem.run_bind, hr, Result.andThen_ok, Sem.run_pure]
    rw [hrun2]
    exact hc) h
theorem mix_append (s x : Operand) (t : TypeId) (ho : o.op = .call { callee := .builtin .append, args := #[s, x], argTypes := #[t, t] }) (hw : ∀ vs, Region.wanted o (yielded ops (A vs).tmps) = true)
    (fs fx : (Nat → Value) → Value) (hs : ∀ vs, (A vs).eval s = fs vs) (hx : ∀ vs, (A vs).eval x = fx vs)
    (hC : ∀ vs L w, C L vs w → L i = false → (∀ j, waits ops i j = true → L j = true) → ∃ v w', (Builtin.append_ #[t, t] o.type #[fs vs, fx vs]).run P w = .ok v w' ∧ C (addL L i) (updV vs i v) w') (h : wpMix P ops C Q (i + 1) rest (fun vs => (A vs).put o.dst (vs i))) : wpMix P ops C Q i (o :: rest) A :=
  mix_open hw (fun vs L w hCw hL hwt => by
    obtain ⟨v, w', hr, hc⟩ := hC vs L w hCw hL hwt
    have hrun2 : (execOp (A vs).eval o).run P w = .ok (.value v) w' := by
      unfold execOp
      simp only [ho, resolve, invoke, builtin, Sem.run_bind, Sem.run_pure, Result.andThen_ok, List.map_toArray, List.map_cons, List.map_nil, hs vs, hx vs, hr]
    rw [hrun2]
    exact hc) h
/-- A plain value stored into one cell. -/
theorem mix_store (t : TypeId) (x v : Operand) (ho : o.op = .store t x v) (hw : ∀ vs, Region.wanted o (yielded ops (A vs).tmps) = true) (ad : Addr) (hx : ∀ vs, (A vs).eval x = .pointer (some ad)) (fv : (Nat → Value) → Value) (hv : ∀ vs, (A vs).eval v = fv vs) (hi : (P.info? t).map (·.size) = some 1)
    (hC : ∀ vs L w, C L vs w → L i = false → (∀ j, waits ops i j = true → L j = true) → (fv vs).oneCell' = true ∧ (∃ c, w.cell? ad = some c) ∧ w.frozen? ad = false ∧ C (addL L i) vs (w.setCell ad (fv vs))) (h : wpMix P ops C Q (i + 1) rest (fun vs => (A vs).put o.dst undef)) : wpMix P ops C Q i (o :: rest) A :=
  mix_val hw (fun vs L w hCw hL hwt => by
    obtain ⟨h1, ⟨c, hc⟩, hf, hC'⟩ := hC vs L w hCw hL hwt
    have hcs : (fv vs).cells = #[fv vs] := by
      generalize fv vs = u at h1
      cases u <;> first | rfl | cases h1
    have hst : (store ad (fv vs)).run P w = .ok () (w.setCell ad (fv vs)) := by
      rw [run_store P w _ (fv vs) _ h1, hc]; simp [hf]
    have hadd : ad.add 0 = ad := by simp [Addr.add]
    cases hq : P.info? t with
    | none => simp [hq] at hi
    | some ii =>
      have hs : ii.size = 1 := by simpa [hq] using hi
      have hrun : (Instr.storeAt t (.pointer (some ad)) (fv vs)).run P w = .ok () (w.setCell ad (fv vs)) := by
        simp only [Instr.storeAt, Instr.sureAddr, Sem.run_bind, Sem.run_pure, Result.andThen_ok, storeVar, sizeOf, typeInfo]
        simp [hq, hs, hcs, storeCells, hadd, hst]
      have hrun2 : (execOp (A vs).eval o).run P w = .ok .skip (w.setCell ad (fv vs)) := by
        unfold execOp
        simp only [ho, hx vs, hv vs, Sem.run_bind, hrun, Result.andThen_ok, Sem.run_pure]
      rw [hrun2]
      exact ⟨rfl, hC'⟩) h
end
/-! ### append -/
section
variable {P : Program}
/-- append onto a row of the call's own, from whatever source. -/
theorem run_append_src (w : World) (base : Nat) (t ty e : TypeId) (i : TypeInfo) (z : Value) (size bytes : Nat) (ht : P.underlying t = some (.slice e)) (hi : P.info? e = some i) (hz : i.zero = some z)
    (hsize : i.size = size) (hby : i.bytes = bytes) (hzs : z.cells.size = size) (hsz : 0 < size) (v : Value) (n : Nat) (xs : List Value) (hown : w.ownsRow base e size v n xs)
    (a : Option Addr) (m c : Nat) (news : List Value) (hl : news.length = m * size) (hnews : 0 < m → ∃ ad, a = some ad ∧ ∀ j u, news[j]? = some u → w.cell? (ad.add j) = some u) (h1 : ∀ u ∈ news, u.oneCell' = true)
    (h63 : n + m ≤ maxLen) (hbytes : (n + m) * bytes ≤ 140737488355328) (hbase : base ≤ w.heap.size) :
    ∃ v' w', (Builtin.append_ #[t, t] ty #[v, .slice a m c]).run P w = .ok v' w' ∧ w'.ownsRow base e size v' (n + m) (xs ++ news) ∧ w.grownBy w' v.ownBlock ∧ (v'.ownBlock = v.ownBlock ∨ v'.ownBlock = some w.heap.size) := by
  cases a with
  | some ad =>
    have hn : ∀ j u, news[j]? = some u → w.cell? (ad.add j) = some u := by
      by_cases hm : 0 < m
      · obtain ⟨ad', e1, h⟩ := hnews hm
        obtain rfl := Option.some.inj e1
        exact h
      · obtain rfl : m = 0 := by omega
        intro j u hj
        have := (List.getElem?_eq_some_iff.1 hj).1
        omega
    obtain ⟨v', w', hr, h2, h3, _, h5⟩ := run_append_own_at (P := P) w base t ty e i z size bytes ht hi hz hsize hby hzs hsz v n xs hown ad m c news hl hn h1 h63 hbytes hbase
    exact ⟨v', w', hr, h2, h3, h5⟩
  | none =>
    have hm : m = 0 := by
      by_cases hm : 0 < m
      · obtain ⟨ad, e1, _⟩ := hnews hm
        cases e1
      · omega
    subst hm
    have hnil : news = [] := List.length_eq_zero_iff.1 (by omega)
    subst hnil
    have hform : ∃ ad cap, v = .slice ad n cap ∧ n ≤ cap := by
      rcases hown.2 with ⟨rfl, rfl⟩ | ⟨g, cap, cur, rfl, _, _, hc, _⟩
      · exact ⟨none, 0, rfl, Nat.le_refl _⟩
      · exact ⟨_, _, rfl, hc⟩
    obtain ⟨ad, cap, rfl, hcap⟩ := hform
    refine ⟨.slice ad n cap, w, ?_, by simpa using hown, ⟨rfl, rfl, rfl, Nat.le_refl _, fun _ _ _ => rfl⟩, .inl rfl⟩
    cases ad <;> simp [Builtin.append_, run_underlying ht, sizeOf, typeInfo, hi, Builtin.lenOf, Builtin.firstCells, hcap, storeCells]
/-- 'append(append([]T{}, xs...), x)', whatever its order: i0 the empty literal, i2 what loads xs, i3 the first append, i5 the literal of one, i6 the second append, i8 what stores the outcome. -/
structure Ap2 (T : TypeId) (sz : Nat) (W : World) (xs : List Value) (n : Nat) (x : List Value) (i0 i2 i3 i5 i6 i8 : Nat) (Fin : Value → World → World → Prop) (L : Nat → Bool) (vs : Nat → Value) (w : World) : Prop where
  ord2 : L i3 = true → L i2 = true
  ord3 : L i3 = true → L i0 = true
  ord6 : L i6 = true → L i3 = true ∧ L i5 = true
  ord8 : L i8 = true → L i6 = true
  bel : L i8 = false → Below W.heap.size W w
  r0 : L i0 = true → L i3 = false → w.ownsRow W.heap.size T sz (vs i0) 0 []
  r3 : L i3 = true → L i6 = false → w.ownsRow W.heap.size T sz (vs i3) n xs
  r5 : L i5 = true → L i6 = false → ∃ g, vs i5 = .slice (some ⟨g, 0, none⟩) 1 1 ∧ W.heap.size ≤ g ∧ w.heap[g]? = some (.cells x.toArray T (0, 0)) ∧ (L i0 = true → L i3 = false → (vs i0).ownBlock ≠ some g) ∧ (L i3 = true → (vs i3).ownBlock ≠ some g)
  r6 : L i6 = true → L i8 = false → w.ownsRow W.heap.size T sz (vs i6) (n + 1) (xs ++ x)
  fin : L i8 = true → ∃ w1 v, Below W.heap.size W w1 ∧ w1.ownsRow W.heap.size T sz v (n + 1) (xs ++ x) ∧ Fin v w1 w
section
variable {T : TypeId} {sz : Nat} {W : World} {xs : List Value} {n : Nat} {x : List Value} {i0 i2 i3 i5 i6 i8 : Nat} {Fin : Value → World → World → Prop} {L : Nat → Bool} {vs : Nat → Value} {w : World}
theorem Ap2.first (k : Nat) (vs : Nat → Value) : Ap2 T sz W xs n x i0 i2 i3 i5 i6 i8 Fin (fun _ => false) vs { W with drawn := k } :=
  ⟨(fun h => by cases h), (fun h => by cases h), (fun h => by cases h), (fun h => by cases h), (fun _ => ⟨rfl, rfl, rfl, Nat.le_refl _, fun _ _ => rfl⟩), (fun h => by cases h), (fun h => by cases h), (fun h => by cases h), (fun h => by cases h), (fun h => by cases h)⟩
theorem adL_ne {L : Nat → Bool} {i j : Nat} (h : j ≠ i) : addL L i j = L j := by unfold addL; rw [if_neg h]
theorem adL_eq (L : Nat → Bool) (i : Nat) : addL L i i = true := by unfold addL; rw [if_pos rfl]
theorem adL_mono {L : Nat → Bool} {j : Nat} (i : Nat) (h : L j = true) : addL L i j = true := by unfold addL; split <;> first | rfl | exact h
theorem Ap2.more (i : Nat) (hi : i ≠ i0 ∧ i ≠ i3 ∧ i ≠ i5 ∧ i ≠ i6 ∧ i ≠ i8) : ∀ L vs w, Ap2 T sz W xs n x i0 i2 i3 i5 i6 i8 Fin L vs w → L i = false → Ap2 T sz W xs n x i0 i2 i3 i5 i6 i8 Fin (addL L i) vs w := by
  intro L vs w h _
  obtain ⟨h0, h3, h5, h6, h8⟩ := hi
  have h2 : addL L i i3 = true → addL L i i2 = true := fun e => adL_mono i (h.ord2 (by rw [adL_ne (Ne.symm h3)] at e; exact e))
  refine ⟨h2, ?_, ?_, ?_, ?_, ?_, ?_, ?_, ?_, ?_⟩ <;> simp only [adL_ne (Ne.symm h0), adL_ne (Ne.symm h3), adL_ne (Ne.symm h5), adL_ne (Ne.symm h6), adL_ne (Ne.symm h8)]
  · exact h.ord3
  · exact h.ord6
  · exact h.ord8
  · exact h.bel
  · exact h.r0
  · exact h.r3
  · exact h.r5
  · exact h.r6
  · exact h.fin
/-- The indices are apart. -/
structure ApN (i0 i3 i5 i6 i8 : Nat) : Prop where
  a : i0 ≠ i3
  b : i0 ≠ i5
  c : i0 ≠ i6
  d : i0 ≠ i8
  e : i3 ≠ i5
  f : i3 ≠ i6
  g : i3 ≠ i8
  h : i5 ≠ i6
  i : i5 ≠ i8
  j : i6 ≠ i8
theorem Ap2.s0 (hn : ApN i0 i3 i5 i6 i8) (h : Ap2 T sz W xs n x i0 i2 i3 i5 i6 i8 Fin L vs w) (hL : L i0 = false) :
    Ap2 T sz W xs n x i0 i2 i3 i5 i6 i8 Fin (addL L i0) (updV vs i0 (.slice (some ⟨w.heap.size, 0, none⟩) 0 0)) (w.alloc (.cells #[] T)) := by
  have l3 : L i3 = false := by cases e : L i3 with | false => rfl | true => rw [h.ord3 e] at hL; cases hL
  have l6 : L i6 = false := by cases e : L i6 with | false => rfl | true => rw [(h.ord6 e).1] at l3; cases l3
  have l8 : L i8 = false := by cases e : L i8 with | false => rfl | true => rw [h.ord8 e] at l6; cases l6
  have hb := h.bel l8
  refine ⟨fun e => adL_mono _ (h.ord2 (by rw [adL_ne (Ne.symm hn.a)] at e; exact e)), fun _ => adL_eq L i0, fun e => ?_, fun e => ?_, fun _ => hb.alloc hb.size _, fun _ _ => ?_, fun e => ?_, fun e _ => ?_, fun e => ?_, fun e => ?_⟩
  · rw [adL_ne (Ne.symm hn.c), l6] at e; cases e
  · rw [adL_ne (Ne.symm hn.d), l8] at e; cases e
  · rw [updV_eq]
    exact World.ownsRow_made w #[] 0 hb.size (by simp [maxLen]) (by simp)
  · rw [adL_ne (Ne.symm hn.a), l3] at e; cases e
  · rw [adL_ne (Ne.symm hn.b)] at e
    obtain ⟨g, h1, h2, h3, _, _⟩ := h.r5 e l6
    have hg : g < w.heap.size := (Array.getElem?_eq_some_iff.1 h3).1
    refine ⟨g, by rw [updV_ne _ (Ne.symm hn.b)]; exact h1, h2, by rw [heap_alloc_old _ _ hg]; exact h3, fun _ _ => ?_, fun e => ?_⟩
    · rw [updV_eq]
      intro e
      have e3 : w.heap.size = g := Option.some.inj e
      omega
    · rw [adL_ne (Ne.symm hn.a), l3] at e; cases e
  · rw [adL_ne (Ne.symm hn.c), l6] at e; cases e
  · rw [adL_ne (Ne.symm hn.d), l8] at e; cases e
theorem Ap2.s5 (hn : ApN i0 i3 i5 i6 i8) (h : Ap2 T sz W xs n x i0 i2 i3 i5 i6 i8 Fin L vs w) (hL : L i5 = false) :
    Ap2 T sz W xs n x i0 i2 i3 i5 i6 i8 Fin (addL L i5) (updV vs i5 (.slice (some ⟨w.heap.size, 0, none⟩) 1 1)) (w.alloc (.cells x.toArray T)) := by
  have l6 : L i6 = false := by cases e : L i6 with | false => rfl | true => rw [(h.ord6 e).2] at hL; cases hL
  have l8 : L i8 = false := by cases e : L i8 with | false => rfl | true => rw [h.ord8 e] at l6; cases l6
  have hb := h.bel l8
  refine ⟨fun e => adL_mono _ (h.ord2 (by rw [adL_ne hn.e] at e; exact e)), fun e => ?_, fun e => ?_, fun e => ?_, fun _ => hb.alloc hb.size _, fun e e' => ?_, fun e _ => ?_, fun _ _ => ?_, fun e => ?_, fun e => ?_⟩
  · rw [adL_ne hn.e] at e
    rw [adL_ne hn.b]
    exact h.ord3 e
  · rw [adL_ne (Ne.symm hn.h), l6] at e; cases e
  · rw [adL_ne (Ne.symm hn.i), l8] at e; cases e
  · rw [adL_ne hn.b] at e
    rw [adL_ne hn.e] at e'
    rw [updV_ne _ hn.b]
    exact (h.r0 e e').alloc _
  · rw [adL_ne hn.e] at e
    rw [updV_ne _ hn.e]
    exact (h.r3 e l6).alloc _
  · refine ⟨w.heap.size, updV_eq _ _ _, hb.size, heap_alloc_new w _, fun e e' => ?_, fun e => ?_⟩
    · rw [adL_ne hn.b] at e
      rw [adL_ne hn.e] at e'
      rw [updV_ne _ hn.b]
      intro e2
      have := ((h.r0 e e').lt _ e2).2
      omega
    · rw [adL_ne hn.e] at e
      rw [updV_ne _ hn.e]
      intro e2
      have := ((h.r3 e l6).lt _ e2).2
      omega
  · rw [adL_ne (Ne.symm hn.h), l6] at e; cases e
  · rw [adL_ne (Ne.symm hn.i), l8] at e; cases e
theorem Ap2.s3 (hn : ApN i0 i3 i5 i6 i8) (t ty : TypeId) (i : TypeInfo) (z : Value) (bytes : Nat) (ht : P.underlying t = some (.slice T)) (hi : P.info? T = some i) (hz : i.zero = some z) (hsize : i.size = sz) (hby : i.bytes = bytes) (hzs : z.cells.size = sz) (hsz : 0 < sz)
    (a : Option Addr) (c : Nat) (hl : xs.length = n * sz) (hxs : 0 < n → ∃ b o, a = some ⟨b, o, none⟩ ∧ b < W.heap.size ∧ W.rangeAt b o xs) (h1 : ∀ u ∈ xs, u.oneCell' = true) (hm : n ≤ maxLen) (hbytes : n * bytes ≤ 140737488355328)
    (h : Ap2 T sz W xs n x i0 i2 i3 i5 i6 i8 Fin L vs w) (hL : L i3 = false) (hL0 : L i0 = true) (hL2 : L i2 = true) :
    ∃ v w', (Builtin.append_ #[t, t] ty #[vs i0, .slice a n c]).run P w = .ok v w' ∧ Ap2 T sz W xs n x i0 i2 i3 i5 i6 i8 Fin (addL L i3) (updV vs i3 v) w' := by
  have l6 : L i6 = false := by cases e : L i6 with | false => rfl | true => rw [(h.ord6 e).1] at hL; cases hL
  have l8 : L i8 = false := by cases e : L i8 with | false => rfl | true => rw [h.ord8 e] at l6; cases l6
  have hb := h.bel l8
  have hown := h.r0 hL0 hL
  obtain ⟨v, w', hr, hown', hg, hat⟩ := run_append_src (P := P) w W.heap.size t ty T i z sz bytes ht hi hz hsize hby hzs hsz (vs i0) 0 [] hown a n c xs hl (fun h0 => by
    obtain ⟨b, o, rfl, hlt, hr⟩ := hxs h0
    refine ⟨_, rfl, fun j u hj => ?_⟩
    have hadd : (⟨b, o, none⟩ : Addr).add j = ⟨b, o + j, none⟩ := by unfold Addr.add; split <;> simp_all
    rw [hadd, hb.cell (p := ⟨b, o + j, none⟩) hlt]
    exact hr j u hj) h1 (by omega) (by rw [Nat.zero_add]; exact hbytes) hb.size
  rw [List.nil_append, Nat.zero_add] at hown'
  have hb' : Below W.heap.size W w' := hb.grown hg hb.size fun k hk => (hown.lt k hk).1
  refine ⟨v, w', hr, fun _ => adL_mono _ hL2, fun _ => (by rw [adL_ne hn.a]; exact hL0), fun e => ?_, fun e => ?_, fun _ => hb', fun _ e => ?_, fun _ _ => (by rw [updV_eq]; exact hown'), fun e _ => ?_, fun e => ?_, fun e => ?_⟩
  · rw [adL_ne (Ne.symm hn.f), l6] at e; cases e
  · rw [adL_ne (Ne.symm hn.g), l8] at e; cases e
  · rw [adL_eq] at e; cases e
  · rw [adL_ne (Ne.symm hn.e)] at e
    obtain ⟨g, h1, h2, h3, h4, _⟩ := h.r5 e l6
    have hgl : g < w.heap.size := (Array.getElem?_eq_some_iff.1 h3).1
    refine ⟨g, by rw [updV_ne _ (Ne.symm hn.e)]; exact h1, h2, by rw [hg.block g hgl (Ne.symm (h4 hL0 hL))]; exact h3, fun _ e => ?_, fun _ => ?_⟩
    · rw [adL_eq] at e; cases e
    · rw [updV_eq]
      rcases hat with e2 | e2
      · rw [e2]; exact h4 hL0 hL
      · rw [e2]
        intro e3
        have e4 : w.heap.size = g := Option.some.inj e3
        omega
  · rw [adL_ne (Ne.symm hn.f), l6] at e; cases e
  · rw [adL_ne (Ne.symm hn.g), l8] at e; cases e
theorem Ap2.s6 (hn : ApN i0 i3 i5 i6 i8) (t ty : TypeId) (i : TypeInfo) (z : Value) (bytes : Nat) (ht : P.underlying t = some (.slice T)) (hi : P.info? T = some i) (hz : i.zero = some z) (hsize : i.size = sz) (hby : i.bytes = bytes) (hzs : z.cells.size = sz) (hsz : 0 < sz)
    (hlx : x.length = sz) (h1 : ∀ u ∈ x, u.oneCell' = true) (hm : n + 1 ≤ maxLen) (hbytes : (n + 1) * bytes ≤ 140737488355328)
    (h : Ap2 T sz W xs n x i0 i2 i3 i5 i6 i8 Fin L vs w) (hL : L i6 = false) (hL3 : L i3 = true) (hL5 : L i5 = true) :
    ∃ v w', (Builtin.append_ #[t, t] ty #[vs i3, vs i5]).run P w = .ok v w' ∧ Ap2 T sz W xs n x i0 i2 i3 i5 i6 i8 Fin (addL L i6) (updV vs i6 v) w' := by
  have l8 : L i8 = false := by cases e : L i8 with | false => rfl | true => rw [h.ord8 e] at hL; cases hL
  have hb := h.bel l8
  have hown := h.r3 hL3 hL
  obtain ⟨g, e5, hg1, hg2, _, _⟩ := h.r5 hL5 hL
  obtain ⟨v, w', hr, hown', hg, hat⟩ := run_append_src (P := P) w W.heap.size t ty T i z sz bytes ht hi hz hsize hby hzs hsz (vs i3) n xs hown (some ⟨g, 0, none⟩) 1 1 x (by omega) (fun _ => by
    refine ⟨_, rfl, fun j u hj => ?_⟩
    have hadd : (⟨g, 0, none⟩ : Addr).add j = ⟨g, j, none⟩ := by unfold Addr.add; split <;> simp_all
    rw [hadd, cell_of_row w g j _ _ _ hg2]
    simpa using hj) h1 hm hbytes hb.size
  have hb' : Below W.heap.size W w' := hb.grown hg hb.size fun k hk => (hown.lt k hk).1
  refine ⟨v, w', by rw [e5]; exact hr, fun _ => adL_mono _ (h.ord2 hL3), fun _ => (by rw [adL_ne hn.c]; exact h.ord3 hL3), fun _ => ⟨by rw [adL_ne hn.f]; exact hL3, by rw [adL_ne hn.h]; exact hL5⟩, fun _ => adL_eq L i6, fun _ => hb', fun _ e => ?_, fun _ e => ?_, fun _ e => ?_, fun _ _ => (by rw [updV_eq]; exact hown'), fun e => ?_⟩
  · rw [adL_ne hn.f, hL3] at e; cases e
  · rw [adL_eq] at e; cases e
  · rw [adL_eq] at e; cases e
  · rw [adL_ne (Ne.symm hn.j), l8] at e; cases e
theorem Ap2.s8 (hn : ApN i0 i3 i5 i6 i8) (h : Ap2 T sz W xs n x i0 i2 i3 i5 i6 i8 Fin L vs w) (hL : L i8 = false) (hL6 : L i6 = true) {w' : World} (hF : Fin (vs i6) w w') : Ap2 T sz W xs n x i0 i2 i3 i5 i6 i8 Fin (addL L i8) vs w' := by
  have h3 := (h.ord6 hL6).1
  have h5 := (h.ord6 hL6).2
  refine ⟨fun _ => adL_mono _ (h.ord2 h3), fun _ => (by rw [adL_ne hn.d]; exact h.ord3 h3), fun _ => ⟨by rw [adL_ne hn.g]; exact h3, by rw [adL_ne hn.i]; exact h5⟩, fun _ => (by rw [adL_ne hn.j]; exact hL6), fun e => ?_, fun _ e => ?_, fun _ e => ?_, fun _ e => ?_, fun _ e => ?_, fun _ => ⟨w, vs i6, h.bel hL, h.r6 hL6 hL, hF⟩⟩
  · rw [adL_eq] at e; cases e
  · rw [adL_ne hn.g, h3] at e; cases e
  · rw [adL_ne hn.j, hL6] at e; cases e
  · rw [adL_ne hn.j, hL6] at e; cases e
  · rw [adL_eq] at e; cases e
/-- Before the load nothing is stored. -/
theorem Ap2.early (h : Ap2 T sz W xs n x i0 i2 i3 i5 i6 i8 Fin L vs w) (h2 : L i2 = false) : L i8 = false := by
  cases e : L i8 with
  | false => rfl
  | true => rw [h.ord2 (h.ord6 (h.ord8 e)).1] at h2; cases h2
end
/-! ### 't.l = append(t.l, x)', onto a row of the call's own -/
/-- i4 loads the row, i6 is the literal of one, i7 the append, i10 the store. -/
structure Ap1 (T : TypeId) (sz B : Nat) (W : World) (v : Value) (xs : List Value) (n : Nat) (x : List Value) (i4 i6 i7 i10 : Nat) (Fin : Value → World → World → Prop) (L : Nat → Bool) (vs : Nat → Value) (w : World) : Prop where
  ord7 : L i7 = true → L i4 = true ∧ L i6 = true
  ord10 : L i10 = true → L i7 = true
  bel : L i7 = false → Below W.heap.size W w
  r6 : L i6 = true → L i7 = false → ∃ g, vs i6 = .slice (some ⟨g, 0, none⟩) 1 1 ∧ W.heap.size ≤ g ∧ w.heap[g]? = some (.cells x.toArray T (0, 0))
  r7 : L i7 = true → L i10 = false → ∃ w1, Below W.heap.size W w1 ∧ w1.grownBy w v.ownBlock ∧ w.ownsRow B T sz (vs i7) (n + 1) (xs ++ x) ∧ ((vs i7).ownBlock = v.ownBlock ∨ ∃ k, (vs i7).ownBlock = some k ∧ W.heap.size ≤ k)
  fin : L i10 = true → ∃ w1 w2 u, Below W.heap.size W w1 ∧ w1.grownBy w2 v.ownBlock ∧ w2.ownsRow B T sz u (n + 1) (xs ++ x) ∧ (u.ownBlock = v.ownBlock ∨ ∃ k, u.ownBlock = some k ∧ W.heap.size ≤ k) ∧ Fin u w2 w
section
variable {T : TypeId} {sz B : Nat} {W : World} {v : Value} {xs : List Value} {n : Nat} {x : List Value} {i4 i6 i7 i10 : Nat} {Fin : Value → World → World → Prop} {L : Nat → Bool} {vs : Nat → Value} {w : World}
structure ApM (i4 i6 i7 i10 : Nat) : Prop where
  a : i4 ≠ i6
  b : i4 ≠ i7
  c : i4 ≠ i10
  d : i6 ≠ i7
  e : i6 ≠ i10
  f : i7 ≠ i10
theorem Ap1.first (k : Nat) (vs : Nat → Value) : Ap1 T sz B W v xs n x i4 i6 i7 i10 Fin (fun _ => false) vs { W with drawn := k } :=
  ⟨(fun h => by cases h), (fun h => by cases h), (fun _ => ⟨rfl, rfl, rfl, Nat.le_refl _, fun _ _ => rfl⟩), (fun h => by cases h), (fun h => by cases h), (fun h => by cases h)⟩
theorem Ap1.more (i : Nat) (hi : i ≠ i6 ∧ i ≠ i7 ∧ i ≠ i10) : ∀ L vs w, Ap1 T sz B W v xs n x i4 i6 i7 i10 Fin L vs w → L i = false → Ap1 T sz B W v xs n x i4 i6 i7 i10 Fin (addL L i) vs w := by
  intro L vs w h _
  obtain ⟨h6, h7, h10⟩ := hi
  refine ⟨fun e => ?_, ?_, ?_, ?_, ?_, ?_⟩
  · rw [adL_ne (Ne.symm h7)] at e
    exact ⟨adL_mono _ (h.ord7 e).1, adL_mono _ (h.ord7 e).2⟩
  all_goals simp only [adL_ne (Ne.symm h6), adL_ne (Ne.symm h7), adL_ne (Ne.symm h10)]
  · exact h.ord10
  · exact h.bel
  · exact h.r6
  · exact h.r7
  · exact h.fin
theorem Ap1.no4 (h : Ap1 T sz B W v xs n x i4 i6 i7 i10 Fin L vs w) (h4 : L i4 = false) : L i7 = false := by
  cases e : L i7 with
  | false => rfl
  | true => rw [(h.ord7 e).1] at h4; cases h4
theorem Ap1.no6 (h : Ap1 T sz B W v xs n x i4 i6 i7 i10 Fin L vs w) (h6 : L i6 = false) : L i7 = false := by
  cases e : L i7 with
  | false => rfl
  | true => rw [(h.ord7 e).2] at h6; cases h6
theorem Ap1.s6 (hn : ApM i4 i6 i7 i10) (h : Ap1 T sz B W v xs n x i4 i6 i7 i10 Fin L vs w) (hL : L i6 = false) :
    Ap1 T sz B W v xs n x i4 i6 i7 i10 Fin (addL L i6) (updV vs i6 (.slice (some ⟨w.heap.size, 0, none⟩) 1 1)) (w.alloc (.cells x.toArray T)) := by
  have l7 := h.no6 hL
  have l10 : L i10 = false := by cases e : L i10 with | false => rfl | true => rw [h.ord10 e] at l7; cases l7
  have hb := h.bel l7
  refine ⟨fun e => ?_, fun e => ?_, fun _ => hb.alloc hb.size _, fun _ _ => ⟨w.heap.size, updV_eq _ _ _, hb.size, heap_alloc_new w _⟩, fun e => ?_, fun e => ?_⟩
  · rw [adL_ne (Ne.symm hn.d), l7] at e; cases e
  · rw [adL_ne (Ne.symm hn.e), l10] at e; cases e
  · rw [adL_ne (Ne.symm hn.d), l7] at e; cases e
  · rw [adL_ne (Ne.symm hn.e), l10] at e; cases e
theorem Ap1.s7 (hn : ApM i4 i6 i7 i10) (t ty : TypeId) (i : TypeInfo) (z : Value) (bytes : Nat) (ht : P.underlying t = some (.slice T)) (hi : P.info? T = some i) (hz : i.zero = some z) (hsize : i.size = sz) (hby : i.bytes = bytes) (hzs : z.cells.size = sz) (hsz : 0 < sz)
    (hlx : x.length = sz) (h1 : ∀ u ∈ x, u.oneCell' = true) (hm : n + 1 ≤ maxLen) (hbytes : (n + 1) * bytes ≤ 140737488355328) (hown : W.ownsRow B T sz v n xs) (hB : B ≤ W.heap.size)
    (h : Ap1 T sz B W v xs n x i4 i6 i7 i10 Fin L vs w) (hL : L i7 = false) (hL4 : L i4 = true) (hL6 : L i6 = true) :
    ∃ u w', (Builtin.append_ #[t, t] ty #[v, vs i6]).run P w = .ok u w' ∧ Ap1 T sz B W v xs n x i4 i6 i7 i10 Fin (addL L i7) (updV vs i7 u) w' := by
  have l10 : L i10 = false := by cases e : L i10 with | false => rfl | true => rw [h.ord10 e] at hL; cases hL
  have hb := h.bel hL
  have hown' : w.ownsRow B T sz v n xs := by
    refine ⟨hown.1, hown.2.imp id fun ⟨b, cap, cur, hv, hbb, hh, r⟩ => ⟨b, cap, cur, hv, hbb, ?_, r⟩⟩
    rw [hb.block b (Array.getElem?_eq_some_iff.1 hh).1]; exact hh
  obtain ⟨g, e6, hg1, hg2⟩ := h.r6 hL6 hL
  obtain ⟨u, w', hr, hown2, hg, hat⟩ := run_append_src (P := P) w B t ty T i z sz bytes ht hi hz hsize hby hzs hsz v n xs hown' (some ⟨g, 0, none⟩) 1 1 x (by omega) (fun _ => by
    refine ⟨_, rfl, fun j y hj => ?_⟩
    have hadd : (⟨g, 0, none⟩ : Addr).add j = ⟨g, j, none⟩ := by unfold Addr.add; split <;> simp_all
    rw [hadd, cell_of_row w g j _ _ _ hg2]
    simpa using hj) h1 hm hbytes (Nat.le_trans hB hb.size)
  refine ⟨u, w', by rw [e6]; exact hr, fun _ => ⟨by rw [adL_ne hn.b]; exact hL4, by rw [adL_ne hn.d]; exact hL6⟩, fun _ => adL_eq L i7, fun e => ?_, fun _ e => ?_, fun _ _ => ⟨w, hb, hg, ?_, ?_⟩, fun e => ?_⟩
  · rw [adL_eq] at e; cases e
  · rw [adL_eq] at e; cases e
  · rw [updV_eq]; exact hown2
  · rw [updV_eq]
    rcases hat with e | e
    · exact .inl e
    · exact .inr ⟨_, e, hb.size⟩
  · rw [adL_ne (Ne.symm hn.f), l10] at e; cases e
theorem Ap1.s10 (hn : ApM i4 i6 i7 i10) (h : Ap1 T sz B W v xs n x i4 i6 i7 i10 Fin L vs w) (hL : L i10 = false) (hL7 : L i7 = true) {w' : World} (hF : Fin (vs i7) w w') : Ap1 T sz B W v xs n x i4 i6 i7 i10 Fin (addL L i10) vs w' := by
  obtain ⟨w1, h1, h2, h3, h4⟩ := h.r7 hL7 hL
  refine ⟨fun _ => ⟨by rw [adL_ne hn.c]; exact (h.ord7 hL7).1, by rw [adL_ne hn.e]; exact (h.ord7 hL7).2⟩, fun _ => (by rw [adL_ne hn.f]; exact hL7), fun e => ?_, fun _ e => ?_, fun _ e => ?_, fun _ => ⟨w1, w, vs i7, h1, h2, h3, h4, hF⟩⟩
  · rw [adL_ne hn.f, hL7] at e; cases e
  · rw [adL_ne hn.f, hL7] at e; cases e
  · rw [adL_eq] at e; cases e
end
/-! ### reads and quiet calls ahead of one store -/
/-- i7 loads what the store changes, i9 is the call that waits for it, i13 the store. -/
structure Last (W : World) (i7 i9 i13 : Nat) (Fin : World → World → Prop) (L : Nat → Bool) (_vs : Nat → Value) (w : World) : Prop where
  ord9 : L i9 = true → L i7 = true
  ord13 : L i13 = true → L i9 = true
  bel : L i13 = false → Below W.heap.size W w
  fin : L i13 = true → ∃ w1, Below W.heap.size W w1 ∧ Fin w1 w
section
variable {W : World} {i7 i9 i13 : Nat} {Fin : World → World → Prop} {L : Nat → Bool} {vs : Nat → Value} {w : World}
theorem Last.first (k : Nat) (vs : Nat → Value) : Last W i7 i9 i13 Fin (fun _ => false) vs { W with drawn := k } :=
  ⟨(fun h => by cases h), (fun h => by cases h), (fun _ => ⟨rfl, rfl, rfl, Nat.le_refl _, fun _ _ => rfl⟩), (fun h => by cases h)⟩
theorem Last.more (i : Nat) (hi : i ≠ i9 ∧ i ≠ i13) : ∀ L vs w, Last W i7 i9 i13 Fin L vs w → L i = false → Last W i7 i9 i13 Fin (addL L i) vs w := by
  intro L vs w h _
  obtain ⟨h9, h13⟩ := hi
  refine ⟨fun e => adL_mono _ (h.ord9 (by rw [adL_ne (Ne.symm h9)] at e; exact e)), ?_, ?_, ?_⟩ <;> simp only [adL_ne (Ne.symm h9), adL_ne (Ne.symm h13)]
  · exact h.ord13
  · exact h.bel
  · exact h.fin
theorem Last.early (h : Last W i7 i9 i13 Fin L vs w) (h7 : L i7 = false) : L i13 = false := by
  cases e : L i13 with
  | false => rfl
  | true => rw [h.ord9 (h.ord13 e)] at h7; cases h7
theorem Last.s9 (hn : i9 ≠ i13) (h : Last W i7 i9 i13 Fin L vs w) (h9 : L i9 = false) (h7 : L i7 = true) {w' : World} (hb : Below w.heap.size w w') : Last W i7 i9 i13 Fin (addL L i9) vs w' := by
  have h13 : L i13 = false := by
    cases e : L i13 with
    | false => rfl
    | true => rw [h.ord13 e] at h9; cases h9
  refine ⟨fun _ => adL_mono _ h7, fun e => ?_, fun _ => ?_, fun e => ?_⟩
  · rw [adL_ne (Ne.symm hn), h13] at e; cases e
  · have h1 := h.bel h13
    exact h1.trans (hb.mono h1.size)
  · rw [adL_ne (Ne.symm hn), h13] at e; cases e
theorem Last.s13 (hn : i9 ≠ i13) (h : Last W i7 i9 i13 Fin L vs w) (h13 : L i13 = false) (h9 : L i9 = true) {w' : World} (hF : Fin w w') : Last W i7 i9 i13 Fin (addL L i13) vs w' :=
  ⟨fun _ => adL_mono _ (h.ord9 h9), fun _ => (by rw [adL_ne hn]; exact h9), fun e => (by rw [adL_eq] at e; cases e), fun _ => ⟨w, h.bel h13, hF⟩⟩
end
end
end Go.Proofs.YtagelhbknbpfhaaDoor

/-
  New of 'append(append([]Exchange{}, l...), x)' in a region that draws: what is known along its way.
-/
import Derived.Test.YtagelhbknbpfhaaDoorPlanX
import Derived.Test.YtagelhbknbpfhaaDoorMixOps
namespace Go.Proofs.YtagelhbknbpfhaaDoor
open Go Go.RowKit Go.BigFrame
set_option maxHeartbeats 1000000
section
variable {P : Program} {ops : Array Oper} {C : MixC} {Q : ((Nat → Value) → Act) → Prop} {i : Nat} {o : Oper} {rest : List Oper} {A : (Nat → Value) → Act}
/-- A call with letters among its arguments, its answer open. -/
theorem mix_callV (f : FuncId) (xs : Array Operand) (ats : Array TypeId) (ho : o.op = .call { callee := .value (.func f), args := xs, argTypes := ats }) (hw : ∀ vs, Region.wanted o (yielded ops (A vs).tmps) = true)
    (hcall : ∀ args w, (callFunc f args).run P w = .ok (.enter f args) w) (args : (Nat → Value) → Array Value) (hx : ∀ vs, (xs.toList.map (A vs).eval).toArray = args vs)
    (hv : ∀ vs L w, C L vs w → L i = false → (∀ j, waits ops i j = true → L j = true) → Calls P f (args vs) w fun e w' => ∃ v, e = .returned v ∧ C (addL L i) (updV vs i v) w') (h : wpMix P ops C Q (i + 1) rest (fun vs => (A vs).put o.dst (vs i))) : wpMix P ops C Q i (o :: rest) A :=
  mix_open hw (fun vs L w hC hL hwt => by
    obtain ⟨dst, op, type, pos, after, guard⟩ := o
    dsimp only at ho
    subst ho
    have hx' : #[] ++ xs.map (A vs).eval ++ #[] = args vs := by rw [← hx vs]; apply Array.ext'; simp
    rw [execOp_call_go, hx', hcall]
    exact hv vs L w hC hL hwt) h
/-- The same with a known answer. -/
theorem mix_callW {v : Value} (f : FuncId) (xs : Array Operand) (ats : Array TypeId) (ho : o.op = .call { callee := .value (.func f), args := xs, argTypes := ats }) (hw : ∀ vs, Region.wanted o (yielded ops (A vs).tmps) = true)
    (hcall : ∀ args w, (callFunc f args).run P w = .ok (.enter f args) w) (args : (Nat → Value) → Array Value) (hx : ∀ vs, (xs.toList.map (A vs).eval).toArray = args vs)
    (hv : ∀ vs L w, C L vs w → L i = false → (∀ j, waits ops i j = true → L j = true) → Calls P f (args vs) w fun e w' => e = .returned v ∧ C (addL L i) vs w') (h : wpMix P ops C Q (i + 1) rest (fun vs => (A vs).put o.dst v)) : wpMix P ops C Q i (o :: rest) A :=
  mix_val hw (fun vs L w hC hL hwt => by
    obtain ⟨dst, op, type, pos, after, guard⟩ := o
    dsimp only at ho
    subst ho
    have hx' : #[] ++ xs.map (A vs).eval ++ #[] = args vs := by rw [← hx vs]; apply Array.ext'; simp
    rw [execOp_call_go, hx', hcall]
    exact hv vs L w hC hL hwt) h
/-- What yields a letter and leaves the world. -/
theorem mix_pure (hw : ∀ vs, Region.wanted o (yielded ops (A vs).tmps) = true) (fv : (Nat → Value) → Value)
    (hC : ∀ vs L w, C L vs w → L i = false → (∀ j, waits ops i j = true → L j = true) → (execOp (A vs).eval o).run P w = .ok (.value (fv vs)) w ∧ C (addL L i) (updV vs i (fv vs)) w) (h : wpMix P ops C Q (i + 1) rest (fun vs => (A vs).put o.dst (vs i))) : wpMix P ops C Q i (o :: rest) A :=
  mix_open hw (fun vs L w hC' hL hwt => by
    obtain ⟨hr, hc⟩ := hC vs L w hC' hL hwt
    rw [hr]
    exact hc) h
theorem mix_moveO (x : Operand) (ho : o.op = .move x) (hw : ∀ vs, Region.wanted o (yielded ops (A vs).tmps) = true) (fv : (Nat → Value) → Value) (hx : ∀ vs, (A vs).eval x = fv vs)
    (hC : ∀ vs L w, C L vs w → L i = false → (∀ j, waits ops i j = true → L j = true) → C (addL L i) (updV vs i (fv vs)) w) (h : wpMix P ops C Q (i + 1) rest (fun vs => (A vs).put o.dst (vs i))) : wpMix P ops C Q i (o :: rest) A :=
  mix_pure hw fv (fun vs L w h1 h2 h3 => ⟨by rw [BigFrame.run_move x ho w, hx], hC vs L w h1 h2 h3⟩) h
theorem mix_assignL (x : Operand) (ho : o.op = .assign x) (hw : ∀ vs, Region.wanted o (yielded ops (A vs).tmps) = true) (fv : (Nat → Value) → Value) (hx : ∀ vs, (A vs).eval x = fv vs)
    (hC : ∀ vs L w, C L vs w → L i = false → (∀ j, waits ops i j = true → L j = true) → C (addL L i) (updV vs i (fv vs)) w) (h : wpMix P ops C Q (i + 1) rest (fun vs => (A vs).put o.dst (vs i))) : wpMix P ops C Q i (o :: rest) A :=
  mix_pure hw fv (fun vs L w h1 h2 h3 => ⟨by rw [BigFrame.run_assign x ho w, hx], hC vs L w h1 h2 h3⟩) h
def nth2 (k : Nat) : Value → Value
  | .tuple a => a.getD k undef
  | _ => undef
theorem run_extract2 (a b : Value) (w : World) : (Instr.extract (.tuple #[a, b]) 0).run P w = .ok a w ∧ (Instr.extract (.tuple #[a, b]) 1).run P w = .ok b w := ⟨rfl, rfl⟩
theorem mix_extractO (x : Operand) (k : Nat) (hk : k < 2) (ho : o.op = .extract x k) (hw : ∀ vs, Region.wanted o (yielded ops (A vs).tmps) = true) (fv : (Nat → Value) → Value) (hx : ∀ vs, (A vs).eval x = fv vs)
    (hC : ∀ vs L w, C L vs w → L i = false → (∀ j, waits ops i j = true → L j = true) → (∃ a b, fv vs = .tuple #[a, b]) ∧ C (addL L i) (updV vs i (nth2 k (fv vs))) w) (h : wpMix P ops C Q (i + 1) rest (fun vs => (A vs).put o.dst (vs i))) : wpMix P ops C Q i (o :: rest) A :=
  mix_pure hw (fun vs => nth2 k (fv vs)) (fun vs L w h1 h2 h3 => by
    obtain ⟨⟨a, b, e⟩, hc⟩ := hC vs L w h1 h2 h3
    refine ⟨?_, hc⟩
    unfold execOp
    simp only [ho, hx vs, e]
    obtain ⟨r0, r1⟩ := run_extract2 (P := P) a b w
    rcases k with _ | _ | k
    · simp only [Sem.run_bind, r0, Result.andThen_ok, Sem.run_pure]; rfl
    · simp only [Sem.run_bind, r1, Result.andThen_ok, Sem.run_pure]; rfl
    · omega) h
end
section
variable {T : TypeId} {sz : Nat} {W : World} {xs : List Value} {n : Nat} {x : List Value} {i0 i2 i3 i5 i6 i8 : Nat} {Fin : Value → World → World → Prop} {L : Nat → Bool} {vs vs' : Nat → Value} {w : World}
theorem Ap2.letters (h : Ap2 T sz W xs n x i0 i2 i3 i5 i6 i8 Fin L vs w) (h0 : vs' i0 = vs i0) (h3 : vs' i3 = vs i3) (h5 : vs' i5 = vs i5) (h6 : vs' i6 = vs i6) : Ap2 T sz W xs n x i0 i2 i3 i5 i6 i8 Fin L vs' w :=
  ⟨h.ord2, h.ord3, h.ord6, h.ord8, h.bel, by rw [h0]; exact h.r0, by rw [h3]; exact h.r3, by rw [h0, h3, h5]; exact h.r5, by rw [h6]; exact h.r6, h.fin⟩
end
/-- What the call handed back. -/
def NewRes (me : Int) (l2 : List Ex) (B : Nat) (r : Value) (w : World) : Prop :=
  (newL me l2 = none ∧ r = .tuple #[.pointer none, .bool false]) ∨ ∃ g ys, newL me l2 = some (exs ys) ∧ r = .tuple #[.pointer (some ⟨g, 0, none⟩), .bool true] ∧ PlanAt w g ys ∧ B ≤ g
theorem NewRes.two {me : Int} {l2 : List Ex} {B : Nat} {r : Value} {w : World} (h : NewRes me l2 B r w) : ∃ a b, r = .tuple #[a, b] := by
  rcases h with ⟨_, h⟩ | ⟨_, _, _, h, _⟩
  · exact ⟨_, _, h⟩
  · exact ⟨_, _, h⟩
structure MoreC (me : Int) (W : World) (xs : List Value) (n : Nat) (x : List Value) (l2 : List Ex) (L : Nat → Bool) (vs : Nat → Value) (w : World) : Prop where
  ap : Ap2 64 6 W xs n x 1 2 3 5 6 7 (fun _ w3 w4 => Below w3.heap.size w3 w4) L vs w
  res : L 7 = true → NewRes me l2 W.heap.size (vs 7) w
  v8 : L 8 = true → L 7 = true ∧ vs 8 = vs 7
  v9 : L 9 = true → L 8 = true ∧ vs 9 = nth2 0 (vs 7)
  v10 : L 10 = true → L 8 = true ∧ vs 10 = nth2 1 (vs 7)
  v11 : L 11 = true → L 9 = true ∧ vs 11 = nth2 0 (vs 7)
  v12 : L 12 = true → L 10 = true ∧ vs 12 = nth2 1 (vs 7)
section
variable {me : Int} {W : World} {xs : List Value} {n : Nat} {x : List Value} {l2 : List Ex} {L : Nat → Bool} {vs : Nat → Value} {w : World}
theorem MoreC.first (k : Nat) (vs : Nat → Value) : MoreC me W xs n x l2 (fun _ => false) vs { W with drawn := k } :=
  ⟨Ap2.first k vs, (fun h => by cases h), (fun h => by cases h), (fun h => by cases h), (fun h => by cases h), (fun h => by cases h), (fun h => by cases h)⟩
theorem MoreC.below (h : MoreC me W xs n x l2 L vs w) : Below W.heap.size W w := by
  cases e : L 7 with
  | false => exact h.ap.bel e
  | true =>
    obtain ⟨w1, v, h1, _, h2⟩ := h.ap.fin e
    exact bthen' h1 h2
theorem MoreC.more : ∀ i, (i = 0 ∨ i = 2 ∨ i = 4) → ∀ L vs w, MoreC me W xs n x l2 L vs w → L i = false → MoreC me W xs n x l2 (addL L i) vs w := by
  intro i hi L vs w h hL
  have e : ∀ j, 7 ≤ j → addL L i j = L j := fun j hj => adL_ne (by omega)
  refine ⟨Ap2.more i (by omega) _ _ _ h.ap hL, ?_, ?_, ?_, ?_, ?_, ?_⟩
  · rw [e 7 (by omega)]; exact h.res
  · rw [e 8 (by omega), e 7 (by omega)]; exact h.v8
  · rw [e 9 (by omega), e 8 (by omega)]; exact h.v9
  · rw [e 10 (by omega), e 8 (by omega)]; exact h.v10
  · rw [e 11 (by omega), e 9 (by omega)]; exact h.v11
  · rw [e 12 (by omega), e 10 (by omega)]; exact h.v12
/-- A step ahead of the call. -/
theorem MoreC.ahead {i : Nat} {v : Value} {w' : World} (h : MoreC me W xs n x l2 L vs w) (hi : i < 7) (h7 : L 7 = false) (ap : Ap2 64 6 W xs n x 1 2 3 5 6 7 (fun _ w3 w4 => Below w3.heap.size w3 w4) (addL L i) (updV vs i v) w') : MoreC me W xs n x l2 (addL L i) (updV vs i v) w' := by
  have e : ∀ j, 7 ≤ j → addL L i j = L j := fun j hj => adL_ne (by omega)
  have h8 : L 8 = false := by cases e : L 8 with | false => rfl | true => rw [(h.v8 e).1] at h7; cases h7
  have h9 : L 9 = false := by cases e : L 9 with | false => rfl | true => rw [(h.v9 e).1] at h8; cases h8
  have h10 : L 10 = false := by cases e : L 10 with | false => rfl | true => rw [(h.v10 e).1] at h8; cases h8
  have h11 : L 11 = false := by cases e : L 11 with | false => rfl | true => rw [(h.v11 e).1] at h9; cases h9
  have h12 : L 12 = false := by cases e : L 12 with | false => rfl | true => rw [(h.v12 e).1] at h10; cases h10
  refine ⟨ap, ?_, ?_, ?_, ?_, ?_, ?_⟩
  · rw [e 7 (by omega), h7]; exact fun h => by cases h
  · rw [e 8 (by omega), h8]; exact fun h => by cases h
  · rw [e 9 (by omega), h9]; exact fun h => by cases h
  · rw [e 10 (by omega), h10]; exact fun h => by cases h
  · rw [e 11 (by omega), h11]; exact fun h => by cases h
  · rw [e 12 (by omega), h12]; exact fun h => by cases h
theorem MoreC.no7 (h : MoreC me W xs n x l2 L vs w) {i : Nat} (hi : i = 1 ∨ i = 3 ∨ i = 5 ∨ i = 6 ∨ i = 7) (hL : L i = false) : L 7 = false := by
  cases e : L 7 with
  | false => rfl
  | true =>
    have h6 := h.ap.ord8 e
    have h35 := h.ap.ord6 h6
    have h1 := h.ap.ord3 h35.1
    rcases hi with rfl | rfl | rfl | rfl | rfl
    · rw [h1] at hL; cases hL
    · rw [h35.1] at hL; cases hL
    · rw [h35.2] at hL; cases hL
    · rw [h6] at hL; cases hL
    · rw [e] at hL; cases hL
theorem MoreC.call {w' : World} {v : Value} (h : MoreC me W xs n x l2 L vs w) (h7 : L 7 = false) (h6 : L 6 = true) (hb : Below w.heap.size w w') (hr : NewRes me l2 W.heap.size v w') : MoreC me W xs n x l2 (addL L 7) (updV vs 7 v) w' := by
  have e : ∀ j, j ≠ 7 → addL L 7 j = L j := fun j hj => adL_ne hj
  have h8 : L 8 = false := by cases e : L 8 with | false => rfl | true => rw [(h.v8 e).1] at h7; cases h7
  have h9 : L 9 = false := by cases e : L 9 with | false => rfl | true => rw [(h.v9 e).1] at h8; cases h8
  have h10 : L 10 = false := by cases e : L 10 with | false => rfl | true => rw [(h.v10 e).1] at h8; cases h8
  have h11 : L 11 = false := by cases e : L 11 with | false => rfl | true => rw [(h.v11 e).1] at h9; cases h9
  have h12 : L 12 = false := by cases e : L 12 with | false => rfl | true => rw [(h.v12 e).1] at h10; cases h10
  refine ⟨(h.ap.s8 (by constructor <;> decide) h7 h6 hb).letters (updV_ne _ (by decide)) (updV_ne _ (by decide)) (updV_ne _ (by decide)) (updV_ne _ (by decide)), ?_, ?_, ?_, ?_, ?_, ?_⟩
  · intro _; rw [updV_eq]; exact hr
  · rw [e 8 (by omega), h8]; exact fun h => by cases h
  · rw [e 9 (by omega), h9]; exact fun h => by cases h
  · rw [e 10 (by omega), h10]; exact fun h => by cases h
  · rw [e 11 (by omega), h11]; exact fun h => by cases h
  · rw [e 12 (by omega), h12]; exact fun h => by cases h
/-- A step behind the call. -/
theorem MoreC.behind {i : Nat} {v : Value} (h : MoreC me W xs n x l2 L vs w) (hi : 7 < i) (hL : L i = false)
    (h8 : i = 8 → L 7 = true ∧ v = vs 7) (h9 : i = 9 → L 8 = true ∧ v = nth2 0 (vs 7)) (h10 : i = 10 → L 8 = true ∧ v = nth2 1 (vs 7)) (h11 : i = 11 → L 9 = true ∧ v = nth2 0 (vs 7)) (h12 : i = 12 → L 10 = true ∧ v = nth2 1 (vs 7)) : MoreC me W xs n x l2 (addL L i) (updV vs i v) w := by
  have e7 : addL L i 7 = L 7 := adL_ne (by omega)
  have v7 : updV vs i v 7 = vs 7 := updV_ne _ (by omega)
  have key : ∀ j, addL L i j = true → (j = i ∧ updV vs i v j = v) ∨ (L j = true ∧ updV vs i v j = vs j) := fun j hj => by
    by_cases e : j = i
    · subst e; exact .inl ⟨rfl, updV_eq _ _ _⟩
    · rw [adL_ne e] at hj; exact .inr ⟨hj, updV_ne _ e⟩
  refine ⟨(Ap2.more i (by omega) _ _ _ h.ap hL).letters (updV_ne _ (by omega)) (updV_ne _ (by omega)) (updV_ne _ (by omega)) (updV_ne _ (by omega)), ?_, fun hj => ?_, fun hj => ?_, fun hj => ?_, fun hj => ?_, fun hj => ?_⟩
  · rw [e7, v7]; exact h.res
  · rw [v7]
    rcases key 8 hj with ⟨e, e2⟩ | ⟨e, e2⟩
    · rw [e2]; exact ⟨adL_mono _ (h8 e.symm).1, (h8 e.symm).2⟩
    · rw [e2]; exact ⟨adL_mono _ (h.v8 e).1, (h.v8 e).2⟩
  · rw [v7]
    rcases key 9 hj with ⟨e, e2⟩ | ⟨e, e2⟩
    · rw [e2]; exact ⟨adL_mono _ (h9 e.symm).1, (h9 e.symm).2⟩
    · rw [e2]; exact ⟨adL_mono _ (h.v9 e).1, (h.v9 e).2⟩
  · rw [v7]
    rcases key 10 hj with ⟨e, e2⟩ | ⟨e, e2⟩
    · rw [e2]; exact ⟨adL_mono _ (h10 e.symm).1, (h10 e.symm).2⟩
    · rw [e2]; exact ⟨adL_mono _ (h.v10 e).1, (h.v10 e).2⟩
  · rw [v7]
    rcases key 11 hj with ⟨e, e2⟩ | ⟨e, e2⟩
    · rw [e2]; exact ⟨adL_mono _ (h11 e.symm).1, (h11 e.symm).2⟩
    · rw [e2]; exact ⟨adL_mono _ (h.v11 e).1, (h.v11 e).2⟩
  · rw [v7]
    rcases key 12 hj with ⟨e, e2⟩ | ⟨e, e2⟩
    · rw [e2]; exact ⟨adL_mono _ (h12 e.symm).1, (h12 e.symm).2⟩
    · rw [e2]; exact ⟨adL_mono _ (h.v12 e).1, (h.v12 e).2⟩
end
end Go.Proofs.YtagelhbknbpfhaaDoor

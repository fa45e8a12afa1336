/-
  A region that draws its order, walked once in the order of its text, where some operations yield values that depend on the order (addresses of new memory): such a value is a letter, and what is known of it stands in the class. No program.
-/
import Derived.Test.YtagelhbknbpfhaaDoorValsOps
namespace Go.Proofs.YtagelhbknbpfhaaDoor
open Go
def updV (vs : Nat → Value) (i : Nat) (v : Value) : Nat → Value := fun j => if j = i then v else vs j
theorem updV_eq (vs : Nat → Value) (i : Nat) (v : Value) : updV vs i v i = v := by unfold updV; rw [if_pos rfl]
theorem updV_ne {vs : Nat → Value} {i j : Nat} (v : Value) (h : j ≠ i) : updV vs i v j = vs j := by unfold updV; rw [if_neg h]
section
variable {P : Program} {ops : Array Oper}
theorem FrL.congr {V V' : Nat → Value} {a0 a : Act} {L : Nat → Bool} (h : FrL ops V a0 L a) (hv : ∀ j, L j = true → V j = V' j) : FrL ops V' a0 L a :=
  ⟨h.defers, h.size, fun t => ⟨fun j oj hj ht hl => (h.slot t).1 j oj hj ht hl |>.trans (hv j hl), (h.slot t).2⟩⟩
theorem Closed.no {L : Nat → Bool} (h : Closed ops L) {i j : Nat} (hw : waits ops i j = true) (hj : L j = false) : L i = false := by
  cases e : L i
  · rfl
  · rw [h i j hw e] at hj; cases hj
/-- What is asked once an operation with an open value has run. -/
def openUpon (P : Program) (C : Value → World → Prop) : Result Next → Prop
  | .ok (.value u) w' => C u w'
  | .ok .skip w' => C undef w'
  | .ok (.enter f args) w' => Calls P f args w' (fun e w'' => ∃ v, e = .returned v ∧ C v w'')
  | _ => False
abbrev MixC := (Nat → Bool) → (Nat → Value) → World → Prop
/-- One operation's duty: x = some v: it yields v; none: what it yields is a letter. -/
def mixDuty (P : Program) (ops : Array Oper) (C : MixC) (i : Nat) (o : Oper) (A : (Nat → Value) → Act) (x : Option Value) : Prop :=
  ∀ vs L w, C L vs w → L i = false → (∀ j, waits ops i j = true → L j = true) → Closed ops L →
    match x with
    | some v => if Region.wanted o (yielded ops (A vs).tmps) then valsUpon P (C (addL L i) vs) v ((execOp (A vs).eval o).run P w) else v = undef ∧ C (addL L i) vs w
    | none => if Region.wanted o (yielded ops (A vs).tmps) then openUpon P (fun u => C (addL L i) (updV vs i u)) ((execOp (A vs).eval o).run P w) else C (addL L i) (updV vs i undef) w
/-- The walk in the order of the text. -/
def wpMix (P : Program) (ops : Array Oper) (C : MixC) (Q : ((Nat → Value) → Act) → Prop) : Nat → List Oper → ((Nat → Value) → Act) → Prop
  | _, [], A => Q A
  | i, o :: rest, A => ∃ x : Option Value, mixDuty P ops C i o A x ∧ wpMix P ops C Q (i + 1) rest (fun vs => (A vs).put o.dst (x.getD (vs i)))
theorem wpMix_nil {C : MixC} {Q : ((Nat → Value) → Act) → Prop} {i : Nat} {A : (Nat → Value) → Act} (h : Q A) : wpMix P ops C Q i [] A := h
theorem wpMix_step {C : MixC} {Q : ((Nat → Value) → Act) → Prop} {i : Nat} {o : Oper} {rest : List Oper} {A : (Nat → Value) → Act} (x : Option Value) (hd : mixDuty P ops C i o A x)
    (h : wpMix P ops C Q (i + 1) rest (fun vs => (A vs).put o.dst (x.getD (vs i)))) : wpMix P ops C Q i (o :: rest) A := ⟨x, hd, h⟩
/-- The values of all operations, out of the letters. -/
def full (fx : List (Option Value)) (vs : Nat → Value) : Nat → Value := fun j => match fx[j]? with
  | some x => x.getD (vs j)
  | none => undef
theorem of_mix {C : MixC} {Q : ((Nat → Value) → Act) → Prop} (a0 : Act) : ∀ (done : List (Option Value)) (rest : List Oper), (∀ k o, rest[k]? = some o → ops[done.length + k]? = some o) → done.length + rest.length = ops.size →
    (∀ i o x, ops[i]? = some o → done[i]? = some x → mixDuty P ops C i o (fun vs => frameAt ops (full done vs) a0 i) x) → wpMix P ops C Q done.length rest (fun vs => frameAt ops (full done vs) a0 done.length) →
    ∃ fx : List (Option Value), fx.length = ops.size ∧ (∀ i o x, ops[i]? = some o → fx[i]? = some x → mixDuty P ops C i o (fun vs => frameAt ops (full fx vs) a0 i) x) ∧ Q (fun vs => frameAt ops (full fx vs) a0 ops.size) := by
  intro done rest
  induction rest generalizing done with
  | nil =>
    intro _ hl hD h
    simp only [List.length_nil, Nat.add_zero] at hl
    rw [hl] at h
    exact ⟨done, hl, hD, h⟩
  | cons o rest ih =>
    intro hops hl hD h
    obtain ⟨x, hx, hk⟩ := h
    have ho : ops[done.length]? = some o := by simpa using hops 0 o rfl
    have agree : ∀ vs n, n ≤ done.length → frameAt ops (full (done ++ [x]) vs) a0 n = frameAt ops (full done vs) a0 n := by
      intro vs n
      induction n with
      | zero => intro _; rfl
      | succ n ihn =>
        intro hn
        simp only [frameAt]
        rw [ihn (by omega)]
        have : full (done ++ [x]) vs n = full done vs n := by
          unfold full
          rw [List.getElem?_append_left (by omega)]
        rw [this]
    have hlast : ∀ vs, full (done ++ [x]) vs done.length = x.getD (vs done.length) := by
      intro vs
      unfold full
      rw [List.getElem?_append_right (Nat.le_refl _)]
      simp
    have hlen : (done ++ [x]).length = done.length + 1 := by simp
    refine ih (done ++ [x]) ?_ ?_ ?_ ?_
    · intro k o' hk'
      have := hops (k + 1) o' (by simpa using hk')
      rw [hlen, show done.length + 1 + k = done.length + (k + 1) by omega]; exact this
    · rw [hlen]
      simp only [List.length_cons] at hl
      omega
    · intro i o' x' hi hx'
      have hilt : i < done.length + 1 := by
        have := (List.getElem?_eq_some_iff.1 hx').1
        rw [hlen] at this; exact this
      by_cases e : i = done.length
      · subst e
        rw [ho] at hi
        obtain rfl := Option.some.inj hi
        rw [List.getElem?_append_right (Nat.le_refl _)] at hx'
        simp only [Nat.sub_self, List.getElem?_cons_zero, Option.some.injEq] at hx'
        subst hx'
        have : (fun vs => frameAt ops (full (done ++ [x]) vs) a0 done.length) = fun vs => frameAt ops (full done vs) a0 done.length := by
          funext vs; exact agree vs _ (Nat.le_refl _)
        rw [this]; exact hx
      · have hi2 : i < done.length := by omega
        rw [List.getElem?_append_left hi2] at hx'
        have : (fun vs => frameAt ops (full (done ++ [x]) vs) a0 i) = fun vs => frameAt ops (full done vs) a0 i := by
          funext vs; exact agree vs _ (by omega)
        rw [this]
        exact hD i o' x' hi hx'
    · rw [hlen]
      have : (fun vs => frameAt ops (full (done ++ [x]) vs) a0 (done.length + 1)) = fun vs => (frameAt ops (full done vs) a0 done.length).put o.dst (x.getD (vs done.length)) := by
        funext vs
        simp only [frameAt, ho]
        rw [agree vs _ (Nat.le_refl _), hlast]
      rw [this]
      exact hk
theorem wp_of_open {C' : Value → World → Prop} {o : Oper} {a : Act} {K : Act → World → Prop} {Q : Exit → Act → World → Prop} {w : World} (h : openUpon P C' ((execOp a.eval o).run P w)) (hK : ∀ v w', C' v w' → K (a.put o.dst v) w') :
    o.wp P a w K Q := by
  unfold Oper.wp
  generalize (execOp a.eval o).run P w = r at *
  cases r with
  | ok n w' =>
    cases n <;> simp only [openUpon] at h <;> simp only [Oper.upon]
    case value u => exact hK _ _ h
    case skip => exact hK _ _ h
    case enter f args =>
      exact h.mono fun e w'' ⟨v, he, hw''⟩ => by subst he; exact hK _ _ hw''
  | halt x w' => simp only [openUpon] at h
theorem any_of_mix {C : MixC} {fx : List (Option Value)} {a0 : Act} {Q : Exit → Act → World → Prop} (hfx : fx.length = ops.size) (hT : textOk ops a0.tmps.size = true)
    (hD : ∀ i o x, ops[i]? = some o → fx[i]? = some x → mixDuty P ops C i o (fun vs => frameAt ops (full fx vs) a0 i) x) (hQ : ∀ vs w', C (ltL ops.size) vs w' → Q .normal (frameAt ops (full fx vs) a0 ops.size) w') :
    ∀ (fuel : Nat) (listed : Array Bool) (vs : Nat → Value) (a : Act) (w : World), listed.size = ops.size →
      (List.range ops.size).countP (fun i => !listL listed i) ≤ fuel → Closed ops (listL listed) → FrL ops (full fx vs) a0 (listL listed) a → C (listL listed) vs w → wpAny P .any ops Q fuel listed a w := by
  have last : ∀ (listed : Array Bool) (vs : Nat → Value) (a : Act) (w : World), listed.size = ops.size → FrL ops (full fx vs) a0 (listL listed) a → C (listL listed) vs w → (∀ i, i < ops.size → listL listed i = true) → Q .normal a w := by
    intro listed vs a w hs ha hw hall
    have e := all_eq hs hall
    rw [e] at ha hw
    rw [fr_eq ha (frameAt_fr hT ops.size (Nat.le_refl _))]
    exact hQ vs w hw
  intro fuel
  induction fuel with
  | zero =>
    intro listed vs a w hs hc hcl ha hw
    have hall : ∀ i, i < ops.size → listL listed i = true := by
      intro i hi
      have h0 : (List.range ops.size).countP (fun i => !listL listed i) = 0 := by omega
      rw [List.countP_eq_zero] at h0
      have := h0 i (List.mem_range.2 hi)
      simpa using this
    refine ⟨?_, last listed vs a w hs ha hw hall⟩
    rw [List.eq_nil_iff_forall_not_mem]
    intro i hi
    obtain ⟨o, ho, hlt, hl, _⟩ := ready_of hs hi
    rw [hall i hlt] at hl
    cases hl
  | succ fuel ih =>
    intro listed vs a w hs hc hcl ha hw
    refine ⟨fun hr => last listed vs a w hs ha hw (all_done hT hs hr), fun i hi => ?_⟩
    obtain ⟨o, ho, hlt, hl, hwt⟩ := ready_of hs hi
    obtain ⟨he1, he2⟩ := exec_agree hT ho ha (frameAt_fr hT i (by omega)) hl hwt hcl
    have hset : listL (listed.setIfInBounds i true) = addL (listL listed) i := listL_set (by omega)
    have hnext : ∀ vs' w', FrL ops (full fx vs') a0 (listL listed) a → C (addL (listL listed) i) vs' w' → wpAny P .any ops Q fuel (listed.setIfInBounds i true) (a.put o.dst (full fx vs' i)) w' := by
      intro vs' w' ha' hw'
      refine ih _ vs' _ _ (by simpa using hs) ?_ ?_ ?_ ?_
      · rw [hset]
        have hm : i ∈ List.range ops.size := List.mem_range.2 hlt
        have hlt2 : (List.range ops.size).countP (fun j => !addL (listL listed) i j) < (List.range ops.size).countP (fun j => !listL listed j) := by
          obtain ⟨l1, l2, e⟩ := List.append_of_mem hm
          rw [e]
          simp only [List.countP_append, List.countP_cons]
          have hle : ∀ l : List Nat, l.countP (fun j => !addL (listL listed) i j) ≤ l.countP (fun j => !listL listed j) := fun l => by
            refine List.countP_mono_left fun j _ hj => ?_
            unfold addL at hj
            split at hj
            · simp at hj
            · exact hj
          have h1 := hle l1
          have h2 := hle l2
          have h3 : addL (listL listed) i i = true := by simp [addL]
          simp only [h3, hl, Bool.not_true, Bool.not_false, Bool.false_eq_true, if_false, if_true]
          omega
        omega
      · rw [hset]
        intro x y hxy hx
        unfold addL at hx ⊢
        by_cases hyi : y = i
        · rw [if_pos hyi]
        · rw [if_neg hyi]
          by_cases hxi : x = i
          · subst hxi; exact hwt y hxy
          · rw [if_neg hxi] at hx
            exact hcl x y hxy hx
      · rw [hset]
        exact ha'.put hT ho hl
      · rw [hset]; exact hw'
    have hxi : fx[i]? = some (fx[i]'(by omega)) := List.getElem?_eq_getElem _
    have hd := hD i o _ ho hxi vs (listL listed) w hw hl hwt hcl
    have hfull : ∀ vs', full fx vs' i = (fx[i]'(by omega)).getD (vs' i) := fun vs' => by unfold full; rw [hxi]
    generalize fx[i]'(by omega) = x at hd hfull hxi
    have hupd : ∀ u, x = none → FrL ops (full fx (updV vs i u)) a0 (listL listed) a := by
      intro u hx
      refine ha.congr fun j hj => ?_
      unfold full
      by_cases hji : j = i
      · subst hji; rw [hl] at hj; cases hj
      · cases fx[j]? with
        | none => rfl
        | some y => simp only []; rw [updV_ne u hji]
    unfold wpOp
    rw [ho]
    simp only
    rw [he2]
    cases x with
    | some v =>
      simp only [] at hd
      split
      · rename_i hwn
        rw [if_pos hwn, ← he1] at hd
        refine .inl (wp_of_upon hd fun w' hw' => ?_)
        have := hnext vs w' ha hw'
        rw [hfull] at this
        exact this
      · rename_i hwn
        rw [if_neg hwn] at hd
        obtain ⟨rfl, hd⟩ := hd
        have := hnext vs w ha hd
        rw [hfull] at this
        exact this
    | none =>
      simp only [] at hd
      split
      · rename_i hwn
        rw [if_pos hwn, ← he1] at hd
        refine .inl (wp_of_open hd fun u w' hw' => ?_)
        have := hnext (updV vs i u) w' (hupd u rfl) hw'
        rw [hfull, Option.getD_none, updV_eq] at this
        exact this
      · rename_i hwn
        rw [if_neg hwn] at hd
        have := hnext (updV vs i undef) w (hupd undef rfl) hd
        rw [hfull, Option.getD_none, updV_eq] at this
        exact this
/-- A REGION THAT DRAWS ITS ORDER, values that depend on the order and all. -/
theorem wp_region_mix {id : Nat} {C : MixC} {Q : Exit → Act → World → Prop} {a : Act} {w : World} (hm : P.follows .mixedOrders = true) (hT : textOk ops a.tmps.size = true)
    (hC : C (fun _ => false) (fun _ => undef) { w with drawn := w.drawn + 1 }) (h : wpMix P ops C (fun A => ∀ vs w', C (ltL ops.size) vs w' → Q .normal (A vs) w') 0 ops.toList (fun _ => a)) : (Code.region id ops true).wp P Q a w := by
  obtain ⟨fx, hfx, hD, hQ⟩ := of_mix (P := P) (ops := ops) a [] ops.toList (by intro k o hk; simpa using hk) (by simp) (by intro i o x _ hx; simp at hx) h
  have e0 : listL (Array.replicate ops.size false) = fun _ => false := by
    funext j
    unfold listL
    rw [Array.getD_eq_getD_getElem?]
    by_cases hj : j < ops.size
    · rw [Array.getElem?_replicate, if_pos hj]; rfl
    · rw [Array.getElem?_replicate, if_neg hj]; rfl
  refine wp_region_any hm (any_of_mix hfx hT hD hQ _ _ (fun _ => undef) _ _ (by simp) ?_ ?_ ?_ ?_)
  · exact Nat.le_trans List.countP_le_length (by simp)
  · rw [e0]; intro x y _ hx; cases hx
  · rw [e0]; exact ⟨rfl, rfl, fun t => ⟨fun j oj _ _ h => (by cases h), fun _ => rfl⟩⟩
  · rw [e0]; exact hC
end
end Go.Proofs.YtagelhbknbpfhaaDoor

/-
  A region that draws its order, walked once in the order of its text, effects and all: each operation yields one value, whatever of the others has been done; what is known of the world grows with what has been done. No program.
-/
import Derived.Calls
import Derived.Orders
import Derived.Still
namespace Go.Proofs.YtagelhbknbpfhaaDoor
open Go
/-- Does operation i wait for operation j? -/
def waits (ops : Array Oper) (i j : Nat) : Bool :=
  match ops[i]? with
  | some o => o.after.any fun e => Region.binds .any e && e.on == j
  | none => false
/-- What is asked of the region's text. -/
def textOk (ops : Array Oper) (n : Nat) : Bool :=
  (List.range ops.size).all fun i =>
    match ops[i]? with
    | none => true
    | some oi =>
      oi.after.all (fun e => !Region.binds .any e || decide (e.on < i)) && (match oi.op with | .select .. => false | _ => true) &&
      (match oi.dst with | some d => decide (d < n) | none => true) &&
      (List.range ops.size).all fun j => i == j ||
        match ops[j]? with
        | some oj => (match oj.dst with
          | some d => oi.dst != some d && (!(oi.looksAt ops).contains d || waits ops i j || waits ops j i)
          | none => true)
        | none => true
section
variable {P : Program} {ops : Array Oper}
/-- What is asked once an operation has run: the value v, and a world of the class. -/
def valsUpon (P : Program) (C : World → Prop) (v : Value) : Result Next → Prop
  | .ok (.value u) w' => u = v ∧ C w'
  | .ok .skip w' => v = undef ∧ C w'
  | .ok (.enter f args) w' => Calls P f args w' (fun e w'' => e = .returned v ∧ C w'')
  | _ => False
def addL (L : Nat → Bool) (i : Nat) : Nat → Bool := fun j => if j = i then true else L j
/-- One value, in every world of the class, whatever has been done. -/
def valsOp (P : Program) (ops : Array Oper) (C : (Nat → Bool) → World → Prop) (i : Nat) (o : Oper) (a : Act) (v : Value) : Prop :=
  ∀ L w, C L w → L i = false → (∀ j, waits ops i j = true → L j = true) → valsUpon P (C (addL L i)) v ((execOp a.eval o).run P w)
/-- The walk in the order of the text. -/
def wpVals (P : Program) (ops : Array Oper) (C : (Nat → Bool) → World → Prop) (Q : Act → Prop) : Nat → List Oper → Act → Prop
  | _, [], a => Q a
  | i, o :: rest, a =>
    if Region.wanted o (yielded ops a.tmps) then ∃ v, valsOp P ops C i o a v ∧ wpVals P ops C Q (i + 1) rest (a.put o.dst v)
    else (∀ L w, C L w → L i = false → C (addL L i) w) ∧ wpVals P ops C Q (i + 1) rest (a.put o.dst undef)
theorem wpVals_nil {C : (Nat → Bool) → World → Prop} {Q : Act → Prop} {i : Nat} {a : Act} (h : Q a) : wpVals P ops C Q i [] a := h
theorem textOk_at {n : Nat} (h : textOk ops n = true) {i : Nat} {oi : Oper} (hi : ops[i]? = some oi) :
    (∀ e ∈ oi.after, Region.binds .any e = true → e.on < i) ∧ (∀ cs b, oi.op ≠ .select cs b) ∧ (∀ d, oi.dst = some d → d < n) ∧
    (∀ j oj d, ops[j]? = some oj → i ≠ j → oj.dst = some d → oi.dst ≠ some d ∧ (d ∈ oi.looksAt ops → waits ops i j = true ∨ waits ops j i = true)) := by
  have hlt : i < ops.size := (Array.getElem?_eq_some_iff.1 hi).1
  have h1 := List.all_eq_true.1 h i (List.mem_range.2 hlt)
  rw [hi] at h1
  simp only [Bool.and_eq_true] at h1
  obtain ⟨⟨⟨h2, h3⟩, h4⟩, h5⟩ := h1
  refine ⟨fun e he hb => ?_, fun cs b e => ?_, fun d hd => ?_, fun j oj d hj hne hd => ?_⟩
  · have := Array.all_eq_true'.1 h2 e he
    simpa [hb] using this
  · rw [e] at h3; cases h3
  · rw [hd] at h4; simpa using h4
  · have hjl : j < ops.size := (Array.getElem?_eq_some_iff.1 hj).1
    have h6 := List.all_eq_true.1 h5 j (List.mem_range.2 hjl)
    rw [hj] at h6
    simp only [hd, Bool.or_eq_true, beq_iff_eq, hne, false_or, Bool.and_eq_true, bne_iff_ne, ne_eq, Bool.not_eq_true', List.contains_eq_mem, decide_eq_false_iff_not] at h6
    refine ⟨h6.1, fun hm => ?_⟩
    rcases h6.2 with (h7 | h7) | h7
    · exact absurd hm h7
    · exact .inl h7
    · exact .inr h7
/-- What slot t holds once the operations of L have been done. -/
def lookL (ops : Array Oper) (vals : Nat → Value) (a0 : Act) (L : Nat → Bool) (t : Nat) (x : Value) : Prop :=
  (∀ j oj, ops[j]? = some oj → oj.dst = some t → L j = true → x = vals j) ∧ ((∀ j oj, ops[j]? = some oj → oj.dst = some t → L j = false) → x = a0.tmps.getD t undef)
structure FrL (ops : Array Oper) (vals : Nat → Value) (a0 : Act) (L : Nat → Bool) (a : Act) : Prop where
  defers : a.defers = a0.defers
  size : a.tmps.size = a0.tmps.size
  slot : ∀ t, lookL ops vals a0 L t (a.tmps.getD t undef)
theorem put_getD (a : Act) (d t : Nat) (v : Value) (hd : d < a.tmps.size) : (a.put (some d) v).tmps.getD t undef = if d = t then v else a.tmps.getD t undef := by
  simp only [Act.put, Array.getD_eq_getD_getElem?]
  by_cases h : d = t
  · subst h
    rw [if_pos rfl, Array.getElem?_setIfInBounds_self_of_lt hd]; rfl
  · rw [if_neg h, Array.getElem?_setIfInBounds_ne h]
theorem FrL.put {vals : Nat → Value} {a0 a : Act} {L : Nat → Bool} (hT : textOk ops a0.tmps.size = true) (h : FrL ops vals a0 L a) {i : Nat} {oi : Oper} (hi : ops[i]? = some oi) (hLi : L i = false) :
    FrL ops vals a0 (addL L i) (a.put oi.dst (vals i)) := by
  obtain ⟨_, _, hb, hu⟩ := textOk_at hT hi
  cases hd : oi.dst with
  | none =>
    refine ⟨h.defers, h.size, fun t => ⟨fun j oj hj ht hl => ?_, fun hn => ?_⟩⟩
    · by_cases hji : j = i
      · subst hji
        rw [hi] at hj
        obtain rfl := Option.some.inj hj
        rw [hd] at ht; cases ht
      · exact (h.slot t).1 j oj hj ht (by simpa [addL, hji] using hl)
    · exact (h.slot t).2 fun j oj hj ht => by
        have := hn j oj hj ht
        by_cases hji : j = i
        · subst hji; exact hLi
        · simpa [addL, hji] using this
  | some d =>
    have hdl : d < a.tmps.size := by rw [h.size]; exact hb d hd
    refine ⟨h.defers, by simp [Act.put, h.size], fun t => ?_⟩
    rw [put_getD a d t _ hdl]
    by_cases hdt : d = t
    · subst hdt
      rw [if_pos rfl]
      refine ⟨fun j oj hj ht _ => ?_, fun hn => ?_⟩
      · by_cases hji : j = i
        · subst hji; rfl
        · exact absurd hd (hu j oj d hj (Ne.symm hji) ht).1
      · have := hn i oi hi hd
        simp [addL] at this
    · rw [if_neg hdt]
      refine ⟨fun j oj hj ht hl => ?_, fun hn => ?_⟩
      · have hji : j ≠ i := by
          rintro rfl
          rw [hi] at hj
          obtain rfl := Option.some.inj hj
          rw [hd] at ht
          exact hdt (Option.some.inj ht)
        exact (h.slot t).1 j oj hj ht (by simpa [addL, hji] using hl)
      · exact (h.slot t).2 fun j oj hj ht => by
          have := hn j oj hj ht
          by_cases hji : j = i
          · subst hji; exact hLi
          · simpa [addL, hji] using this
def ltL (n : Nat) : Nat → Bool := fun j => decide (j < n)
theorem addL_lt (n : Nat) : addL (ltL n) n = ltL (n + 1) := by
  funext j
  unfold addL ltL
  by_cases h : j = n
  · subst h; simp
  · rw [if_neg h, decide_eq_decide]; omega
def Closed (ops : Array Oper) (L : Nat → Bool) : Prop := ∀ i j, waits ops i j = true → L i = true → L j = true
theorem waits_lt {n : Nat} (hT : textOk ops n = true) {i j : Nat} (h : waits ops i j = true) : j < i := by
  unfold waits at h
  split at h
  · rename_i o ho
    obtain ⟨e, he, hb⟩ := Array.any_eq_true'.1 h
    simp only [Bool.and_eq_true, beq_iff_eq] at hb
    have := (textOk_at hT ho).1 e he hb.1
    omega
  · cases h
theorem slot_agree {vals : Nat → Value} {a0 a A : Act} {L : Nat → Bool} (hT : textOk ops a0.tmps.size = true) {i : Nat} {oi : Oper} (hi : ops[i]? = some oi)
    (ha : FrL ops vals a0 L a) (hA : FrL ops vals a0 (ltL i) A) (hLi : L i = false) (hw : ∀ j, waits ops i j = true → L j = true) (hcl : Closed ops L) {t : Nat} (ht : t ∈ oi.looksAt ops) :
    a.tmps.getD t undef = A.tmps.getD t undef := by
  have uniq : ∀ (j : Nat) (oj : Oper) (k : Nat) (ok : Oper), ops[j]? = some oj → oj.dst = some t → ops[k]? = some ok → ok.dst = some t → j = k := by
    intro j oj k ok hj hjt hk hkt
    by_cases hjk : j = k
    · exact hjk
    · exact absurd hjt (((textOk_at hT hj).2.2.2) k ok t hk hjk hkt).1
  by_cases hex : ∃ (j : Nat) (oj : Oper), ops[j]? = some oj ∧ oj.dst = some t
  · obtain ⟨j, oj, hj, hjt⟩ := hex
    have only : ∀ (M : Nat → Bool), M j = false → ∀ (k : Nat) (ok : Oper), ops[k]? = some ok → ok.dst = some t → M k = false := by
      intro M hM k ok hk hkt
      obtain rfl := uniq j oj k ok hj hjt hk hkt
      exact hM
    by_cases hji : i = j
    · subst hji
      rw [(ha.slot t).2 (only L hLi), (hA.slot t).2 (only _ (by simp [ltL]))]
    · rcases (((textOk_at hT hi).2.2.2) j oj t hj hji hjt).2 ht with h | h
      · have hlt := waits_lt hT h
        rw [(ha.slot t).1 j oj hj hjt (hw j h), (hA.slot t).1 j oj hj hjt (by simp [ltL, hlt])]
      · have hlt := waits_lt hT h
        have hLj : L j = false := by
          cases hl : L j
          · rfl
          · have := hcl j i h hl
            rw [hLi] at this; cases this
        rw [(ha.slot t).2 (only L hLj), (hA.slot t).2 (only _ (by simp [ltL]; omega))]
  · have none : ∀ (M : Nat → Bool) (j : Nat) (oj : Oper), ops[j]? = some oj → oj.dst = some t → M j = false := fun M j oj hj hjt => absurd ⟨j, oj, hj, hjt⟩ hex
    rw [(ha.slot t).2 (none L), (hA.slot t).2 (none _)]
theorem getElem_of_getD {x y : Array Value} (hs : x.size = y.size) {t : Nat} (h : x.getD t undef = y.getD t undef) : x[t]? = y[t]? := by
  by_cases ht : t < x.size
  · have ht' : t < y.size := by omega
    simp only [Array.getD_eq_getD_getElem?, Array.getElem?_eq_getElem ht, Array.getElem?_eq_getElem ht', Option.getD_some] at h
    rw [Array.getElem?_eq_getElem ht, Array.getElem?_eq_getElem ht', h]
  · rw [Array.getElem?_eq_none (by omega), Array.getElem?_eq_none (by omega)]
theorem exec_agree {vals : Nat → Value} {a0 a A : Act} {L : Nat → Bool} (hT : textOk ops a0.tmps.size = true) {i : Nat} {oi : Oper} (hi : ops[i]? = some oi)
    (ha : FrL ops vals a0 L a) (hA : FrL ops vals a0 (ltL i) A) (hLi : L i = false) (hw : ∀ j, waits ops i j = true → L j = true) (hcl : Closed ops L) :
    execOp a.eval oi = execOp A.eval oi ∧ Region.wanted oi (yielded ops a.tmps) = Region.wanted oi (yielded ops A.tmps) := by
  have key := fun {t} (ht : t ∈ oi.looksAt ops) => slot_agree hT hi ha hA hLi hw hcl ht
  have hsz : a.tmps.size = A.tmps.size := ha.size.trans hA.size.symm
  refine ⟨execOp_congr oi (textOk_at hT hi).2.1 (fun x hx => ?_), ?_⟩
  · cases x with
    | tmp t =>
      refine key ?_
      exact List.mem_append_left _ (List.mem_filterMap.2 ⟨.tmp t, by simpa using hx, rfl⟩)
    | _ => rfl
  · unfold Region.wanted
    cases hg : oi.guard with
    | none => rfl
    | some gw =>
      obtain ⟨g, want⟩ := gw
      have hy : yielded ops a.tmps g = yielded ops A.tmps g := by
        unfold yielded
        cases ht : (ops[g]?).bind (·.dst) with
        | none => rfl
        | some t =>
          have hm : t ∈ oi.looksAt ops := by simp [Oper.looksAt, hg, ht]
          simp only [Option.bind_some, getElem_of_getD hsz (key hm)]
      simp only [hy]
/-- One operation's duty, at the frame that the text's order has there. -/
def Duty (P : Program) (ops : Array Oper) (C : (Nat → Bool) → World → Prop) (i : Nat) (o : Oper) (A : Act) (v : Value) : Prop :=
  if Region.wanted o (yielded ops A.tmps) then valsOp P ops C i o A v else v = undef ∧ ∀ L w, C L w → L i = false → C (addL L i) w
def frameAt (ops : Array Oper) (vals : Nat → Value) (a0 : Act) : Nat → Act
  | 0 => a0
  | n + 1 => match ops[n]? with
    | some o => (frameAt ops vals a0 n).put o.dst (vals n)
    | none => frameAt ops vals a0 n
theorem frameAt_fr {vals : Nat → Value} {a0 : Act} (hT : textOk ops a0.tmps.size = true) : ∀ n, n ≤ ops.size → FrL ops vals a0 (ltL n) (frameAt ops vals a0 n) := by
  intro n
  induction n with
  | zero => exact fun _ => ⟨rfl, rfl, fun t => ⟨fun j oj _ _ h => by simp [ltL] at h, fun _ => rfl⟩⟩
  | succ n ih =>
    intro hn
    have h := ih (by omega)
    have ho : ops[n]? = some ops[n] := Array.getElem?_eq_getElem (by omega)
    simp only [frameAt, ho]
    rw [← addL_lt]
    exact h.put hT ho (by simp [ltL])
def putAll (a : Act) (l : List (Oper × Value)) : Act := l.foldl (fun a x => a.put x.1.dst x.2) a
/-- The walk's values, its duties, its end. -/
def Traced (P : Program) (ops : Array Oper) (C : (Nat → Bool) → World → Prop) (Q : Act → Prop) (i : Nat) (rest : List Oper) (a : Act) : Prop :=
  ∃ vl : List Value, vl.length = rest.length ∧ (∀ k o, rest[k]? = some o → Duty P ops C (i + k) o (putAll a ((rest.take k).zip vl)) (vl.getD k undef)) ∧ Q (putAll a (rest.zip vl))
theorem traced_step {C : (Nat → Bool) → World → Prop} {Q : Act → Prop} {i : Nat} {o : Oper} {rest : List Oper} {a : Act} (v : Value) (hd : Duty P ops C i o a v) (h : Traced P ops C Q (i + 1) rest (a.put o.dst v)) :
    Traced P ops C Q i (o :: rest) a := by
  obtain ⟨vl, hl, hD, hQ⟩ := h
  refine ⟨v :: vl, by simp [hl], fun k o' hk => ?_, by simpa [putAll] using hQ⟩
  cases k with
  | zero =>
    simp only [List.getElem?_cons_zero, Option.some.injEq] at hk
    subst hk
    simpa [putAll] using hd
  | succ k =>
    have := hD k o' (by simpa using hk)
    rw [show i + (k + 1) = i + 1 + k by omega]
    simpa [putAll] using this
theorem of_walk {C : (Nat → Bool) → World → Prop} {Q : Act → Prop} : ∀ (rest : List Oper) (i : Nat) (a : Act), wpVals P ops C Q i rest a → Traced P ops C Q i rest a
  | [], i, a, h => ⟨[], rfl, fun k o hk => by simp at hk, h⟩
  | o :: rest, i, a, h => by
    unfold wpVals at h
    split at h
    · rename_i hw
      obtain ⟨v, hv, hr⟩ := h
      exact traced_step v (by unfold Duty; rw [if_pos hw]; exact hv) (of_walk rest (i + 1) _ hr)
    · rename_i hw
      exact traced_step undef (by unfold Duty; rw [if_neg hw]; exact ⟨rfl, h.1⟩) (of_walk rest (i + 1) _ h.2)
theorem putAll_frameAt (a0 : Act) (vl : List Value) (hl : vl.length = ops.size) : ∀ k, k ≤ ops.size → putAll a0 ((ops.toList.take k).zip vl) = frameAt ops (fun j => vl.getD j undef) a0 k := by
  intro k
  induction k with
  | zero => intro _; simp [putAll, frameAt]
  | succ k ih =>
    intro hk
    have ho : ops[k]? = some ops[k] := Array.getElem?_eq_getElem (by omega)
    have hol : k < ops.toList.length := by simpa using (show k < ops.size by omega)
    have hvl : k < vl.length := by omega
    have h1 : ops.toList.take (k + 1) = ops.toList.take k ++ [ops[k]] := by
      rw [List.take_succ_eq_append_getElem hol]; simp
    have h2 : (ops.toList.take (k + 1)).zip vl = (ops.toList.take k).zip vl ++ [(ops[k], vl[k])] := by
      have hv : vl = vl.take k ++ vl[k] :: vl.drop (k + 1) := by
        rw [← List.drop_eq_getElem_cons hvl, List.take_append_drop]
      have hlen : (ops.toList.take k).length = (vl.take k).length := by simp; omega
      have e1 : (ops.toList.take k).zip vl = (ops.toList.take k).zip (vl.take k) := by
        conv => lhs; rw [hv]
        rw [← List.append_nil (ops.toList.take k), List.zip_append hlen]
        simp
      rw [e1, h1]
      conv => lhs; rw [hv]
      rw [List.zip_append hlen]
      rfl
    rw [h2]
    have hD : (frameAt ops (fun j => vl.getD j undef) a0 (k + 1)) = (frameAt ops (fun j => vl.getD j undef) a0 k).put ops[k].dst (vl.getD k undef) := by
      simp only [frameAt, ho]
    rw [hD, ← ih (by omega)]
    unfold putAll
    rw [List.foldl_append]
    simp [List.getD, List.getElem?_eq_getElem hvl]
/-- The duties of all operations, at the frames of the text's order. -/
theorem duties {C : (Nat → Bool) → World → Prop} {Q : Act → Prop} {a0 : Act} (h : wpVals P ops C Q 0 ops.toList a0) :
    ∃ vals : Nat → Value, (∀ i o, ops[i]? = some o → Duty P ops C i o (frameAt ops vals a0 i) (vals i)) ∧ Q (frameAt ops vals a0 ops.size) := by
  obtain ⟨vl, hl, hD, hQ⟩ := of_walk _ _ _ h
  have hl' : vl.length = ops.size := by simpa using hl
  refine ⟨fun j => vl.getD j undef, fun i o hi => ?_, ?_⟩
  · have hlt : i < ops.size := (Array.getElem?_eq_some_iff.1 hi).1
    have := hD i o (by simpa using hi)
    rw [Nat.zero_add, putAll_frameAt a0 vl hl' i (by omega)] at this
    exact this
  · rw [← putAll_frameAt a0 vl hl' ops.size (Nat.le_refl _), List.take_of_length_le (by simp)]
    exact hQ
def listL (listed : Array Bool) : Nat → Bool := fun j => listed.getD j false
theorem listL_set {listed : Array Bool} {i : Nat} (hi : i < listed.size) : listL (listed.setIfInBounds i true) = addL (listL listed) i := by
  funext j
  unfold listL addL
  simp only [Array.getD_eq_getD_getElem?]
  by_cases h : j = i
  · subst h
    rw [if_pos rfl, Array.getElem?_setIfInBounds_self_of_lt hi]; rfl
  · rw [if_neg h, Array.getElem?_setIfInBounds_ne (Ne.symm h)]
theorem ready_of {listed : Array Bool} (hs : listed.size = ops.size) {i : Nat} (hi : i ∈ Region.ready .any ops listed) :
    ∃ o, ops[i]? = some o ∧ i < ops.size ∧ listL listed i = false ∧ ∀ j, waits ops i j = true → listL listed j = true := by
  obtain ⟨h1, o, ho, h2⟩ := mem_ready.1 hi
  have hlt : i < ops.size := (Array.getElem?_eq_some_iff.1 ho).1
  refine ⟨o, ho, hlt, ?_, fun j hj => ?_⟩
  · unfold listL
    have hl : i < listed.size := by omega
    simp only [Array.getD_eq_getD_getElem?, Array.getElem?_eq_getElem hl, Option.getD_some] at h1 ⊢
    exact h1
  · unfold waits at hj
    rw [ho] at hj
    obtain ⟨e, he, hb⟩ := Array.any_eq_true'.1 hj
    simp only [Bool.and_eq_true, beq_iff_eq] at hb
    have := h2 e he hb.1
    rw [hb.2] at this
    exact this
theorem all_done {n : Nat} (hT : textOk ops n = true) {listed : Array Bool} (hs : listed.size = ops.size) (hr : Region.ready .any ops listed = []) : ∀ i, i < ops.size → listL listed i = true := by
  intro i
  induction i using Nat.strongRecOn with
  | _ i ih =>
    intro hi
    cases hl : listL listed i
    · exfalso
      have ho : ops[i]? = some ops[i] := Array.getElem?_eq_getElem hi
      have hm : i ∈ Region.ready .any ops listed := by
        refine mem_ready.2 ⟨?_, ops[i], ho, fun e he hb => ?_⟩
        · unfold listL at hl
          have hl2 : i < listed.size := by omega
          simp only [Array.getD_eq_getD_getElem?, Array.getElem?_eq_getElem hl2, Option.getD_some] at hl ⊢
          exact hl
        · have hlt := (textOk_at hT ho).1 e he hb
          exact ih e.on hlt (by omega)
      rw [hr] at hm
      cases hm
    · rfl
theorem all_eq {listed : Array Bool} (hs : listed.size = ops.size) (h : ∀ i, i < ops.size → listL listed i = true) : listL listed = ltL ops.size := by
  funext j
  by_cases hj : j < ops.size
  · rw [h j hj]; simp [ltL, hj]
  · unfold listL ltL
    rw [Array.getD_eq_getD_getElem?, Array.getElem?_eq_none (by omega)]
    simp [hj]
theorem fr_eq {vals : Nat → Value} {a0 a A : Act} {L : Nat → Bool} (ha : FrL ops vals a0 L a) (hA : FrL ops vals a0 L A) : a = A := by
  have hs : a.tmps.size = A.tmps.size := ha.size.trans hA.size.symm
  have ht : a.tmps = A.tmps := by
    apply Array.ext_getElem?
    intro t
    refine getElem_of_getD hs ?_
    by_cases hex : ∃ (j : Nat) (oj : Oper), ops[j]? = some oj ∧ oj.dst = some t ∧ L j = true
    · obtain ⟨j, oj, hj, hjt, hl⟩ := hex
      rw [(ha.slot t).1 j oj hj hjt hl, (hA.slot t).1 j oj hj hjt hl]
    · have none : ∀ (j : Nat) (oj : Oper), ops[j]? = some oj → oj.dst = some t → L j = false := fun j oj hj hjt => by
        cases hl : L j
        · rfl
        · exact absurd ⟨j, oj, hj, hjt, hl⟩ hex
      rw [(ha.slot t).2 none, (hA.slot t).2 none]
  cases a; cases A
  simp only at ht
  have hd := ha.defers.trans hA.defers.symm
  simp only at hd
  rw [ht, hd]
theorem wp_of_upon {C' : World → Prop} {o : Oper} {a : Act} {v : Value} {K : Act → World → Prop} {Q : Exit → Act → World → Prop} {w : World} (h : valsUpon P C' v ((execOp a.eval o).run P w)) (hK : ∀ w', C' w' → K (a.put o.dst v) w') :
    o.wp P a w K Q := by
  unfold Oper.wp
  generalize (execOp a.eval o).run P w = r at *
  cases r with
  | ok n w' =>
    cases n <;> simp only [valsUpon] at h <;> simp only [Oper.upon]
    case value u =>
      obtain ⟨e1, e2⟩ := h
      rw [e1]
      exact hK _ e2
    case skip =>
      obtain ⟨e1, e2⟩ := h
      rw [← e1]
      exact hK _ e2
    case enter f args =>
      exact h.mono fun e w'' ⟨he, hw''⟩ => by subst he; exact hK _ hw''
  | halt x w' => simp only [valsUpon] at h
theorem any_of_duties {C : (Nat → Bool) → World → Prop} {vals : Nat → Value} {a0 : Act} {Q : Exit → Act → World → Prop} (hT : textOk ops a0.tmps.size = true)
    (hD : ∀ i o, ops[i]? = some o → Duty P ops C i o (frameAt ops vals a0 i) (vals i)) (hQ : ∀ w', C (ltL ops.size) w' → Q .normal (frameAt ops vals a0 ops.size) w') :
    ∀ (fuel : Nat) (listed : Array Bool) (a : Act) (w : World), listed.size = ops.size → (∀ i, ops.size ≤ i + fuel → i < ops.size → listL listed i = true ∨ True) →
      (List.range ops.size).countP (fun i => !listL listed i) ≤ fuel → Closed ops (listL listed) → FrL ops vals a0 (listL listed) a → C (listL listed) w → wpAny P .any ops Q fuel listed a w := by
  have last : ∀ (listed : Array Bool) (a : Act) (w : World), listed.size = ops.size → FrL ops vals a0 (listL listed) a → C (listL listed) w → (∀ i, i < ops.size → listL listed i = true) → Q .normal a w := by
    intro listed a w hs ha hw hall
    have e := all_eq hs hall
    rw [e] at ha hw
    rw [fr_eq ha (frameAt_fr hT ops.size (Nat.le_refl _))]
    exact hQ w hw
  intro fuel
  induction fuel with
  | zero =>
    intro listed a w hs _ hc hcl ha hw
    have hall : ∀ i, i < ops.size → listL listed i = true := by
      intro i hi
      have h0 : (List.range ops.size).countP (fun i => !listL listed i) = 0 := by omega
      rw [List.countP_eq_zero] at h0
      have := h0 i (List.mem_range.2 hi)
      simpa using this
    refine ⟨?_, last listed a w hs ha hw hall⟩
    rw [List.eq_nil_iff_forall_not_mem]
    intro i hi
    obtain ⟨o, ho, hlt, hl, _⟩ := ready_of hs hi
    rw [hall i hlt] at hl
    cases hl
  | succ fuel ih =>
    intro listed a w hs _ hc hcl ha hw
    refine ⟨fun hr => last listed a w hs ha hw (all_done hT hs hr), fun i hi => ?_⟩
    obtain ⟨o, ho, hlt, hl, hwt⟩ := ready_of hs hi
    obtain ⟨he1, he2⟩ := exec_agree hT ho ha (frameAt_fr hT i (by omega)) hl hwt hcl
    have hset : listL (listed.setIfInBounds i true) = addL (listL listed) i := listL_set (by omega)
    have hnext : ∀ w', C (addL (listL listed) i) w' → wpAny P .any ops Q fuel (listed.setIfInBounds i true) (a.put o.dst (vals i)) w' := by
      intro w' hw'
      refine ih _ _ _ (by simpa using hs) (fun _ _ _ => .inr trivial) ?_ ?_ ?_ ?_
      · rw [hset]
        have hm : i ∈ List.range ops.size := List.mem_range.2 hlt
        have hlt2 : (List.range ops.size).countP (fun j => !addL (listL listed) i j) < (List.range ops.size).countP (fun j => !listL listed j) := by
          obtain ⟨l1, l2, e⟩ := List.append_of_mem hm
          rw [e]
          simp only [List.countP_append, List.countP_cons]
          have hle : ∀ l : List Nat, l.countP (fun j => !addL (listL listed) i j) ≤ l.countP (fun j => !listL listed j) := fun l => by
            refine List.countP_mono_left fun j _ hj => ?_
            unfold addL at hj
            split at hj
            · simp at hj
            · exact hj
          have h1 := hle l1
          have h2 := hle l2
          have h3 : addL (listL listed) i i = true := by simp [addL]
          simp only [h3, hl, Bool.not_true, Bool.not_false, Bool.false_eq_true, if_false, if_true]
          omega
        omega
      · rw [hset]
        intro x y hxy hx
        unfold addL at hx ⊢
        by_cases hyi : y = i
        · rw [if_pos hyi]
        · rw [if_neg hyi]
          by_cases hxi : x = i
          · subst hxi; exact hwt y hxy
          · rw [if_neg hxi] at hx
            exact hcl x y hxy hx
      · rw [hset]
        exact ha.put hT ho hl
      · rw [hset]; exact hw'
    unfold wpOp
    rw [ho]
    simp only
    have hd := hD i o ho
    unfold Duty at hd
    rw [he2]
    split
    · rename_i hwn
      rw [if_pos hwn] at hd
      have h1 := hd (listL listed) w hw hl hwt
      rw [← he1] at h1
      exact .inl (wp_of_upon h1 hnext)
    · rename_i hwn
      rw [if_neg hwn] at hd
      rw [← hd.1]
      exact hnext w (hd.2 _ w hw hl)
/-- A REGION THAT DRAWS ITS ORDER, walked once in the order of its text, effects and all. -/
theorem wp_region_vals {id : Nat} {C : (Nat → Bool) → World → Prop} {Q : Exit → Act → World → Prop} {a : Act} {w : World} (hm : P.follows .mixedOrders = true) (hT : textOk ops a.tmps.size = true)
    (hC : C (fun _ => false) { w with drawn := w.drawn + 1 }) (h : wpVals P ops C (fun a' => ∀ w', C (ltL ops.size) w' → Q .normal a' w') 0 ops.toList a) : (Code.region id ops true).wp P Q a w := by
  obtain ⟨vals, hD, hQ⟩ := duties h
  have e0 : listL (Array.replicate ops.size false) = fun _ => false := by
    funext j
    unfold listL
    rw [Array.getD_eq_getD_getElem?]
    by_cases hj : j < ops.size
    · rw [Array.getElem?_replicate, if_pos hj]; rfl
    · rw [Array.getElem?_replicate, if_neg hj]; rfl
  refine wp_region_any hm (any_of_duties hT hD hQ _ _ _ _ (by simp) (fun _ _ _ => .inr trivial) ?_ ?_ ?_ ?_)
  · exact Nat.le_trans List.countP_le_length (by simp)
  · rw [e0]; intro x y _ hx; cases hx
  · rw [e0]; exact ⟨rfl, rfl, fun t => ⟨fun j oj _ _ h => (by cases h), fun _ => rfl⟩⟩
  · rw [e0]; exact hC
end
end Go.Proofs.YtagelhbknbpfhaaDoor

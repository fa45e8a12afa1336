/-
  Package plan, plainly: exchanges, messages; whole counts, holders, the boundary, what is kept. No program in sight.
-/
import Derived.Test.YtagelhbknbpfhaaDoorBits
namespace Go.Proofs.YtagelhbknbpfhaaDoor
/-- An exchange. -/
structure Ex where
  who : Int
  oe : Nat
  orp : Int
  cnt : List Nat
  ls : Nat
  lf : Int
/-- A message. -/
structure Ms where
  frm : Int
  seq : Nat
  stamp : Nat
  service : Int
  deps : List Nat
  payload : List UInt8
/-- A vector's number at a place; 0 outside of it. -/
def atL (l : List Nat) (p : Int) : Nat := if 0 ≤ p then l.getD p.toNat 0 else 0
theorem atL_nat (l : List Nat) (k : Nat) : atL l k = l.getD k 0 := by unfold atL; rw [if_pos (by omega), Int.toNat_natCast]
theorem atL_out {l : List Nat} {p : Int} (h : p < 0 ∨ (l.length : Int) ≤ p) : atL l p = 0 := by
  unfold atL
  split
  · rw [List.getD_eq_getElem?_getD, List.getElem?_eq_none (by omega)]; rfl
  · rfl
theorem atL_in {l : List Nat} {k : Nat} (h : k < l.length) : atL l k = l[k] := by rw [atL_nat]; simp [h]
theorem atL_le {l : List Nat} {m : Nat} (h : ∀ n ∈ l, n ≤ m) (p : Int) : atL l p ≤ m := by
  unfold atL
  split
  · rw [List.getD_eq_getElem?_getD]
    cases e : l[p.toNat]? with
    | none => simp
    | some v => simpa using h v (List.mem_of_getElem? e)
  · omega
/-- The greatest at a place. -/
def wholeF (l : List Ex) (q : Int) : Nat := l.foldl (fun n x => max n (atL x.cnt q)) 0
def wholeL (l : List Ex) (q : Int) : Nat := if 0 ≤ q ∧ q < 64 then wholeF l q else 0
theorem wholeF_snoc (l : List Ex) (x : Ex) (q : Int) : wholeF (l ++ [x]) q = max (wholeF l q) (atL x.cnt q) := by simp [wholeF]
theorem foldl_max_le {α : Type} (f : α → Nat) (l : List α) (n m : Nat) : l.foldl (fun n x => max n (f x)) n ≤ m ↔ n ≤ m ∧ ∀ x ∈ l, f x ≤ m := by
  induction l generalizing n with
  | nil => simp
  | cons x l ih =>
    simp only [List.foldl_cons, ih, List.mem_cons, forall_eq_or_imp, Nat.max_le, and_assoc]
theorem wholeF_le (l : List Ex) (q : Int) (m : Nat) : wholeF l q ≤ m ↔ ∀ x ∈ l, atL x.cnt q ≤ m := by
  unfold wholeF; rw [foldl_max_le (fun x : Ex => atL x.cnt q)]; simp
theorem wholeF_lt {l : List Ex} (h : ∀ x ∈ l, ∀ n ∈ x.cnt, n < 4294967296) (q : Int) : wholeF l q < 4294967296 := by
  have := (wholeF_le l q 4294967295).2 fun x hx => atL_le (fun n hn => by have := h x hx n hn; omega) q
  omega
theorem wholeL_lt {l : List Ex} (h : ∀ x ∈ l, ∀ n ∈ x.cnt, n < 4294967296) (q : Int) : wholeL l q < 4294967296 := by
  unfold wholeL
  split
  · exact wholeF_lt h q
  · omega
/-- Who has all of a process, as a set. -/
def holdS (l : List Ex) (q : Int) (n : Nat) : Nat := l.foldl (fun s x => if decide (0 < n) && atL x.cnt q == n then s ||| bitN x.who else s) 0
theorem holdS_snoc (l : List Ex) (x : Ex) (q : Int) (n : Nat) : holdS (l ++ [x]) q n = if decide (0 < n) && atL x.cnt q == n then holdS l q n ||| bitN x.who else holdS l q n := by simp [holdS]
theorem foldl_or_lt {α : Type} (f : Nat → α → Nat) (hf : ∀ s x, s < 18446744073709551616 → f s x < 18446744073709551616) (l : List α) {s : Nat} (hs : s < 18446744073709551616) : l.foldl f s < 18446744073709551616 := by
  induction l generalizing s with
  | nil => exact hs
  | cons x l ih => exact ih (hf s x hs)
theorem holdS_lt (l : List Ex) (q : Int) (n : Nat) : holdS l q n < 18446744073709551616 := by
  refine foldl_or_lt _ (fun s x hs => ?_) l (by decide)
  split
  · exact or_lt64 hs (bitN_lt _)
  · exact hs
/-- The companions, as a set. -/
def compS (l : List Ex) : Nat := l.foldl (fun s x => s ||| bitN x.who) 0
theorem compS_snoc (l : List Ex) (x : Ex) : compS (l ++ [x]) = compS l ||| bitN x.who := by simp [compS]
theorem compS_lt (l : List Ex) : compS l < 18446744073709551616 := foldl_or_lt _ (fun _ _ hs => or_lt64 hs (bitN_lt _)) l (by decide)
/-- Keys: their order. -/
structure Ky where
  st : Nat
  fr : Int
deriving DecidableEq
def Ky.lt (a b : Ky) : Bool := decide (a.st < b.st) || (decide (a.st = b.st) && decide (a.fr < b.fr))
def cmpI (a b : Int) : Int := if a < b then -1 else if b < a then 1 else 0
def or2 (a b : Int) : Int := if a = 0 then b else a
def Ky.cmp (a b : Ky) : Int := or2 (cmpI a.st b.st) (cmpI a.fr b.fr)
def Ky.zero : Ky := ⟨0, 0⟩
/-- The greatest so far: the first, or whoever is above it. -/
def upK (b y : Ky) : Ky := if 0 < y.cmp b then y else b
def bestK : List Ky → Ky
  | [] => Ky.zero
  | x :: l => l.foldl upK x
theorem bestK_snoc (l : List Ky) (x : Ky) (h : l ≠ []) : bestK (l ++ [x]) = upK (bestK l) x := by
  cases l with
  | nil => exact absurd rfl h
  | cons y l =>
    show (l ++ [x]).foldl upK y = upK (l.foldl upK y) x
    rw [List.foldl_append]; rfl
def Ex.last (x : Ex) : Ky := ⟨x.ls, x.lf⟩
def bndL (l : List Ex) : Ky := bestK (l.map Ex.last)
/-- What lacks. -/
structure Gp where
  whom : Int
  holder : Int
  from_ : Nat
  to_ : Nat
/-- The messages that may be kept at all. -/
def cntM (l : List Ex) (m : Ms) : Bool := decide (0 < m.seq) && decide (m.seq ≤ wholeL l m.frm)
/-- Does a message lean on nothing that isn't kept? -/
def fitK (kept : Nat → Nat) (deps : List Nat) : Bool := (List.range deps.length).all fun q => !((decide (64 ≤ q) && decide (0 < deps.getD q 0)) || (decide (q < 64) && decide (kept q < deps.getD q 0)))
def fitJ (kept : Nat → Nat) (deps : List Nat) (k : Nat) : Bool := (List.range k).all fun q => !((decide (64 ≤ q) && decide (0 < deps.getD q 0)) || (decide (q < 64) && decide (kept q < deps.getD q 0)))
/-- A message that must be given up now. -/
def badM (l : List Ex) (kept : Nat → Nat) (m : Ms) : Bool := cntM l m && decide (m.seq ≤ kept m.frm.toNat) && !fitK kept m.deps
def lowerK (kept : Nat → Nat) (m : Ms) : Nat → Nat := fun q => if q = m.frm.toNat then m.seq - 1 else kept q
/-- Giving up, one after the other, the first each time. -/
inductive Fin (l : List Ex) (rest : List Ms) : (Nat → Nat) → (Nat → Nat) → Prop
  | done (kept) : rest.find? (badM l kept) = none → Fin l rest kept kept
  | step (kept kf) (m) : rest.find? (badM l kept) = some m → Fin l rest (lowerK kept m) kf → Fin l rest kept kf
theorem Fin.det {l : List Ex} {rest : List Ms} {k a b : Nat → Nat} (h : Fin l rest k a) (h' : Fin l rest k b) : a = b := by
  induction h with
  | done kept h => cases h' with
    | done => rfl
    | step _ _ m h2 _ => rw [h] at h2; cases h2
  | step kept kf m h _ ih => cases h' with
    | done _ h2 => rw [h] at h2; cases h2
    | step _ _ m2 h2 h3 =>
      rw [h] at h2
      obtain rfl := Option.some.inj h2
      exact ih h3
def keepM (l : List Ex) (kf : Nat → Nat) (m : Ms) : Bool := cntM l m && decide (m.seq ≤ kf m.frm.toNat)
/-- Choosing the exchanges: what has been seen, where mine stands. -/
def scanN (me : Int) : List Ex → Nat → Nat → Int → Option Int
  | [], _, _, mine => some mine
  | x :: l, i, seen, mine => if x.who < 0 ∨ 64 ≤ x.who ∨ hasN seen x.who = true then none else scanN me l (i + 1) (seen ||| bitN x.who) (if x.who = me then i else mine)
def sameOld (x y : Ex) : Bool := x.oe == y.oe && x.orp == y.orp
/-- The companions; none: no plan. -/
def newL (me : Int) (l : List Ex) : Option (List Ex) := match scanN me l 0 0 (-1) with
  | some (Int.ofNat i) => match l[i]? with
    | some m => some (l.filter fun x => sameOld x m)
    | none => none
  | _ => none
end Go.Proofs.YtagelhbknbpfhaaDoor

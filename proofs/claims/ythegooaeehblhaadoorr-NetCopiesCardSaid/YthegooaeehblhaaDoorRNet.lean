/-
  Package net: a net in memory, plainly; and its cells; process, Linked, Len, there, At.
-/
import Derived.Test.YthegooaeehblhaaDoorRGen
import Derived.Test.YthegooaeehblhaaDoorRPlain
import Derived.BigGuard
namespace Go.Proofs.YthegooaeehblhaaDoorR
open Go.RowKit Go.BigFrame
set_option maxHeartbeats 1000000
set_option maxRecDepth 100000
/-- A datagram. -/
structure Dg where
  frm : Int
  to_ : Int
  data : List UInt8
  torn : Bool
def str (l : List UInt8) : Value := .string ⟨l.toArray⟩
def Dg.vals (x : Dg) : List Value := [.int .i64 x.frm, .int .i64 x.to_, str x.data, .bool x.torn]
def Dg.zero : Dg := ⟨0, 0, [], false⟩
theorem Dg.len (x : Dg) : x.vals.length = 4 := rfl
theorem Dg.oneL (x : Dg) : ∀ v ∈ x.vals, v.oneCell' = true := by simp [Dg.vals, str, Value.oneCell']
theorem Dg.oneA (x : Dg) : ∀ v ∈ x.vals.toArray.toList, v.oneCell' = true := by simpa using x.oneL
theorem size_dg : (Tryd.prog.info? 35).map (·.size) = some 4 := by kernel_rfl
theorem info_dg : (Tryd.prog.info? 35).map (fun i => (i.zero, i.size, i.bytes)) = some (some (.agg Dg.zero.vals.toArray), 4, 40) := by kernel_rfl
theorem zero_dg (w : World) : (zeroValue 35).run Tryd.prog w = .ok (.agg Dg.zero.vals.toArray) w := by kernel_rfl
/-- A net. -/
structure Nt where
  n : Nat
  links : Nat → Nat
  l : List Dg
structure Nt.Wf (t : Nt) : Prop where
  n : t.n ≤ 64
  links : ∀ i, t.links i < 18446744073709551616
  l : t.l.length ≤ 4096
  d : ∀ x ∈ t.l, x.data.length ≤ 9223372036854775807
/-- In memory: its block g, its row's block rb, both from base B on. -/
structure NetAt (w : World) (B g : Nat) (t : Nt) (rb : Option Nat) : Prop where
  blk : ∃ cs : Array Value, w.heap[g]? = some (.cells cs 55 (0, 0)) ∧ cs.size = 66
  c0 : w.cell? ⟨g, 0, none⟩ = some (.int .i64 t.n)
  k : ∀ i, i < 64 → w.cell? ⟨g, 1 + i, none⟩ = some (.int .u64 (t.links i))
  row : ∃ v : Value, w.cell? ⟨g, 65, none⟩ = some v ∧ w.ownsRow B 35 4 v t.l.length (rowOf Dg.vals t.l) ∧ v.ownBlock = rb
/-- What an act may change: the net's own block, its row's. -/
structure Chg (w w' : World) (g : Nat) (rb : Option Nat) : Prop where
  os : w'.os = w.os
  tape : w'.tape = w.tape
  output : w'.output = w.output
  size : w.heap.size ≤ w'.heap.size
  block : ∀ k, k < w.heap.size → k ≠ g → some k ≠ rb → w'.heap[k]? = w.heap[k]?
/-- The row's new block is the old one or a new one. -/
def Moves (w : World) (rb rb' : Option Nat) : Prop := rb' = rb ∨ ∃ k, rb' = some k ∧ w.heap.size ≤ k
section
variable {w w' w'' : World} {B g : Nat} {t t' : Nt} {rb rb' : Option Nat}
theorem NetAt.lt (h : NetAt w B g t rb) : g < w.heap.size := by
  obtain ⟨cs, h1, _⟩ := h.blk
  exact (Array.getElem?_eq_some_iff.1 h1).1
theorem NetAt.nf (h : NetAt w B g t rb) (k : Nat) : w.frozen? ⟨g, k, none⟩ = false := by
  obtain ⟨cs, h1, _⟩ := h.blk
  simp [World.frozen?, h1]
theorem NetAt.rlt (h : NetAt w B g t rb) {k : Nat} (hk : rb = some k) : B ≤ k ∧ k < w.heap.size := by
  obtain ⟨v, _, h2, h3⟩ := h.row
  exact h2.lt k (h3.trans hk)
theorem NetAt.rty (h : NetAt w B g t rb) {k : Nat} (hk : rb = some k) : ∃ c fz, w.heap[k]? = some (.cells c 35 fz) := by
  obtain ⟨v, _, h2, h3⟩ := h.row
  exact Lib.ownsRow_kind h2 k (h3.trans hk)
/-- A block of another type is not the row's. -/
theorem NetAt.far (h : NetAt w B g t rb) {k : Nat} {cs : Array Value} {ty : TypeId} {fr : Nat × Nat} (hk : w.heap[k]? = some (.cells cs ty fr)) (hne : ty ≠ 35) : some k ≠ rb := by
  intro e
  obtain ⟨c, fz, h1⟩ := h.rty e.symm
  rw [hk] at h1
  simp only [Option.some.injEq, Obj.cells.injEq] at h1
  exact hne h1.2.1
theorem NetAt.gne (h : NetAt w B g t rb) : some g ≠ rb := by
  obtain ⟨cs, h1, _⟩ := h.blk
  exact h.far h1 (by decide)
/-- It reads the same where neither block has changed. -/
theorem NetAt.same (h : NetAt w B g t rb) (hs : w.heap.size ≤ w'.heap.size) (hg : w'.heap[g]? = w.heap[g]?) (hr : ∀ k, rb = some k → w'.heap[k]? = w.heap[k]?) : NetAt w' B g t rb := by
  have hc : ∀ k, w'.cell? ⟨g, k, none⟩ = w.cell? ⟨g, k, none⟩ := fun k => World.cell?_of_block (w := w) (a := ⟨g, k, none⟩) hg
  obtain ⟨v, h1, h2, h3⟩ := h.row
  refine ⟨by rw [hg]; exact h.blk, (hc 0).trans h.c0, fun i hi => (hc _).trans (h.k i hi), v, (hc _).trans h1, ⟨h2.1, ?_⟩, h3⟩
  rcases h2.2 with h4 | ⟨b, cap, cur, hv, hb, hh, h5⟩
  · exact .inl h4
  · exact .inr ⟨b, cap, cur, hv, hb, by rw [hr b (by rw [← h3, hv]; rfl)]; exact hh, h5⟩
theorem NetAt.below (h : NetAt w B g t rb) (hb : Below w.heap.size w w') : NetAt w' B g t rb :=
  h.same hb.size (hb.block g h.lt) (fun k hk => hb.block k (h.rlt hk).2)
theorem NetAt.mono {B' : Nat} (h : NetAt w B g t rb) (hB : B' ≤ B) : NetAt w B' g t rb := by
  obtain ⟨v, h1, h2, h3⟩ := h.row
  exact ⟨h.blk, h.c0, h.k, v, h1, ⟨h2.1, h2.2.imp id fun ⟨b, cap, cur, hv, hb, r⟩ => ⟨b, cap, cur, hv, Nat.le_trans hB hb, r⟩⟩, h3⟩
theorem Chg.of_below (hb : Below w.heap.size w w') (g : Nat) (rb : Option Nat) : Chg w w' g rb := ⟨hb.os, hb.tape, hb.output, hb.size, fun k hk _ _ => hb.block k hk⟩
theorem Chg.of_grown (hg : w.grownBy w' (some g)) (rb : Option Nat) : Chg w w' g rb := ⟨hg.os, hg.tape, hg.output, hg.size, fun k hk h1 _ => hg.block k hk (by intro e; exact h1 (Option.some.inj e))⟩
theorem Chg.trans (h : Chg w w' g rb) (k : Chg w' w'' g rb') (hm : Moves w rb rb') : Chg w w'' g rb :=
  ⟨k.os.trans h.os, k.tape.trans h.tape, k.output.trans h.output, Nat.le_trans h.size k.size, fun i hi h1 h2 => by
    rw [k.block i (Nat.lt_of_lt_of_le hi h.size) h1 ?_, h.block i hi h1 h2]
    rcases hm with e | ⟨j, e, hj⟩
    · rw [e]; exact h2
    · rw [e]
      intro e2
      have := Option.some.inj e2
      omega⟩
theorem Chg.below (h : Chg w w' g rb) {w0 : World} (hb : Below w0.heap.size w0 w) (hg : w0.heap.size ≤ g) (hr : ∀ k, rb = some k → w0.heap.size ≤ k) : Below w0.heap.size w0 w' :=
  ⟨h.os.trans hb.os, h.tape.trans hb.tape, h.output.trans hb.output, Nat.le_trans hb.size h.size, fun k hk => by
    rw [h.block k (Nat.lt_of_lt_of_le hk hb.size) (by omega) (by intro e; have := hr k e.symm; omega)]; exact hb.block k hk⟩
theorem Chg.blk (h : Chg w w' g rb) {k : Nat} {o : Obj} (hk : w.heap[k]? = some o) (h1 : k ≠ g) (h2 : some k ≠ rb) : w'.heap[k]? = some o := by
  rw [h.block k (Array.getElem?_eq_some_iff.1 hk).1 h1 h2]; exact hk
end
/-! ### what it tells -/
def procN (t : Nt) (p : Int) : Bool := decide (0 ≤ p) && decide (p < t.n)
def linkN (t : Nt) (p q : Int) : Bool := procN t p && hasN (t.links p.toNat) q
def thereN (t : Nt) (i : Int) : Bool := decide (0 ≤ i) && decide (i < t.l.length)
def atN (t : Nt) (i : Int) : Dg × Bool := if thereN t i then (t.l.getD i.toNat Dg.zero, true) else (Dg.zero, false)
def atV (t : Nt) (i : Int) : Value := .tuple #[.agg (atN t i).1.vals.toArray, .bool (atN t i).2]
section
variable {w : World} {B g : Nat} {t : Nt} {rb : Option Nat}
theorem process_any (h : NetAt w B g t rb) (p : Int) :
    Calls Tryd.prog 29 #[.pointer (some ⟨g, 0, none⟩), .int .i64 p] w fun e w' => e = .returned (.bool (procN t p)) ∧ w = w' := by
  have c0 := h.c0
  unfold procN
  clear h
  by_cases h0 : 0 ≤ p
  · rw [decide_eq_true h0]
    go_enter Tryd.func29, Tryd.ntmps29
    go_wp2
    go_ret
    exact ⟨rfl, rfl⟩
  · have h0' : decide (0 ≤ p) = false := decide_eq_false h0
    rw [h0']
    go_enter Tryd.func29, Tryd.ntmps29
    go_wp2
    go_ret
    exact ⟨rfl, rfl⟩
theorem linked_any (h : NetAt w B g t rb) (wf : t.Wf) (p q : Int) :
    Calls Tryd.prog 12 #[.pointer (some ⟨g, 0, none⟩), .int .i64 p, .int .i64 q] w fun e w' => e = .returned (.bool (linkN t p q)) ∧ w = w' := by
  have HP := Lib.hid (process_any h p)
  have HK := Lib.hid h.k
  have HL := Lib.hid wf.links
  have HN := Lib.hid wf.n
  clear h wf
  cases hp : procN t p
  · rw [hp] at HP
    have E := Lib.hid (show linkN t p q = false by unfold linkN; rw [hp]; rfl)
    clear hp
    go_enter Tryd.func12, Tryd.ntmps12
    go_wp2_with fail
    refine HP.out.mono ?_
    rintro e w' ⟨rfl, rfl⟩
    go_wp2_with fail
    go_ret
    exact ⟨by rw [E.out]; rfl, rfl⟩
  · rw [hp] at HP
    have hp2 := hp
    unfold procN at hp2
    simp only [Bool.and_eq_true, decide_eq_true_eq] at hp2
    obtain ⟨i, rfl⟩ := Int.eq_ofNat_of_zero_le hp2.1
    have hi : i < 64 := by have := HN.out; have := hp2.2; omega
    have E := Lib.hid (show linkN t i q = hasN (t.links i) q by unfold linkN; rw [hp, Int.toNat_natCast]; rfl)
    have c1 := HK.out i hi
    have b1 : (i : Int) < 64 := by omega
    have HL1 := Lib.hid (HL.out i)
    generalize t.links i = x at E c1 HL1
    clear hp hp2
    go_enter Tryd.func12, Tryd.ntmps12
    go_wp2_with fail
    refine HP.out.mono ?_
    rintro e w' ⟨rfl, rfl⟩
    go_wp2_with fail
    refine (has_any x q HL1.out _).mono ?_
    rintro e w' ⟨rfl, rfl⟩
    go_wp2_with fail
    go_ret
    exact ⟨by rw [E.out]; rfl, rfl⟩
theorem NetAt.slice (h : NetAt w B g t rb) : ∃ a c, w.cell? ⟨g, 65, none⟩ = some (.slice a t.l.length c) ∧ t.l.length ≤ c ∧ w.ownsRow B 35 4 (.slice a t.l.length c) t.l.length (rowOf Dg.vals t.l) ∧ (Value.slice a t.l.length c).ownBlock = rb := by
  obtain ⟨v, h1, h2, h3⟩ := h.row
  rcases h2.2 with ⟨rfl, h0⟩ | ⟨b, cap, cur, rfl, _, _, hc, _⟩
  · rw [h0] at h2 ⊢
    exact ⟨none, 0, h1, Nat.le_refl _, h2, h3⟩
  · exact ⟨_, cap, h1, hc, h2, h3⟩
theorem len_any (h : NetAt w B g t rb) (wf : t.Wf) :
    Calls Tryd.prog 19 #[.pointer (some ⟨g, 0, none⟩)] w fun e w' => e = .returned (.int .i64 t.l.length) ∧ w = w' := by
  obtain ⟨a, c, c65, _⟩ := h.slice
  have hl : (t.l.length : Int) ≤ 4096 := by have := wf.l; omega
  clear h wf
  go_enter Tryd.func19, Tryd.ntmps19
  go_wp2
  go_ret
  exact ⟨rfl, rfl⟩
theorem there_any (h : NetAt w B g t rb) (wf : t.Wf) (i : Int) :
    Calls Tryd.prog 33 #[.pointer (some ⟨g, 0, none⟩), .int .i64 i] w fun e w' => e = .returned (.bool (thereN t i)) ∧ w = w' := by
  obtain ⟨a, c, c65, _⟩ := h.slice
  have hl : (t.l.length : Int) ≤ 4096 := by have := wf.l; omega
  unfold thereN
  clear h wf
  by_cases h0 : 0 ≤ i
  · rw [decide_eq_true h0]
    go_enter Tryd.func33, Tryd.ntmps33
    go_wp2
    go_ret
    exact ⟨rfl, rfl⟩
  · have h0' : decide (0 ≤ i) = false := decide_eq_false h0
    rw [h0']
    go_enter Tryd.func33, Tryd.ntmps33
    go_wp2
    go_ret
    exact ⟨rfl, rfl⟩
/-- The row, read. -/
theorem NetAt.read (h : NetAt w B g t rb) : ∃ a c b, RowAt Dg.vals w (.slice a t.l.length c) t.l a c b 0 ∧ w.cell? ⟨g, 65, none⟩ = some (.slice a t.l.length c) ∧ t.l.length ≤ c ∧ (0 < t.l.length → rb = some b) := by
  obtain ⟨a, c, h1, h2, h3, h4⟩ := h.slice
  obtain ⟨a', c', b, h5, h6⟩ := RowAt.own h3 rfl Dg.len
  obtain ⟨e1, _, e3⟩ := Value.slice.inj h5.v
  subst e1 e3
  refine ⟨a, c, b, h5, h1, h2, fun h0 => ?_⟩
  rw [← h4, (h5.a h0).1]; rfl
theorem at_any (h : NetAt w B g t rb) (wf : t.Wf) (i : Int) :
    Calls Tryd.prog 21 #[.pointer (some ⟨g, 0, none⟩), .int .i64 i] w fun e w' => e = .returned (atV t i) ∧ Below w.heap.size w w' := by
  have hz := zero_dg
  have h' := h.below (bel_box w Dg.zero.vals.toArray 35)
  have HT := Lib.hid (there_any h' wf i)
  obtain ⟨a, c, b, hr, c65, hc, _⟩ := h'.read
  have HR := Lib.hid hr
  have hl : (t.l.length : Int) ≤ 4096 := by have := wf.l; omega
  have hu : Hid ((Tryd.prog.info? 35).map (·.size) = some (4 : Nat)) := Lib.hid size_dg
  clear h h' wf hr
  cases ht : thereN t i
  · rw [ht] at HT
    have E := Lib.hid (show atN t i = (Dg.zero, false) by unfold atN; rw [ht]; rfl)
    clear ht
    go_enter Tryd.func21, Tryd.ntmps21
    go_wp2_with fail
    refine HT.out.mono ?_
    rintro e w' ⟨rfl, rfl⟩
    go_wp2_with (guard_target = wpList _ _ _ (Oper.mk none (Op.store _ _ _) _ _ _ none :: _) _ _; refine wpList_store_row rfl 35 _ _ rfl w.heap.size (by rfl) Dg.zero.vals.toArray (by rfl) Dg.zero.vals.toArray 35 (heap_alloc_new _ _) rfl hu.out Dg.zero.oneA ?_; intro w2 hw2 hg2)
    refine bodyPost_ret (results_cell_tmp1 rfl _ w2 w.heap.size 35 _ (0, 0) _ (by rfl) hw2 Tryd.underlying35 rfl hu.out) rfl ⟨by unfold atV; rw [E.out]; rfl, bel_new hg2⟩
  · rw [ht] at HT
    have ht2 := ht
    unfold thereN at ht2
    simp only [Bool.and_eq_true, decide_eq_true_eq] at ht2
    obtain ⟨j, rfl⟩ := Int.eq_ofNat_of_zero_le ht2.1
    have hj : j < t.l.length := by have := ht2.2; omega
    have E := Lib.hid (show atN t j = (t.l[j], true) by unfold atN; rw [ht, Int.toNat_natCast]; simp [hj])
    have HX := Lib.hid (HR.out.at_ Dg.len hj)
    rw [Nat.zero_add] at HX
    obtain ⟨rfl, _⟩ := HR.out.a (by omega)
    have hj' : (j : Int) < (t.l.length : Int) := by omega
    generalize t.l[j] = x at E HX
    clear ht ht2 hj
    go_enter Tryd.func21, Tryd.ntmps21
    go_wp2_with fail
    refine HT.out.mono ?_
    rintro e w' ⟨rfl, rfl⟩
    go_wp2_with (first
      | (guard_target = wpList _ _ _ (Oper.mk none (Op.store _ _ _) _ _ _ none :: _) _ _; refine wpList_store_row rfl 35 _ _ rfl w.heap.size (by rfl) x.vals.toArray (by rfl) Dg.zero.vals.toArray 35 (heap_alloc_new _ _) rfl hu.out x.oneA ?_; intro w2 hw2 hg2)
      | (guard_target = wpList _ _ _ (Oper.mk _ (Op.load 35 _) _ _ _ none :: _) _ _; refine wpList_load_mid rfl 35 _ rfl b (j * 4) (by rfl) x.vals _ HX.out Tryd.underlying35 rfl hu.out ?_; simp only [Act.put, List.setIfInBounds_toArray, List.set_cons_zero, List.set_cons_succ]))
    refine bodyPost_ret (results_cell_tmp1 rfl _ w2 w.heap.size 35 _ (0, 0) _ (by rfl) hw2 Tryd.underlying35 rfl hu.out) rfl ⟨by unfold atV; rw [E.out]; rfl, bel_new hg2⟩
end
end Go.Proofs.YthegooaeehblhaaDoorR

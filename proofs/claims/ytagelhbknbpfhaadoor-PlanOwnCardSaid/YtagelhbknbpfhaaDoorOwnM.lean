/-
  PlanOwn: its memory.
-/
import Derived.Test.YtagelhbknbpfhaaDoorPlanA
import Derived.Test.YtagelhbknbpfhaaDoorOwnP
namespace Go.Proofs.YtagelhbknbpfhaaDoor
open Go.RowKit Go.BigFrame
set_option maxHeartbeats 1000000
set_option maxRecDepth 100000
theorem u32_map (l : List Nat) : rowOf u32v l = l.map fun (n : Nat) => Value.int .u32 (n : Int) := by
  induction l with
  | nil => rfl
  | cons x l ih => show u32v x ++ rowOf u32v l = _; rw [ih]; rfl
theorem u32_set (l : List Nat) (k z : Nat) : (rowOf u32v l).set k (.int .u32 (z : Int)) = rowOf u32v (l.set k z) := by
  rw [u32_map, u32_map, List.map_set]
theorem u32_get {l : List Nat} {k : Nat} (h : k < l.length) : (rowOf u32v l)[k]? = some (.int .u32 (l[k] : Int)) := by
  rw [u32_map, List.getElem?_map, List.getElem?_eq_getElem h]; rfl
/-- The counts on their way: the first k of them are taken. -/
def midL (done : List Nat) (M k : Nat) : List Nat := (List.range M).map fun j => if j < k then done.getD j 0 % 5 else done.getD j 0
theorem midL_len (done : List Nat) (M k : Nat) : (midL done M k).length = M := by simp [midL]
theorem midL_zero (done : List Nat) (j : Nat) : done ++ List.replicate j 0 = midL done (done.length + j) 0 := by
  apply List.ext_getElem?
  intro q
  unfold midL
  rw [List.getElem?_map, List.getElem?_append, List.getElem?_replicate]
  by_cases h : q < done.length
  · rw [if_pos h, List.getElem?_range (by omega)]
    simp [h]
  · rw [if_neg h]
    by_cases h2 : q < done.length + j
    · rw [List.getElem?_range h2, if_pos (by omega)]
      simp [List.getElem?_eq_none (show done.length ≤ q by omega)]
    · rw [if_neg (by omega), List.getElem?_eq_none (by simp; omega)]; rfl
theorem midL_get {done : List Nat} {M k : Nat} (h : k < M) : (midL done M k)[k]'(by rw [midL_len]; exact h) = done.getD k 0 := by
  simp [midL]
theorem midL_set (done : List Nat) (M k : Nat) : (midL done M k).set k (done.getD k 0 % 5) = midL done M (k + 1) := by
  apply List.ext_getElem?
  intro q
  rw [List.getElem?_set]
  unfold midL
  by_cases e : k = q
  · subst e
    by_cases h : k < M
    · simp [h]
    · simp [h]
  · rw [if_neg e, List.getElem?_map, List.getElem?_map]
    by_cases h : q < M
    · rw [List.getElem?_range h]
      show some (if q < k then done.getD q 0 % 5 else done.getD q 0) = some (if q < k + 1 then done.getD q 0 % 5 else done.getD q 0)
      by_cases h2 : q < k
      · rw [if_pos h2, if_pos (by omega)]
      · rw [if_neg h2, if_neg (by omega)]
    · rw [List.getElem?_eq_none (by simp; omega)]; rfl
theorem midL_full (done : List Nat) (M : Nat) : midL done M M = ownD done M := by
  unfold midL ownD
  apply List.map_congr_left
  intro j hj
  rw [if_pos (List.mem_range.1 hj)]
/-- The exchanges and messages made so far. -/
structure OwnSt (w0 w : World) (lv rv : Value) (ls : List XE) (ms : List MsE) : Prop where
  bel : Below w0.heap.size w0 w
  l : w.ownsRow w0.heap.size 64 6 lv ls.length (rowOf XE.vals ls)
  r : w.ownsRow w0.heap.size 59 6 rv ms.length (rowOf MsE.vals ms)
  le : ∀ y ∈ ls, w.ownsRow w0.heap.size 35 1 y.sl y.x.cnt.length (rowOf u32v y.x.cnt)
  me : ∀ y ∈ ms, w.ownsRow w0.heap.size 35 1 y.sl y.m.deps.length (rowOf u32v y.m.deps)
theorem OwnSt.below {w0 w w' : World} {lv rv : Value} {ls : List XE} {ms : List MsE} (h : OwnSt w0 w lv rv ls ms) (hb : Below w.heap.size w w') : OwnSt w0 w' lv rv ls ms :=
  ⟨bthen' h.bel hb, row_below h.l hb, row_below h.r hb, fun y hy => row_below (h.le y hy) hb, fun y hy => row_below (h.me y hy) hb⟩
/-- What an append onto another row leaves. -/
theorem grown_far {w w2 : World} {B B' : Nat} {T T' : TypeId} {sz sz' n n' : Nat} {kv z : Value} {l l' : List Value} {arr : Array Value} (hk : w.ownsRow B T sz kv n l) (hg : (w.alloc (.cells arr T)).grownBy w2 kv.ownBlock) (hz : w.ownsRow B' T' sz' z n' l') (hne : T' ≠ T) : w2.ownsRow B' T' sz' z n' l' :=
  row_same hz fun k e => by
    have hb : Below w.heap.size w (w.alloc (.cells arr T)) := bel_box _ _ _
    have hlt := (hz.lt k e).2
    rw [hg.block k (Nat.lt_of_lt_of_le hlt hb.size) (fun e2 => by
      obtain ⟨c, fz, h1⟩ := Lib.ownsRow_kind hz k e
      obtain ⟨c2, fz2, h2⟩ := Lib.ownsRow_kind hk k e2.symm
      rw [h1] at h2
      simp only [Option.some.injEq, Obj.cells.injEq] at h2
      exact hne h2.2.1), hb.block k hlt]
theorem grown_bel {w0 w w2 : World} {T : TypeId} {sz n : Nat} {kv : Value} {l : List Value} {arr : Array Value} (h0 : Below w0.heap.size w0 w) (hk : w.ownsRow w0.heap.size T sz kv n l) (hg : (w.alloc (.cells arr T)).grownBy w2 kv.ownBlock) : Below w0.heap.size w0 w2 := by
  have hb : Below w.heap.size w (w.alloc (.cells arr T)) := bel_box _ _ _
  exact ⟨hg.os.trans (hb.os.trans h0.os), hg.tape.trans (hb.tape.trans h0.tape), hg.output.trans (hb.output.trans h0.output), Nat.le_trans h0.size (Nat.le_trans hb.size hg.size), fun q hq => by
    have hq' := Nat.lt_of_lt_of_le hq h0.size
    rw [hg.block q (Nat.lt_of_lt_of_le hq' hb.size) (fun e => by have := (hk.lt q e.symm).1; omega), hb.block q hq', h0.block q hq]⟩
theorem OwnSt.growL {w0 w w2 : World} {lv rv v' : Value} {ls : List XE} {ms : List MsE} {y : XE} (h : OwnSt w0 w lv rv ls ms) (hy : w.ownsRow w0.heap.size 35 1 y.sl y.x.cnt.length (rowOf u32v y.x.cnt))
    (hrow : w2.ownsRow w0.heap.size 64 6 v' (ls.length + 1) (rowOf XE.vals ls ++ y.vals)) (hg : (w.alloc (.cells y.vals.toArray 64)).grownBy w2 lv.ownBlock) : OwnSt w0 w2 v' rv (ls ++ [y]) ms := by
  refine ⟨grown_bel h.bel h.l hg, by rw [rowOf_snoc, List.length_append]; exact hrow, grown_far h.l hg h.r (by decide), fun z hz => ?_, fun z hz => grown_far h.l hg (h.me z hz) (by decide)⟩
  rcases List.mem_append.1 hz with hz | hz
  · exact grown_far h.l hg (h.le z hz) (by decide)
  · obtain rfl := List.mem_singleton.1 hz
    exact grown_far h.l hg hy (by decide)
theorem OwnSt.growR {w0 w w2 : World} {lv rv v' : Value} {ls : List XE} {ms : List MsE} {y : MsE} (h : OwnSt w0 w lv rv ls ms) (hy : w.ownsRow w0.heap.size 35 1 y.sl y.m.deps.length (rowOf u32v y.m.deps))
    (hrow : w2.ownsRow w0.heap.size 59 6 v' (ms.length + 1) (rowOf MsE.vals ms ++ y.vals)) (hg : (w.alloc (.cells y.vals.toArray 59)).grownBy w2 rv.ownBlock) : OwnSt w0 w2 lv v' ls (ms ++ [y]) := by
  refine ⟨grown_bel h.bel h.r hg, grown_far h.r hg h.l (by decide), by rw [rowOf_snoc, List.length_append]; exact hrow, fun z hz => grown_far h.r hg (h.le z hz) (by decide), fun z hz => ?_⟩
  rcases List.mem_append.1 hz with hz | hz
  · exact grown_far h.r hg (h.me z hz) (by decide)
  · obtain rfl := List.mem_singleton.1 hz
    exact grown_far h.r hg hy (by decide)
theorem OwnSt.exs {w0 w : World} {lv rv : Value} {ls : List XE} {ms : List MsE} (h : OwnSt w0 w lv rv ls ms) (hl : ls.length ≤ 1000) (hok : ∀ y ∈ ls, (∀ n ∈ y.x.cnt, n < 4294967296) ∧ y.x.oe < 18446744073709551616 ∧ y.x.ls < 18446744073709551616) : ∃ a c b, ExsAt w lv ls a c b 0 := by
  obtain ⟨a, c, b, hr, _⟩ := RowAt.own h.l rfl XE.len
  refine ⟨a, c, b, hr, fun y hy => ?_, hl⟩
  obtain ⟨a', c', b', hr', _⟩ := RowAt.own (h.le y hy) rfl u32v_len
  exact ⟨⟨a', c', b', 0, hr'⟩, (hok y hy).1, (hok y hy).2.1, (hok y hy).2.2⟩
theorem run_buildU (w : World) : (Instr.buildSlice 23 1 #[(0, .int .u32 0)]).run Tryd.prog w = .ok (.slice (some ⟨w.heap.size, 0, none⟩) 1 1) (w.alloc (.cells (#[.int .u32 ((0 : Nat) : Int)] : Array Value) 35)) := by kernel_rfl
/-- A row of numbers copied behind an own row (nil or empty). -/
theorem copyU {W : World} {v0 : Value} {B : Nat} (own0 : W.ownsRow B 35 1 v0 0 []) (hB : B ≤ W.heap.size) {v : Value} {l : List Nat} {a : Option Addr} {c b o : Nat} (h : RowAt u32v W v l a c b o) (hl : l.length ≤ 1000) :
    ∃ v' W2, (Builtin.append_ #[23, 23] 23 #[v0, v]).run Tryd.prog W = .ok v' W2 ∧ W2.ownsRow B 35 1 v' l.length (rowOf u32v l) ∧ W.grownBy W2 v0.ownBlock := by
  obtain ⟨i0, hi, hz0, hz1, hz2⟩ := info_parts info_u32
  obtain rfl := h.v
  have hlen := rowOf_length (f := u32v) u32v_len l
  obtain ⟨v', W2, hrun, hown, hg, _⟩ := run_append_src (P := Tryd.prog) W B 23 23 35 i0 _ 1 4 Tryd.underlying23 hi hz0 hz1 hz2 rfl (by decide) _ 0 [] own0
    a l.length c (rowOf u32v l) hlen (fun h0 => by
      refine ⟨_, (h.a h0).1, fun j u hj => ?_⟩
      have e : (⟨b, o, none⟩ : Addr).add j = ⟨b, o + j, none⟩ := by unfold Addr.add; split <;> simp_all
      rw [e]
      exact h.r j u hj) (rowOf_one u32v_one l) (by unfold maxLen; omega) (by omega) hB
  exact ⟨v', W2, hrun, by simpa using hown, hg⟩
end Go.Proofs.YtagelhbknbpfhaaDoor

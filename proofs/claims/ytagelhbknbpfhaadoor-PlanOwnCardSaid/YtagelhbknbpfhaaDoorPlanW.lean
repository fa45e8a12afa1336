/-
  Package plan: New.
-/
import Derived.Test.YtagelhbknbpfhaaDoorPlanN
namespace Go.Proofs.YtagelhbknbpfhaaDoor
open Go.RowKit Go.BigFrame
set_option maxHeartbeats 1000000
set_option maxRecDepth 100000
theorem scan_mine {me : Int} : ∀ {l : List Ex} {i seen : Nat} {mine r : Int}, scanN me l i seen mine = some r → r = mine ∨ ∃ j, j < l.length ∧ r = ((i + j : Nat) : Int)
  | [], i, seen, mine, r, h => by
    unfold scanN at h
    exact .inl (Option.some.inj h).symm
  | x :: l, i, seen, mine, r, h => by
    unfold scanN at h
    split at h
    · cases h
    · rcases scan_mine h with h1 | ⟨j, hj, h1⟩
      · split at h1
        · exact .inr ⟨0, by simp, by rw [h1]; simp⟩
        · exact .inl h1
      · exact .inr ⟨j + 1, by simp; omega, by rw [h1]; omega⟩
theorem newL_none {me : Int} {l : List Ex} (h : scanN me l 0 0 (-1) = none) : newL me l = none := by unfold newL; rw [h]
theorem newL_neg {me : Int} {l : List Ex} {r : Int} (h : scanN me l 0 0 (-1) = some r) (hr : r < 0) : newL me l = none := by
  unfold newL; rw [h]
  cases r with
  | ofNat n => exfalso; have : (0 : Int) ≤ Int.ofNat n := Int.natCast_nonneg n; omega
  | negSucc n => rfl
theorem newL_some {me : Int} {l : List Ex} {i : Nat} (h : scanN me l 0 0 (-1) = some (i : Int)) (hi : i < l.length) : newL me l = some (l.filter fun x => sameOld x l[i]) := by
  unfold newL; rw [h]
  show (match l[i]? with | some m => some (l.filter fun x => sameOld x m) | none => none) = _
  rw [List.getElem?_eq_getElem hi]
/-- One more element in an own row, the rest of memory as it was. -/
theorem own_run {w7 : World} {B : Nat} {slT elT : TypeId} {zv : Value} {sz bytes : Nat} (hsl : Tryd.prog.underlying slT = some (.slice elT)) (hinfo : (Tryd.prog.info? elT).map (fun i => (i.zero, i.size, i.bytes)) = some (some zv, sz, bytes)) (hzs : zv.cells.size = sz) (hsz : 0 < sz)
    {kv : Value} {n : Nat} {cs : List Value} (hown : w7.ownsRow B elT sz kv n cs) (hB : B ≤ w7.heap.size) (d : List Value) (hd : d.length = sz) (h1 : ∀ u ∈ d, u.oneCell' = true) (hn : n < 1000000) (hby : bytes ≤ 1000) :
    ∃ v' w8, (Builtin.append_ #[slT, slT] slT #[kv, .slice (some ⟨w7.heap.size, 0, none⟩) 1 1]).run Tryd.prog (w7.alloc (.cells d.toArray elT)) = .ok v' w8 ∧ w8.ownsRow B elT sz v' (n + 1) (cs ++ d) ∧ (w7.alloc (.cells d.toArray elT)).grownBy w8 kv.ownBlock := by
  obtain ⟨i0, hi, hz0, hz1, hz2⟩ := info_parts hinfo
  have hb : Below w7.heap.size w7 (w7.alloc (.cells d.toArray elT)) := (Below.refl _ _).alloc (Nat.le_refl _) _
  have hmul : (n + 1) * bytes ≤ 1000000 * 1000 := Nat.mul_le_mul (by omega) hby
  obtain ⟨v', w', h1', h2, h3, h4⟩ := run_append_src (P := Tryd.prog) (w7.alloc (.cells d.toArray elT)) B slT slT elT i0 zv sz bytes hsl hi hz0 hz1 hz2 hzs hsz kv n cs (row_below hown hb)
    (some ⟨w7.heap.size, 0, none⟩) 1 1 d (by omega) (fun _ => ⟨_, rfl, fun j u hj => by
      have e : (⟨w7.heap.size, 0, none⟩ : Addr).add j = ⟨w7.heap.size, j, none⟩ := by simp [Addr.add]; exact fun h => h.symm
      rw [e, cell_of_row _ w7.heap.size j _ _ _ (heap_alloc_new w7 _), List.getElem?_toArray]
      exact hj⟩) h1 (by unfold maxLen; omega) (by omega) (Nat.le_trans hB hb.size)
  exact ⟨v', w', h1', h2, h3⟩
/-- A plan being made. -/
structure NewSt (w0 w : World) (G : Nat) (kv : Value) (ys : List XE) : Prop where
  bel : Below w0.heap.size w0 w
  lo : w0.heap.size ≤ G
  blk : w.heap[G]? = some (.cells #[kv] 70 (0, 0))
  row : w.ownsRow w0.heap.size 64 6 kv ys.length (rowOf XE.vals ys)
  own : ∀ y ∈ ys, w.ownsRow w0.heap.size 35 1 y.sl y.x.cnt.length (rowOf u32v y.x.cnt)
  lt : ∀ y ∈ ys, (∀ n ∈ y.x.cnt, n < 4294967296) ∧ y.x.oe < 18446744073709551616 ∧ y.x.ls < 18446744073709551616
theorem NewSt.below {w0 w w' : World} {G : Nat} {kv : Value} {ys : List XE} (h : NewSt w0 w G kv ys) (hb : Below w.heap.size w w') : NewSt w0 w' G kv ys :=
  ⟨bthen' h.bel hb, h.lo, bblock hb h.blk, row_below h.row hb, fun y hy => row_below (h.own y hy) hb, h.lt⟩
theorem far_kind {w : World} {B : Nat} {e e' : TypeId} {sz sz' : Nat} {v v' : Value} {n n' : Nat} {l l' : List Value} (h : w.ownsRow B e sz v n l) (h' : w.ownsRow B e' sz' v' n' l') (hne : e ≠ e') {k : Nat} (hk : v.ownBlock = some k) : v'.ownBlock ≠ some k := by
  intro e1
  obtain ⟨c, fz, h1⟩ := Lib.ownsRow_kind h k hk
  obtain ⟨c2, fz2, h2⟩ := Lib.ownsRow_kind h' k e1
  rw [h1] at h2
  simp only [Option.some.injEq, Obj.cells.injEq] at h2
  exact hne h2.2.1
theorem far_block {w : World} {B : Nat} {e : TypeId} {sz : Nat} {v : Value} {n : Nat} {l : List Value} (h : w.ownsRow B e sz v n l) {G : Nat} {cs : Array Value} {t : TypeId} {fr : Nat × Nat} (hG : w.heap[G]? = some (.cells cs t fr)) (hne : e ≠ t) {k : Nat} (hk : v.ownBlock = some k) : k ≠ G := by
  rintro rfl
  obtain ⟨c, fz, h1⟩ := Lib.ownsRow_kind h k hk
  rw [hG] at h1
  simp only [Option.some.injEq, Obj.cells.injEq] at h1
  exact hne h1.2.1.symm
/-- One more is kept. -/
theorem NewSt.grow {w0 w w2 : World} {G : Nat} {kv v' : Value} {ys : List XE} {y : XE} (h : NewSt w0 w G kv ys) (hy : w.ownsRow w0.heap.size 35 1 y.sl y.x.cnt.length (rowOf u32v y.x.cnt))
    (hlt : (∀ n ∈ y.x.cnt, n < 4294967296) ∧ y.x.oe < 18446744073709551616 ∧ y.x.ls < 18446744073709551616)
    (hrow : w2.ownsRow w0.heap.size 64 6 v' (ys.length + 1) (rowOf XE.vals ys ++ y.vals)) (hg : (w.alloc (.cells y.vals.toArray 64)).grownBy w2 kv.ownBlock) :
    NewSt w0 (w2.setCell ⟨G, 0, none⟩ v') G v' (ys ++ [y]) := by
  have hb : Below w.heap.size w (w.alloc (.cells y.vals.toArray 64)) := bel_box _ _ _
  have hGlt : G < w.heap.size := (Array.getElem?_eq_some_iff.1 h.blk).1
  have keep : ∀ k, k < w.heap.size → kv.ownBlock ≠ some k → w2.heap[k]? = w.heap[k]? := fun k hk hne => by
    rw [hg.block k (Nat.lt_of_lt_of_le hk hb.size) (fun e => hne e.symm), hb.block k hk]
  have keep2 : ∀ k, k < w.heap.size → kv.ownBlock ≠ some k → k ≠ G → (w2.setCell ⟨G, 0, none⟩ v').heap[k]? = w.heap[k]? := fun k hk hne hG => by
    rw [rowOther _ _ _ hG]; exact keep k hk hne
  have hG2 : w2.heap[G]? = some (.cells #[kv] 70 (0, 0)) := by rw [keep G hGlt (fun e => far_block h.row h.blk (by decide) e rfl)]; exact h.blk
  have hown : ∀ z : XE, w.ownsRow w0.heap.size 35 1 z.sl z.x.cnt.length (rowOf u32v z.x.cnt) → (w2.setCell ⟨G, 0, none⟩ v').ownsRow w0.heap.size 35 1 z.sl z.x.cnt.length (rowOf u32v z.x.cnt) := fun z hz =>
    row_same hz fun k e => keep2 k (hz.lt k e).2 (far_kind hz h.row (by decide) e) (far_block hz h.blk (by decide) e)
  refine ⟨?_, h.lo, by rw [rowCell hG2]; rfl, ?_, ?_, ?_⟩
  · have h2 : Below w0.heap.size w0 w2 := ⟨hg.os.trans (hb.os.trans h.bel.os), hg.tape.trans (hb.tape.trans h.bel.tape), hg.output.trans (hb.output.trans h.bel.output), Nat.le_trans h.bel.size (Nat.le_trans hb.size hg.size), fun q hq => by
      have hq' := Nat.lt_of_lt_of_le hq h.bel.size
      rw [keep q hq' (fun e => by have := (h.row.lt q e).1; omega)]; exact h.bel.block q hq⟩
    exact h2.grown (grown_set (grown_of_below (Below.refl _ _) G) 0 v') h2.size (fun k hk => by cases hk; exact h.lo)
  · rw [rowOf_snoc, List.length_append]
    exact row_same hrow fun k e => rowOther _ _ _ (far_block hrow hG2 (by decide) e)
  · intro z hz
    rcases List.mem_append.1 hz with hz | hz
    · exact hown z (h.own z hz)
    · obtain rfl := List.mem_singleton.1 hz
      exact hown _ hy
  · intro z hz
    rcases List.mem_append.1 hz with hz | hz
    · exact h.lt z hz
    · obtain rfl := List.mem_singleton.1 hz
      exact hlt
theorem NewSt.plan {w0 w : World} {G : Nat} {kv : Value} {ys : List XE} (h : NewSt w0 w G kv ys) (hl : ys.length ≤ 1000) : PlanAt w G ys := by
  obtain ⟨a, c, b, hr, _⟩ := RowAt.own h.row rfl XE.len
  refine ⟨kv, a, c, b, 0, h.blk, hr, fun y hy => ?_, hl⟩
  obtain ⟨a', c', b', hr', _⟩ := RowAt.own (h.own y hy) rfl u32v_len
  exact ⟨⟨a', c', b', 0, hr'⟩, (h.lt y hy).1, (h.lt y hy).2.1, (h.lt y hy).2.2⟩
def NewPost (me : Int) (l : List Ex) (w : World) (e : Ending) (w' : World) : Prop :=
  Below w.heap.size w w' ∧ ((newL me l = none ∧ e = .returned (.tuple #[.pointer none, .bool false])) ∨ ∃ g ys, newL me l = some (exs ys) ∧ e = .returned (.tuple #[.pointer (some ⟨g, 0, none⟩), .bool true]) ∧ PlanAt w' g ys ∧ w.heap.size ≤ g)
theorem filter_take' {α : Type} (p : α → Bool) (l : List α) (k : Nat) (h : k < l.length) (x : α) (hx : l[k] = x) : (l.take (k + 1)).filter p = (l.take k).filter p ++ if p x then [x] else [] := by
  rw [take_snoc l k h, hx, List.filter_append]
  cases e : p x <;> simp [e]
theorem exs_get (l : List XE) (k : Nat) (h : k < l.length) : (exs l)[k]'(by simpa [exs] using h) = l[k].x := by simp [exs]
theorem exs_len (l : List XE) : (exs l).length = l.length := by simp [exs]
theorem exs_drop (l : List XE) (k : Nat) (h : k < l.length) : exs (l.drop k) = l[k].x :: exs (l.drop (k + 1)) := by
  unfold exs
  rw [List.drop_eq_getElem_cons h]; rfl
end Go.Proofs.YtagelhbknbpfhaaDoor

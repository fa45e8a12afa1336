/-
  NetCopies: a net, and what is left of its copy.
-/
import Derived.Test.YthegooaeehblhaaDoorRNetC3
namespace Go.Proofs.YthegooaeehblhaaDoorR
open Go.RowKit Go.BigFrame
set_option maxHeartbeats 1000000
set_option maxRecDepth 100000
/-- The copy, and the datagrams kept: in blocks that the net's acts leave. -/
structure Kept (w : World) (B g : Nat) (rb : Option Nat) (cv kv : Value) (lk : Bool) (g2 : Nat) (t2 : Nt) (rb2 : Option Nat) : Prop where
  cv : cv = .pointer (some ⟨g2, 0, none⟩)
  wf : t2.Wf
  at_ : NetAt w B g2 t2 rb2
  row : w.ownsRow B 35 4 kv t2.l.length (rowOf Dg.vals t2.l)
  lk : lk = linkN t2 0 1
  ne : g2 ≠ g
  r2 : ∀ k, rb2 = some k → rb ≠ some k
  r3 : ∀ k, kv.ownBlock = some k → rb ≠ some k
structure Cp (w0 w : World) (g : Nat) (t : Nt) (cv kv : Value) (lk : Bool) : Prop where
  tab : TabOk w0
  bel : Below w0.heap.size w0 w
  wf : t.Wf
  lo : w0.heap.size ≤ g
  st : ∃ rb, NetAt w w0.heap.size g t rb ∧ ((cv = .pointer none ∧ kv = .slice none 0 0) ∨ ∃ g2 t2 rb2, Kept w w0.heap.size g rb cv kv lk g2 t2 rb2)
theorem row_same {w w' : World} {B : Nat} {kv : Value} {n : Nat} {l : List Value} (h : w.ownsRow B 35 4 kv n l) (hr : ∀ k, kv.ownBlock = some k → w'.heap[k]? = w.heap[k]?) : w'.ownsRow B 35 4 kv n l :=
  ⟨h.1, h.2.imp id fun ⟨b, cap, cur, hv, hb, hh, r⟩ => ⟨b, cap, cur, hv, hb, by rw [hr b (by rw [hv]; rfl)]; exact hh, r⟩⟩
theorem Kept.act {w w' : World} {B g : Nat} {t : Nt} {rb rb' : Option Nat} {cv kv : Value} {lk : Bool} {g2 : Nat} {t2 : Nt} {rb2 : Option Nat} (h : Kept w B g rb cv kv lk g2 t2 rb2) (hn : NetAt w B g t rb) (hc : Chg w w' g rb) (hm : Moves w rb rb') : Kept w' B g rb' cv kv lk g2 t2 rb2 := by
  obtain ⟨cs2, hb2, _⟩ := h.at_.blk
  obtain ⟨cs, hb, _⟩ := hn.blk
  have hk : ∀ k, kv.ownBlock = some k → k < w.heap.size ∧ k ≠ g := fun k e => by
    refine ⟨(h.row.lt k e).2, ?_⟩
    rintro rfl
    obtain ⟨c, fz, h1⟩ := Lib.ownsRow_kind h.row k e
    rw [hb] at h1
    simp only [Option.some.injEq, Obj.cells.injEq] at h1
    exact absurd h1.2.1 (by decide)
  have hk2 : ∀ k, rb2 = some k → k < w.heap.size ∧ k ≠ g := fun k e => ⟨(h.at_.rlt e).2, by rintro rfl; exact h.at_.far hb (by decide) e.symm⟩
  have new : ∀ k, k < w.heap.size → rb ≠ some k → rb' ≠ some k := fun k hlt hne e => by
    rcases hm with e1 | ⟨j, e1, hj⟩
    · exact hne (e1.symm.trans e)
    · rw [e1] at e
      have := Option.some.inj e
      omega
  refine ⟨h.cv, h.wf, h.at_.same hc.size (hc.block g2 h.at_.lt h.ne (hn.far hb2 (by decide))) (fun k e => hc.block k (hk2 k e).1 (hk2 k e).2 (fun e2 => h.r2 k e e2.symm)),
    row_same h.row (fun k e => hc.block k (hk k e).1 (hk k e).2 (fun e2 => h.r3 k e e2.symm)), h.lk, h.ne, fun k e => new k (hk2 k e).1 (h.r2 k e), fun k e => new k (hk k e).1 (h.r3 k e)⟩
theorem Cp.act {w0 w : World} {g : Nat} {t : Nt} {cv kv : Value} {lk : Bool} (h : Cp w0 w g t cv kv lk) (x : NAct) (hs : x.s < 18446744073709551616) (hd : x.d.data.length ≤ 9223372036854775807) :
    Calls Tryd.prog 15 #[.pointer (some ⟨g, 0, none⟩), .agg x.vals.toArray] w fun e w' => e = .returned (.tuple #[]) ∧ Cp w0 w' g (actN t x) cv kv lk := by
  obtain ⟨rb, hn, hk⟩ := h.st
  refine (act_chg hn h.wf h.bel.size (h.tab.belowS h.bel) x hs).mono ?_
  rintro e w' ⟨rb', he, h1, h2, h3⟩
  refine ⟨he, h.tab, h2.below h.bel h.lo (fun k hk => (hn.rlt hk).1), actN_wf h.wf x hd, h.lo, rb', h1, ?_⟩
  rcases hk with hk | ⟨g2, t2, rb2, hk⟩
  · exact .inl hk
  · exact .inr ⟨g2, t2, rb2, hk.act hn h2 h3⟩
theorem Cp.below {w0 w w' : World} {g : Nat} {t : Nt} {cv kv : Value} {lk : Bool} (h : Cp w0 w g t cv kv lk) (hb : Below w.heap.size w w') : Cp w0 w' g t cv kv lk := by
  obtain ⟨rb, hn, hk⟩ := h.st
  refine ⟨h.tab, bthen' h.bel hb, h.wf, h.lo, rb, hn.below hb, ?_⟩
  rcases hk with hk | ⟨g2, t2, rb2, hk⟩
  · exact .inl hk
  · exact .inr ⟨g2, t2, rb2, hk.act hn (Chg.of_below hb g rb) (.inl rfl)⟩
/-- One more is kept. -/
theorem kept_run (w : World) (B : Nat) (kv : Value) (l : List Dg) (d : Dg) (hown : w.ownsRow B 35 4 kv l.length (rowOf Dg.vals l)) (hB : B ≤ w.heap.size) (hl : l.length < 4096) :
    ∃ v' w', (Builtin.append_ #[48, 48] 48 #[kv, .slice (some ⟨w.heap.size, 0, none⟩) 1 1]).run Tryd.prog (w.alloc (.cells d.vals.toArray 35)) = .ok v' w' ∧
      w'.ownsRow B 35 4 v' (l.length + 1) (rowOf Dg.vals (l ++ [d])) ∧ (w.alloc (.cells d.vals.toArray 35)).grownBy w' kv.ownBlock ∧ (v'.ownBlock = kv.ownBlock ∨ v'.ownBlock = some (w.heap.size + 1)) := by
  obtain ⟨i0, hi, hz0, hz1, hz2⟩ := info_parts info_dg
  have hb := bel_box w d.vals.toArray 35
  have hown' := row_same (w' := w.alloc (.cells d.vals.toArray 35)) hown (fun k e => hb.block k (hown.lt k e).2)
  obtain ⟨v', w', h1, h2, h3, h4⟩ := run_append_src (w.alloc (.cells d.vals.toArray 35)) B 48 48 35 i0 _ 4 40 Tryd.underlying48 hi hz0 hz1 hz2 rfl (by decide) kv l.length (rowOf Dg.vals l) hown'
    (some ⟨w.heap.size, 0, none⟩) 1 1 d.vals rfl (fun _ => ⟨_, rfl, fun j u hj => by
      have e : (⟨w.heap.size, 0, none⟩ : Addr).add j = ⟨w.heap.size, j, none⟩ := by simp [Addr.add]; exact fun h => h.symm
      rw [e, cell_of_row _ w.heap.size j _ _ _ (heap_alloc_new w _), List.getElem?_toArray]
      exact hj⟩) d.oneL (by unfold maxLen; omega) (by omega) (Nat.le_trans hB hb.size)
  refine ⟨v', w', h1, by rw [rowOf_snoc]; exact h2, h3, ?_⟩
  have hs : (w.alloc (.cells d.vals.toArray 35)).heap.size = w.heap.size + 1 := Array.size_push ..
  rw [hs] at h4
  exact h4
end Go.Proofs.YthegooaeehblhaaDoorR

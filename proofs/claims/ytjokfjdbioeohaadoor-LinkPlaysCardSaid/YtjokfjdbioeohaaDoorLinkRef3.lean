/-
  consortref11: Next and New.
-/
import Derived.Test.YtjokfjdbioeohaaDoorLinkRef2
namespace Go.Proofs.YtjokfjdbioeohaaDoor
open Go.RowKit Go.BigFrame
set_option maxHeartbeats 1000000
set_option maxRecDepth 100000
theorem results_cell_tmp2 {P : Program} {fn : Func} {p u v : Tmp} {ty : TypeId} (h : fn.results = #[.cell p ty, .tmp u, .tmp v]) (tmps : Array Value) (w : World) (g : Nat) (t : TypeId) (cs : Array Value) (fr : Nat × Nat) (d : TypeDesc)
    (hp : tmps.getD p undef = .pointer (some ⟨g, 0, none⟩)) (hg : w.heap[g]? = some (.cells cs t fr))
    (hu : P.underlying ty = some d) (hd : (match d with | .struct _ | .array _ _ => true | _ => false) = true) (hi : (P.info? ty).map (·.size) = some cs.size) :
    (results fn tmps).run P w = .ok (.tuple #[.agg cs, tmps.getD u undef, tmps.getD v undef]) w := by
  have hp' : tmps[p]?.getD undef = .pointer (some ⟨g, 0, none⟩) := by simpa using hp
  simp [results, h, hp', asAddr, run_loadVar_row w g t ty cs fr d hg hu hd hi]
/-- A row whose one cell is set. -/
theorem setRowCell {w : World} {g : Nat} {cs : Array Value} {t : TypeId} {fr : Nat × Nat} (h : w.heap[g]? = some (.cells cs t fr)) (k : Nat) (v : Value) : (w.setCell ⟨g, k, none⟩ v).heap[g]? = some (.cells (cs.setIfInBounds k v) t fr) := by
  unfold World.setCell
  simp [Array.getElem?_modify, h]
theorem setOther (w : World) {g : Nat} (k : Nat) (v : Value) {b : Nat} (hb : b ≠ g) : (w.setCell ⟨g, k, none⟩ v).heap[b]? = w.heap[b]? := Below.heap_setCell w ⟨g, k, none⟩ v b hb
theorem RefCells.next {cs : Array Value} {m : Win} (h : RefCells cs m) : RefCells (cs.setIfInBounds 66 (.int .u32 ((m.sent : Int) + 1))) m.next := by
  have hn := h.n
  refine ⟨by simp [hn], by rw [Array.getElem?_setIfInBounds_ne (by omega)]; exact h.me, by rw [Array.getElem?_setIfInBounds_ne (by omega)]; exact h.size, fun i hi => by rw [Array.getElem?_setIfInBounds_ne (by omega)]; exact h.others i hi,
    ?_, fun i hi => by rw [Array.getElem?_setIfInBounds_ne (by omega)]; exact h.got i hi⟩
  rw [Array.getElem?_setIfInBounds_self_of_lt (by omega)]; rfl
def RefNextPost (m : Win) (r : Int) (w : World) (e : Ending) (w' : World) : Prop :=
  ∃ (cs : Array Value) (n c : Int), e = .returned (.tuple #[.agg cs, .int .u32 n, .int .i64 c]) ∧ nextV m r = .tuple #[.int .u32 n, .int .i64 c] ∧ RefCells cs (nextW m r) ∧ Below w.heap.size w w'
/-- The last region of Next: the number and the whole of the window, in either order. -/
def NextC (B : Nat) (cs : Array Value) (w0 : World) (L : Nat → Bool) (w : World) : Prop :=
  w.heap[B]? = some (.cells cs 32 (0, 0)) ∧ (∃ cur : Array Value, w.heap[B + 1]? = some (.cells cur 32 (0, 0)) ∧ cur.size = cs.size) ∧
  (L 3 = true → w.heap[B + 1]? = some (.cells cs 32 (0, 0))) ∧ Below w0.heap.size w0 w
theorem NextC.more {B : Nat} {cs : Array Value} {w0 : World} : ∀ i, i ≠ 3 → ∀ L w, NextC B cs w0 L w → L i = false → NextC B cs w0 (addL L i) w := by
  intro i hi L w ⟨h1, h2, h3, h4⟩ _
  refine ⟨h1, h2, fun h => h3 ?_, h4⟩
  unfold addL at h
  rwa [if_neg (Ne.symm hi)] at h
theorem NextC.store {B : Nat} {cs : Array Value} {w0 : World} (hB : w0.heap.size ≤ B) : ∀ (L : Nat → Bool) (w w' : World), NextC B cs w0 L w → w'.heap[B + 1]? = some (.cells cs 32 (0, 0)) → w.grownBy w' (some (B + 1)) → NextC B cs w0 (addL L 3) w' := by
  intro L w w' ⟨h1, _, _, h4⟩ hw hg
  refine ⟨?_, ⟨cs, hw, rfl⟩, fun _ => hw, h4.grown hg h4.size (fun k hk => by cases hk; omega)⟩
  rw [hg.block B (Array.getElem?_eq_some_iff.1 h1).1 (by intro e; have := Option.some.inj e; omega)]; exact h1
theorem rnext_any (cs : Array Value) (m : Win) (r : Int) (hr : r ≤ 9223372036854775807) (wf : m.Wf) (hs : m.sent + 1 < 4294967296) (hc : RefCells cs m) (w : World) :
    Calls Tryd.prog 17 #[.agg cs, .int .i64 r] w (RefNextPost m r w) := by
  have hz := zero_ref
  have hzs := refZero_size
  have hsz : Hid ((Tryd.prog.info? 32).map (·.size) = some cs.size) := Lib.hid (by rw [hc.n]; exact size_ref)
  have hsz2 : Hid (refZero.size = cs.size) := Lib.hid (by rw [refZero_size, hc.n])
  obtain ⟨W, hW⟩ : ∃ W : World, W = (w.alloc (.cells cs 32)).alloc (.cells refZero 32) := ⟨_, rfl⟩
  have HW := Lib.hid hW
  have HR := Lib.hid (rroom_any cs m r hr wf hc W)
  have HBW := Lib.hid (show Below w.heap.size w W by rw [hW]; exact ((Below.refl _ _).alloc (Nat.le_refl _) _).alloc (by simp) _)
  have HB0 := Lib.hid (show W.heap[w.heap.size]? = some (.cells cs 32 (0, 0)) by rw [hW]; exact heap_alloc2_old _ _ _)
  have HB1 := Lib.hid (show W.heap[w.heap.size + 1]? = some (.cells refZero 32 (0, 0)) by rw [hW]; exact heap_alloc2_new _ _ _)
  have HC := Lib.hid hc
  have h66 := hc.sent
  rw [hW] at HR
  clear hW
  cases hroom : roomW m r
  · rw [hroom] at HR
    have E := Lib.hid (show nextW m r = m by unfold nextW; rw [hroom]; rfl)
    have V := Lib.hid (show nextV m r = .tuple #[.int .u32 0, .int .i64 6] by unfold nextV; rw [hroom]; rfl)
    clear hroom hs hc wf hr
    go_enter Tryd.func17, Tryd.ntmps17
    go_wp2_with (first
      | (refine wpList_load_row rfl 32 _ rfl w.heap.size (by rfl) 32 cs (0, 0) _ (heap_alloc2_old _ _ _) Tryd.underlying32 rfl hsz.out ?_; simp only [Act.put, List.setIfInBounds_toArray, List.set_cons_zero, List.set_cons_succ])
      | (refine wpList_load_row rfl 32 _ rfl w.heap.size (by rfl) 32 cs (0, 0) _ (bblock hb1.out (heap_alloc2_old _ _ _)) Tryd.underlying32 rfl hsz.out ?_; simp only [Act.put, List.setIfInBounds_toArray, List.set_cons_zero, List.set_cons_succ])
      | (go_at_call 15; refine HR.out.mono ?_; rintro e w1 ⟨rfl, hb⟩; have hb1 := Lib.hid hb; clear hb)
      | (refine wpList_store_row rfl 32 _ _ rfl (w.heap.size + 1) (by rfl) _ (by rfl) refZero 32 (bblock hb1.out (heap_alloc2_new _ _ _)) hsz2.out hsz.out HC.out.one ?_; intro w2 hw2 hg2))
    refine bodyPost_ret (results_cell_tmp2 rfl _ w2 (w.heap.size + 1) 32 cs (0, 0) _ (by rfl) hw2 Tryd.underlying32 rfl hsz.out) rfl ⟨cs, 0, 6, rfl, V.out, by rw [E.out]; exact HC.out, ?_⟩
    rw [← HW.out] at hb1
    exact (bthen' HBW.out hb1.out).grown hg2 (by have := HBW.out.size; have := hb1.out.size; omega) (fun k hk => by cases hk; omega)
  · rw [hroom] at HR
    have E := Lib.hid (show nextW m r = m.next by unfold nextW; rw [hroom]; rfl)
    have V := Lib.hid (show nextV m r = .tuple #[.int .u32 ((m.sent : Int) + 1), .int .i64 0] by unfold nextV; rw [hroom]; rfl)
    have hs3 : (m.sent : Int) + 1 < 4294967296 := by omega
    clear hroom hs hc wf hr
    go_enter Tryd.func17, Tryd.ntmps17
    go_wp2_with (refine wpList_load_row rfl 32 _ rfl w.heap.size (by rfl) 32 cs (0, 0) _ (heap_alloc2_old _ _ _) Tryd.underlying32 rfl hsz.out ?_; simp only [Act.put, List.setIfInBounds_toArray, List.set_cons_zero, List.set_cons_succ])
    refine HR.out.mono ?_
    rintro e w1 ⟨rfl, hb⟩
    rw [← HW.out] at hb
    have hb1 := Lib.hid hb
    have g66 : w1.cell? ⟨w.heap.size, 66, none⟩ = some (.int .u32 m.sent) := by rw [cell_of_row w1 _ 66 _ _ _ (bblock hb HB0.out)]; exact h66
    have f66 : w1.frozen? ⟨w.heap.size, 66, none⟩ = false := by simp [World.frozen?, bblock hb HB0.out]
    clear hb
    obtain ⟨cs', hcs'⟩ : ∃ cs' : Array Value, cs' = cs.setIfInBounds 66 (.int .u32 ((m.sent : Int) + 1)) := ⟨_, rfl⟩
    have HC' := Lib.hid (show RefCells cs' m.next by rw [hcs']; exact HC.out.next)
    have hsz' : Hid ((Tryd.prog.info? 32).map (·.size) = some cs'.size) := Lib.hid (by rw [HC'.out.n]; exact size_ref)
    have HX0 := Lib.hid (show (w1.setCell ⟨w.heap.size, 66, none⟩ (.int .u32 ((m.sent : Int) + 1))).heap[w.heap.size]? = some (.cells cs' 32 (0, 0)) by rw [hcs']; exact setRowCell (bblock hb1.out HB0.out) 66 _)
    have HX1 := Lib.hid (show (w1.setCell ⟨w.heap.size, 66, none⟩ (.int .u32 ((m.sent : Int) + 1))).heap[w.heap.size + 1]? = some (.cells refZero 32 (0, 0)) by rw [setOther _ _ _ (by omega)]; exact bblock hb1.out HB1.out)
    have HXB := Lib.hid (show Below w.heap.size w (w1.setCell ⟨w.heap.size, 66, none⟩ (.int .u32 ((m.sent : Int) + 1))) from
      (bthen' HBW.out hb1.out).grown (grown_set (grown_of_below (Below.refl _ _) _) 66 _) (by have := HBW.out.size; have := hb1.out.size; omega) (fun k hk => by cases hk; omega))
    have hC0 : NextC w.heap.size cs' w (fun _ => false) { (w1.setCell ⟨w.heap.size, 66, none⟩ (.int .u32 ((m.sent : Int) + 1))) with drawn := (w1.setCell ⟨w.heap.size, 66, none⟩ (.int .u32 ((m.sent : Int) + 1))).drawn + 1 } :=
      ⟨HX0.out, ⟨refZero, HX1.out, by rw [refZero_size, HC'.out.n]⟩, (fun h => (by cases h)), HXB.out.drew⟩
    have l66 := Lib.hid (fun (L : Nat → Bool) w' (h : NextC w.heap.size cs' w L w') => (show w'.cell? ⟨w.heap.size, 66, none⟩ = some (.int .u32 ((m.sent : Int) + 1)) by rw [cell_of_row w' _ 66 _ _ _ h.1]; exact HC'.out.sent))
    have ag := Lib.hid (fun (L : Nat → Bool) w' (h : NextC w.heap.size cs' w L w') => h.1)
    have HST := Lib.hid (fun (L : Nat → Bool) w' (h : NextC w.heap.size cs' w L w') => h.2.1)
    have HSC := Lib.hid (fun (L : Nat → Bool) w' w'' (h : NextC w.heap.size cs' w L w') hw hg => NextC.store (Nat.le_refl _) L w' w'' h hw hg)
    clear hcs'
    go_wp2
    refine wp_region_vals (C := NextC w.heap.size cs' w) (by kernel_rfl) (by kernel_rfl) hC0 ?_
    dsimp only []
    repeat (first | (refine wpVals_skip (by rfl) (NextC.more _ (by decide)) ?_; (simp only [Act.put, List.setIfInBounds_toArray, List.set_cons_zero, List.set_cons_succ])) | (refine wpVals_move _ (by rfl) (by rfl) (NextC.more _ (by decide)) ?_; (simp only [Act.put, Act.eval, List.getD_toArray, List.getD_cons_zero, List.getD_cons_succ, List.setIfInBounds_toArray, List.set_cons_zero, List.set_cons_succ])) | (refine wpVals_assign _ (by rfl) (by rfl) (NextC.more _ (by decide)) ?_; (simp only [Act.put, Act.eval, List.getD_toArray, List.getD_cons_zero, List.getD_cons_succ, List.setIfInBounds_toArray, List.set_cons_zero, List.set_cons_succ])) | (refine wpVals_load _ _ (by rfl) (by rfl) (NextC.more _ (by decide)) ?_ _ (by rfl) (by first | exact l66.out) ?_; (· intro w; simp); (simp only [Act.put, List.setIfInBounds_toArray, List.set_cons_zero, List.set_cons_succ])) | (refine wpVals_load_agg Tryd.underlying32 rfl hsz'.out _ (by rfl) (by rfl) (NextC.more _ (by decide)) _ (by rfl) _ _ ag.out ?_; (simp only [Act.put, List.setIfInBounds_toArray, List.set_cons_zero, List.set_cons_succ])) | (refine wpVals_store_agg 32 _ _ (by rfl) (by rfl) (w.heap.size + 1) (by rfl) cs' (by rfl) 32 HST.out hsz'.out HC'.out.one (fun L w' w'' h _ _ hw hg => HSC.out L w' w'' h hw hg) ?_; (simp only [Act.put])) | (refine wpVals_free (v := ?_) (by rfl) (NextC.more _ (by decide)) (fun _ => ?_) ?_; rotate_left; (first | (go_simp; done) | (go_simp; rfl)); (simp only [Act.put, List.setIfInBounds_toArray, List.set_cons_zero, List.set_cons_succ])))
    refine wpVals_nil ?_
    intro w3 hC3
    go_wp2
    refine bodyPost_ret (results_cell_tmp2 rfl _ w3 (w.heap.size + 1) 32 cs' (0, 0) _ (by rfl) (hC3.2.2.1 (by rfl)) Tryd.underlying32 rfl hsz'.out) rfl ⟨cs', _, 0, rfl, V.out, by rw [E.out]; exact HC'.out, hC3.2.2.2⟩
end Go.Proofs.YtjokfjdbioeohaaDoor

/-
  Package link: a window in memory, and what its functions come to.
-/
import Derived.Test.YtjokfjdbioeohaaDoorWorld
namespace Go.Proofs.YtjokfjdbioeohaaDoor
open Go.RowKit Go.BigFrame
set_option maxHeartbeats 400000
set_option maxRecDepth 100000

/-- A window. -/
structure Win where
  me : Int
  size : Int
  others : Nat
  sent : Nat
  got : Nat → Nat
structure Win.Wf (m : Win) : Prop where
  others : m.others < 18446744073709551616
  sent : m.sent < 4294967296
  got : ∀ i, i < 64 → m.got i ≤ m.sent
  size0 : 1 ≤ m.size
  size1 : m.size ≤ 64
/-- Its cells. -/
structure WinCells (cs : Array Value) (m : Win) : Prop where
  n : cs.size = 68
  me : cs[0]? = some (.int .i64 m.me)
  size : cs[1]? = some (.int .i64 m.size)
  others : cs[2]? = some (.int .u64 m.others)
  sent : cs[3]? = some (.int .u32 m.sent)
  got : ∀ i, i < 64 → cs[4 + i]? = some (.int .u32 (m.got i))
def WinAt (w : World) (g : Nat) (m : Win) : Prop := ∃ cs, w.heap[g]? = some (.cells cs 91 (0, 0)) ∧ WinCells cs m
section
variable {w : World} {g : Nat} {m : Win}
theorem WinAt.lt (h : WinAt w g m) : g < w.heap.size := by
  obtain ⟨cs, hh, _⟩ := h
  exact (Array.getElem?_eq_some_iff.1 hh).1
theorem WinAt.c0 (h : WinAt w g m) : w.cell? ⟨g, 0, none⟩ = some (.int .i64 m.me) := by
  obtain ⟨cs, hh, hc⟩ := h; rw [cell_of_row w g 0 cs _ _ hh]; exact hc.me
theorem WinAt.c1 (h : WinAt w g m) : w.cell? ⟨g, 1, none⟩ = some (.int .i64 m.size) := by
  obtain ⟨cs, hh, hc⟩ := h; rw [cell_of_row w g 1 cs _ _ hh]; exact hc.size
theorem WinAt.c2 (h : WinAt w g m) : w.cell? ⟨g, 2, none⟩ = some (.int .u64 m.others) := by
  obtain ⟨cs, hh, hc⟩ := h; rw [cell_of_row w g 2 cs _ _ hh]; exact hc.others
theorem WinAt.c3 (h : WinAt w g m) : w.cell? ⟨g, 3, none⟩ = some (.int .u32 m.sent) := by
  obtain ⟨cs, hh, hc⟩ := h; rw [cell_of_row w g 3 cs _ _ hh]; exact hc.sent
theorem WinAt.c4 (h : WinAt w g m) (i : Nat) (hi : i < 64) : w.cell? ⟨g, 4 + i, none⟩ = some (.int .u32 (m.got i)) := by
  obtain ⟨cs, hh, hc⟩ := h; rw [cell_of_row w g (4 + i) cs _ _ hh]; exact hc.got i hi
theorem WinAt.nf (h : WinAt w g m) (i : Nat) : w.frozen? ⟨g, i, none⟩ = false := by
  obtain ⟨cs, hh, hc⟩ := h; simp [World.frozen?, hh]
theorem WinAt.below {w' : World} (h : WinAt w g m) (hb : Below w.heap.size w w') : WinAt w' g m := by
  obtain ⟨cs, hh, hc⟩ := h; exact ⟨cs, bblock hb hh, hc⟩
end
/-- The low mark. -/
def lowL (m : Win) (l : List Nat) : Nat := l.foldl (fun n p => min n (m.got p)) m.sent
def lowW (m : Win) : Nat := lowL m (listN m.others)
theorem lowL_snoc (m : Win) (l : List Nat) (p : Nat) : lowL m (l ++ [p]) = min (lowL m l) (m.got p) := by simp [lowL]
theorem take_snoc {α : Type} (l : List α) (k : Nat) (h : k < l.length) : l.take (k + 1) = l.take k ++ [l[k]] := List.take_succ_eq_append_getElem h
theorem list_at (s k : Nat) (h : k < (listN s).length) : ∃ q, (listN s).getD k 0 = q ∧ q < 64 ∧ (listN s).take (k + 1) = (listN s).take k ++ [q] := by
  refine ⟨(listN s)[k], by simp [h], listN_lt (List.getElem_mem h), take_snoc _ _ h⟩
theorem low_any (g : Nat) (m : Win) (w : World) (hT : TabOk w) (hw : WinAt w g m) (wf : m.Wf) :
    Calls Tryd.prog 21 #[.pointer (some ⟨g, 0, none⟩)] w fun e w' => e = .returned (.int .u32 (lowW m)) ∧ Below w.heap.size w w' := by
  have h2 := hw.c2
  have h3 := hw.c3
  have H := Lib.hid (list_any m.others wf.others w hT)
  have HW := Lib.hid hw
  clear hT hw
  go_enter Tryd.func21, Tryd.ntmps21
  go_wp2_with (go_at_call 49; refine H.out.mono ?_; rintro e w1 ⟨v, rfl, hown, hb⟩; obtain ⟨a, c, gl, rfl, ha, hcl⟩ := hown.form)
  have HB := Lib.hid hb
  have HCL := Lib.hid hcl
  clear hb h2 h3 hcl hown
  have hl := listN_length m.others
  go_loop [3, 5, 16] (fun t _ i => ∃ k : Nat, k ≤ (listN m.others).length ∧ i = .int .i64 k ∧ t = .int .u32 (lowL m ((listN m.others).take k))) (fun _ _ i => (listN m.others).length - (intOf i).toNat)
  case atStart => exact ⟨0, Nat.zero_le _, rfl, rfl⟩
  case round =>
    obtain ⟨k, hk, rfl, rfl⟩ := hrel
    by_cases hlt : k < (listN m.others).length
    · obtain ⟨q, hq, hq64, hst⟩ := list_at m.others k hlt
      have hcell := HCL.out k hlt
      rw [hq] at hcell
      have hgot := (HW.out.below HB.out).c4 q hq64
      have hq64' : (q : Int) < 64 := by omega
      have HS := Lib.hid hst
      obtain rfl := ha (by omega)
      clear hq hst
      go_wp2
      all_goals
        go_round
        case rel => exact ⟨k + 1, by omega, by go_num, by rw [HS.out, lowL_snoc]; go_num⟩
        case measure => simp [intOf]; omega
    · go_wp2
      go_ret
      exact ⟨by rw [List.take_of_length_le (by omega)]; rfl, HB.out⟩
/-- Is there room beside a reserve? -/
def roomW (m : Win) (r : Int) : Bool := decide ((m.sent : Int) - lowW m < m.size - max r 0)
theorem lowL_le (m : Win) (l : List Nat) : lowL m l ≤ m.sent := by
  unfold lowL
  suffices h : ∀ (l : List Nat) (n : Nat), l.foldl (fun n p => min n (m.got p)) n ≤ n from h l m.sent
  intro l
  induction l with
  | nil => exact fun n => Nat.le_refl n
  | cons p l ih => exact fun n => Nat.le_trans (ih _) (Nat.min_le_left _ _)
theorem room_eq {m : Win} (wf : m.Wf) {r : Int} (hr : r ≤ 9223372036854775807) {x : Int} (hx : wrap64 (m.size - max r 0) = x) : decide (((m.sent : Int) - lowW m) % 4294967296 < x) = roomW m r := by
  have h1 := lowL_le m (listN m.others)
  have h2 := wf.size0
  have h3 := wf.size1
  have h4 := wf.sent
  unfold roomW
  rw [← hx]
  have e : wrap64 (m.size - max r 0) = m.size - max r 0 := by unfold wrap64; omega
  rw [e]
  have e2 : ((m.sent : Int) - lowW m) % 4294967296 = (m.sent : Int) - lowW m := by unfold lowW at *; omega
  rw [e2]
theorem room_any (g : Nat) (m : Win) (r : Int) (hr : r ≤ 9223372036854775807) (w : World) (hT : TabOk w) (hw : WinAt w g m) (wf : m.Wf) :
    Calls Tryd.prog 14 #[.pointer (some ⟨g, 0, none⟩), .int .i64 r] w fun e w' => e = .returned (.bool (roomW m r)) ∧ Below w.heap.size w w' := by
  obtain ⟨C, hC⟩ : ∃ C : World → Prop, ∀ w', C w' ↔ Below w.heap.size w w' := ⟨_, fun _ => Iff.rfl⟩
  have l1 := Lib.hid (fun w' h => (hw.below ((hC w').1 h)).c1)
  have l3 := Lib.hid (fun w' h => (hw.below ((hC w').1 h)).c3)
  have cl := Lib.hid (fun w' (h : C w') => (low_any g m w' (hT.belowS ((hC w').1 h)) (hw.below ((hC w').1 h)) wf).mono (fun e w'' (he : e = .returned (.int .u32 (lowW m)) ∧ Below w'.heap.size w' w'') => (⟨he.1, (hC w'').2 (bthen' ((hC w').1 h) he.2)⟩ : e = .returned (.int .u32 (lowW m)) ∧ C w'')))
  have hC0 : C { w with drawn := w.drawn + 1 } := (hC _).2 (Below.drew (Below.refl _ _))
  have HC := Lib.hid hC
  have HE := Lib.hid (fun x hx => room_eq wf hr (x := x) hx)
  clear hC hT hw
  go_enter Tryd.func14, Tryd.ntmps14
  go_wp2
  refine wp_region_quiet (C := C) (by kernel_rfl) (by kernel_rfl) hC0 ?_
  dsimp only []
  repeat (first | go_big_quiet_skip | (go_big_quiet_want; first | (refine quiet_load _ _ (by rfl) ?_ _ (by rfl) (by first | exact l1.out | exact l3.out) ?_; (· intro w; simp); (simp only [Act.put, List.setIfInBounds_toArray, List.set_cons_zero, List.set_cons_succ]); go_big_quiet_on) | (refine quiet_call 21 _ _ (by rfl) Tryd.call21 _ ?_ cl.out ?_; (· rfl); (simp only [Act.put, List.setIfInBounds_toArray, List.set_cons_zero, List.set_cons_succ]); go_big_quiet_on) | (go_big_quiet_op; go_big_quiet_on) | (go_big_quiet_op; refine Exists.intro _ ⟨fun _ _ => rfl, ?_⟩; go_big_quiet_on)))
  refine wpQuiet_nil ?_
  intro w1 hC1
  go_wp2
  all_goals go_ret
  · exact ⟨ret_bool (HE.out _ (by rw [show max r 0 = 0 by omega, Int.sub_zero])), (HC.out _).1 hC1⟩
  · exact ⟨ret_bool (HE.out _ (by rw [show max r 0 = r by omega])), (HC.out _).1 hC1⟩
/-- One more is sent. -/
def Win.next (m : Win) : Win := { m with sent := m.sent + 1 }
theorem WinAt.set {w : World} {g : Nat} {m m' : Win} {k : Nat} {v : Value} (h : WinAt w g m) (hm : ∀ cs, WinCells cs m → WinCells (cs.setIfInBounds k v) m') : WinAt (w.setCell ⟨g, k, none⟩ v) g m' := by
  obtain ⟨cs, hh, hc⟩ := h
  refine ⟨_, ?_, hm cs hc⟩
  unfold World.setCell
  simp [Array.getElem?_modify, hh]
def nextW (m : Win) (r : Int) : Win := if roomW m r then m.next else m
theorem WinCells.next {cs : Array Value} {m : Win} (h : WinCells cs m) : WinCells (cs.setIfInBounds 3 (.int .u32 ((m.sent : Int) + 1))) m.next :=
  ⟨by simp [h.n], by rw [Array.getElem?_setIfInBounds_ne (by omega)]; exact h.me, by rw [Array.getElem?_setIfInBounds_ne (by omega)]; exact h.size, by rw [Array.getElem?_setIfInBounds_ne (by omega)]; exact h.others, by simp [h.n, Win.next], fun i hi => by
    rw [Array.getElem?_setIfInBounds_ne (by omega)]; exact h.got i hi⟩
theorem below_drewN {B : Nat} {a w : World} (h : Below B a w) (n : Nat) : Below B a (w.drewN n) := ⟨h.os, h.tape, h.output, h.size, h.block⟩
theorem grown_of_below {w w' : World} (h : Below w.heap.size w w') (g : Nat) : w.grownBy w' (some g) := ⟨h.os, h.tape, h.output, h.size, fun k hk _ => h.block k hk⟩
theorem grown_drew {w w' : World} {g : Nat} (h : w.grownBy w' (some g)) : w.grownBy w'.drew (some g) := ⟨h.os, h.tape, h.output, h.size, h.block⟩
theorem grown_set {w w' : World} {g : Nat} (h : w.grownBy w' (some g)) (k : Nat) (v : Value) : w.grownBy (w'.setCell ⟨g, k, none⟩ v) (some g) :=
  ⟨h.os, h.tape, h.output, by simpa [World.setCell] using h.size, fun i hi hne => (Below.heap_setCell w' ⟨g, k, none⟩ v i (by
    intro e; exact hne (by rw [e]))).trans (h.block i hi hne)⟩
def nextV (m : Win) (r : Int) : Value := .tuple #[.int .u32 (if roomW m r then (m.sent : Int) + 1 else 0), .int .i64 (if roomW m r then 0 else 6)]
theorem next_any (g : Nat) (m : Win) (r : Int) (hr : r ≤ 9223372036854775807) (w : World) (hT : TabOk w) (hw : WinAt w g m) (wf : m.Wf) (hs : m.sent + 1 < 4294967296) :
    Calls Tryd.prog 16 #[.pointer (some ⟨g, 0, none⟩), .int .i64 r] w fun e w' =>
      e = .returned (nextV m r) ∧ WinAt w' g (nextW m r) ∧ w.grownBy w' (some g) := by
  have H := Lib.hid (room_any g m r hr w hT hw wf)
  have HW := Lib.hid hw
  have hs' : (m.sent : Int) + 1 < 4294967296 := by omega
  clear hT hw hr hs
  cases hroom : roomW m r
  · rw [hroom] at H
    have HR := Lib.hid hroom
    clear hroom
    go_enter Tryd.func16, Tryd.ntmps16
    go_wp2_with (go_at_call 14; refine H.out.mono ?_; rintro e w1 ⟨rfl, hb⟩)
    go_ret2
    refine ⟨by unfold nextV; rw [HR.out]; rfl, ?_, grown_of_below hb g⟩
    unfold nextW
    rw [HR.out]
    exact HW.out.below hb
  · rw [hroom] at H
    have HR := Lib.hid hroom
    clear hroom
    go_enter Tryd.func16, Tryd.ntmps16
    go_wp2_with (go_at_call 14; refine H.out.mono ?_; rintro e w1 ⟨rfl, hb⟩; have h3 := (HW.out.below hb).c3; have f3 := (HW.out.below hb).nf 3)
    go_ret2
    refine ⟨by unfold nextV; rw [HR.out]; rfl, ?_, grown_set (grown_of_below hb g) _ _⟩
    unfold nextW
    rw [HR.out]
    exact (HW.out.below hb).set fun cs hc => hc.next
/-- One got so many. -/
def Win.gets (m : Win) (p : Int) (n : Nat) : Win := { m with got := fun i => if (i : Int) = p then max (m.got i) (min n m.sent) else m.got i }
def gotW (m : Win) (p : Int) (n : Nat) : Win := if hasN m.others p then m.gets p n else m
theorem WinCells.gets {cs : Array Value} {m : Win} (h : WinCells cs m) {q : Nat} (hq : q < 64) (n : Nat) : WinCells (cs.setIfInBounds (4 + q) (.int .u32 (max (m.got q) (min n m.sent) : Nat))) (m.gets q n) :=
  ⟨by simp [h.n], by rw [Array.getElem?_setIfInBounds_ne (by omega)]; exact h.me, by rw [Array.getElem?_setIfInBounds_ne (by omega)]; exact h.size, by rw [Array.getElem?_setIfInBounds_ne (by omega)]; exact h.others,
   by rw [Array.getElem?_setIfInBounds_ne (by omega)]; exact h.sent, fun i hi => by
    by_cases e : i = q
    · subst e
      have hn := h.n
      rw [Array.getElem?_setIfInBounds_self_of_lt (by omega)]
      simp [Win.gets]
    · rw [Array.getElem?_setIfInBounds_ne (by omega), h.got i hi]
      have : ¬ (i : Int) = (q : Int) := by omega
      simp [Win.gets, this]⟩
theorem got_fin {w : World} {g : Nat} {m : Win} {q n v : Nat} (h : WinAt w g m) (hh : hasN m.others (q : Int) = true) (hq : q < 64) (hv : v = max (m.got q) (min n m.sent)) :
    WinAt (w.setCell ⟨g, 4 + q, none⟩ (.int .u32 v)) g (gotW m q n) := by
  subst hv
  unfold gotW
  rw [hh]
  exact h.set fun cs hc => hc.gets hq n
theorem got_any (g : Nat) (m : Win) (p : Int) (n : Nat) (w : World) (hw : WinAt w g m) (wf : m.Wf) :
    Calls Tryd.prog 18 #[.pointer (some ⟨g, 0, none⟩), .int .i64 p, .int .u32 n] w fun e w' =>
      e = .returned (.tuple #[]) ∧ WinAt w' g (gotW m p n) ∧ w.grownBy w' (some g) := by
  have H := Lib.hid (has_any m.others p wf.others w)
  have HW := Lib.hid hw
  have h2 := hw.c2
  cases hh : hasN m.others p
  · rw [hh] at H
    have HR := Lib.hid hh
    clear hh hw
    go_enter Tryd.func18, Tryd.ntmps18
    go_wp2_with (go_at_call 47; refine H.out.mono ?_; rintro e w' ⟨rfl, rfl⟩)
    go_end0
    refine ⟨rfl, ?_, grown_of_below (Below.refl _ _) g⟩
    unfold gotW
    rw [HR.out]
    exact HW.out
  · rw [hh] at H
    obtain ⟨hp0, hp1⟩ := hasN_range hh
    obtain ⟨q, rfl⟩ := Int.eq_ofNat_of_zero_le hp0
    have h3 := hw.c3
    have hq : q < 64 := by omega
    have h4 := hw.c4 q hq
    have f4 := hw.nf (4 + q)
    have HR := Lib.hid hh
    clear hh hw
    go_enter Tryd.func18, Tryd.ntmps18
    go_wp2_with (go_at_call 47; refine H.out.mono ?_; rintro e w' ⟨rfl, rfl⟩)
    go_region
    all_goals go_wp2
    all_goals go_end0
    all_goals exact ⟨rfl, got_fin HW.out HR.out hq (by omega), grown_drew (grown_set (grown_of_below (Below.refl _ _) g) _ _)⟩
/-- How many one got. -/
def ofW (m : Win) (p : Int) : Nat := if hasN m.others p then m.got p.toNat else if p = m.me then m.sent else 0
theorem of_any (g : Nat) (m : Win) (p : Int) (w : World) (hw : WinAt w g m) (wf : m.Wf) :
    Calls Tryd.prog 25 #[.pointer (some ⟨g, 0, none⟩), .int .i64 p] w fun e w' => e = .returned (.int .u32 (ofW m p)) ∧ w = w' := by
  have H := Lib.hid (has_any m.others p wf.others w)
  have h2 := hw.c2
  cases hh : hasN m.others p
  · rw [hh] at H
    have h0 := hw.c0
    have h3 := hw.c3
    by_cases he : p = m.me
    · have E := Lib.hid (show ofW m p = m.sent by unfold ofW; rw [hh, if_neg (by simp), if_pos he])
      have he' : (p == m.me) = true := beq_iff_eq.2 he
      clear hh hw he
      go_enter Tryd.func25, Tryd.ntmps25
      go_wp2_with (go_at_call 47; refine H.out.mono ?_; rintro e w' ⟨rfl, rfl⟩)
      go_ret
      exact ⟨by rw [E.out]; rfl, rfl⟩
    · have E := Lib.hid (show ofW m p = 0 by unfold ofW; rw [hh, if_neg (by simp), if_neg he])
      have he' : (p == m.me) = false := beq_eq_false_iff_ne.2 he
      clear hh hw he
      go_enter Tryd.func25, Tryd.ntmps25
      go_wp2_with (go_at_call 47; refine H.out.mono ?_; rintro e w' ⟨rfl, rfl⟩)
      go_ret
      exact ⟨by rw [E.out]; rfl, rfl⟩
  · rw [hh] at H
    obtain ⟨hp0, hp1⟩ := hasN_range hh
    obtain ⟨q, rfl⟩ := Int.eq_ofNat_of_zero_le hp0
    have hq : q < 64 := by omega
    have h4 := hw.c4 q hq
    have E := Lib.hid (show ofW m q = m.got q by unfold ofW; rw [hh, if_pos rfl, Int.toNat_natCast])
    clear hh hw
    go_enter Tryd.func25, Tryd.ntmps25
    go_wp2_with (go_at_call 47; refine H.out.mono ?_; rintro e w' ⟨rfl, rfl⟩)
    go_ret
    exact ⟨by rw [E.out]; rfl, rfl⟩
theorem sent_any (g : Nat) (m : Win) (w : World) (hw : WinAt w g m) :
    Calls Tryd.prog 20 #[.pointer (some ⟨g, 0, none⟩)] w fun e w' => e = .returned (.int .u32 m.sent) ∧ w = w' := by
  have h3 := hw.c3
  clear hw
  go_enter Tryd.func20, Tryd.ntmps20
  go_wp2
  go_ret
  exact ⟨rfl, rfl⟩
/-- Who lacks some. -/
def lagL (m : Win) (l : List Nat) : Nat := l.foldl (fun s p => if m.got p < m.sent then s ||| bitN p else s) 0
def lagW (m : Win) : Nat := lagL m (listN m.others)
theorem lagL_snoc (m : Win) (l : List Nat) (p : Nat) : lagL m (l ++ [p]) = if m.got p < m.sent then lagL m l ||| bitN p else lagL m l := by simp [lagL]
theorem lagL_lt (m : Win) (l : List Nat) : lagL m l < 18446744073709551616 := by
  unfold lagL
  suffices h : ∀ (l : List Nat) (s : Nat), s < 18446744073709551616 → l.foldl (fun s p => if m.got p < m.sent then s ||| bitN p else s) s < 18446744073709551616 from h l 0 (by decide)
  intro l
  induction l with
  | nil => exact fun s h => h
  | cons p l ih =>
    intro s h
    refine ih _ ?_
    show (if m.got p < m.sent then s ||| bitN p else s) < _
    split
    · exact or_lt64 h (bitN_lt _)
    · exact h
theorem lag_any (g : Nat) (m : Win) (w : World) (hT : TabOk w) (hw : WinAt w g m) (wf : m.Wf) :
    Calls Tryd.prog 23 #[.pointer (some ⟨g, 0, none⟩)] w fun e w' => e = .returned (.int .u64 (lagW m)) ∧ Below w.heap.size w w' := by
  have h2 := hw.c2
  have H := Lib.hid (list_any m.others wf.others w hT)
  have HW := Lib.hid hw
  clear hT hw
  go_enter Tryd.func23, Tryd.ntmps23
  go_wp2_with (go_at_call 49; refine H.out.mono ?_; rintro e w1 ⟨v, rfl, hown, hb⟩; obtain ⟨a, c, gl, rfl, ha, hcl⟩ := hown.form)
  have HB := Lib.hid hb
  have HCL := Lib.hid hcl
  clear hb h2 hcl
  have hl := listN_length m.others
  go_loopw [3, 5, 12] (fun t _ i wr => ∃ k : Nat, k ≤ (listN m.others).length ∧ i = .int .i64 k ∧ t = .int .u64 (lagL m ((listN m.others).take k)) ∧ Below w1.heap.size w1 wr) (fun _ _ i _ => (listN m.others).length - (intOf i).toNat)
  case atStart => exact ⟨0, Nat.zero_le _, rfl, rfl, Below.refl _ _⟩
  case round =>
    obtain ⟨k, hk, rfl, rfl, hbr⟩ := hrel
    have HBR := Lib.hid hbr
    by_cases hlt : k < (listN m.others).length
    · obtain ⟨q, hq, hq64, hst⟩ := list_at m.others k hlt
      have hcell := HCL.out k hlt
      obtain rfl := ha (by omega)
      rw [hq] at hcell
      rw [← HBR.out.cell (p := ⟨gl, k, none⟩) (World.block_lt_of_cell? _ _ hcell)] at hcell
      have hwr := (HW.out.below HB.out).below HBR.out
      have hgot := hwr.c4 q hq64
      have hsent := hwr.c3
      have hq64' : (q : Int) < 64 := by omega
      have HS := Lib.hid hst
      clear hq hst hown hwr hbr
      by_cases hg : m.got q < m.sent
      · have HG := Lib.hid (show lagL m ((listN m.others).take (k + 1)) = lagL m ((listN m.others).take k) ||| bitN q by rw [HS.out, lagL_snoc, if_pos hg])
        have hg' : decide ((m.got q : Int) < (m.sent : Int)) = true := decide_eq_true (by omega)
        go_wp2
        go_quiet (fail)
        go_wp2_with (go_at_call 50; refine (with_one _ _ _ _ (lagL_lt _ _) _ (cell_new _ _ _)).mono ?_; rintro e w' ⟨rfl, rfl⟩)
        go_roundw
        case rel => exact ⟨k + 1, by omega, by go_num, by rw [HG.out], ((HBR.out.trans (below_drewN (Below.refl _ _) _)).alloc (by simp; exact HBR.out.size) _)⟩
        case measure => simp [intOf]; omega
      · have HG := Lib.hid (show lagL m ((listN m.others).take (k + 1)) = lagL m ((listN m.others).take k) by rw [HS.out, lagL_snoc, if_neg hg])
        have hg' : decide ((m.got q : Int) < (m.sent : Int)) = false := decide_eq_false (by omega)
        go_wp2
        go_quiet (fail)
        go_wp2
        go_roundw
        case rel => exact ⟨k + 1, by omega, by go_num, by rw [HG.out], HBR.out.trans (below_drewN (Below.refl _ _) _)⟩
        case measure => simp [intOf]; omega
    · go_wp2
      go_ret
      exact ⟨by rw [List.take_of_length_le (by omega)]; rfl, bthen' HB.out HBR.out⟩
end Go.Proofs.YtjokfjdbioeohaaDoor

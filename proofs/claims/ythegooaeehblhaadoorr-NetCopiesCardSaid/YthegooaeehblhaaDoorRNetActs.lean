/-
  Package net: a row of calls (a script) in memory; Few; act.
-/
import Derived.Test.YthegooaeehblhaaDoorRNetA
namespace Go.Proofs.YthegooaeehblhaaDoorR
open Go.RowKit Go.BigFrame
set_option maxHeartbeats 1000000
set_option maxRecDepth 100000
/-- A call. -/
structure NAct where
  kind : Int
  d : Dg
  i : Int
  at_ : Int
  m : UInt8
  s : Nat
def NAct.vals (x : NAct) : List Value := [.int .i64 x.kind] ++ x.d.vals ++ [.int .i64 x.i, .int .i64 x.at_, .int .u8 x.m.toNat, .int .u64 x.s]
def NAct.zero : NAct := ⟨0, Dg.zero, 0, 0, 0, 0⟩
theorem NAct.len (x : NAct) : x.vals.length = 9 := rfl
theorem NAct.oneL (x : NAct) : ∀ v ∈ x.vals.toArray.toList, v.oneCell' = true := by simp [NAct.vals, Dg.vals, str, Value.oneCell']
theorem size_nact : (Tryd.prog.info? 37).map (·.size) = some 9 := by kernel_rfl
theorem zero_nact (w : World) : (zeroValue 37).run Tryd.prog w = .ok (.agg NAct.zero.vals.toArray) w := by kernel_rfl
/-- A script in memory. -/
structure NActsAt (w : World) (v : Value) (l : List NAct) (a : Option Addr) (c b o : Nat) : Prop where
  v : v = .slice a l.length c
  a : 0 < l.length → a = some ⟨b, o, none⟩ ∧ b < w.heap.size
  x : ∀ i (h : i < l.length), w.rangeAt b (o + i * 9) l[i].vals
  ok : ∀ x ∈ l, x.s < 18446744073709551616 ∧ x.d.data.length ≤ 9223372036854775807
section
variable {w w' : World} {B : Nat} {x : NAct}
theorem NActsAt.below {v : Value} {l : List NAct} {a : Option Addr} {c b o : Nat} (h : NActsAt w v l a c b o) {n : Nat} (hn : n = w.heap.size) (hb : Below n w w') : NActsAt w' v l a c b o := by
  subst hn
  exact ⟨h.v, fun h0 => ⟨(h.a h0).1, Nat.lt_of_lt_of_le (h.a h0).2 hb.size⟩, fun i hi j v hv => (hb.cell (p := ⟨b, o + i * 9 + j, none⟩) (h.a (by omega)).2).trans (h.x i hi j v hv), h.ok⟩
theorem NActsAt.cell {v : Value} {l : List NAct} {a : Option Addr} {c b o : Nat} (h : NActsAt w v l a c b o) {k : Nat} (hk : k < l.length) {x : NAct} (hx : l[k] = x) (j : Nat) {u : Value} (hu : x.vals[j]? = some u) : w.cell? ⟨b, o + k * 9 + j, none⟩ = some u := h.x k hk j u (by rw [hx]; exact hu)
/-- A copy of an act in a block of its own. -/
def BoxN (w : World) (B : Nat) (x : NAct) : Prop := w.heap[B]? = some (.cells x.vals.toArray 37 (0, 0))
theorem BoxN.lt (h : BoxN w B x) : B < w.heap.size := (Array.getElem?_eq_some_iff.1 h).1
theorem BoxN.c (h : BoxN w B x) (j : Nat) {u : Value} (hu : x.vals[j]? = some u) : w.cell? ⟨B, j, none⟩ = some u := by rw [cell_of_row w B j _ _ _ h, List.getElem?_toArray]; exact hu
theorem BoxN.rd (h : BoxN w B x) : w.rangeAt B 1 x.d.vals := by
  intro j v hv
  have hj : j < 4 := (List.getElem?_eq_some_iff.1 hv).1
  refine h.c (1 + j) ?_
  match j, hj with
  | 0, _ => exact hv
  | 1, _ => exact hv
  | 2, _ => exact hv
  | 3, _ => exact hv
theorem BoxN.below (h : BoxN w B x) (hb : Below w.heap.size w w') : BoxN w' B x := bblock hb h
end
/-! ### act -/
def actN (t : Nt) (x : NAct) : Nt :=
  if x.kind = 0 then sendN t x.d else if x.kind = 1 then dropN t x.i else if x.kind = 2 then dropN t x.i else if x.kind = 3 then dblN t x.i else if x.kind = 4 then turnN t x.i x.at_ x.m else if x.kind = 5 then cutN t x.s else if x.kind = 6 then healN t else t
theorem act_any {w0 w : World} {g : Nat} {t : Nt} (h : Nk w0 w g t) (x : NAct) (hs : x.s < 18446744073709551616) (hd : x.d.data.length ≤ 9223372036854775807) :
    Calls Tryd.prog 15 #[.pointer (some ⟨g, 0, none⟩), .agg x.vals.toArray] w fun e w' => e = .returned (.tuple #[]) ∧ Nk w0 w' g (actN t x) := by
  obtain ⟨X, hX⟩ : ∃ X, w.heap.size = X := ⟨_, rfl⟩
  obtain ⟨W, hW⟩ : ∃ W : World, w.alloc (.cells x.vals.toArray 37) = W := ⟨_, rfl⟩
  have hu : Hid ((Tryd.prog.info? 35).map (·.size) = some (4 : Nat)) := Lib.hid size_dg
  have L := Lib.hid (h.below (show Below w.heap.size w W by rw [← hW]; exact bel_box _ _ _))
  have BX : BoxN W X x := by rw [← hW, ← hX]; exact heap_alloc_new w _
  have c0 := BX.c 0 (u := .int .i64 x.kind) rfl
  have c5 := BX.c 5 (u := .int .i64 x.i) rfl
  have c6 := BX.c 6 (u := .int .i64 x.at_) rfl
  have c7 := BX.c 7 (u := .int .u8 x.m.toNat) rfl
  have c8 := BX.c 8 (u := .int .u64 x.s) rfl
  have RD := Lib.hid BX.rd
  have HD := Lib.hid hd
  have HSS := Lib.hid hs
  clear BX h hd hs
  by_cases k0 : x.kind = 0
  · have b0 : (x.kind == 0) = true := beq_iff_eq.2 k0
    have E := Lib.hid (show actN t x = sendN t x.d by unfold actN; rw [if_pos k0])
    clear k0
    go_enter Tryd.func15, Tryd.ntmps15
    go_wp2_with (guard_target = wpList _ _ _ (Oper.mk _ (Op.load _ _) _ _ _ none :: _) _ _; refine wpList_load_mid rfl 35 _ rfl X 1 (by rfl) x.d.vals _ RD.out Tryd.underlying35 rfl hu.out ?_; simp only [Act.put, List.setIfInBounds_toArray, List.set_cons_zero, List.set_cons_succ])
    refine (L.out.send x.d HD.out).mono ?_
    rintro e w1 ⟨rfl, hL⟩
    have L1 := Lib.hid hL
    clear hL
    go_wp2_with fail
    go_end0
    exact ⟨rfl, by rw [E.out]; exact L1.out⟩
  have b0 : (x.kind == 0) = false := beq_eq_false_iff_ne.2 k0
  by_cases k1 : x.kind = 1
  · have b1 : (x.kind == 1) = true := beq_iff_eq.2 k1
    have E := Lib.hid (show actN t x = dropN t x.i by unfold actN; rw [if_neg k0, if_pos k1])
    clear k0 k1
    go_enter Tryd.func15, Tryd.ntmps15
    go_wp2_with (guard_target = wpList _ _ _ (Oper.mk _ (Op.load _ _) _ _ _ none :: _) _ _; refine wpList_load_mid rfl 35 _ rfl X 1 (by rfl) x.d.vals _ RD.out Tryd.underlying35 rfl hu.out ?_; simp only [Act.put, List.setIfInBounds_toArray, List.set_cons_zero, List.set_cons_succ])
    refine (L.out.take x.i).mono ?_
    rintro e w1 ⟨rfl, hL⟩
    have L1 := Lib.hid hL
    clear hL
    go_wp2_with fail
    go_end0
    exact ⟨rfl, by rw [E.out]; exact L1.out⟩
  have b1 : (x.kind == 1) = false := beq_eq_false_iff_ne.2 k1
  by_cases k2 : x.kind = 2
  · have b2 : (x.kind == 2) = true := beq_iff_eq.2 k2
    have E := Lib.hid (show actN t x = dropN t x.i by unfold actN; rw [if_neg k0, if_neg k1, if_pos k2])
    clear k0 k1 k2
    go_enter Tryd.func15, Tryd.ntmps15
    go_wp2_with (guard_target = wpList _ _ _ (Oper.mk _ (Op.load _ _) _ _ _ none :: _) _ _; refine wpList_load_mid rfl 35 _ rfl X 1 (by rfl) x.d.vals _ RD.out Tryd.underlying35 rfl hu.out ?_; simp only [Act.put, List.setIfInBounds_toArray, List.set_cons_zero, List.set_cons_succ])
    refine (L.out.drop x.i).mono ?_
    rintro e w1 ⟨rfl, hL⟩
    have L1 := Lib.hid hL
    clear hL
    go_wp2_with fail
    go_end0
    exact ⟨rfl, by rw [E.out]; exact L1.out⟩
  have b2 : (x.kind == 2) = false := beq_eq_false_iff_ne.2 k2
  by_cases k3 : x.kind = 3
  · have b3 : (x.kind == 3) = true := beq_iff_eq.2 k3
    have E := Lib.hid (show actN t x = dblN t x.i by unfold actN; rw [if_neg k0, if_neg k1, if_neg k2, if_pos k3])
    clear k0 k1 k2 k3
    go_enter Tryd.func15, Tryd.ntmps15
    go_wp2_with (guard_target = wpList _ _ _ (Oper.mk _ (Op.load _ _) _ _ _ none :: _) _ _; refine wpList_load_mid rfl 35 _ rfl X 1 (by rfl) x.d.vals _ RD.out Tryd.underlying35 rfl hu.out ?_; simp only [Act.put, List.setIfInBounds_toArray, List.set_cons_zero, List.set_cons_succ])
    refine (L.out.double x.i).mono ?_
    rintro e w1 ⟨rfl, hL⟩
    have L1 := Lib.hid hL
    clear hL
    go_wp2_with fail
    go_end0
    exact ⟨rfl, by rw [E.out]; exact L1.out⟩
  have b3 : (x.kind == 3) = false := beq_eq_false_iff_ne.2 k3
  by_cases k4 : x.kind = 4
  · have b4 : (x.kind == 4) = true := beq_iff_eq.2 k4
    have E := Lib.hid (show actN t x = turnN t x.i x.at_ x.m by unfold actN; rw [if_neg k0, if_neg k1, if_neg k2, if_neg k3, if_pos k4])
    clear k0 k1 k2 k3 k4
    go_enter Tryd.func15, Tryd.ntmps15
    go_wp2_with (guard_target = wpList _ _ _ (Oper.mk _ (Op.load _ _) _ _ _ none :: _) _ _; refine wpList_load_mid rfl 35 _ rfl X 1 (by rfl) x.d.vals _ RD.out Tryd.underlying35 rfl hu.out ?_; simp only [Act.put, List.setIfInBounds_toArray, List.set_cons_zero, List.set_cons_succ])
    refine (L.out.turn x.i x.at_ x.m).mono ?_
    rintro e w1 ⟨rfl, hL⟩
    have L1 := Lib.hid hL
    clear hL
    go_wp2_with fail
    go_end0
    exact ⟨rfl, by rw [E.out]; exact L1.out⟩
  have b4 : (x.kind == 4) = false := beq_eq_false_iff_ne.2 k4
  by_cases k5 : x.kind = 5
  · have b5 : (x.kind == 5) = true := beq_iff_eq.2 k5
    have E := Lib.hid (show actN t x = cutN t x.s by unfold actN; rw [if_neg k0, if_neg k1, if_neg k2, if_neg k3, if_neg k4, if_pos k5])
    clear k0 k1 k2 k3 k4 k5
    go_enter Tryd.func15, Tryd.ntmps15
    go_wp2_with (guard_target = wpList _ _ _ (Oper.mk _ (Op.load _ _) _ _ _ none :: _) _ _; refine wpList_load_mid rfl 35 _ rfl X 1 (by rfl) x.d.vals _ RD.out Tryd.underlying35 rfl hu.out ?_; simp only [Act.put, List.setIfInBounds_toArray, List.set_cons_zero, List.set_cons_succ])
    refine (L.out.cut x.s HSS.out).mono ?_
    rintro e w1 ⟨rfl, hL⟩
    have L1 := Lib.hid hL
    clear hL
    go_wp2_with fail
    go_end0
    exact ⟨rfl, by rw [E.out]; exact L1.out⟩
  have b5 : (x.kind == 5) = false := beq_eq_false_iff_ne.2 k5
  by_cases k6 : x.kind = 6
  · have b6 : (x.kind == 6) = true := beq_iff_eq.2 k6
    have E := Lib.hid (show actN t x = healN t by unfold actN; rw [if_neg k0, if_neg k1, if_neg k2, if_neg k3, if_neg k4, if_neg k5, if_pos k6])
    clear k0 k1 k2 k3 k4 k5 k6
    go_enter Tryd.func15, Tryd.ntmps15
    go_wp2_with (guard_target = wpList _ _ _ (Oper.mk _ (Op.load _ _) _ _ _ none :: _) _ _; refine wpList_load_mid rfl 35 _ rfl X 1 (by rfl) x.d.vals _ RD.out Tryd.underlying35 rfl hu.out ?_; simp only [Act.put, List.setIfInBounds_toArray, List.set_cons_zero, List.set_cons_succ])
    refine (L.out.heal).mono ?_
    rintro e w1 ⟨rfl, hL⟩
    have L1 := Lib.hid hL
    clear hL
    go_wp2_with fail
    go_end0
    exact ⟨rfl, by rw [E.out]; exact L1.out⟩
  have b6 : (x.kind == 6) = false := beq_eq_false_iff_ne.2 k6
  have E := Lib.hid (show actN t x = t by unfold actN; rw [if_neg k0, if_neg k1, if_neg k2, if_neg k3, if_neg k4, if_neg k5, if_neg k6])
  clear k0 k1 k2 k3 k4 k5 k6
  go_enter Tryd.func15, Tryd.ntmps15
  go_wp2
  go_end0
  exact ⟨rfl, by rw [E.out]; exact L.out⟩
theorem actN_wf {t : Nt} (h : t.Wf) (x : NAct) (hd : x.d.data.length ≤ 9223372036854775807) : (actN t x).Wf := by
  unfold actN
  split
  · exact h.sendN hd
  split
  · exact h.drop _
  split
  · exact h.drop _
  split
  · exact h.dblN _
  split
  · exact h.turnN _ _ _
  split
  · exact h.cut _
  split
  · exact h.heal
  · exact h
/-! ### Few -/
def FewPost (l : List NAct) (w : World) (e : Ending) (w' : World) : Prop := ∃ r, e = .returned (.bool r) ∧ w = w' ∧ (r = true → l.length ≤ 400)
theorem few_any (l : List NAct) (v : Value) (a : Option Addr) (c b o : Nat) (w : World) (hA : NActsAt w v l a c b o) :
    Calls Tryd.prog 14 #[v] w (FewPost l w) := by
  obtain rfl := hA.v
  have HS := Lib.hid hA
  clear hA
  go_enter Tryd.func14, Tryd.ntmps14
  go_wp2_with fail
  go_loopw [3, 4] (fun nv i wr => ∃ (k : Nat) (m : Nat), k ≤ l.length ∧ k ≤ 400 ∧ m ≤ 50000 ∧ i = .int .i64 k ∧ nv = .int .i64 m ∧ wr = w) (fun _ i _ => l.length - (intOf i).toNat)
  case atStart => exact ⟨0, 0, Nat.zero_le _, by decide, by decide, rfl, rfl, rfl⟩
  case round =>
    obtain ⟨k, m, hk, hk4, hm, rfl, rfl, rfl⟩ := hrel
    by_cases hlt : k < l.length
    · have hkl' : (k : Int) < (l.length : Int) := by omega
      obtain ⟨rfl, _⟩ := HS.out.a (by omega)
      obtain ⟨x, hx⟩ : ∃ x, l[k] = x := ⟨_, rfl⟩
      have c3 : wr.cell? ⟨b, o + k * 9 + 3, none⟩ = some (.string ⟨x.d.data.toArray⟩) := HS.out.cell hlt hx 3 rfl
      have hd : (⟨x.d.data.toArray⟩ : ByteArray).size ≤ 9223372036854775807 := by
        have h := (HS.out.ok _ (List.getElem_mem hlt)).2
        rw [hx] at h
        have e : (⟨x.d.data.toArray⟩ : ByteArray).size = x.d.data.length := by simp [ByteArray.size]
        rw [e]; exact h
      clear hx
      generalize (⟨x.d.data.toArray⟩ : ByteArray) = sb at c3 hd
      have hd' : (sb.size : Int) ≤ 9223372036854775807 := by omega
      clear hd
      by_cases hbig : 50000 < sb.size
      · have hbig' : (50000 : Int) < (sb.size : Int) := by omega
        by_cases h4 : 400 ≤ k
        · obtain rfl : k = 400 := by omega
          go_wp2
          go_ret
          exact ⟨false, rfl, rfl, fun h => by cases h⟩
        have h4' : (k : Int) < 400 := by omega
        by_cases h5 : 50000 < m + 50000
        · have h5' : (50000 : Int) < (m : Int) + 50000 := by omega
          go_wp2
          go_ret
          exact ⟨false, rfl, rfl, fun h => by cases h⟩
        obtain rfl : m = 0 := by omega
        clear h5 hm
        go_wp2
        exact ⟨⟨k + 1, 50000, by omega, by omega, by decide, by go_num, by rfl, by trivial⟩, by simp [intOf]; omega⟩
      · have hbig' : (sb.size : Int) ≤ 50000 := by omega
        by_cases h4 : 400 ≤ k
        · obtain rfl : k = 400 := by omega
          go_wp2
          go_ret
          exact ⟨false, rfl, rfl, fun h => by cases h⟩
        have h4' : (k : Int) < 400 := by omega
        by_cases h5 : 50000 < m + sb.size
        · have h5' : (50000 : Int) < (m : Int) + (sb.size : Int) := by omega
          go_wp2
          go_ret
          exact ⟨false, rfl, rfl, fun h => by cases h⟩
        have h5' : (m : Int) + (sb.size : Int) ≤ 50000 := by omega
        obtain ⟨n2, hn2⟩ : ∃ n2, m + sb.size = n2 := ⟨_, rfl⟩
        have hn3 : (m : Int) + (sb.size : Int) = (n2 : Int) := by omega
        have hn4 : n2 ≤ 50000 := by omega
        clear hn2
        go_wp2
        exact ⟨⟨k + 1, n2, by omega, by omega, hn4, by go_num, by first | (rw [hn3]) | rfl, by trivial⟩, by simp [intOf]; omega⟩
    · obtain rfl : k = l.length := by omega
      go_wp2
      go_ret
      exact ⟨true, rfl, rfl, fun _ => hk4⟩
end Go.Proofs.YthegooaeehblhaaDoorR

/-
  Package net: Turn.
-/
import Derived.Test.YthegooaeehblhaaDoorRNetD
import Derived.Laws.IdiomStrings
import Derived.Laws.Bits64
namespace Go.Proofs.YthegooaeehblhaaDoorR
open Go.RowKit Go.BigFrame
set_option maxHeartbeats 1000000
set_option maxRecDepth 100000
theorem bits_xor_u8 (a b : UInt8) : bits .xor .u8 (a.toNat : Int) (b.toNat : Int) = ((a ^^^ b).toNat : Int) := by
  have hx : a.toNat ^^^ b.toNat < 2 ^ 8 := Nat.xor_lt_two_pow a.toNat_lt b.toNat_lt
  have h1 : (BitVec.ofInt 8 (a.toNat : Int)).toNat = a.toNat := by
    rw [BitVec.ofInt_natCast, BitVec.toNat_ofNat]; exact Nat.mod_eq_of_lt a.toNat_lt
  have h2 : (BitVec.ofInt 8 (b.toNat : Int)).toNat = b.toNat := by
    rw [BitVec.ofInt_natCast, BitVec.toNat_ofNat]; exact Nat.mod_eq_of_lt b.toNat_lt
  have hw : ∀ n : Int, IntKind.u8.wrap n = n % 256 := fun n => by simp [IntKind.wrap, IntKind.bits, IntKind.signed]
  show IntKind.u8.wrap ((BitVec.ofInt 8 (a.toNat : Int) ^^^ BitVec.ofInt 8 (b.toNat : Int)).toNat : Int) = _
  rw [BitVec.toNat_xor, h1, h2, hw, UInt8.toNat_xor]
  omega
def turnK (at_ : Int) (n : Nat) : Nat := (at_ % 18446744073709551616).toNat % n
def turnD (d : Dg) (at_ : Int) (m : UInt8) : Dg := { d with data := d.data.set (turnK at_ d.data.length) (d.data.getD (turnK at_ d.data.length) 0 ^^^ m), torn := true }
def turnB (t : Nt) (i : Int) (m : UInt8) : Bool := thereN t i && !(t.l.getD i.toNat Dg.zero).torn && !(t.l.getD i.toNat Dg.zero).data.isEmpty && !(m == 0)
def turnN (t : Nt) (i at_ : Int) (m : UInt8) : Nt := if turnB t i m then { t with l := t.l.set i.toNat (turnD (t.l.getD i.toNat Dg.zero) at_ m) } else t
/-- One cell of the row goes another way. -/
theorem NetAt.dcell {w : World} {B g b : Nat} {t : Nt} (h : NetAt w B g t (some b)) {j k : Nat} {v : Value} (hj : j < t.l.length) (hk : k < 4) (d' : Dg) (hd : d'.vals = (t.l[j]).vals.set k v) : NetAt (w.setCell ⟨b, j * 4 + k, none⟩ v) B g { t with l := t.l.set j d' } (some b) ∧ w.grownBy (w.setCell ⟨b, j * 4 + k, none⟩ v) (some b) := by
  have hne : g ≠ b := fun e => h.gne (by rw [e])
  obtain ⟨u, r1, r2, r3⟩ := h.row
  obtain ⟨cap, rfl⟩ : ∃ cap, u = .slice (some ⟨b, 0, none⟩) t.l.length cap := by
    rcases r2.2 with ⟨rfl, e0⟩ | ⟨b', cap, cur, rfl, _⟩
    · omega
    · have : b' = b := Option.some.inj r3
      subst this
      exact ⟨cap, rfl⟩
  obtain ⟨r4, r5⟩ := r2.stored (j * 4 + k) v
  have hg : (w.setCell ⟨b, j * 4 + k, none⟩ v).heap[g]? = w.heap[g]? := rowOther _ _ _ hne
  have hc : ∀ k', (w.setCell ⟨b, j * 4 + k, none⟩ v).cell? ⟨g, k', none⟩ = w.cell? ⟨g, k', none⟩ := fun k' => World.cell?_of_block (w := w) (a := ⟨g, k', none⟩) hg
  refine ⟨⟨by rw [hg]; exact h.blk, (hc 0).trans h.c0, fun i hi => (hc _).trans (h.k i hi), _, (hc _).trans r1, ?_, r3⟩, r5⟩
  have e : (rowOf Dg.vals t.l).set (j * 4 + k) v = rowOf Dg.vals (t.l.set j d') := by
    apply List.ext_getElem?
    intro q
    by_cases hq : q < t.l.length * 4
    · have h1 : q = q / 4 * 4 + q % 4 := by omega
      have hq4 : q / 4 < t.l.length := by omega
      have hr : (rowOf Dg.vals (t.l.set j d'))[q]? = (Dg.vals ((t.l.set j d')[q / 4]'(by simpa using hq4)))[q % 4]? := by
        conv => lhs; rw [h1]
        exact rowOf_at Dg.len _ _ _ (by simpa using hq4) (by omega)
      have hl : (rowOf Dg.vals t.l)[q]? = (Dg.vals t.l[q / 4])[q % 4]? := by
        conv => lhs; rw [h1]
        exact rowOf_at Dg.len _ _ _ hq4 (by omega)
      rw [hr]
      by_cases hjq : j = q / 4
      · subst hjq
        rw [List.getElem_set_self, hd]
        by_cases hkq : k = q % 4
        · subst hkq
          rw [← h1, List.getElem?_set_self (by rw [rowOf_length Dg.len]; exact hq), List.getElem?_set_self (by rw [Dg.len]; omega)]
        · rw [List.getElem?_set_ne (by omega), hl, List.getElem?_set_ne hkq]
      · rw [List.getElem?_set_ne (by omega), hl, List.getElem_set_ne hjq]
    · rw [List.getElem?_eq_none (by rw [List.length_set, rowOf_length Dg.len]; omega), List.getElem?_eq_none (by rw [rowOf_length Dg.len, List.length_set]; omega)]
  rw [← e]
  show (w.setCell ⟨b, j * 4 + k, none⟩ v).ownsRow B _ 4 _ (t.l.set j d').length _
  rw [List.length_set]
  exact r4
theorem byte_cells {C : Array Value} {l : List UInt8} {k : Nat} (hC : ∀ q, q < l.length → C[q]? = some (.int .u8 ((l.getD q 0).toNat : Int))) (hk : k < l.length) (hkC : k < C.size) (x : UInt8) (q : Nat) (hq : q < l.length) :
    (C.setIfInBounds k (.int .u8 (x.toNat : Int)))[q]? = some (.int .u8 (((l.set k x).getD q 0).toNat : Int)) := by
  by_cases hkq : k = q
  · subst hkq
    rw [Array.getElem?_setIfInBounds_self_of_lt hkC, List.getD_eq_getElem?_getD, List.getElem?_set_self hk]
    rfl
  · rw [Array.getElem?_setIfInBounds_ne hkq, hC q hq, List.getD_eq_getElem?_getD, List.getD_eq_getElem?_getD, List.getElem?_set_ne hkq]
theorem wpVals_conv {P : Program} {ops : Array Oper} {C : (Nat → Bool) → World → Prop} {Q : Act → Prop} {i : Nat} {o : Oper} {rest : List Oper} {a : Act} {u : Value} (src dst : TypeId) (x : Operand) (ho : o.op = .convert src dst x) (hw : Region.wanted o (yielded ops a.tmps) = true) (hm : ∀ L w, C L w → L i = false → C (addL L i) w) (vx : Value) (hx : a.eval x = vx)
    (hr : ∀ L w, C L w → (convert src dst vx).run P w = .ok u w) (h : wpVals P ops C Q (i + 1) rest (a.put o.dst u)) : wpVals P ops C Q i (o :: rest) a :=
  wpVals_step hw (fun L w hC hL _ => by
    have : (execOp a.eval o).run P w = .ok (.value u) w := by
      unfold execOp
      simp only [ho, hx, Sem.run_bind, hr L w hC, Result.andThen_ok, Sem.run_pure]
    rw [this]; exact ⟨rfl, hm L w hC hL⟩) h
def mixD (d d' : Dg) (a b : Bool) : Dg := ⟨d.frm, d.to_, if a then d'.data else d.data, if b then true else d.torn⟩
/-- Turn's statement t.l[i].Data, t.l[i].Torn = .., whatever its order. -/
structure TurnC (W : World) (B g b j : Nat) (t : Nt) (d d' : Dg) (L : Nat → Bool) (w : World) : Prop where
  net : NetAt w B g { t with l := t.l.set j (mixD d d' (L 14) (L 17)) } (some b)
  gr : W.grownBy w (some b)
section
variable {W : World} {B g b j : Nat} {t : Nt} {d d' : Dg}
theorem TurnC.first (h : NetAt W B g t (some b)) (hj : j < t.l.length) (hd : t.l[j] = d) (k : Nat) : TurnC W B g b j t d d' (fun _ => false) { W with drawn := k } := by
  refine ⟨?_, ⟨rfl, rfl, rfl, Nat.le_refl _, fun _ _ _ => rfl⟩⟩
  have e : mixD d d' false false = d := rfl
  have e2 : t.l.set j (mixD d d' false false) = t.l := by rw [e, ← hd, List.set_getElem_self]
  rw [e2]
  exact h.same (Nat.le_refl _) rfl (fun _ _ => rfl)
theorem TurnC.more : ∀ i, (i ≠ 14 ∧ i ≠ 17) → ∀ L w, TurnC W B g b j t d d' L w → L i = false → TurnC W B g b j t d d' (addL L i) w := by
  intro i hi L w h _
  exact ⟨by rw [adL_ne (Ne.symm hi.1), adL_ne (Ne.symm hi.2)]; exact h.net, h.gr⟩
theorem TurnC.s14 (hj : j < t.l.length) {L : Nat → Bool} {w : World} (h : TurnC W B g b j t d d' L w) : TurnC W B g b j t d d' (addL L 14) (w.setCell ⟨b, j * 4 + 2, none⟩ (str d'.data)) := by
  obtain ⟨h1, h2⟩ := h.net.dcell (j := j) (k := 2) (v := str d'.data) (by simpa using hj) (by decide) (mixD d d' true (L 17)) (by simp [mixD, Dg.vals])
  refine ⟨?_, grown_trans h.gr h2⟩
  rw [adL_eq, adL_ne (by decide : (17 : Nat) ≠ 14)]
  simpa using h1
theorem TurnC.s17 (hj : j < t.l.length) {L : Nat → Bool} {w : World} (h : TurnC W B g b j t d d' L w) : TurnC W B g b j t d d' (addL L 17) (w.setCell ⟨b, j * 4 + 3, none⟩ (.bool true)) := by
  obtain ⟨h1, h2⟩ := h.net.dcell (j := j) (k := 3) (v := .bool true) (by simpa using hj) (by decide) (mixD d d' (L 14) true) (by simp [mixD, Dg.vals])
  refine ⟨?_, grown_trans h.gr h2⟩
  rw [adL_eq, adL_ne (by decide : (14 : Nat) ≠ 17)]
  simpa using h1
theorem NetAt.rcell {w : World} {B g b : Nat} {t : Nt} (h : NetAt w B g t (some b)) {j k : Nat} (hj : j < t.l.length) (hk : k < 4) : (∃ c, w.cell? ⟨b, j * 4 + k, none⟩ = some c) ∧ w.frozen? ⟨b, j * 4 + k, none⟩ = false := by
  obtain ⟨u, r1, r2, r3⟩ := h.row
  rcases r2.2 with ⟨rfl, e0⟩ | ⟨b', cap, cur, rfl, hb, hh, hc, hm, hs, ht⟩
  · omega
  · have : b' = b := Option.some.inj r3
    subst this
    refine ⟨?_, by simp [World.frozen?, hh]⟩
    rw [cell_of_row w _ _ _ _ _ hh]
    have : j * 4 + k < cur.size := by
      omega
    exact ⟨cur[j * 4 + k], by simp [this]⟩
end
section
variable {w : World} {B g : Nat} {t : Nt} {rb : Option Nat}
theorem turn_any (h : NetAt w B g t rb) (wf : t.Wf) (i at_ : Int) (m : UInt8) :
    Calls Tryd.prog 22 #[.pointer (some ⟨g, 0, none⟩), .int .i64 i, .int .i64 at_, .int .u8 m.toNat] w (ActPost w B g rb (turnN t i at_ m) (.bool (turnB t i m))) := by
  have hz := zero_dg
  have hu : Hid ((Tryd.prog.info? 35).map (·.size) = some (4 : Nat)) := Lib.hid size_dg
  have HW := Lib.hid h
  have WF := Lib.hid wf
  have HA := Lib.hid (at_any h wf i)
  clear h wf
  cases ht : thereN t i
  · have E := Lib.hid (show atN t i = (Dg.zero, false) by unfold atN; rw [ht]; rfl)
    have E1 := Lib.hid (show turnB t i m = false by unfold turnB; rw [ht]; rfl)
    clear ht
    go_enter Tryd.func22, Tryd.ntmps22
    go_wp2_with fail
    refine HA.out.mono ?_
    rintro e w2 ⟨rfl, hb⟩
    have HB2 := Lib.hid hb
    clear hb
    unfold atV
    rw [E.out]
    go_upto_region 2 with (guard_target = wpList _ _ _ (Oper.mk none (Op.store _ _ _) _ _ _ none :: _) _ _; refine wpList_store_row rfl 35 _ _ rfl w2.heap.size (by rfl) Dg.zero.vals.toArray (by rfl) Dg.zero.vals.toArray 35 (heap_alloc_new _ _) rfl hu.out Dg.zero.oneA ?_; intro w3 hw3 hg3)
    have HB3 := Lib.hid (bthen' HB2.out (bel_new hg3))
    clear hw3 hg3
    go_wp2
    go_ret
    exact ⟨rb, by rw [E1.out]; rfl, by unfold turnN; rw [E1.out]; exact HW.out.below HB3.out, Chg.of_below HB3.out g rb, .inl rfl⟩
  · have ht2 := ht
    unfold thereN at ht2
    simp only [Bool.and_eq_true, decide_eq_true_eq] at ht2
    obtain ⟨j, rfl⟩ := Int.eq_ofNat_of_zero_le ht2.1
    have hj : j < t.l.length := by have := ht2.2; omega
    obtain ⟨d, hd⟩ : ∃ d, t.l.getD j Dg.zero = d := ⟨_, rfl⟩
    have hd2 : t.l[j] = d := by rw [← hd]; simp [hj]
    have E := Lib.hid (show atN t j = (d, true) by unfold atN; rw [ht, Int.toNat_natCast, hd]; rfl)
    have HJ := Lib.hid hj
    have E1 := Lib.hid (show turnB t j m = (!d.torn && !d.data.isEmpty && !(m == 0)) by unfold turnB; rw [ht, Int.toNat_natCast, hd]; rfl)
    have E2 := Lib.hid (show turnB t j m = true → turnN t j at_ m = { t with l := t.l.set j (turnD d at_ m) } from fun h => by unfold turnN; rw [h, Int.toNat_natCast, hd]; rfl)
    have HDL := Lib.hid (show d.data.length ≤ 9223372036854775807 from by rw [← hd2]; exact WF.out.d _ (List.getElem_mem hj))
    have HD := Lib.hid hd2
    clear ht ht2 hd hd2
    go_enter Tryd.func22, Tryd.ntmps22
    go_wp2_with fail
    refine HA.out.mono ?_
    rintro e w2 ⟨rfl, hb⟩
    have HB2 := Lib.hid hb
    clear hb
    unfold atV
    rw [E.out]
    go_upto_region 2 with (guard_target = wpList _ _ _ (Oper.mk none (Op.store _ _ _) _ _ _ none :: _) _ _; refine wpList_store_row rfl 35 _ _ rfl w2.heap.size (by rfl) d.vals.toArray (by rfl) Dg.zero.vals.toArray 35 (heap_alloc_new _ _) rfl hu.out d.oneA ?_; intro w3 hw3 hg3)
    have HB3 := Lib.hid (bthen' HB2.out (bel_new hg3))
    have Y3 := Lib.hid hw3
    have y2 : w3.cell? ⟨w2.heap.size, 2, none⟩ = some (.string ⟨d.data.toArray⟩) := by rw [cell_of_row w3 _ 2 _ _ _ hw3]; rfl
    have y3 : w3.cell? ⟨w2.heap.size, 3, none⟩ = some (.bool d.torn) := by rw [cell_of_row w3 _ 3 _ _ _ hw3]; rfl
    clear hw3 hg3
    obtain ⟨Y, hY⟩ : ∃ Y, w2.heap.size = Y := ⟨_, rfl⟩
    rw [hY] at Y3 y2 y3 ⊢
    clear hY
    cases htn : d.torn
    · rw [htn] at E1 y3
      clear htn
      cases hdt : d.data with
      | nil =>
        rw [hdt] at E1 y2
        clear hdt
        go_wp2
        go_ret
        exact ⟨rb, by rw [E1.out]; rfl, by unfold turnN; rw [E1.out]; exact HW.out.below HB3.out, Chg.of_below HB3.out g rb, .inl rfl⟩
      | cons x xs =>
        have HDT := Lib.hid hdt
        have hne : (d.data == ([] : List UInt8)) = false := by rw [hdt]; rfl
        have hne2 : d.data.isEmpty = false := by rw [hdt]; rfl
        rw [hne2] at E1
        clear hdt
        by_cases hm : m = 0
        · have hm' : ((m.toNat : Int) == 0) = true := by rw [hm]; rfl
          have hm2 : (m == 0) = true := by rw [hm]; rfl
          rw [hm2] at E1
          clear hm hm2
          go_wp2
          go_ret
          exact ⟨rb, by rw [E1.out]; rfl, by unfold turnN; rw [E1.out]; exact HW.out.below HB3.out, Chg.of_below HB3.out g rb, .inl rfl⟩
        · have hm' : ((m.toNat : Int) == 0) = false := beq_eq_false_iff_ne.2 (by intro e; apply hm; apply UInt8.toNat_inj.1; simpa using e)
          have hm2 : (m == 0) = false := beq_eq_false_iff_ne.2 hm
          rw [hm2] at E1
          clear hm hm2
          obtain ⟨n, hn⟩ : ∃ n, d.data.length = n := ⟨_, rfl⟩
          have HN := Lib.hid hn
          have hn0 : 0 < n := by rw [← hn, HDT.out]; simp
          have hn1 : (n : Int) ≤ 9223372036854775807 := by have := HDL.out; omega
          obtain ⟨C, cap, hconv, hC, hcap⟩ : ∃ (C : Array Value) (cap : Nat), (convert 9 61 (.string ⟨d.data.toArray⟩)).run Tryd.prog w3 = .ok (.slice (some ⟨w3.heap.size, 0, none⟩) n cap) (w3.drew.alloc (.cells C 5 (C.size, C.size + 1))) ∧
              (∀ k (h : k < n), C[k]? = some (.int .u8 ((d.data.getD k 0).toNat))) ∧ n ≤ cap := by
            have hc := run_bytes_of_string w3 9 61 5 ⟨d.data.toArray⟩ Tryd.underlying9 Tryd.underlying61 Tryd.underlying5
            have hsz : (⟨d.data.toArray⟩ : ByteArray).size = n := by rw [← hn]; simp [ByteArray.size]
            rw [hsz] at hc
            refine ⟨_, _, hc, fun k hk => ?_, grownCap_ge _ _ _ _⟩
            have hk2 : k < d.data.length := by omega
            rw [bytesRow_at _ _ k (by simpa using hk2)]
            simp [hk2]
          clear hn
          obtain ⟨Z, hZ⟩ : ∃ Z, w3.heap.size = Z := ⟨_, rfl⟩
          obtain ⟨w4, hw4⟩ : ∃ w4, w3.drew.alloc (.cells C 5 (C.size, C.size + 1)) = w4 := ⟨_, rfl⟩
          have HB4 := Lib.hid (show Below w3.heap.size w3 w4 by rw [← hw4]; exact (Below.refl _ _).drew.alloc (Nat.le_refl _) _)
          have Z4 := Lib.hid (show w4.heap[Z]? = some (.cells C 5 (C.size, C.size + 1)) by rw [← hw4, ← hZ]; exact heap_alloc_new _ _)
          rw [hZ, hw4] at hconv
          have HZ := Lib.hid hZ
          have HC := Lib.hid hC
          clear hw4 hZ hC
          go_upto_region 5 with fail
          clear hconv y2 y3 hne hm'
          have hkk : (IntKind.u64.wrap at_).tmod (n : Int) = ((turnK at_ n : Nat) : Int) := by
            have hw : IntKind.u64.wrap at_ = at_ % 18446744073709551616 := by simp [IntKind.wrap, IntKind.bits, IntKind.signed]
            have h0 : 0 ≤ at_ % 18446744073709551616 := Int.emod_nonneg _ (by omega)
            obtain ⟨q, hq⟩ := Int.eq_ofNat_of_zero_le h0
            rw [hw, hq]
            unfold turnK
            rw [hq]
            simp [Int.tmod]
          obtain ⟨k, hk⟩ : ∃ k, turnK at_ n = k := ⟨_, rfl⟩
          have hkn : k < n := by rw [← hk]; exact Nat.mod_lt _ hn0
          rw [hk] at hkk
          have HK := Lib.hid hk
          clear hk
          have hck : C[k]? = some (.int .u8 ((d.data.getD k 0).toNat : Int)) := HC.out k hkn
          have hkC : k < C.size := by
            by_cases h : k < C.size
            · exact h
            · rw [Array.getElem?_eq_none (by omega)] at hck; cases hck
          have hcell : w4.cell? ⟨Z, k, none⟩ = some (.int .u8 ((d.data.getD k 0).toNat : Int)) := by rw [cell_of_row w4 _ k _ _ _ Z4.out]; simpa using hck
          obtain ⟨c, hc⟩ : ∃ c, d.data.getD k 0 = c := ⟨_, rfl⟩
          rw [hc] at hcell
          have hxor := bits_xor_u8 c m
          have HXC := Lib.hid hc
          clear hc hck
          have hfz : w4.frozen? ⟨Z, k, none⟩ = false := by
            have := Z4.out
            simp [World.frozen?, this]
            omega
          have hxn : ((c.toNat ^^^ m.toNat : Nat) : Int) = ((c ^^^ m).toNat : Int) := by rw [UInt8.toNat_xor]
          go_upto_region 6 with fail
          clear hxn hxor hfz hcell hkk
          obtain ⟨D, hD⟩ : ∃ D, turnD d at_ m = D := ⟨_, rfl⟩
          have hDd : D.data = d.data.set k (c ^^^ m) := by rw [← hD]; unfold turnD; rw [HN.out, HK.out, HXC.out]
          have hDl : D.data.length = n := by rw [hDd, List.length_set]; exact HN.out
          have hDf : D.frm = d.frm ∧ D.to_ = d.to_ ∧ D.torn = true := by rw [← hD]; exact ⟨rfl, rfl, rfl⟩
          have HDD := Lib.hid hDd
          have HDL2 := Lib.hid hDl
          have HDF := Lib.hid hDf
          have HDE := Lib.hid hD
          have hw0 : w.heap.size ≤ Z := by rw [← HZ.out]; exact HB3.out.size
          obtain ⟨W, hW⟩ : ∃ W, w4.setCell ⟨Z, k, none⟩ (.int .u8 ((c ^^^ m).toNat : Int)) = W := ⟨_, rfl⟩
          have hB4 : Below w.heap.size w w4 := bthen' HB3.out HB4.out
          have HBW := Lib.hid (show Below w.heap.size w W by
            have hg : w4.grownBy W (some Z) := by rw [← hW]; exact grown_set (grown_of_below (Below.refl _ _) Z) _ _
            exact ⟨hg.os.trans hB4.os, hg.tape.trans hB4.tape, hg.output.trans hB4.output, Nat.le_trans hB4.size hg.size, fun q hq => by
              rw [hg.block q (Nat.lt_of_lt_of_le hq hB4.size) (by intro e; have := Option.some.inj e; omega)]; exact hB4.block q hq⟩)
          have ZW := Lib.hid (show W.heap[Z]? = some (.cells (C.setIfInBounds k (.int .u8 ((c ^^^ m).toNat : Int))) 5 (C.size, C.size + 1)) by rw [← hW]; exact rowCell Z4.out _ _)
          have HZS := Lib.hid (show Z < W.heap.size from (Array.getElem?_eq_some_iff.1 ZW.out).1)
          have NW := Lib.hid (HW.out.below HBW.out)
          rw [hW]
          clear hW hD hDd hDl hDf hB4
          obtain ⟨a, cp, b, hr, c65, hcp, hrb⟩ := NW.out.read
          obtain ⟨rfl, _⟩ := hr.a (by omega)
          obtain rfl := hrb (by omega)
          have hgb : g ≠ b := by have := HW.out.gne; intro e; exact this (by rw [e])
          have hZb : Z ≠ b := by have := (HW.out.rlt rfl).2; omega
          have hgW : g < W.heap.size := NW.out.lt
          clear hr hrb hcp
          obtain ⟨CC, hCC⟩ : ∃ CC : (Nat → Bool) → World → Prop, CC = TurnC W B g b j t d D := ⟨_, rfl⟩
          have hC0 : CC (fun _ => false) { W with drawn := W.drawn + 1 } := by rw [hCC]; exact TurnC.first NW.out hj HD.out _
          have hm : ∀ i, (i ≠ 14 ∧ i ≠ 17) → ∀ L w, CC L w → L i = false → CC (addL L i) w := by rw [hCC]; exact TurnC.more
          have l3 := Lib.hid (show ∀ (L : Nat → Bool) w', CC L w' → w'.cell? ⟨g, 65, none⟩ = some (.slice (some ⟨b, 0, none⟩) t.l.length cp) by
            rw [hCC]; intro L w' hh
            rw [hh.gr.cell_far ⟨g, 65, none⟩ hgW (by intro e; exact hgb (Option.some.inj e))]; exact c65)
          have kc := Lib.hid (show ∀ (L : Nat → Bool) w', CC L w' → (convert 61 9 (.slice (some ⟨Z, 0, none⟩) n cap)).run Tryd.prog w' = .ok (str D.data) w' by
            rw [hCC]; intro L w' hh
            have h1 := run_convert_bytes_back w' 61 9 5 ⟨Z, 0, none⟩ cap D.data Tryd.underlying61 Tryd.underlying5 Tryd.underlying9 (fun q hq => by
              have hq' : q < n := by rw [← HDL2.out]; exact hq
              have e : (⟨Z, 0, none⟩ : Addr).add q = ⟨Z, q, none⟩ := by simp [Addr.add]; exact fun h => h.symm
              rw [e, hh.gr.cell_far ⟨Z, q, none⟩ HZS.out (by intro e; exact hZb (Option.some.inj e)), cell_of_row W _ q _ _ _ ZW.out]
              have hq2 := byte_cells (fun q hq => HC.out q (by rw [← HN.out]; exact hq)) (by rw [HN.out]; exact hkn) hkC (c ^^^ m) q (by rw [HN.out]; exact hq')
              have e2 : D.data[q] = (d.data.set k (c ^^^ m)).getD q 0 := by
                rw [← HDD.out, List.getD_eq_getElem?_getD, List.getElem?_eq_getElem hq]
                rfl
              rw [e2]
              simpa using hq2)
            rw [HDL2.out] at h1
            exact h1)
          have k14 := Lib.hid (show ∀ (L : Nat → Bool) w', CC L w' → (∃ c, w'.cell? ⟨b, j * 4 + 2, none⟩ = some c) ∧ w'.frozen? ⟨b, j * 4 + 2, none⟩ = false by
            rw [hCC]; intro L w' hh
            exact hh.net.rcell (by simpa using hj) (by decide))
          have k17 := Lib.hid (show ∀ (L : Nat → Bool) w', CC L w' → (∃ c, w'.cell? ⟨b, j * 4 + 3, none⟩ = some c) ∧ w'.frozen? ⟨b, j * 4 + 3, none⟩ = false by
            rw [hCC]; intro L w' hh
            exact hh.net.rcell (by simpa using hj) (by decide))
          have s14 := Lib.hid (show ∀ (L : Nat → Bool) w', CC L w' → CC (addL L 14) (w'.setCell ⟨b, j * 4 + 2, none⟩ (str D.data)) by rw [hCC]; exact fun L w' hh => hh.s14 hj)
          have s17 := Lib.hid (show ∀ (L : Nat → Bool) w', CC L w' → CC (addL L 17) (w'.setCell ⟨b, j * 4 + 3, none⟩ (.bool true)) by rw [hCC]; exact fun L w' hh => hh.s17 hj)
          have HC2 := Lib.hid (show ∀ w', CC (ltL 18) w' → NetAt w' B g { t with l := t.l.set j D } (some b) ∧ W.grownBy w' (some b) by
            rw [hCC]; intro w' hh
            have e : mixD d D (ltL 18 14) (ltL 18 17) = D := by
              obtain ⟨e1, e2, e3⟩ := HDF.out
              have : mixD d D true true = D := by
                unfold mixD
                rw [← e1, ← e2, if_pos rfl, if_pos rfl, ← e3]
              exact this
            have := hh.net
            rw [e] at this
            exact ⟨this, hh.gr⟩)
          clear hCC
          have hj' : (j : Int) < (t.l.length : Int) := by omega
          have hj0 : (0 : Int) ≤ (j : Int) := by omega
          have hlen : (t.l.length : Int) ≤ 4096 := by have := WF.out.l; omega
          refine wp_region_vals (C := CC) (by kernel_rfl) (by kernel_rfl) hC0 ?_
          dsimp only []
          repeat (first | (refine wpVals_skip (by rfl) (hm _ (by decide)) ?_; (simp only [Act.put, List.setIfInBounds_toArray, List.set_cons_zero, List.set_cons_succ])) | (refine wpVals_move _ (by rfl) (by rfl) (hm _ (by decide)) ?_; (simp only [Act.put, Act.eval, List.getD_toArray, List.getD_cons_zero, List.getD_cons_succ, List.setIfInBounds_toArray, List.set_cons_zero, List.set_cons_succ])) | (refine wpVals_assign _ (by rfl) (by rfl) (hm _ (by decide)) ?_; (simp only [Act.put, Act.eval, List.getD_toArray, List.getD_cons_zero, List.getD_cons_succ, List.setIfInBounds_toArray, List.set_cons_zero, List.set_cons_succ])) | (refine wpVals_load _ _ (by rfl) (by rfl) (hm _ (by decide)) ?_ _ (by rfl) (by first | exact l3.out) ?_; (· intro w; simp); (simp only [Act.put, List.setIfInBounds_toArray, List.set_cons_zero, List.set_cons_succ])) | (refine wpVals_conv 61 9 _ (by rfl) (by rfl) (hm _ (by decide)) (.slice (some ⟨Z, 0, none⟩) n cap) (by rfl) kc.out ?_; (simp only [Act.put, List.setIfInBounds_toArray, List.set_cons_zero, List.set_cons_succ])) | (refine wpVals_store 9 _ _ (by rfl) (by rfl) ⟨b, j * 4 + 2, none⟩ (by rfl) (by rfl) (by kernel_rfl) (by rfl) (fun L w' h => k14.out L w' h) (fun L w' h _ _ => s14.out L w' h) ?_; (simp only [Act.put])) | (refine wpVals_store 4 _ _ (by rfl) (by rfl) ⟨b, j * 4 + 3, none⟩ (by rfl) (by rfl) (by kernel_rfl) (by rfl) (fun L w' h => k17.out L w' h) (fun L w' h _ _ => s17.out L w' h) ?_; (simp only [Act.put])) | (refine wpVals_free (v := ?_) (by rfl) (hm _ (by decide)) (fun _ => ?_) ?_; rotate_left; (first | (go_simp; done) | (go_simp; rfl)); (simp only [Act.put, List.setIfInBounds_toArray, List.set_cons_zero, List.set_cons_succ])))
          refine wpVals_nil ?_
          intro w5 hC5
          obtain ⟨n5, g5⟩ := HC2.out w5 hC5
          have N5 := Lib.hid n5
          have G5 := Lib.hid g5
          clear n5 g5 hC5 hm hC0 l3 kc k14 k17 s14 s17 HC2 c65
          go_wp2
          go_ret
          refine ⟨some b, by rw [E1.out]; rfl, by rw [E2.out (by rw [E1.out]; rfl), HDE.out]; exact N5.out, ?_, .inl rfl⟩
          exact (Chg.of_below HBW.out g (some b)).trans ⟨G5.out.os, G5.out.tape, G5.out.output, G5.out.size, fun q hq _ h2 => G5.out.block q hq h2⟩ (.inl rfl)
    · rw [htn] at E1 y3
      clear htn
      go_wp2
      go_ret
      exact ⟨rb, by rw [E1.out]; rfl, by unfold turnN; rw [E1.out]; exact HW.out.below HB3.out, Chg.of_below HB3.out g rb, .inl rfl⟩
end
end Go.Proofs.YthegooaeehblhaaDoorR

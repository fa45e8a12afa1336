/-
  HeardPlays: the walk: for every me, n, timeout, script and configuration the law returns true.
-/
import Derived.Test.YtjokfjdbioeohaaDoorHeardPlaysP
import Derived.Test.YtjokfjdbioeohaaDoorQuietB
import Derived.Deep.CutBlock
import Derived.Deep.DeepCutAuto
import Derived.BigGuard
namespace Go.Proofs.YtjokfjdbioeohaaDoor
open Go.RowKit Go.BigFrame
set_option maxHeartbeats 2000000
set_option maxRecDepth 100000
/-- Only a new block was written. -/
theorem bel_new {w w' : World} {o : Obj} (hg : (w.alloc o).grownBy w' (some w.heap.size)) : Below w.heap.size w w' :=
  ((Below.refl _ _).alloc (Nat.le_refl _) _).grown hg (by simp) (fun k hk => by cases hk; exact Nat.le_refl _)
/-- The document's ear in its block; its row lies elsewhere. -/
def RefAt (w : World) (g BR : Nat) (r : REar) : Prop :=
  ∃ v a c b o, w.heap[BR]? = some (.cells (r.vals v).toArray 65 (0, 0)) ∧ RowAt Sd.vals w v r.all a c b o ∧ (0 < r.all.length → b ≠ g ∧ b ≠ BR)
/-- The ear, the document's ear, the configuration. -/
structure Pl (w0 w : World) (g BR BC : Nat) (ce : Nat) (cr : Int) (m : Ear) (r : REar) : Prop where
  ek : Ek w0 w g m
  ref : RefAt w g BR r
  cf : w.heap[BC]? = some (.cells #[.int .u64 ce, .int .i64 cr] 60 (0, 0))
  n1 : g ≠ BR
  n2 : g ≠ BC
  n3 : BR ≠ BC
  new : w0.heap.size ≤ BR
section
variable {w0 w w' : World} {g BR BC ce : Nat} {cr : Int} {m m' : Ear} {r r' : REar}
theorem RefAt.lt (h : RefAt w g BR r) : BR < w.heap.size := by
  obtain ⟨_, _, _, _, _, h1, _⟩ := h
  exact (Array.getElem?_eq_some_iff.1 h1).1
theorem RefAt.below (h : RefAt w g BR r) (hb : Below w.heap.size w w') : RefAt w' g BR r := by
  obtain ⟨v, a, c, b, o, h1, h2, h3⟩ := h
  exact ⟨v, a, c, b, o, bblock hb h1, h2.below rfl hb, h3⟩
theorem Pl.below (h : Pl w0 w g BR BC ce cr m r) (hb : Below w.heap.size w w') : Pl w0 w' g BR BC ce cr m r :=
  ⟨h.ek.below hb, h.ref.below hb, bblock hb h.cf, h.n1, h.n2, h.n3, h.new⟩
/-- The ear goes another way. -/
theorem Pl.ear (h : Pl w0 w g BR BC ce cr m r) (hk : Ek w0 w' g m') (hg : w.grownBy w' (some g)) : Pl w0 w' g BR BC ce cr m' r := by
  obtain ⟨v, a, c, b, o, h1, h2, h3⟩ := h.ref
  refine ⟨hk, ⟨v, a, c, b, o, ?_, h2.grown hg (fun e => (h3 e).1), h3⟩, ?_, h.n1, h.n2, h.n3, h.new⟩
  · rw [hg.block BR (Array.getElem?_eq_some_iff.1 h1).1 (by intro e; exact h.n1 (Option.some.inj e).symm)]; exact h1
  · rw [hg.block BC (Array.getElem?_eq_some_iff.1 h.cf).1 (by intro e; exact h.n2 (Option.some.inj e).symm)]; exact h.cf
/-- The document's ear goes another way. -/
theorem Pl.put (h : Pl w0 w g BR BC ce cr m r) (hg : w.grownBy w' (some BR)) {v' : Value} (hw : w'.heap[BR]? = some (.cells (r'.vals v').toArray 65 (0, 0))) {a' : Option Addr} {c' b' o' : Nat} (hr : RowAt Sd.vals w v' r'.all a' c' b' o')
    (hn : 0 < r'.all.length → b' ≠ g ∧ b' ≠ BR) : Pl w0 w' g BR BC ce cr m r' := by
  refine ⟨h.ek.keep hg h.n1 h.new, ⟨v', a', c', b', o', hw, hr.grown hg (fun e => (hn e).2), hn⟩, ?_, h.n1, h.n2, h.n3, h.new⟩
  rw [hg.block BC (Array.getElem?_eq_some_iff.1 h.cf).1 (by intro e; exact h.n3 (Option.some.inj e).symm)]; exact h.cf
end
/-- The document's ear behind k calls. -/
structure RB (r : REar) (k : Nat) : Prop where
  n0 : 0 ≤ r.now
  n1 : r.now ≤ (k : Int)
  a : ∀ x ∈ r.all, 0 ≤ x.at_ ∧ x.at_ ≤ r.now
  l : r.all.length ≤ 64 * k
theorem RB.wf {r : REar} {k : Nat} (h : RB r k) (hk : k ≤ 101) : r.Wf := ⟨h.n0, by have := h.n1; omega, h.a, by have := h.l; omega⟩
theorem RB.new (me n timeout : Int) : RB (newR me n timeout) 0 := ⟨Int.le_refl _, Int.le_refl _, fun x hx => (by cases hx), Nat.le_refl _⟩
theorem RB.same {r : REar} {k : Nat} (h : RB r k) : RB r (k + 1) := ⟨h.n0, by have := h.n1; omega, h.a, by have := h.l; omega⟩
theorem RB.tick {r : REar} {k : Nat} (h : RB r k) : RB { r with now := r.now + 1 } (k + 1) :=
  ⟨by have := h.n0; show 0 ≤ r.now + 1; omega, by have := h.n1; show r.now + 1 ≤ _; omega, fun x hx => ⟨(h.a x hx).1, by have := (h.a x hx).2; show x.at_ ≤ r.now + 1; omega⟩, by have := h.l; show r.all.length ≤ _; omega⟩
theorem add_a {r : REar} (h0 : 0 ≤ r.now) (h : ∀ x ∈ r.all, 0 ≤ x.at_ ∧ x.at_ ≤ r.now) (x : Sd) : 0 ≤ (addR r x).now ∧ ∀ y ∈ (addR r x).all, 0 ≤ y.at_ ∧ y.at_ ≤ (addR r x).now := by
  unfold addR
  split
  · refine ⟨h0, fun y hy => ?_⟩
    rcases List.mem_append.1 hy with hy | hy
    · exact h y hy
    · rw [List.mem_singleton.1 hy]; exact ⟨h0, Int.le_refl _⟩
  · exact ⟨h0, h⟩
theorem add_len (r : REar) (x : Sd) : (addR r x).all.length ≤ r.all.length + 1 := by
  unfold addR
  split
  · simp
  · omega
theorem add_now (r : REar) (x : Sd) : (addR r x).now = r.now := by unfold addR; split <;> rfl
theorem RB.add {r : REar} {k : Nat} (h : RB r k) (x : Sd) : RB (addR r x) (k + 1) :=
  ⟨(add_a h.n0 h.a x).1, by rw [add_now]; have := h.n1; omega, (add_a h.n0 h.a x).2, by have := h.l; have := add_len r x; omega⟩
theorem gone_a {r : REar} (h0 : 0 ≤ r.now) (h : ∀ x ∈ r.all, 0 ≤ x.at_ ∧ x.at_ ≤ r.now) (s : Nat) : ∀ j, 0 ≤ (goneR r s j).now ∧ ∀ y ∈ (goneR r s j).all, 0 ≤ y.at_ ∧ y.at_ ≤ (goneR r s j).now
  | 0 => ⟨h0, h⟩
  | j + 1 => by
    rw [goneR_succ]
    split
    · exact add_a (gone_a h0 h s j).1 (gone_a h0 h s j).2 _
    · exact gone_a h0 h s j
theorem RB.gone {r : REar} {k : Nat} (h : RB r k) (s j : Nat) (hj : j ≤ 64) : RB (goneR r s j) (k + 1) := by
  obtain ⟨_, _, h3, _, _, _, h7⟩ := goneR_keeps r s j hj
  exact ⟨(gone_a h.n0 h.a s j).1, by rw [h3]; have := h.n1; omega, (gone_a h.n0 h.a s j).2, by have := h.l; omega⟩
theorem run_buildB (b : Bt) (w : World) : (Instr.build 67 #[(0, .agg #[.int .u64 b.ce, .int .i64 b.cr]), (1, .agg #[.int .u64 b.pe, .int .i64 b.pr]), (2, .int .u64 b.ep)]).run Tryd.prog w = .ok (.agg b.vals.toArray) w := by kernel_rfl
theorem hplays_walk (me n t : Int) (l : List HAct) (v : Value) (ce : Nat) (cr : Int) (a : Option Addr) (c b o : Nat) (w : World) (hT : TabOk w) (hA : HActsAt w v l a c b o) :
    Calls Tryd.prog 7 #[.int .i64 me, .int .i64 n, .int .i64 t, v, .agg #[.int .u64 ce, .int .i64 cr]] w fun e w' => e = .returned (.bool true) ∧ Below w.heap.size w w' := by
  obtain rfl := hA.v
  have hz := zero_beat
  have hz2 := zero_hact
  have hz3 := zero_rear
  have hz4 := zero_said
  have hub : Hid ((Tryd.prog.info? 67).map (·.size) = some (5 : Nat)) := Lib.hid size_beat
  have hua : Hid ((Tryd.prog.info? 69).map (·.size) = some (8 : Nat)) := Lib.hid size_hact
  have hue : Hid ((Tryd.prog.info? 65).map (·.size) = some (5 : Nat)) := Lib.hid size_rear
  have hus : Hid ((Tryd.prog.info? 73).map (·.size) = some (9 : Nat)) := Lib.hid size_said
  have BB := Lib.hid (bel_box w #[.int .u64 ce, .int .i64 cr] 60)
  have BCF := Lib.hid (heap_alloc_new w (.cells #[.int .u64 ce, .int .i64 cr] 60))
  have HT := Lib.hid (hT.belowS BB.out)
  have HW := Lib.hid (hawake_any _ HT.out)
  have HS := Lib.hid hA
  have hpos : 0 < w.heap.size := Nat.lt_of_le_of_lt (Nat.zero_le _) hT.size
  clear hT hA
  by_cases h3 : 100 < l.length
  · have h3' : (100 : Int) < (l.length : Int) := by omega
    go_enter Tryd.func7, Tryd.ntmps7
    go_wp2_with fail
    refine HW.out.mono ?_
    rintro e w1 ⟨rfl, hb⟩
    have HB := Lib.hid hb
    clear hb
    go_wp2_with fail
    go_ret
    exact ⟨rfl, bthen' BB.out HB.out⟩
  have h3' : (l.length : Int) ≤ 100 := by omega
  have h3n := Lib.hid (show l.length ≤ 100 by omega)
  clear h3
  by_cases h4 : t < 0
  ·
    go_enter Tryd.func7, Tryd.ntmps7
    go_wp2_with fail
    refine HW.out.mono ?_
    rintro e w1 ⟨rfl, hb⟩
    have HB := Lib.hid hb
    clear hb
    go_wp2_with fail
    go_ret
    exact ⟨rfl, bthen' BB.out HB.out⟩
  have h4' : 0 ≤ t := by omega
  clear h4
  by_cases h5 : 1073741824 < t
  ·
    go_enter Tryd.func7, Tryd.ntmps7
    go_wp2_with fail
    refine HW.out.mono ?_
    rintro e w1 ⟨rfl, hb⟩
    have HB := Lib.hid hb
    clear hb
    go_wp2_with fail
    go_ret
    exact ⟨rfl, bthen' BB.out HB.out⟩
  have h5' : t ≤ 1073741824 := by omega
  clear h5
  go_enter Tryd.func7, Tryd.ntmps7
  go_wp2_with fail
  refine HW.out.mono ?_
  rintro e w1 ⟨rfl, hb⟩
  have HB := Lib.hid (bthen' BB.out hb)
  have CF1 := Lib.hid (bblock hb BCF.out)
  have HT1 := Lib.hid (HT.out.belowS hb)
  clear hb
  go_wp2_with fail
  refine (Ek.make (w0 := w) HT1.out HB.out hpos me n t).mono ?_
  rintro e w2 ⟨g, rfl, hL, hgt, hb⟩
  have L0 := Lib.hid hL
  have CF2 := Lib.hid (bblock hb CF1.out)
  have G2 := Lib.hid (show g ≠ w.heap.size by have := HB.out.size; have h := (Array.getElem?_eq_some_iff.1 CF1.out).1; omega)
  clear hL hgt hb
  go_upto_region 7 with (guard_target = wpList _ _ _ (Oper.mk none (Op.store _ _ _) _ _ _ none :: _) _ _; refine wpList_store_row rfl 65 _ _ rfl w2.heap.size (by rfl) ((newR me n t).vals (.slice none 0 0)).toArray (by rfl) rearZero 65 (heap_alloc_new _ _) rfl hue.out (rear_one _ rfl) ?_; intro w3 hw3 hg3)
  have P0 := Lib.hid (show Pl w w3 g w2.heap.size w.heap.size ce cr (newE me n t) (newR me n t) from
    ⟨L0.out.below (bel_new hg3), ⟨_, none, 0, 0, 0, hw3, ⟨rfl, fun h => (by cases h), fun j u hj => (by simp [newR, rowOf] at hj)⟩, fun h => (by cases h)⟩, bblock (bel_new hg3) CF2.out,
      Nat.ne_of_lt L0.out.at_.lt, G2.out, by have h := (Array.getElem?_eq_some_iff.1 CF2.out).1; omega, L0.out.bel.size⟩)
  have R0 := Lib.hid (Rel.new me n t)
  have RB0 := Lib.hid (RB.new me n t)
  clear hw3 hg3
  obtain ⟨BR, hBR⟩ : ∃ BR, w2.heap.size = BR := ⟨_, rfl⟩
  obtain ⟨BC, hBC⟩ : ∃ BC, w.heap.size = BC := ⟨_, rfl⟩
  have HBC := Lib.hid hBC
  rw [hBR] at P0 ⊢
  rw [hBC] at P0 ⊢
  clear hBR hBC L0 CF1 CF2 G2 HB HT1 HW HT BCF
  generalize newE me n t = m0 at P0 R0
  generalize newR me n t = r0 at P0 R0 RB0
  go_wp2_with fail
  go_loopw [13, 14, 15, 16, 17, 18, 19] (fun i _ _ _ _ _ _ wr => ∃ (k : Nat) (m : Ear) (r : REar), k ≤ l.length ∧ i = .int .i64 k ∧ Pl w wr g BR BC ce cr m r ∧ Rel m r ∧ RB r k) (fun i _ _ _ _ _ _ _ => l.length - (intOf i).toNat)
  case atStart => exact ⟨0, m0, r0, Nat.zero_le _, rfl, P0.out, R0.out, RB0.out⟩
  case round =>
    obtain ⟨k, m, r, hk, rfl, hL, hR, hRB⟩ := hrel
    have P2 := Lib.hid hL
    have HR := Lib.hid hR
    have HRB := Lib.hid hRB
    clear hL hR hRB P0 R0 RB0
    by_cases hlt : k < l.length
    · have hkl' : (k : Int) < (l.length : Int) := by omega
      have K1 := Lib.hid (show k + 1 ≤ 101 by have := h3n.out; omega)
      have S := HS.out.below rfl P2.out.ek.bel
      have hxv := S.x k hlt
      have hx := S.ok _ (List.getElem_mem hlt)
      obtain ⟨rfl, _⟩ := HS.out.a (by omega)
      obtain ⟨x, hxx⟩ : ∃ x, l[k] = x := ⟨_, rfl⟩
      rw [hxx] at hxv hx
      have HXV := Lib.hid hxv
      have HXS := Lib.hid hx
      have HQ := Lib.hid (show wr.heap.size ≠ g ∧ wr.heap.size ≠ BR from ⟨Nat.ne_of_gt P2.out.ek.at_.lt, Nat.ne_of_gt P2.out.ref.lt⟩)
      clear S hxx hxv hx
      go_upto_region 11 with (first
        | (guard_target = wpList _ _ _ (Oper.mk _ (Op.load _ _) _ _ _ none :: _) _ _; refine wpList_load_mid rfl 69 _ rfl b (o + k * 8) (by rfl) x.vals _ HXV.out Tryd.underlying69 rfl hua.out ?_; simp only [Act.put, List.setIfInBounds_toArray, List.set_cons_zero, List.set_cons_succ])
        | (guard_target = wpList _ _ _ (Oper.mk none (Op.store _ _ _) _ _ _ none :: _) _ _; refine wpList_store_row rfl 69 _ _ rfl wr.heap.size (by rfl) x.vals.toArray (by rfl) HAct.zero.vals.toArray 69 (heap_alloc_new _ _) rfl hua.out x.oneL ?_; intro w3 hw3 hg3))
      have BX := Lib.hid (show BoxH w3 wr.heap.size x from hw3)
      have P3 := Lib.hid (P2.out.below (bel_new hg3))
      clear hw3 hg3
      have k0 := BX.out.c0
      go_upto_block 2 with fail
      obtain ⟨B, hB⟩ : ∃ B, wr.heap.size = B := ⟨_, rfl⟩
      rw [hB] at BX HQ k0 ⊢
      clear hB P2 HXV
      go_cut [14] (fun s14 wx => ∃ (m' : Ear) (r' : REar), s14 = .pointer (some ⟨B, 0, none⟩) ∧ Pl w wx g BR BC ce cr m' r' ∧ Rel m' r' ∧ RB r' (k + 1) ∧ BoxH wx B x)
      case first =>
        have NX := Lib.hid (show m.now + 1 < 4611686018427387904 from by have h1 := HRB.out.n1; have h2 := h3n.out; have h3 := HR.out.now; omega)
        clear k0 hk
        by_cases c0 : x.kind = 0
        · have b0 : (x.kind == 0) = true := beq_iff_eq.2 c0
          clear c0
          go_wp2_with fail
          refine (P3.out.ek.tick NX.out).mono ?_
          rintro e4 w4 ⟨rfl, hL, hg⟩
          have P4 := Lib.hid (P3.out.ear hL hg)
          have BX4 := Lib.hid (BX.out.grown hg HQ.out.1)
          clear hL hg
          obtain ⟨v, a1, c1, b1, o1, hw, hr, hn⟩ := P4.out.ref
          have c3 : w4.cell? ⟨BR, 3, none⟩ = some (.int .i64 r.now) := by rw [cell_of_row w4 _ 3 _ _ _ hw]; rfl
          have f3 : w4.frozen? ⟨BR, 3, none⟩ = false := by simp [World.frozen?, hw]
          have P5 := Lib.hid (show Pl w (w4.setCell ⟨BR, 3, none⟩ (.int .i64 (r.now + 1))) g BR BC ce cr (tickE m) { r with now := r.now + 1 } from
            P4.out.put (grown_set (grown_of_below (Below.refl _ _) _) 3 _) (v' := v) (by rw [rowCell hw 3 _]; rfl) hr hn)
          have BX5 := Lib.hid (BX4.out.grown (grown_set (grown_of_below (Below.refl _ _) BR) 3 (.int .i64 (r.now + 1))) HQ.out.2)
          have r1 : -9223372036854775808 ≤ r.now + 1 := by have := HRB.out.n0; omega
          have r2 : r.now + 1 < 9223372036854775808 := by have := HR.out.now; have := NX.out; omega
          clear hw hr hn
          go_wp2_with fail
          go_meet
          case rel => exact ⟨_, _, rfl, P5.out, HR.out.tick, HRB.out.tick, BX5.out⟩
        have b0 : (x.kind == 0) = false := beq_eq_false_iff_ne.2 c0
        clear c0
        by_cases c1 : x.kind = 1
        · have b1 : (x.kind == 1) = true := beq_iff_eq.2 c1
          clear c1
          have k1 := BX.out.c1
          go_wp2_with fail
          refine (P3.out.ek.hear x.p).mono ?_
          rintro e4 w4 ⟨rfl, hL, hg⟩
          have P4 := Lib.hid (P3.out.ear hL hg)
          have BX4 := Lib.hid (BX.out.grown hg HQ.out.1)
          have k1 := BX4.out.c1
          clear hL hg
          obtain ⟨v4, a4, c4, b4, o4, hw, hr, hn⟩ := P4.out.ref
          have W4 := Lib.hid hw
          have R4 := Lib.hid hr
          have N4 := Lib.hid hn
          clear hw hr hn
          go_wp2_with (guard_target = wpList _ _ _ (Oper.mk _ (Op.load 65 _) _ _ _ none :: _) _ _; refine wpList_load_row rfl 65 _ rfl BR (by rfl) 65 _ (0, 0) _ W4.out Tryd.underlying65 rfl hue.out ?_; simp only [Act.put, List.setIfInBounds_toArray, List.set_cons_zero, List.set_cons_succ])
          refine (radd_any r (⟨x.p, 0, false, false, Bt.zero⟩ : Sd) v4 a4 c4 b4 o4 (HRB.out.wf (by have := K1.out; omega)).l _ R4.out).mono ?_
          rintro e w5 ⟨v5, a5, c5, b5, o5, rfl, hr5, hn5, hb⟩
          have P5 := Lib.hid (P4.out.below hb)
          have BX5 := Lib.hid (BX4.out.below hb)
          have W5 := Lib.hid (bblock hb W4.out)
          have R5 := Lib.hid hr5
          have N5 := Lib.hid (show 0 < (addR r (⟨x.p, 0, false, false, Bt.zero⟩ : Sd)).all.length → b5 ≠ g ∧ b5 ≠ BR from fun h => by
            rcases hn5 h with ⟨e, h0⟩ | h1
            · rw [e]; exact N4.out h0
            · have h2 := P4.out.ek.at_.lt
              have h3 := P4.out.ref.lt
              omega)
          have O5 : Hid (v5.oneCell' = true) := Lib.hid (by rw [hr5.v]; rfl)
          clear hr5 hn5 hb
          go_wp2_with (guard_target = wpList _ _ _ (Oper.mk none (Op.store _ _ _) _ _ _ none :: _) _ _; refine wpList_store_row rfl 65 _ _ rfl BR (by rfl) ((addR r (⟨x.p, 0, false, false, Bt.zero⟩ : Sd)).vals v5).toArray (by rfl) (r.vals v4).toArray 65 W5.out rfl hue.out (rear_one _ O5.out) ?_; intro w6 hw6 hg6; have P6 := Lib.hid (P5.out.put hg6 hw6 R5.out N5.out); have BX6 := Lib.hid (BX5.out.grown hg6 HQ.out.2); clear hw6 hg6)
          go_meet
          case rel => exact ⟨_, _, rfl, P6.out, HR.out.hear x.p, HRB.out.add _, BX6.out⟩
        have b1 : (x.kind == 1) = false := beq_eq_false_iff_ne.2 c1
        clear c1
        by_cases c2 : x.kind = 2
        · have b2 : (x.kind == 2) = true := beq_iff_eq.2 c2
          clear c2
          have k1 := BX.out.c1
          go_wp2_with (guard_target = wpList _ _ _ (Oper.mk _ (Op.load 67 _) _ _ _ none :: _) _ _; refine wpList_load_mid rfl 67 _ rfl B 2 (by rfl) x.b.vals _ BX.out.rb Tryd.underlying67 rfl hub.out ?_; simp only [Act.put, List.setIfInBounds_toArray, List.set_cons_zero, List.set_cons_succ])
          refine (P3.out.ek.beat x.p x.b).mono ?_
          rintro e4 w4 ⟨rfl, hL, hg⟩
          have P4 := Lib.hid (P3.out.ear hL hg)
          have BX4 := Lib.hid (BX.out.grown hg HQ.out.1)
          have k1 := BX4.out.c1
          have q2 : w4.cell? ⟨B, 2, none⟩ = some (.int .u64 x.b.ce) := BX4.out.rb 0 _ rfl
          have q3 : w4.cell? ⟨B, 3, none⟩ = some (.int .i64 x.b.cr) := BX4.out.rb 1 _ rfl
          have q4 : w4.cell? ⟨B, 4, none⟩ = some (.int .u64 x.b.pe) := BX4.out.rb 2 _ rfl
          have q5 : w4.cell? ⟨B, 5, none⟩ = some (.int .i64 x.b.pr) := BX4.out.rb 3 _ rfl
          have q6 : w4.cell? ⟨B, 6, none⟩ = some (.int .u64 x.b.ep) := BX4.out.rb 4 _ rfl
          clear hL hg
          obtain ⟨v4, a4, c4, b4, o4, hw, hr, hn⟩ := P4.out.ref
          have W4 := Lib.hid hw
          have R4 := Lib.hid hr
          have N4 := Lib.hid hn
          clear hw hr hn
          go_wp2_with (guard_target = wpList _ _ _ (Oper.mk _ (Op.load 65 _) _ _ _ none :: _) _ _; refine wpList_load_row rfl 65 _ rfl BR (by rfl) 65 _ (0, 0) _ W4.out Tryd.underlying65 rfl hue.out ?_; simp only [Act.put, List.setIfInBounds_toArray, List.set_cons_zero, List.set_cons_succ])
          refine (radd_any r (⟨x.p, 0, true, false, x.b⟩ : Sd) v4 a4 c4 b4 o4 (HRB.out.wf (by have := K1.out; omega)).l _ R4.out).mono ?_
          rintro e w5 ⟨v5, a5, c5, b5, o5, rfl, hr5, hn5, hb⟩
          have P5 := Lib.hid (P4.out.below hb)
          have BX5 := Lib.hid (BX4.out.below hb)
          have W5 := Lib.hid (bblock hb W4.out)
          have R5 := Lib.hid hr5
          have N5 := Lib.hid (show 0 < (addR r (⟨x.p, 0, true, false, x.b⟩ : Sd)).all.length → b5 ≠ g ∧ b5 ≠ BR from fun h => by
            rcases hn5 h with ⟨e, h0⟩ | h1
            · rw [e]; exact N4.out h0
            · have h2 := P4.out.ek.at_.lt
              have h3 := P4.out.ref.lt
              omega)
          have O5 : Hid (v5.oneCell' = true) := Lib.hid (by rw [hr5.v]; rfl)
          clear hr5 hn5 hb
          go_wp2_with (guard_target = wpList _ _ _ (Oper.mk none (Op.store _ _ _) _ _ _ none :: _) _ _; refine wpList_store_row rfl 65 _ _ rfl BR (by rfl) ((addR r (⟨x.p, 0, true, false, x.b⟩ : Sd)).vals v5).toArray (by rfl) (r.vals v4).toArray 65 W5.out rfl hue.out (rear_one _ O5.out) ?_; intro w6 hw6 hg6; have P6 := Lib.hid (P5.out.put hg6 hw6 R5.out N5.out); have BX6 := Lib.hid (BX5.out.grown hg6 HQ.out.2); clear hw6 hg6)
          go_meet
          case rel => exact ⟨_, _, rfl, P6.out, HR.out.beat x.p x.b, HRB.out.add _, BX6.out⟩
        have b2 : (x.kind == 2) = false := beq_eq_false_iff_ne.2 c2
        clear c2
        by_cases c3 : x.kind = 3
        · have b3 : (x.kind == 3) = true := beq_iff_eq.2 c3
          clear c3
          have k7 := BX.out.c7
          go_wp2_with fail
          refine (P3.out.ek.forget x.s HXS.out).mono ?_
          rintro e4 w4 ⟨rfl, hL, hg⟩
          have P4 := Lib.hid (P3.out.ear hL hg)
          have BX4 := Lib.hid (BX.out.grown hg HQ.out.1)
          clear hL hg k7
          go_wp2_with fail
          go_loopw [15] (fun i wi => ∃ j : Nat, j ≤ 64 ∧ i = .int .i64 j ∧ Pl w wi g BR BC ce cr (forgetE m x.s) (goneR r x.s j) ∧ BoxH wi B x) (fun i _ => 64 - (intOf i).toNat)
          case atStart => exact ⟨0, by omega, rfl, P4.out, BX4.out⟩
          case round =>
            obtain ⟨j, hj, rfl, hP, hBX⟩ := hrel
            have P4 := Lib.hid hP
            have BX4 := Lib.hid hBX
            clear hP hBX
            by_cases hj64 : j < 64
            · have hjlt : (j : Int) < 64 := by omega
              have k7 := BX4.out.c7
              have HG := Lib.hid (goneR_succ r x.s j)
              have hs := HXS.out
              cases hb : x.s.testBit j
              · have hx := bitZero hs hb
                have HG2 := Lib.hid (show goneR r x.s (j + 1) = goneR r x.s j by rw [HG.out, hb]; rfl)
                clear hb hs
                go_wp2
                exact ⟨⟨j + 1, by omega, by go_num, by rw [HG2.out]; exact P4.out, BX4.out⟩, by simp [intOf]; omega⟩
              · have hx := bitOne hs hb
                have HG2 := Lib.hid (show goneR r x.s (j + 1) = addR (goneR r x.s j) (goneX j) by rw [HG.out, hb]; rfl)
                have HL4 := Lib.hid (show (goneR r x.s j).all.length ≤ 1000000 from ((HRB.out.gone x.s j hj).wf K1.out).l)
                clear hb hs
                generalize goneR r x.s j = rj at P4 HG2 HL4
                obtain ⟨v4, a4, c4, b4, o4, hw, hr, hn⟩ := P4.out.ref
                have W4 := Lib.hid hw
                have R4 := Lib.hid hr
                have N4 := Lib.hid hn
                clear hw hr hn
                go_wp2_with (guard_target = wpList _ _ _ (Oper.mk _ (Op.load 65 _) _ _ _ none :: _) _ _; refine wpList_load_row rfl 65 _ rfl BR (by rfl) 65 _ (0, 0) _ W4.out Tryd.underlying65 rfl hue.out ?_; simp only [Act.put, List.setIfInBounds_toArray, List.set_cons_zero, List.set_cons_succ])
                refine (radd_any rj (goneX j) v4 a4 c4 b4 o4 HL4.out _ R4.out).mono ?_
                rintro e w5 ⟨v5, a5, c5, b5, o5, rfl, hr5, hn5, hb⟩
                have P5 := Lib.hid (P4.out.below hb)
                have BX5 := Lib.hid (BX4.out.below hb)
                have W5 := Lib.hid (bblock hb W4.out)
                have R5 := Lib.hid hr5
                have N5 := Lib.hid (show 0 < (addR rj (goneX j)).all.length → b5 ≠ g ∧ b5 ≠ BR from fun h => by
                  rcases hn5 h with ⟨e, h0⟩ | h1
                  · rw [e]; exact N4.out h0
                  · have h2 := P4.out.ek.at_.lt
                    have h3 := P4.out.ref.lt
                    omega)
                have O5 : Hid (v5.oneCell' = true) := Lib.hid (by rw [hr5.v]; rfl)
                clear hr5 hn5 hb
                go_wp2_with (guard_target = wpList _ _ _ (Oper.mk none (Op.store _ _ _) _ _ _ none :: _) _ _; refine wpList_store_row rfl 65 _ _ rfl BR (by rfl) ((addR rj (goneX j)).vals v5).toArray (by rfl) (rj.vals v4).toArray 65 W5.out rfl hue.out (rear_one _ O5.out) ?_; intro w6 hw6 hg6; have P6 := Lib.hid (P5.out.put hg6 hw6 R5.out N5.out); have BX6 := Lib.hid (BX5.out.grown hg6 HQ.out.2); clear hw6 hg6)
                exact ⟨⟨j + 1, by omega, by go_num, by rw [HG2.out]; exact P6.out, BX6.out⟩, by simp [intOf]; omega⟩
            · obtain rfl : j = 64 := by omega
              go_wp2_with fail
              go_meet
              case rel => exact ⟨_, _, rfl, P4.out, HR.out.forget x.s, HRB.out.gone x.s 64 (Nat.le_refl _), BX4.out⟩
        have b3 : (x.kind == 3) = false := beq_eq_false_iff_ne.2 c3
        clear c3
        go_wp2_with fail
        go_meet
        case rel => exact ⟨_, _, rfl, P3.out, HR.out, HRB.out.same, BX.out⟩
      case rest =>
        obtain ⟨m', r', rfl, hP, hR', hRB', hBX⟩ := hcut
        have P5 := Lib.hid hP
        have R5 := Lib.hid hR'
        have RB5 := Lib.hid hRB'
        have BX5 := Lib.hid hBX
        have OFS := Lib.hid (hR'.ofs x.p)
        have REA := Lib.hid hR'.reach
        have EPO := Lib.hid hR'.epoch
        have STR := Lib.hid (hR'.strange x.s ce cr)
        have WF5 := Lib.hid (hRB'.wf K1.out)
        clear hP hR' hRB' hBX k0 HR HRB P3 BX
        have k1 := BX5.out.c1
        go_wp2_with fail
        refine (P5.out.ek.of x.p).mono ?_
        rintro e6 w6 ⟨rfl, -, hb⟩
        have P6 := Lib.hid (P5.out.below hb)
        have BX6 := Lib.hid (BX5.out.below hb)
        clear hb k1
        unfold ofV
        generalize ofE m' x.p = bo at OFS ⊢
        obtain ⟨bt, ok⟩ := bo
        try dsimp only at OFS ⊢
        unfold Bt.v
        go_upto_region 29 with (guard_target = wpList _ _ _ (Oper.mk none (Op.store _ _ _) _ _ _ none :: _) _ _; refine wpList_store_row rfl 67 _ _ rfl w6.heap.size (by rfl) bt.vals.toArray (by rfl) Bt.zero.vals.toArray 67 (heap_alloc_new _ _) rfl hub.out bt.oneL ?_; intro w7 hw7 hg7)
        have P7 := Lib.hid (P6.out.below (bel_new hg7))
        have BX7 := Lib.hid (BX6.out.below (bel_new hg7))
        have X7 := Lib.hid hw7
        clear hw7 hg7
        obtain ⟨X, hX⟩ : ∃ X, w6.heap.size = X := ⟨_, rfl⟩
        rw [hX] at X7 ⊢
        clear hX P5 P6 BX5 BX6
        obtain ⟨v4, a4, c4, b4, o4, hw, hr, hn⟩ := P7.out.ref
        have W4 := Lib.hid hw
        have R4 := Lib.hid hr
        clear hw hr hn
        have k1 := BX7.out.c1
        go_wp2_with (guard_target = wpList _ _ _ (Oper.mk _ (Op.load 65 _) _ _ _ none :: _) _ _; refine wpList_load_row rfl 65 _ rfl BR (by rfl) 65 _ (0, 0) _ W4.out Tryd.underlying65 rfl hue.out ?_; simp only [Act.put, List.setIfInBounds_toArray, List.set_cons_zero, List.set_cons_succ])
        refine (rof9_any r' x.p v4 a4 c4 b4 o4 WF5.out.l _ R4.out).mono ?_
        rintro e8 w8 ⟨rfl, hb⟩
        have P8 := Lib.hid (P7.out.below hb)
        have BX8 := Lib.hid (BX7.out.below hb)
        have X8 := Lib.hid (bblock hb X7.out)
        have W8 := Lib.hid (bblock hb W4.out)
        have R8 := Lib.hid (R4.out.below rfl hb)
        clear hb k1
        unfold ofRV
        generalize ofR r' x.p = so at OFS ⊢
        obtain ⟨y, ok2⟩ := so
        try dsimp only at OFS ⊢
        obtain ⟨e1, e2⟩ := OFS.out
        subst e1 e2
        go_upto_region 30 with (guard_target = wpList _ _ _ (Oper.mk none (Op.store _ _ _) _ _ _ none :: _) _ _; refine wpList_store_row rfl 73 _ _ rfl w8.heap.size (by rfl) y.vals.toArray (by rfl) Sd.zero.vals.toArray 73 (heap_alloc_new _ _) rfl hus.out (Sd.oneL _) ?_; intro w9 hw9 hg9)
        have P9 := Lib.hid (P8.out.below (bel_new hg9))
        have BX9 := Lib.hid (BX8.out.below (bel_new hg9))
        have X9 := Lib.hid (bblock (bel_new hg9) X8.out)
        have W9 := Lib.hid (bblock (bel_new hg9) W8.out)
        have R9 := Lib.hid (R8.out.below rfl (bel_new hg9))
        have Y9 := Lib.hid hw9
        clear hw9 hg9
        obtain ⟨Y, hY⟩ : ∃ Y, w8.heap.size = Y := ⟨_, rfl⟩
        rw [hY] at Y9 ⊢
        clear hY P7 P8 BX7 BX8 X7 X8 W4 W8 R4 R8 OFS
        obtain ⟨C, hC⟩ : ∃ C : World → Prop, ∀ w', C w' ↔ Below w9.heap.size w9 w' := ⟨_, fun _ => Iff.rfl⟩
        have k1 := Lib.hid (fun w' (h : C w') => (P9.out.below ((hC w').1 h)).ek.reach.mono (fun e w'' he => (⟨by rw [he.1, REA.out], (hC w'').2 (bthen' ((hC w').1 h) he.2.2)⟩ : e = .returned (.int .u64 (orL (inRR r') 64)) ∧ C w'')))
        have k2 := Lib.hid (fun w' (h : C w') => (rreach_any r' v4 a4 c4 b4 o4 WF5.out w' (R9.out.below rfl ((hC w').1 h))).mono (fun e w'' he => (⟨he.1, (hC w'').2 (bthen' ((hC w').1 h) he.2)⟩ : e = .returned (.int .u64 (orL (inRR r') 64)) ∧ C w'')))
        have ag1 := Lib.hid (fun w' (h : C w') => bblock ((hC w').1 h) W9.out)
        have ag2 := Lib.hid (fun w' (h : C w') => bblock ((hC w').1 h) X9.out)
        have l8 := Lib.hid (fun w' (h : C w') => Sd.c8 (bblock ((hC w').1 h) Y9.out))
        have m4 := Lib.hid (fun w' (h : C w') => (show w'.rangeAt Y 4 [.int .u64 y.b.ce, .int .i64 y.b.cr] by
          intro j u hj
          rw [cell_of_row w' Y (4 + j) _ _ _ (bblock ((hC w').1 h) Y9.out)]
          have hj2 : j < 2 := (List.getElem?_eq_some_iff.1 hj).1
          match j, hj2 with
          | 0, _ => exact hj
          | 1, _ => exact hj))
        have m6 := Lib.hid (fun w' (h : C w') => (show w'.rangeAt Y 6 [.int .u64 y.b.pe, .int .i64 y.b.pr] by
          intro j u hj
          rw [cell_of_row w' Y (6 + j) _ _ _ (bblock ((hC w').1 h) Y9.out)]
          have hj2 : j < 2 := (List.getElem?_eq_some_iff.1 hj).1
          match j, hj2 with
          | 0, _ => exact hj
          | 1, _ => exact hj))
        have huc : Hid ((Tryd.prog.info? 60).map (·.size) = some (2 : Nat)) := Lib.hid (by kernel_rfl)
        have hue1 : Hid ((Tryd.prog.info? 65).map (·.size) = some (r'.vals v4).toArray.size) := Lib.hid size_rear
        have hub1 : Hid ((Tryd.prog.info? 67).map (·.size) = some y.b.vals.toArray.size) := Lib.hid size_beat
        have hC0 : C { w9 with drawn := w9.drawn + 1 } := (hC _).2 (Below.drew (Below.refl _ _))
        have HC := Lib.hid hC
        clear hC
        generalize orL (inRR r') 64 = n1 at k1 k2
        refine wp_region_quiet (C := C) (by kernel_rfl) (by kernel_rfl) hC0 ?_
        dsimp only []
        repeat (first | go_big_quiet_skip | (go_big_quiet_want; first | (refine quiet_load _ _ (by rfl) ?_ _ (by rfl) (by first | exact l8.out) ?_; (· intro w; simp); (simp only [Act.put, List.setIfInBounds_toArray, List.set_cons_zero, List.set_cons_succ]); go_big_quiet_on) | (refine quiet_load_agg Tryd.underlying65 rfl hue1.out _ (by rfl) _ (by rfl) _ _ ag1.out ?_; (simp only [Act.put, List.setIfInBounds_toArray, List.set_cons_zero, List.set_cons_succ]); go_big_quiet_on) | (refine quiet_load_agg Tryd.underlying67 rfl hub1.out _ (by rfl) _ (by rfl) _ _ ag2.out ?_; (simp only [Act.put, List.setIfInBounds_toArray, List.set_cons_zero, List.set_cons_succ]); go_big_quiet_on) | (refine quiet_call 41 _ _ (by rfl) Tryd.call41 _ ?_ k1.out ?_; (· rfl); (simp only [Act.put, List.setIfInBounds_toArray, List.set_cons_zero, List.set_cons_succ]); go_big_quiet_on) | (refine quiet_call 42 _ _ (by rfl) Tryd.call42 _ ?_ k2.out ?_; (· rfl); (simp only [Act.put, List.setIfInBounds_toArray, List.set_cons_zero, List.set_cons_succ]); go_big_quiet_on) | (refine quiet_load_mid (cs := [.int .u64 y.b.ce, .int .i64 y.b.cr]) Tryd.underlying60 rfl huc.out _ (by rfl) Y 4 (by rfl) m4.out ?_; (simp only [Act.put, List.setIfInBounds_toArray, List.set_cons_zero, List.set_cons_succ]); go_big_quiet_on) | (refine quiet_load_mid (cs := [.int .u64 y.b.pe, .int .i64 y.b.pr]) Tryd.underlying60 rfl huc.out _ (by rfl) Y 6 (by rfl) m6.out ?_; (simp only [Act.put, List.setIfInBounds_toArray, List.set_cons_zero, List.set_cons_succ]); go_big_quiet_on) | (refine quiet_build _ _ (by rfl) #[(0, .agg #[.int .u64 y.b.ce, .int .i64 y.b.cr]), (1, .agg #[.int .u64 y.b.pe, .int .i64 y.b.pr]), (2, .int .u64 y.b.ep)] (by kernel_rfl) (run_buildB y.b) ?_; (simp only [Act.put, List.setIfInBounds_toArray, List.set_cons_zero, List.set_cons_succ]); go_big_quiet_on) | (refine quiet_exec (exec_neq_beat rfl _ y.b y.b (by rfl) (by rfl)) ?_; simp only [Bt.same_self, Bool.not_true]; (simp only [Act.put, List.setIfInBounds_toArray, List.set_cons_zero, List.set_cons_succ]); go_big_quiet_on) | (go_big_quiet_op; go_big_quiet_on) | (go_big_quiet_op; refine Exists.intro _ ⟨fun _ _ => rfl, ?_⟩; go_big_quiet_on)))
        trace_state
        refine wpQuiet_nil ?_
        intro w10 hC10
        have P10 := Lib.hid (P9.out.below ((HC.out _).1 hC10))
        have BX10 := Lib.hid (BX9.out.below ((HC.out _).1 hC10))
        have W10 := Lib.hid (bblock ((HC.out _).1 hC10) W9.out)
        have R10 := Lib.hid (R9.out.below rfl ((HC.out _).1 hC10))
        clear hC10 hC0 k1 k2 ag1 ag2 l8 m4 m6 HC P9 BX9 W9 R9 X9 Y9
        clear C
        go_upto_region 32 with fail
        obtain ⟨C, hC⟩ : ∃ C : World → Prop, ∀ w', C w' ↔ Below w10.heap.size w10 w' := ⟨_, fun _ => Iff.rfl⟩
        have k3 := Lib.hid (fun w' (h : C w') => (P10.out.below ((hC w').1 h)).ek.epoch.mono (fun e w'' he => (⟨by rw [he.1, EPO.out], (hC w'').2 (bthen' ((hC w').1 h) he.2.2)⟩ : e = .returned (.int .u64 (epRK r' 64)) ∧ C w'')))
        have k4 := Lib.hid (fun w' (h : C w') => (repoch_any r' v4 a4 c4 b4 o4 WF5.out w' (R10.out.below rfl ((hC w').1 h))).mono (fun e w'' he => (⟨he.1, (hC w'').2 (bthen' ((hC w').1 h) he.2)⟩ : e = .returned (.int .u64 (epRK r' 64)) ∧ C w'')))
        have k5 := Lib.hid (fun w' (h : C w') => ((P10.out.below ((hC w').1 h)).ek.strange x.s ce cr HXS.out).mono (fun e w'' he => (⟨by rw [he.1, STR.out], (hC w'').2 (bthen' ((hC w').1 h) he.2.2)⟩ : e = .returned (.int .u64 (orL (strR r' x.s ce cr) 64)) ∧ C w'')))
        have k6 := Lib.hid (fun w' (h : C w') => (rstrange_any r' x.s ce cr HXS.out v4 a4 c4 b4 o4 WF5.out w' (R10.out.below rfl ((hC w').1 h))).mono (fun e w'' he => (⟨he.1, (hC w'').2 (bthen' ((hC w').1 h) he.2)⟩ : e = .returned (.int .u64 (orL (strR r' x.s ce cr) 64)) ∧ C w'')))
        have ag1 := Lib.hid (fun w' (h : C w') => bblock ((hC w').1 h) W10.out)
        have ag2 := Lib.hid (fun w' (h : C w') => bblock ((hC w').1 h) P10.out.cf)
        have l7 := Lib.hid (fun w' (h : C w') => (BX10.out.below ((hC w').1 h)).c7)
        have huc1 : Hid ((Tryd.prog.info? 60).map (·.size) = some (#[.int .u64 ce, .int .i64 cr] : Array Value).size) := Lib.hid (by kernel_rfl)
        have hC0 : C { w10 with drawn := w10.drawn + 1 } := (hC _).2 (Below.drew (Below.refl _ _))
        have HC := Lib.hid hC
        clear hC
        generalize epRK r' 64 = n2 at k3 k4
        generalize orL (strR r' x.s ce cr) 64 = n3 at k5 k6
        refine wp_region_quiet (C := C) (by kernel_rfl) (by kernel_rfl) hC0 ?_
        dsimp only []
        repeat (first | go_big_quiet_skip | (go_big_quiet_want; first | (refine quiet_load _ _ (by rfl) ?_ _ (by rfl) (by first | exact l7.out) ?_; (· intro w; simp); (simp only [Act.put, List.setIfInBounds_toArray, List.set_cons_zero, List.set_cons_succ]); go_big_quiet_on) | (refine quiet_load_agg Tryd.underlying65 rfl hue1.out _ (by rfl) _ (by rfl) _ _ ag1.out ?_; (simp only [Act.put, List.setIfInBounds_toArray, List.set_cons_zero, List.set_cons_succ]); go_big_quiet_on) | (refine quiet_load_agg Tryd.underlying60 rfl huc1.out _ (by rfl) _ (by rfl) _ _ ag2.out ?_; (simp only [Act.put, List.setIfInBounds_toArray, List.set_cons_zero, List.set_cons_succ]); go_big_quiet_on) | (refine quiet_call 43 _ _ (by rfl) Tryd.call43 _ ?_ k3.out ?_; (· rfl); (simp only [Act.put, List.setIfInBounds_toArray, List.set_cons_zero, List.set_cons_succ]); go_big_quiet_on) | (refine quiet_call 44 _ _ (by rfl) Tryd.call44 _ ?_ k4.out ?_; (· rfl); (simp only [Act.put, List.setIfInBounds_toArray, List.set_cons_zero, List.set_cons_succ]); go_big_quiet_on) | (refine quiet_call 45 _ _ (by rfl) Tryd.call45 _ ?_ k5.out ?_; (· rfl); (simp only [Act.put, List.setIfInBounds_toArray, List.set_cons_zero, List.set_cons_succ]); go_big_quiet_on) | (refine quiet_call 46 _ _ (by rfl) Tryd.call46 _ ?_ k6.out ?_; (· rfl); (simp only [Act.put, List.setIfInBounds_toArray, List.set_cons_zero, List.set_cons_succ]); go_big_quiet_on) | (go_big_quiet_op; go_big_quiet_on) | (go_big_quiet_op; refine Exists.intro _ ⟨fun _ _ => rfl, ?_⟩; go_big_quiet_on)))
        trace_state
        refine wpQuiet_nil ?_
        intro w11 hC11
        have P11 := Lib.hid (P10.out.below ((HC.out _).1 hC11))
        clear hC11 hC0 k3 k4 k5 k6 ag1 ag2 l7 HC
        go_wp2_with fail
        exact ⟨⟨k + 1, m', r', by omega, by go_num, P11.out, R5.out, RB5.out⟩, by simp [intOf]; omega⟩
    · go_wp2
      go_ret
      exact ⟨rfl, P2.out.ek.bel⟩
end Go.Proofs.YtjokfjdbioeohaaDoor

/-
  HeardApart: the walk: for every me, n, script and q the law returns true.
-/
import Derived.Test.YtjokfjdbioeohaaDoorHeardApartP
import Derived.Test.YtjokfjdbioeohaaDoorPlain
import Derived.Test.YtjokfjdbioeohaaDoorEqB
import Derived.Test.YtjokfjdbioeohaaDoorValsB
import Derived.Deep.CutBlock
import Derived.Deep.DeepCutAuto
import Derived.BigGuard
namespace Go.Proofs.YtjokfjdbioeohaaDoor
open Go.RowKit Go.BigFrame
set_option maxHeartbeats 2000000
set_option maxRecDepth 100000
/-- Two ears in memory of the call's own. -/
structure Two (w0 w : World) (a b : Nat) (e f : Ear) : Prop where
  ea : Ek w0 w a e
  fb : Ek w0 w b f
  ne : a ≠ b
section
variable {w0 w w' : World} {a b B : Nat} {e f e' f' : Ear} {x : HAct}
theorem Two.onA (h : Two w0 w a b e f) (hk : Ek w0 w' a e') (hg : w.grownBy w' (some a)) : Two w0 w' a b e' f := ⟨hk, h.fb.keep hg (Ne.symm h.ne) h.ea.new, h.ne⟩
theorem Two.onB (h : Two w0 w a b e f) (hk : Ek w0 w' b f') (hg : w.grownBy w' (some b)) : Two w0 w' a b e f' := ⟨h.ea.keep hg h.ne h.fb.new, hk, h.ne⟩
theorem Two.below (h : Two w0 w a b e f) (hb : Below w.heap.size w w') : Two w0 w' a b e f := ⟨h.ea.below hb, h.fb.below hb, h.ne⟩
theorem Two.side {z : Nat} (h : Two w0 w a b e f) (hg : w.grownBy w' (some z)) (ha : a ≠ z) (hb : b ≠ z) (hn : w0.heap.size ≤ z) : Two w0 w' a b e f := ⟨h.ea.keep hg ha hn, h.fb.keep hg hb hn, h.ne⟩
end
/-- Of(me, q). -/
theorem of_two (g c : Nat) (x y : Int) (w : World) (h0 : w.cell? ⟨g, 0, none⟩ = some (.int .i64 x)) (h1 : w.cell? ⟨g, 1, none⟩ = some (.int .i64 y)) :
    Calls Tryd.prog 29 #[.slice (some ⟨g, 0, none⟩) 2 c] w fun e w' => e = .returned (.int .u64 (withN 0 [x, y])) ∧ w = w' := by
  have H := Lib.hid (with_slice 0 g 0 c [x, y] (by decide) (by simp) w (fun i hi => by
    have : i = 0 ∨ i = 1 := by simp at hi; omega
    rcases this with rfl | rfl
    · exact h0
    · exact h1))
  generalize withN 0 [x, y] = n at H
  go_enter Tryd.func29, Tryd.ntmps29
  go_wp2_with (go_at_call 50; refine H.out.mono ?_; rintro e w' ⟨rfl, rfl⟩)
  go_ret
  exact ⟨rfl, rfl⟩
/-- The statement f.Forget(set.Set(a.S).Both(set.Of(q))), whatever its order. -/
structure ApC (W : World) (B g : Nat) (x : HAct) (q : Nat) (m' : Ear) (L : Nat → Bool) (w : World) : Prop where
  box : BoxH w B x
  start : L 4 = false → w.heap.size = W.heap.size ∧ L 5 = false ∧ L 6 = false ∧ L 7 = false
  ord : L 6 = true ∨ L 7 = true → L 5 = true
  bel : L 7 = false → Below W.heap.size W w
  cell : L 4 = true → L 7 = false → w.cell? ⟨W.heap.size, 0, none⟩ = some (.int .i64 q)
  fin : L 7 = true → ∃ w1, Below W.heap.size W w1 ∧ EarAt w g m' ∧ w1.grownBy w (some g)
section
variable {W : World} {B g : Nat} {x : HAct} {q : Nat} {m' : Ear} {L : Nat → Bool} {w : World}
theorem addL_ne {L : Nat → Bool} {i j : Nat} (h : j ≠ i) : addL L i j = L j := by unfold addL; rw [if_neg h]
theorem addL_eq (L : Nat → Bool) (i : Nat) : addL L i i = true := by unfold addL; rw [if_pos rfl]
theorem ApC.first (hb : BoxH W B x) (n : Nat) : ApC W B g x q m' (fun _ => false) { W with drawn := n } :=
  ⟨hb, (fun _ => ⟨rfl, rfl, rfl, rfl⟩), (fun h => by simp at h), (fun _ => ⟨rfl, rfl, rfl, Nat.le_refl _, fun _ _ => rfl⟩), (fun h => by cases h), (fun h => by cases h)⟩
theorem ApC.more : ∀ i, (i ≠ 4 ∧ i ≠ 5 ∧ i ≠ 6 ∧ i ≠ 7) → ∀ L w, ApC W B g x q m' L w → L i = false → ApC W B g x q m' (addL L i) w := by
  intro i ⟨h4, h5, h6, h7⟩ L w h _
  refine ⟨h.box, ?_, ?_, ?_, ?_, ?_⟩ <;> simp only [addL_ne (Ne.symm h4), addL_ne (Ne.symm h5), addL_ne (Ne.symm h6), addL_ne (Ne.symm h7)]
  · exact h.start
  · exact h.ord
  · exact h.bel
  · exact h.cell
  · exact h.fin
theorem ApC.L4 (h : ApC W B g x q m' L w) (hl : L 5 = true) : L 4 = true := by
  cases h4 : L 4
  · rw [(h.start h4).2.1] at hl; cases hl
  · rfl
theorem ApC.L7 (h : ApC W B g x q m' L w) (hl : L 5 = false) : L 7 = false := by
  cases h7 : L 7
  · rfl
  · rw [h.ord (.inr h7)] at hl; cases hl
theorem ApC.s4 (h : ApC W B g x q m' L w) (h4 : L 4 = false) : ApC W B g x q m' (addL L 4) (w.alloc (.cells #[.int .i64 q] 3)) := by
  obtain ⟨hs, h5, h6, h7⟩ := h.start h4
  have hb := h.bel h7
  refine ⟨h.box.below ((Below.refl _ _).alloc (Nat.le_refl _) _), fun e => (by rw [addL_eq] at e; cases e), fun e => ?_, fun _ => hb.alloc hb.size _, fun _ _ => ?_, fun e => ?_⟩
  · rw [addL_ne (by decide), addL_ne (by decide), h6, h7] at e; simp at e
  · rw [← hs]; exact cell_new _ _ _
  · rw [addL_ne (by decide), h7] at e; cases e
theorem ApC.s5 (h : ApC W B g x q m' L w) (h4 : L 4 = true) : ApC W B g x q m' (addL L 5) w := by
  refine ⟨h.box, fun e => ?_, fun _ => addL_eq L 5, ?_, ?_, ?_⟩
  · rw [addL_ne (by decide), h4] at e; cases e
  all_goals rw [addL_ne (show 7 ≠ 5 by decide)]
  · exact h.bel
  · intro _; exact h.cell h4
  · exact h.fin
theorem ApC.s6 (h : ApC W B g x q m' L w) (h5 : L 5 = true) : ApC W B g x q m' (addL L 6) w := by
  have h4 := h.L4 h5
  refine ⟨h.box, fun e => ?_, fun _ => (by rw [addL_ne (by decide)]; exact h5), ?_, ?_, ?_⟩
  · rw [addL_ne (by decide), h4] at e; cases e
  all_goals rw [addL_ne (show 7 ≠ 6 by decide)]
  · exact h.bel
  · intro _; exact h.cell h4
  · exact h.fin
theorem ApC.s7 {w' : World} (h : ApC W B g x q m' L w) (h7 : L 7 = false) (h5 : L 5 = true) (hne : B ≠ g) (hE : EarAt w' g m') (hg : w.grownBy w' (some g)) : ApC W B g x q m' (addL L 7) w' := by
  have h4 := h.L4 h5
  refine ⟨h.box.grown hg hne, fun e => ?_, fun _ => (by rw [addL_ne (by decide)]; exact h5), fun e => ?_, fun _ e => ?_, fun _ => ⟨w, h.bel h7, hE, hg⟩⟩
  · rw [addL_ne (by decide), h4] at e; cases e
  · rw [addL_eq] at e; cases e
  · rw [addL_eq] at e; cases e
end
theorem apart_walk (me n : Int) (l : List HAct) (v : Value) (q : Int) (a : Option Addr) (c b o : Nat) (w : World) (hT : TabOk w) (hA : HActsAt w v l a c b o) :
    Calls Tryd.prog 10 #[.int .i64 me, .int .i64 n, v, .int .i64 q] w fun e w' => e = .returned (.bool true) ∧ Below w.heap.size w w' := by
  obtain rfl := hA.v
  have hz := zero_beat
  have hz2 := zero_hact
  have hub : Hid ((Tryd.prog.info? 67).map (·.size) = some (5 : Nat)) := Lib.hid size_beat
  have hua : Hid ((Tryd.prog.info? 69).map (·.size) = some (8 : Nat)) := Lib.hid size_hact
  have HT := Lib.hid hT
  have HW := Lib.hid (hawake_any w hT)
  have HS := Lib.hid hA
  have hpos : 0 < w.heap.size := Nat.lt_of_le_of_lt (Nat.zero_le _) hT.size
  clear hT hA
  by_cases h3 : 100 < l.length
  · have h3' : (100 : Int) < (l.length : Int) := by omega
    go_enter Tryd.func10, Tryd.ntmps10
    go_wp2_with fail
    refine HW.out.mono ?_
    rintro e w1 ⟨rfl, hb⟩
    have HB := Lib.hid hb
    clear hb
    go_wp2_with fail
    go_ret
    exact ⟨rfl, HB.out⟩
  have h3' : (l.length : Int) ≤ 100 := by omega
  have h3n := Lib.hid (show l.length ≤ 100 by omega)
  clear h3
  by_cases h4 : q < 0
  ·
    go_enter Tryd.func10, Tryd.ntmps10
    go_wp2_with fail
    refine HW.out.mono ?_
    rintro e w1 ⟨rfl, hb⟩
    have HB := Lib.hid hb
    clear hb
    go_wp2_with fail
    go_ret
    exact ⟨rfl, HB.out⟩
  have h4' : 0 ≤ q := by omega
  clear h4
  by_cases h5 : 63 < q
  ·
    go_enter Tryd.func10, Tryd.ntmps10
    go_wp2_with fail
    refine HW.out.mono ?_
    rintro e w1 ⟨rfl, hb⟩
    have HB := Lib.hid hb
    clear hb
    go_wp2_with fail
    go_ret
    exact ⟨rfl, HB.out⟩
  have h5' : q ≤ 63 := by omega
  clear h5
  obtain ⟨Q, rfl⟩ := Int.eq_ofNat_of_zero_le h4'
  have HQ := Lib.hid (show Q < 64 by omega)
  go_enter Tryd.func10, Tryd.ntmps10
  go_wp2_with fail
  refine HW.out.mono ?_
  rintro e w1 ⟨rfl, hb⟩
  have HB := Lib.hid hb
  clear hb
  go_wp2_with fail
  refine (Ek.make (w0 := w) (HT.out.belowS HB.out) HB.out hpos me n 3).mono ?_
  rintro e w2 ⟨g, rfl, hL, -, -⟩
  have L0 := Lib.hid hL
  clear hL
  go_wp2_with fail
  refine (Ek.make (w0 := w) L0.out.tab L0.out.bel hpos me n 3).mono ?_
  rintro e w3 ⟨g2, rfl, hL, hgt, hb⟩
  have T0 := Lib.hid (show Two w w3 g g2 (newE me n 3) (newE me n 3) from ⟨L0.out.below hb, hL, by have := L0.out.at_.lt; omega⟩)
  have A0 := Lib.hid (Apart.new me n 3 Q)
  have N0 := Lib.hid (show (newE me n 3).now = 0 from rfl)
  have M0 := Lib.hid (show (newE me n 3).me = me from rfl)
  clear hL hgt hb L0
  go_wp2_with fail
  generalize newE me n 3 = m0 at T0 A0 N0 M0
  go_loopw [11, 12, 13, 14, 15, 16] (fun i _ _ _ _ _ wr => ∃ (k : Nat) (e f : Ear), k ≤ l.length ∧ i = .int .i64 k ∧ Two w wr g g2 e f ∧ Apart e f Q ∧ e.now ≤ (k : Int) ∧ e.me = me) (fun i _ _ _ _ _ _ => l.length - (intOf i).toNat)
  case atStart => exact ⟨0, m0, m0, Nat.zero_le _, rfl, T0.out, A0.out, by rw [N0.out]; exact Int.le_refl _, M0.out⟩
  case round =>
    obtain ⟨k, e, f, hk, rfl, hL, hAp, hN, hM⟩ := hrel
    have L2 := Lib.hid hL
    have HAP := Lib.hid hAp
    have HN := Lib.hid hN
    have HM := Lib.hid hM
    clear hL hAp hN hM T0 A0 N0 M0
    by_cases hlt : k < l.length
    · have hkl' : (k : Int) < (l.length : Int) := by omega
      have S := HS.out.below rfl L2.out.ea.bel
      have hxv := S.x k hlt
      have hx := S.ok _ (List.getElem_mem hlt)
      obtain ⟨rfl, _⟩ := HS.out.a (by omega)
      obtain ⟨x, hxx⟩ : ∃ x, l[k] = x := ⟨_, rfl⟩
      rw [hxx] at hxv hx
      have HXV := Lib.hid hxv
      have HXS := Lib.hid hx
      have HR := Lib.hid (show wr.heap.size ≠ g ∧ wr.heap.size ≠ g2 from ⟨Nat.ne_of_gt L2.out.ea.at_.lt, Nat.ne_of_gt L2.out.fb.at_.lt⟩)
      have LA := Lib.hid (L2.out.below ((Below.refl _ _).alloc (Nat.le_refl _) (.cells HAct.zero.vals.toArray 69)))
      have HNE := Lib.hid (show g ≠ g2 from L2.out.ne)
      clear S hxx hxv hx
      go_upto_region 10 with (first
        | (guard_target = wpList _ _ _ (Oper.mk _ (Op.load _ _) _ _ _ none :: _) _ _; refine wpList_load_mid rfl 69 _ rfl b (o + k * 8) (by rfl) x.vals _ HXV.out Tryd.underlying69 rfl hua.out ?_; simp only [Act.put, List.setIfInBounds_toArray, List.set_cons_zero, List.set_cons_succ])
        | (guard_target = wpList _ _ _ (Oper.mk none (Op.store _ _ _) _ _ _ none :: _) _ _; refine wpList_store_row rfl 69 _ _ rfl wr.heap.size (by rfl) x.vals.toArray (by rfl) HAct.zero.vals.toArray 69 (heap_alloc_new _ _) rfl hua.out x.oneL ?_; intro w3 hw3 hg3))
      have BX := Lib.hid (show BoxH w3 wr.heap.size x from hw3)
      have L3 := Lib.hid (LA.out.side hg3 (Ne.symm HR.out.1) (Ne.symm HR.out.2) L2.out.ea.bel.size)
      clear hw3 hg3
      have k0 := BX.out.c0
      go_upto_block 2 with fail
      obtain ⟨B, hB⟩ : ∃ B, wr.heap.size = B := ⟨_, rfl⟩
      rw [hB] at BX HR k0 ⊢
      clear hB L2 LA HXV
      go_cut [12] (fun s12 wx => ∃ e' f' : Ear, s12 = .pointer (some ⟨B, 0, none⟩) ∧ Two w wx g g2 e' f' ∧ Apart e' f' Q ∧ e'.now ≤ ((k + 1 : Nat) : Int) ∧ e'.me = me)
      case first =>
        have NE := Lib.hid (show (e.now : Int) + 1 ≤ ((k + 1 : Nat) : Int) ∧ e.now ≤ ((k + 1 : Nat) : Int) from by have := HN.out; omega)
        have NX := Lib.hid (show e.now + 1 < 4611686018427387904 ∧ f.now + 1 < 4611686018427387904 from by have h1 := HN.out; have h2 := h3n.out; have h3 := HAP.out.now; omega)
        clear k0 hk
        by_cases c0 : x.kind = 0
        · have b0 : (x.kind == 0) = true := beq_iff_eq.2 c0
          clear c0
          go_wp2_with fail
          refine (L3.out.ea.tick NX.out.1).mono ?_
          rintro e4 w4 ⟨rfl, hL, hg⟩
          have L4 := Lib.hid (L3.out.onA hL hg)
          clear hL hg
          go_wp2_with fail
          refine (L4.out.fb.tick NX.out.2).mono ?_
          rintro e5 w5 ⟨rfl, hL, hg⟩
          have L5 := Lib.hid (L4.out.onB hL hg)
          clear hL hg
          go_wp2_with fail
          go_meet
          case rel => exact ⟨_, _, rfl, L5.out, HAP.out.tick, NE.out.1, HM.out⟩
        have b0 : (x.kind == 0) = false := beq_eq_false_iff_ne.2 c0
        clear c0
        by_cases c1 : x.kind = 1
        · have b1 : (x.kind == 1) = true := beq_iff_eq.2 c1
          clear c1
          have k1 := BX.out.c1
          go_wp2_with fail
          refine (L3.out.ea.hear x.p).mono ?_
          rintro e4 w4 ⟨rfl, hL, hg⟩
          have L4 := Lib.hid (L3.out.onA hL hg)
          have BX4 := Lib.hid (BX.out.grown hg HR.out.1)
          have k1 := BX4.out.c1
          clear hL hg
          by_cases hpq : x.p = (Q : Int)
          · have bpq : (x.p == (Q : Int)) = true := beq_iff_eq.2 hpq
            have HAP2 := Lib.hid (show Apart (hearE e x.p) (hearE f x.p) Q by rw [hpq]; exact HAP.out.hear)
            clear hpq
            go_wp2_with fail
            refine (L4.out.fb.hear x.p).mono ?_
            rintro e5 w5 ⟨rfl, hL, hg⟩
            have L5 := Lib.hid (L4.out.onB hL hg)
            clear hL hg
            go_wp2_with fail
            go_meet
            case rel => exact ⟨_, _, rfl, L5.out, HAP2.out, by rw [hearE_now]; exact NE.out.2, by rw [hearE_me]; exact HM.out⟩
          · have bpq : (x.p == (Q : Int)) = false := beq_eq_false_iff_ne.2 hpq
            have HAP2 := Lib.hid (HAP.out.hearL hpq)
            clear hpq
            go_wp2_with fail
            go_meet
            case rel => exact ⟨_, _, rfl, L4.out, HAP2.out, by rw [hearE_now]; exact NE.out.2, by rw [hearE_me]; exact HM.out⟩
        have b1 : (x.kind == 1) = false := beq_eq_false_iff_ne.2 c1
        clear c1
        by_cases c2 : x.kind = 2
        · have b2 : (x.kind == 2) = true := beq_iff_eq.2 c2
          clear c2
          have k1 := BX.out.c1
          go_wp2_with (guard_target = wpList _ _ _ (Oper.mk _ (Op.load _ _) _ _ _ none :: _) _ _; refine wpList_load_mid rfl 67 _ rfl B 2 (by rfl) x.b.vals _ BX.out.rb Tryd.underlying67 rfl hub.out ?_; simp only [Act.put, List.setIfInBounds_toArray, List.set_cons_zero, List.set_cons_succ])
          refine (L3.out.ea.beat x.p x.b).mono ?_
          rintro e4 w4 ⟨rfl, hL, hg⟩
          have L4 := Lib.hid (L3.out.onA hL hg)
          have BX4 := Lib.hid (BX.out.grown hg HR.out.1)
          have k1 := BX4.out.c1
          clear hL hg
          by_cases hpq : x.p = (Q : Int)
          · have bpq : (x.p == (Q : Int)) = true := beq_iff_eq.2 hpq
            have HAP2 := Lib.hid (show Apart (beatE e x.p x.b) (beatE f x.p x.b) Q by rw [hpq]; exact HAP.out.beat x.b)
            clear hpq
            go_wp2_with (guard_target = wpList _ _ _ (Oper.mk _ (Op.load _ _) _ _ _ none :: _) _ _; refine wpList_load_mid rfl 67 _ rfl B 2 (by rfl) x.b.vals _ BX4.out.rb Tryd.underlying67 rfl hub.out ?_; simp only [Act.put, List.setIfInBounds_toArray, List.set_cons_zero, List.set_cons_succ])
            refine (L4.out.fb.beat x.p x.b).mono ?_
            rintro e5 w5 ⟨rfl, hL, hg⟩
            have L5 := Lib.hid (L4.out.onB hL hg)
            clear hL hg
            go_wp2_with fail
            go_meet
            case rel => exact ⟨_, _, rfl, L5.out, HAP2.out, by rw [beatE_now]; exact NE.out.2, by rw [beatE_me]; exact HM.out⟩
          · have bpq : (x.p == (Q : Int)) = false := beq_eq_false_iff_ne.2 hpq
            have HAP2 := Lib.hid (HAP.out.beatL hpq x.b)
            clear hpq
            go_wp2_with fail
            go_meet
            case rel => exact ⟨_, _, rfl, L4.out, HAP2.out, by rw [beatE_now]; exact NE.out.2, by rw [beatE_me]; exact HM.out⟩
        have b2 : (x.kind == 2) = false := beq_eq_false_iff_ne.2 c2
        clear c2
        by_cases c3 : x.kind = 3
        · have b3 : (x.kind == 3) = true := beq_iff_eq.2 c3
          clear c3
          have k7 := BX.out.c7
          go_wp2_with fail
          refine (L3.out.ea.forget x.s HXS.out).mono ?_
          rintro e4 w4 ⟨rfl, hL, hg⟩
          have L4 := Lib.hid (L3.out.onA hL hg)
          have BX4 := Lib.hid (BX.out.grown hg HR.out.1)
          clear hL hg k7
          have HSQ := Lib.hid (show x.s &&& bitN Q < 18446744073709551616 from and_lt64 HXS.out)
          obtain ⟨C, hC⟩ : ∃ C : (Nat → Bool) → World → Prop, C = ApC w4 B g2 x Q (forgetE f (x.s &&& bitN Q)) := ⟨_, rfl⟩
          have hC0 : C (fun _ => false) { w4 with drawn := w4.drawn + 1 } := by rw [hC]; exact ApC.first BX4.out _
          have hm : ∀ i, (i ≠ 4 ∧ i ≠ 5 ∧ i ≠ 6 ∧ i ≠ 7) → ∀ L w, C L w → L i = false → C (addL L i) w := by rw [hC]; exact ApC.more
          have l7 := Lib.hid (show ∀ (L : Nat → Bool) w', C L w' → w'.cell? ⟨B, 7, none⟩ = some (.int .u64 x.s) by rw [hC]; intro L w' h; exact h.box.c7)
          have k4 := Lib.hid (show ∀ (L : Nat → Bool) w', C L w' → L 4 = false → ∃ w'', (Instr.buildSlice 92 1 #[(0, .int .i64 (Q : Int))]).run Tryd.prog w' = .ok (.slice (some ⟨w4.heap.size, 0, none⟩) 1 1) w'' ∧ C (addL L 4) w'' by
            rw [hC]; intro L w' h h4
            exact ⟨_, by rw [← (h.start h4).1]; exact run_build1 _ _, h.s4 h4⟩)
          have k5 := Lib.hid (show ∀ (L : Nat → Bool) w', C L w' → L 5 = false → L 4 = true → Calls Tryd.prog 29 #[.slice (some ⟨w4.heap.size, 0, none⟩) 1 1] w' fun e w'' => e = .returned (.int .u64 (bitN Q)) ∧ C (addL L 5) w'' by
            rw [hC]; intro L w' h h5 h4
            refine (of_one _ _ _ _ (h.cell h4 (h.L7 h5))).mono ?_
            rintro e w'' ⟨rfl, rfl⟩
            exact ⟨rfl, h.s5 h4⟩)
          have k6 := Lib.hid (show ∀ (L : Nat → Bool) w', C L w' → L 5 = true → Calls Tryd.prog 48 #[.int .u64 x.s, .int .u64 (bitN Q)] w' fun e w'' => e = .returned (.int .u64 (x.s &&& bitN Q : Nat)) ∧ C (addL L 6) w'' by
            rw [hC]; intro L w' h h5
            refine (both_any _ _ HXS.out (bitN_lt _) _).mono ?_
            rintro e w'' ⟨rfl, rfl⟩
            exact ⟨rfl, h.s6 h5⟩)
          have k7 := Lib.hid (show ∀ (L : Nat → Bool) w', C L w' → L 7 = false → L 6 = true → Calls Tryd.prog 38 #[.pointer (some ⟨g2, 0, none⟩), .int .u64 (x.s &&& bitN Q : Nat)] w' fun e w'' => e = .returned (.tuple #[]) ∧ C (addL L 7) w'' by
            rw [hC]; intro L w' h h7 h6
            refine ((L4.out.fb.below (h.bel h7)).forget _ HSQ.out).mono ?_
            rintro e w'' ⟨rfl, hk, hg⟩
            exact ⟨rfl, h.s7 h7 (h.ord (.inl h6)) HR.out.2 hk.at_ hg⟩)
          have HC := Lib.hid (show ∀ w', C (ltL 8) w' → ∃ w1, Below w4.heap.size w4 w1 ∧ EarAt w' g2 (forgetE f (x.s &&& bitN Q)) ∧ w1.grownBy w' (some g2) by
            rw [hC]; intro w' h
            exact h.fin (by rfl))
          have HAP2 := Lib.hid (HAP.out.forget HQ.out x.s)
          clear hC
          go_upto_region 24 with fail
          refine wp_region_vals (C := C) (by kernel_rfl) (by kernel_rfl) hC0 ?_
          dsimp only []
          repeat (first | (refine wpVals_skip (by rfl) (hm _ (by decide)) ?_; (simp only [Act.put, List.setIfInBounds_toArray, List.set_cons_zero, List.set_cons_succ])) | (refine wpVals_move _ (by rfl) (by rfl) (hm _ (by decide)) ?_; (simp only [Act.put, Act.eval, List.getD_toArray, List.getD_cons_zero, List.getD_cons_succ, List.setIfInBounds_toArray, List.set_cons_zero, List.set_cons_succ])) | (refine wpVals_assign _ (by rfl) (by rfl) (hm _ (by decide)) ?_; (simp only [Act.put, Act.eval, List.getD_toArray, List.getD_cons_zero, List.getD_cons_succ, List.setIfInBounds_toArray, List.set_cons_zero, List.set_cons_succ])) | (refine wpVals_load _ _ (by rfl) (by rfl) (hm _ (by decide)) ?_ _ (by rfl) (by first | exact l7.out) ?_; (· intro w; simp); (simp only [Act.put, List.setIfInBounds_toArray, List.set_cons_zero, List.set_cons_succ])) | (refine wpVals_build 92 _ _ (by rfl) (by rfl) #[(0, .int .i64 (Q : Int))] (by kernel_rfl) (fun L w' hC hL _ => k4.out L w' hC hL) ?_; (simp only [Act.put, List.setIfInBounds_toArray, List.set_cons_zero, List.set_cons_succ])) | (refine wpVals_call 29 _ _ (by rfl) (by rfl) Tryd.call29 _ (by rfl) (fun L w' hC hL hwt => k5.out L w' hC hL (hwt 4 (by kernel_rfl))) ?_; (simp only [Act.put, List.setIfInBounds_toArray, List.set_cons_zero, List.set_cons_succ])) | (refine wpVals_call 48 _ _ (by rfl) (by rfl) Tryd.call48 _ (by rfl) (fun L w' hC hL hwt => k6.out L w' hC (hwt 5 (by kernel_rfl))) ?_; (simp only [Act.put, List.setIfInBounds_toArray, List.set_cons_zero, List.set_cons_succ])) | (refine wpVals_call 38 _ _ (by rfl) (by rfl) Tryd.call38 _ (by rfl) (fun L w' hC hL hwt => k7.out L w' hC hL (hwt 6 (by kernel_rfl))) ?_; (simp only [Act.put, List.setIfInBounds_toArray, List.set_cons_zero, List.set_cons_succ])) | (refine wpVals_free (v := ?_) (by rfl) (hm _ (by decide)) (fun _ => ?_) ?_; rotate_left; (first | (go_simp; done) | (go_simp; rfl)); (simp only [Act.put, List.setIfInBounds_toArray, List.set_cons_zero, List.set_cons_succ])))
          refine wpVals_nil ?_
          intro w5 hC5
          obtain ⟨w6, hb, hE, hg⟩ := HC.out w5 hC5
          have T6 := L4.out.below hb
          have L5 := Lib.hid (T6.onB (T6.fb.grown hg hE (T6.fb.wf.forget _)) hg)
          clear hb hE hg T6 hC5 hm hC0
          go_wp2_with fail
          go_meet
          case rel => exact ⟨_, _, rfl, L5.out, HAP2.out, by rw [forgetE_now]; exact NE.out.2, by rw [forgetE_me]; exact HM.out⟩
        have b3 : (x.kind == 3) = false := beq_eq_false_iff_ne.2 c3
        clear c3
        go_wp2_with fail
        go_meet
        case rel => exact ⟨_, _, rfl, L3.out, HAP.out, NE.out.2, HM.out⟩
      case rest =>
        obtain ⟨e', f', rfl, hT5, hAP5, hN5, hM5⟩ := hcut
        have T5 := Lib.hid hT5
        have HAP5 := Lib.hid hAP5
        have HN5 := Lib.hid hN5
        have HM5 := Lib.hid hM5
        have OF := Lib.hid (hAP5.of HQ.out)
        have HAS := Lib.hid (hAP5.has HQ.out)
        have INN := Lib.hid (show butN (reachE f') (withN 0 [me, (Q : Int)]) = 0 by rw [← hM5]; exact hAP5.inn HQ.out)
        clear hT5 hAP5 hN5 hM5 k0 HAP HN HM L3 BX HR
        go_wp2_with fail
        refine (T5.out.ea.of Q).mono ?_
        rintro e6 w6 ⟨rfl, -, hb⟩
        have T6 := Lib.hid (T5.out.below hb)
        clear hb
        unfold ofV at OF
        unfold ofV
        generalize ofE e' Q = bo at OF ⊢
        obtain ⟨bt, ok⟩ := bo
        try dsimp only at OF ⊢
        unfold Bt.v at OF
        unfold Bt.v
        go_upto_region 26 with (guard_target = wpList _ _ _ (Oper.mk none (Op.store _ _ _) _ _ _ none :: _) _ _; refine wpList_store_row rfl 67 _ _ rfl w6.heap.size (by rfl) bt.vals.toArray (by rfl) Bt.zero.vals.toArray 67 (heap_alloc_new _ _) rfl hub.out bt.oneL ?_; intro w7 hw7 hg7)
        have T7 := Lib.hid ((T6.out.below ((Below.refl _ _).alloc (Nat.le_refl _) _)).side hg7 (Nat.ne_of_lt T6.out.ea.at_.lt) (Nat.ne_of_lt T6.out.fb.at_.lt) T6.out.ea.bel.size)
        have X7 := Lib.hid hw7
        clear hw7 hg7
        obtain ⟨X, hX⟩ : ∃ X, w6.heap.size = X := ⟨_, rfl⟩
        rw [hX] at X7 ⊢
        clear hX
        go_wp2_with fail
        refine (T7.out.fb.of Q).mono ?_
        rintro e8 w8 ⟨rfl, -, hb⟩
        have T8 := Lib.hid (T7.out.below hb)
        have X8 := Lib.hid (bblock hb X7.out)
        have XL := Lib.hid (show X < w8.heap.size from (Array.getElem?_eq_some_iff.1 (bblock hb X7.out)).1)
        clear hb
        unfold ofV Bt.v
        rw [show (Value.tuple #[.agg (ofE f' Q).1.vals.toArray, .bool (ofE f' Q).2]) = .tuple #[.agg bt.vals.toArray, .bool ok] from OF.out]
        go_upto_region 27 with (guard_target = wpList _ _ _ (Oper.mk none (Op.store _ _ _) _ _ _ none :: _) _ _; refine wpList_store_row rfl 67 _ _ rfl w8.heap.size (by rfl) bt.vals.toArray (by rfl) Bt.zero.vals.toArray 67 (heap_alloc_new _ _) rfl hub.out bt.oneL ?_; intro w9 hw9 hg9)
        have T9 := Lib.hid ((T8.out.below ((Below.refl _ _).alloc (Nat.le_refl _) _)).side hg9 (Nat.ne_of_lt T8.out.ea.at_.lt) (Nat.ne_of_lt T8.out.fb.at_.lt) T8.out.ea.bel.size)
        have X9 := Lib.hid (show w9.heap[X]? = some (.cells bt.vals.toArray 67 (0, 0)) by
          rw [hg9.block _ (by simp; have := XL.out; omega) (by intro e; have := Option.some.inj e; have := XL.out; omega), heap_alloc_old _ _ XL.out]; exact X8.out)
        have Y9 := Lib.hid hw9
        clear hw9 hg9
        obtain ⟨Y, hY⟩ : ∃ Y, w8.heap.size = Y := ⟨_, rfl⟩
        rw [hY] at Y9 ⊢
        clear hY OF
        go_wp2_with (first
          | (guard_target = wpList _ _ _ (Oper.mk _ (Op.load _ _) _ _ _ none :: _) _ _; refine wpList_load_row rfl 67 _ rfl X (by rfl) 67 bt.vals.toArray (0, 0) _ X9.out Tryd.underlying67 rfl hub.out ?_; simp only [Act.put, List.setIfInBounds_toArray, List.set_cons_zero, List.set_cons_succ])
          | (guard_target = wpList _ _ _ (Oper.mk _ (Op.load _ _) _ _ _ none :: _) _ _; refine wpList_load_row rfl 67 _ rfl Y (by rfl) 67 bt.vals.toArray (0, 0) _ Y9.out Tryd.underlying67 rfl hub.out ?_; simp only [Act.put, List.setIfInBounds_toArray, List.set_cons_zero, List.set_cons_succ])
          | (guard_target = wpList _ _ _ (Oper.mk _ (Op.binOp _ 67 _ _ _) _ _ _ none :: _) _ _; refine wpList_val rfl (exec_neq_beat rfl _ bt bt (by rfl) (by rfl) _) ?_; simp only [Act.put, List.setIfInBounds_toArray, List.set_cons_zero, List.set_cons_succ, Bt.same_self, Bool.not_true]))
        clear X9 Y9 X8 XL X7 T8 T7 T6
        refine (T9.out.ea.reach).mono ?_
        rintro e10 w10 ⟨rfl, -, hb⟩
        have T10 := Lib.hid (T9.out.below hb)
        clear hb
        go_wp2_with fail
        refine (has_any (reachE e') Q (reachL_lt _ _) _).mono ?_
        rintro e w' ⟨rfl, rfl⟩
        go_wp2_with fail
        refine (T10.out.fb.reach).mono ?_
        rintro e11 w11 ⟨rfl, -, hb⟩
        have T11 := Lib.hid (T10.out.below hb)
        clear hb
        go_wp2_with fail
        refine (has_any (reachE f') Q (reachL_lt _ _) _).mono ?_
        rintro e w' ⟨rfl, rfl⟩
        rw [HAS.out]
        generalize hasN (reachE e') Q = hq
        go_wp2_with fail
        refine (T11.out.fb.reach).mono ?_
        rintro e12 w12 ⟨rfl, -, hb⟩
        have T12 := Lib.hid (T11.out.below hb)
        clear hb
        go_wp2_with fail
        refine (of_two _ _ me Q _ (by rw [cell_of_row _ _ 0 _ _ _ (heap_alloc_new _ _)]; rfl) (by rw [cell_of_row _ _ 1 _ _ _ (heap_alloc_new _ _)]; rfl)).mono ?_
        rintro e w' ⟨rfl, rfl⟩
        go_wp2_with fail
        refine (in_any (reachE f') (withN 0 [me, (Q : Int)]) (reachL_lt _ _) (withN_lt (by decide) _) _).mono ?_
        rintro e w' ⟨rfl, rfl⟩
        rw [INN.out]
        have T13 := Lib.hid (T12.out.below ((Below.refl _ _).alloc (Nat.le_refl _) (.cells #[.int .i64 me, .int .i64 (Q : Int)] 3)))
        go_wp2_with fail
        exact ⟨⟨k + 1, e', f', by omega, by go_num, T13.out, HAP5.out, HN5.out, HM5.out⟩, by simp [intOf]; omega⟩
    · go_wp2
      go_ret
      exact ⟨rfl, L2.out.ea.bel⟩
end Go.Proofs.YtjokfjdbioeohaaDoor

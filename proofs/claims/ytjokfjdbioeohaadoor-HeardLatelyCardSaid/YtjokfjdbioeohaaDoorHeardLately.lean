/-
  HeardLately: the walk: for every timeout, p, q and row the law returns true.
-/
import Derived.Test.YtjokfjdbioeohaaDoorHeardP
import Derived.Test.YtjokfjdbioeohaaDoorEarA
namespace Go.Proofs.YtjokfjdbioeohaaDoor
open Go.RowKit Go.BigFrame
set_option maxHeartbeats 1000000
set_option maxRecDepth 100000
/-- A row of bytes in memory. -/
structure OctsAt (w : World) (v : Value) (l : List Nat) (a : Option Addr) (c b o : Nat) : Prop where
  v : v = .slice a l.length c
  a : 0 < l.length → a = some ⟨b, o, none⟩ ∧ b < w.heap.size
  c : ∀ i (h : i < l.length), w.cell? ⟨b, o + i, none⟩ = some (.int .u8 l[i])
  ok : ∀ x ∈ l, x < 256
theorem OctsAt.below {w w' : World} {v : Value} {l : List Nat} {a : Option Addr} {c b o : Nat} (h : OctsAt w v l a c b o) (hb : Below w.heap.size w w') : OctsAt w' v l a c b o :=
  ⟨h.v, fun h0 => ⟨(h.a h0).1, Nat.lt_of_lt_of_le (h.a h0).2 hb.size⟩, fun i hi => (hb.cell (p := ⟨b, o + i, none⟩) (h.a (by omega)).2).trans (h.c i hi), h.ok⟩
theorem lately_walk (t p q : Int) (l : List Nat) (v : Value) (a : Option Addr) (c b o : Nat) (w : World) (hT : TabOk w) (hA : OctsAt w v l a c b o) :
    Calls Tryd.prog 8 #[.int .i64 t, .int .i64 p, .int .i64 q, v] w fun e w' => e = .returned (.bool true) ∧ Below w.heap.size w w' := by
  obtain rfl := hA.v
  have HT := Lib.hid hT
  have HW := Lib.hid (hawake_any w hT)
  have HS := Lib.hid hA
  have hpos : 0 < w.heap.size := Nat.lt_of_le_of_lt (Nat.zero_le _) hT.size
  clear hT hA
  by_cases a0 : t < 0
  ·
    go_enter Tryd.func8, Tryd.ntmps8
    go_wp2_with fail
    refine HW.out.mono ?_
    rintro e w1 ⟨rfl, hb⟩
    have HB := Lib.hid hb
    clear hb
    go_wp2_with fail
    go_ret
    exact ⟨rfl, HB.out⟩
  have a0' : 0 ≤ t := by omega
  clear a0
  by_cases a1 : 1000 < t
  ·
    go_enter Tryd.func8, Tryd.ntmps8
    go_wp2_with fail
    refine HW.out.mono ?_
    rintro e w1 ⟨rfl, hb⟩
    have HB := Lib.hid hb
    clear hb
    go_wp2_with fail
    go_ret
    exact ⟨rfl, HB.out⟩
  have a1' : t ≤ 1000 := by omega
  clear a1
  by_cases a2 : p < 1
  ·
    go_enter Tryd.func8, Tryd.ntmps8
    go_wp2_with fail
    refine HW.out.mono ?_
    rintro e w1 ⟨rfl, hb⟩
    have HB := Lib.hid hb
    clear hb
    go_wp2_with fail
    go_ret
    exact ⟨rfl, HB.out⟩
  have a2' : 1 ≤ p := by omega
  clear a2
  by_cases a3 : 63 < p
  ·
    go_enter Tryd.func8, Tryd.ntmps8
    go_wp2_with fail
    refine HW.out.mono ?_
    rintro e w1 ⟨rfl, hb⟩
    have HB := Lib.hid hb
    clear hb
    go_wp2_with fail
    go_ret
    exact ⟨rfl, HB.out⟩
  have a3' : p ≤ 63 := by omega
  clear a3
  by_cases a4 : p = q
  · subst a4
    go_enter Tryd.func8, Tryd.ntmps8
    go_wp2_with fail
    refine HW.out.mono ?_
    rintro e w1 ⟨rfl, hb⟩
    have HB := Lib.hid hb
    clear hb
    go_wp2_with fail
    go_ret
    exact ⟨rfl, HB.out⟩
  have a4' : (p == q) = false := beq_eq_false_iff_ne.2 a4
  have A4 := Lib.hid a4
  clear a4
  by_cases a5 : 50 < l.length
  · have a5'' : (50 : Int) < (l.length : Int) := by omega
    go_enter Tryd.func8, Tryd.ntmps8
    go_wp2_with fail
    refine HW.out.mono ?_
    rintro e w1 ⟨rfl, hb⟩
    have HB := Lib.hid hb
    clear hb
    go_wp2_with fail
    go_ret
    exact ⟨rfl, HB.out⟩
  have a5' : (l.length : Int) ≤ 50 := by omega
  clear a5
  obtain ⟨P, rfl⟩ := Int.eq_ofNat_of_zero_le (show 0 ≤ p by omega)
  have P0 := Lib.hid (show 1 ≤ P by omega)
  have P1 := Lib.hid (show P < 64 by omega)
  go_enter Tryd.func8, Tryd.ntmps8
  go_wp2_with fail
  refine HW.out.mono ?_
  rintro e w1 ⟨rfl, hb⟩
  have HB := Lib.hid hb
  clear hb
  go_wp2_with fail
  refine (Ek.make (w0 := w) (HT.out.belowS HB.out) HB.out hpos 0 64 t).mono ?_
  rintro e w2 ⟨g, rfl, hL, -, -⟩
  have L0 := Lib.hid hL
  clear hL
  have O0 := Lib.hid (show LatO (newE 0 64 t) t from ⟨rfl, rfl, rfl⟩)
  have N0 := Lib.hid (show (newE 0 64 t).now ≤ 1003 * ((0 : Nat) : Int) from by show (0 : Int) ≤ _; omega)
  go_wp2_with fail
  generalize newE 0 64 t = m0 at L0 O0 N0
  go_loopw [10, 11, 12] (fun i _ _ wr => ∃ (k : Nat) (m : Ear), k ≤ l.length ∧ i = .int .i64 k ∧ Ek w wr g m ∧ LatO m t ∧ m.now ≤ 1003 * (k : Int)) (fun i _ _ _ => l.length - (intOf i).toNat)
  case atStart => exact ⟨0, m0, Nat.zero_le _, rfl, L0.out, O0.out, N0.out⟩
  case round =>
    obtain ⟨k, m, hk, rfl, hL, hO, hN⟩ := hrel
    have L2 := Lib.hid hL
    have HO := Lib.hid hO
    have HN := Lib.hid hN
    clear hL hO hN
    by_cases hlt : k < l.length
    · have hkl' : (k : Int) < (l.length : Int) := by omega
      go_wp2_with fail
      refine (L2.out.beat P ⟨0, 0, 0, 0, 5⟩).mono ?_
      rintro e w3 ⟨rfl, hL, -⟩
      have L3 := Lib.hid hL
      have HE0 := Lib.hid (HO.out.beat P0.out P1.out ⟨0, 0, 0, 0, 5⟩)
      have S := HS.out.below L3.out.bel
      have c0 := S.c k hlt
      have hx := S.ok _ (List.getElem_mem hlt)
      obtain ⟨rfl, _⟩ := HS.out.a (by omega)
      obtain ⟨x, hxx⟩ : ∃ x, l[k] = x := ⟨_, rfl⟩
      rw [hxx] at c0 hx
      have hx0 : (0 : Int) ≤ (x : Int) := by omega
      generalize beatE m P ⟨0, 0, 0, 0, 5⟩ = m3 at L3 HE0
      clear hL S hxx
      go_wp2_with fail
      obtain ⟨n, hn, hn2⟩ : ∃ n : Nat, (x : Int) % (t + 3) = n ∧ (n : Int) ≤ 1002 := by
        have h1 := Int.emod_nonneg (x : Int) (show t + 3 ≠ 0 by omega)
        have h2 := Int.emod_lt_of_pos (x : Int) (show 0 < t + 3 by omega)
        exact ⟨((x : Int) % (t + 3)).toNat, by omega, by omega⟩
      rw [hn]
      have HN2 := Lib.hid hn2
      clear hn hx hx0 c0 hn2
      go_loopw [12] (fun i wi => ∃ (k2 : Nat) (m2 : Ear), k2 ≤ n ∧ i = .int .i64 k2 ∧ Ek w wi g m2 ∧ LatE m2 t P m.now k2) (fun i _ => n - (intOf i).toNat)
      case atStart => exact ⟨0, m3, Nat.zero_le _, rfl, L3.out, HE0.out⟩
      case round =>
        obtain ⟨k2, m2, hk2, rfl, hL, hE⟩ := hrel
        have L4 := Lib.hid hL
        have HE := Lib.hid hE
        clear hL hE
        by_cases hlt2 : k2 < n
        · have hkn : (k2 : Int) < (n : Int) := by omega
          have hk9 : (k2 : Int) < 1002 := by have := HN2.out; omega
          have R0 := Lib.hid HE.out.r0
          have RP := Lib.hid (HE.out.rp P0.out P1.out)
          go_wp2_with fail
          refine (L4.out.reach).mono ?_
          rintro e w4 ⟨rfl, hL, -⟩
          have L5 := Lib.hid hL
          clear hL
          go_wp2_with fail
          refine (has_any (reachE m2) 0 (reachL_lt _ _) _).mono ?_
          rintro e w' ⟨rfl, rfl⟩
          rw [R0.out]
          go_wp2_with fail
          refine (L5.out.reach).mono ?_
          rintro e w5 ⟨rfl, hL, -⟩
          have L6 := Lib.hid hL
          clear hL
          go_wp2_with fail
          refine (has_any (reachE m2) P (reachL_lt _ _) _).mono ?_
          rintro e w' ⟨rfl, rfl⟩
          rw [RP.out]
          go_wp2_with fail
          refine (L6.out.tick (by have := HE.out.now; have := HN.out; have := HN2.out; omega)).mono ?_
          rintro e w6 ⟨rfl, hL, -⟩
          have L7 := Lib.hid hL
          clear hL
          go_wp2_with fail
          refine (L7.out.hear q).mono ?_
          rintro e w7 ⟨rfl, hL, -⟩
          have L8 := Lib.hid hL
          clear hL
          go_wp2_with fail
          refine (of_one _ _ _ _ (cell_new _ _ _)).mono ?_
          rintro e w' ⟨rfl, rfl⟩
          have L9 := Lib.hid (L8.out.below ((Below.refl _ _).alloc (Nat.le_refl _) (.cells #[.int .i64 P] 3)))
          go_wp2_with fail
          refine (L9.out.forget (bitN P) (bitN_lt _)).mono ?_
          rintro e w8 ⟨rfl, hL, -⟩
          have L10 := Lib.hid hL
          clear hL
          go_wp2_with fail
          exact ⟨⟨k2 + 1, _, by omega, by go_num, L10.out, (HE.out.tick.hear A4.out).forget P1.out _⟩, by simp [intOf]; omega⟩
        · obtain rfl : k2 = n := by omega
          have HN3 := Lib.hid (show m2.now ≤ 1003 * ((k + 1 : Nat) : Int) by have := HE.out.now; have := HN.out; have := HN2.out; omega)
          go_wp2
          exact ⟨⟨k + 1, m2, by omega, by go_num, L4.out, HE.out.o, HN3.out⟩, by simp [intOf]; omega⟩
    · go_wp2
      go_ret
      exact ⟨rfl, L2.out.bel⟩
end Go.Proofs.YtjokfjdbioeohaaDoor

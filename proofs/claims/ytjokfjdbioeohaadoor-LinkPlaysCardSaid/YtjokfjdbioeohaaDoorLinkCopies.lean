/-
  LinkCopies: the walk: for every script and every place in it the law returns true.
-/
import Derived.Test.YtjokfjdbioeohaaDoorLinkActs
namespace Go.Proofs.YtjokfjdbioeohaaDoor
open Go.RowKit Go.BigFrame
set_option maxHeartbeats 1000000
set_option maxRecDepth 100000
theorem ActsAt.below {w0 w : World} {v : Value} {l : List LAct} {a : Option Addr} {c b o : Nat} (h : ActsAt w0 v l a c b o) (hb : Below w0.heap.size w0 w) : ActsAt w v l a c b o :=
  ⟨h.v, fun h0 => ⟨(h.a h0).1, Nat.lt_of_lt_of_le (h.a h0).2 hb.size⟩,
   fun i hi => by rw [hb.cell (p := ⟨b, _, none⟩) (h.a (by omega)).2]; exact h.p i hi,
   fun i hi => by rw [hb.cell (p := ⟨b, _, none⟩) (h.a (by omega)).2]; exact h.n i hi,
   fun i hi => by rw [hb.cell (p := ⟨b, _, none⟩) (h.a (by omega)).2]; exact h.s i hi, h.ok⟩
/-- The window behind the first k acts. -/
def cpW (members : Nat) (size : Int) (l : List LAct) (k : Nat) : Win := runW (newW 0 members size) (l.take k)
theorem cpW_zero (members : Nat) (size : Int) (l : List LAct) : newW 0 members size = cpW members size l 0 := rfl
theorem cpW_sent (members : Nat) (size : Int) (l : List LAct) (k : Nat) (h : l.length ≤ 300) : (cpW members size l k).sent + 1 < 4294967296 := by
  have h1 := runW_sent (newW 0 members size) (l.take k)
  have h2 : (newW 0 members size).sent = 0 := rfl
  have h3 := List.length_take_le k l
  have h4 : (l.take k).length ≤ l.length := List.length_take_le' k l
  unfold cpW
  omega
theorem cpW_succ (members : Nat) (size : Int) (l : List LAct) (k : Nat) (h : k < l.length) : cpW members size l (k + 1) = actW (cpW members size l k) l[k] := runW_take _ _ _ h
theorem Lk.copy {w0 w : World} {g : Nat} {m : Win} (h : Lk w0 w g m) :
    Calls Tryd.prog 30 #[.pointer (some ⟨g, 0, none⟩)] w fun e w' => ∃ gc, e = .returned (.pointer (some ⟨gc, 0, none⟩)) ∧ Lk w0 w' g m ∧ Lk w0 w' gc m ∧ gc ≠ g :=
  (copy_any g m w h.at_).mono fun _ w' ⟨he, hc, hb⟩ => ⟨w.heap.size, he, h.below hb, ⟨(h.below hb).tab, hc, (h.below hb).bel, h.bel.size, h.pos, h.wf⟩, by have := h.at_.lt; omega⟩
theorem copies_walk (members : Nat) (size at_ : Int) (l : List LAct) (v : Value) (a : Option Addr) (c b o : Nat) (hm : members < 18446744073709551616) (w : World) (hT : TabOk w) (hA : ActsAt w v l a c b o) :
    Calls Tryd.prog 6 #[.int .u64 members, .int .i64 size, v, .int .i64 at_] w fun e w' => e = .returned (.bool true) ∧ Below w.heap.size w w' := by
  obtain rfl := hA.v
  have HT := Lib.hid hT
  have HW := Lib.hid (awake_any w hT)
  have HS := Lib.hid hA
  have HM := Lib.hid hm
  have hpos : 0 < w.heap.size := Nat.lt_of_le_of_lt (Nat.zero_le _) hT.size
  clear hT hA hm
  by_cases h3 : 300 < l.length
  · have h3' : (300 : Int) < (l.length : Int) := by omega
    go_enter Tryd.func6, Tryd.ntmps6
    go_wp2_with (go_at_call 11; refine HW.out.mono ?_; rintro e w1 ⟨rfl, hb⟩; have HB := Lib.hid hb; clear hb)
    go_ret
    exact ⟨rfl, HB.out⟩
  by_cases ha : at_ < 0 ∨ (l.length : Int) < at_
  · have h3' : (l.length : Int) ≤ 300 := by omega
    clear h3
    rcases ha with ha | ha
    · go_enter Tryd.func6, Tryd.ntmps6
      go_wp2_with (go_at_call 11; refine HW.out.mono ?_; rintro e w1 ⟨rfl, hb⟩; have HB := Lib.hid hb; clear hb)
      go_ret
      exact ⟨rfl, HB.out⟩
    · have ha0 : 0 ≤ at_ := by omega
      go_enter Tryd.func6, Tryd.ntmps6
      go_wp2_with (go_at_call 11; refine HW.out.mono ?_; rintro e w1 ⟨rfl, hb⟩; have HB := Lib.hid hb; clear hb)
      go_ret
      exact ⟨rfl, HB.out⟩
  · obtain ⟨t, rfl⟩ := Int.eq_ofNat_of_zero_le (show 0 ≤ at_ by omega)
    have ht : t ≤ l.length := by omega
    have ht' : (t : Int) ≤ (l.length : Int) := by omega
    have h3' : (l.length : Int) ≤ 300 := by omega
    have HL3 := Lib.hid (show l.length ≤ 300 by omega)
    clear ha h3
    go_enter Tryd.func6, Tryd.ntmps6
    go_wp2_with (first
      | (go_at_call 11; refine HW.out.mono ?_; rintro e w1 ⟨rfl, hb⟩; have HB := Lib.hid hb; clear hb)
      | (go_at_call 12; refine (Lk.make (w0 := w) (HT.out.belowS HB.out) HB.out hpos 0 members size HM.out).mono ?_; rintro e w2 ⟨g, rfl, hL⟩; have L0 := Lib.hid hL; clear hL))
    go_loopw [11] (fun i wr => ∃ k : Nat, k ≤ t ∧ i = .int .i64 k ∧ Lk w wr g (cpW members size l k)) (fun i _ => t - (intOf i).toNat)
    case atStart => exact ⟨0, Nat.zero_le _, rfl, L0.out⟩
    case round =>
      obtain ⟨k, hk, rfl, hL⟩ := hrel
      have L1 := Lib.hid hL
      clear hL
      by_cases hlt : k < t
      · have hkl : k < l.length := by omega
        have hkl' : (k : Int) < (l.length : Int) := by omega
        have S := HS.out.below L1.out.bel
        have c0 := S.p k hkl
        have c1 := S.n k hkl
        have c2 := S.s k hkl
        have HD := Lib.hid (do_any L1.out l[k] (S.ok _ (List.getElem_mem hkl)) (cpW_sent members size l k HL3.out))
        obtain ⟨rfl, _⟩ := HS.out.a (by omega)
        have E := Lib.hid (cpW_succ members size l k hkl)
        clear S
        go_wp2_with (go_at_call 31; refine HD.out.mono ?_; rintro e w3 ⟨rfl, hL, hg⟩)
        exact ⟨⟨k + 1, by omega, by go_num, by rw [E.out]; exact hL⟩, by simp [intOf]; omega⟩
      · obtain rfl : k = t := by omega
        have hlt' : ¬ (k : Int) < (k : Int) := by omega
        clear hlt hk
        go_wp2_with fail
        refine L1.out.copy.mono ?_
        rintro e w3 ⟨gc, rfl, hL, hL', hne⟩
        have L2 := Lib.hid hL
        have M2 := Lib.hid hL'
        have HNE := Lib.hid hne
        clear hL hL' hne
        go_wp2_with fail
        refine (sent_any g _ w3 L2.out.at_).mono ?_
        rintro e w' ⟨rfl, rfl⟩
        go_wp2_with fail
        refine (low_any g _ w3 L2.out.tab L2.out.at_ L2.out.wf).mono ?_
        rintro e w4 ⟨rfl, hb⟩
        have L3 := Lib.hid (L2.out.below hb)
        have M3 := Lib.hid (M2.out.below hb)
        clear hb
        go_wp2_with fail
        go_loopw [15] (fun i wr => ∃ q : Nat, k ≤ q ∧ q ≤ l.length ∧ i = .int .i64 q ∧ Lk w wr g (cpW members size l q) ∧ Lk w wr gc (cpW members size l k)) (fun i _ => l.length - (intOf i).toNat)
        case atStart => exact ⟨k, Nat.le_refl _, ht, rfl, L3.out, M3.out⟩
        case round =>
          obtain ⟨q, hkq, hq, rfl, hL, hM⟩ := hrel
          have L4 := Lib.hid hL
          have M4 := Lib.hid hM
          clear hL hM
          by_cases hlt : q < l.length
          · have hkl' : (q : Int) < (l.length : Int) := by omega
            have S := HS.out.below L4.out.bel
            have c0 := S.p q hlt
            have c1 := S.n q hlt
            have c2 := S.s q hlt
            have HD := Lib.hid (do_any L4.out l[q] (S.ok _ (List.getElem_mem hlt)) (cpW_sent members size l q HL3.out))
            obtain ⟨rfl, _⟩ := HS.out.a (by omega)
            have E := Lib.hid (cpW_succ members size l q hlt)
            clear S
            go_wp2_with (go_at_call 31; refine HD.out.mono ?_; rintro e w5 ⟨rfl, hL, hg⟩)
            exact ⟨⟨q + 1, by omega, by omega, by go_num, by rw [E.out]; exact hL, M4.out.keep hg HNE.out L4.out.new⟩, by simp [intOf]; omega⟩
          · obtain rfl : q = l.length := by omega
            clear hlt hq hkq
            go_wp2_with fail
            refine (sent_any gc _ _ M4.out.at_).mono ?_
            rintro e w' ⟨rfl, rfl⟩
            go_wp2_with fail
            refine (low_any gc _ _ M4.out.tab M4.out.at_ M4.out.wf).mono ?_
            rintro e w5 ⟨rfl, hb⟩
            have L5 := Lib.hid (L4.out.below hb)
            have M5 := Lib.hid (M4.out.below hb)
            clear hb
            go_wp2_with fail
            go_loopw [16] (fun i wr => ∃ q : Nat, k ≤ q ∧ q ≤ l.length ∧ i = .int .i64 q ∧ Lk w wr g (cpW members size l l.length) ∧ Lk w wr gc (cpW members size l q)) (fun i _ => l.length - (intOf i).toNat)
            case atStart => exact ⟨k, Nat.le_refl _, ht, rfl, L5.out, M5.out⟩
            case round =>
              obtain ⟨q, hkq, hq, rfl, hL, hM⟩ := hrel
              have L6 := Lib.hid hL
              have M6 := Lib.hid hM
              clear hL hM
              by_cases hlt : q < l.length
              · have hkl' : (q : Int) < (l.length : Int) := by omega
                have S := HS.out.below L6.out.bel
                have c0 := S.p q hlt
                have c1 := S.n q hlt
                have c2 := S.s q hlt
                have HD := Lib.hid (do_any M6.out l[q] (S.ok _ (List.getElem_mem hlt)) (cpW_sent members size l q HL3.out))
                obtain ⟨rfl, _⟩ := HS.out.a (by omega)
                have E := Lib.hid (cpW_succ members size l q hlt)
                clear S
                go_wp2_with (go_at_call 31; refine HD.out.mono ?_; rintro e w6 ⟨rfl, hL, hg⟩)
                exact ⟨⟨q + 1, by omega, by omega, by go_num, L6.out.keep hg (Ne.symm HNE.out) M6.out.new, by rw [E.out]; exact hL⟩, by simp [intOf]; omega⟩
              · obtain rfl : q = l.length := by omega
                clear hlt hq hkq
                go_wp2_with fail
                refine (sent_any gc _ _ M6.out.at_).mono ?_
                rintro e w' ⟨rfl, rfl⟩
                go_wp2_with fail
                refine (sent_any g _ _ L6.out.at_).mono ?_
                rintro e w' ⟨rfl, rfl⟩
                go_wp2_with fail
                refine (low_any gc _ _ M6.out.tab M6.out.at_ M6.out.wf).mono ?_
                rintro e w6 ⟨rfl, hb⟩
                have L7 := Lib.hid (L6.out.below hb)
                have M7 := Lib.hid (M6.out.below hb)
                clear hb
                go_wp2_with fail
                refine (low_any g _ w6 L7.out.tab L7.out.at_ L7.out.wf).mono ?_
                rintro e w7 ⟨rfl, hb⟩
                have L8 := Lib.hid (L7.out.below hb)
                have M8 := Lib.hid (M7.out.below hb)
                clear hb
                go_wp2_with fail
                refine (lag_any gc _ w7 M8.out.tab M8.out.at_ M8.out.wf).mono ?_
                rintro e w8 ⟨rfl, hb⟩
                have L9 := Lib.hid (L8.out.below hb)
                have M9 := Lib.hid (M8.out.below hb)
                clear hb
                go_wp2_with fail
                refine (lag_any g _ w8 L9.out.tab L9.out.at_ L9.out.wf).mono ?_
                rintro e w9 ⟨rfl, hb⟩
                have L10 := Lib.hid (L9.out.below hb)
                clear hb
                go_wp2_with fail
                go_ret
                exact ⟨rfl, L10.out.bel⟩
end Go.Proofs.YtjokfjdbioeohaaDoor

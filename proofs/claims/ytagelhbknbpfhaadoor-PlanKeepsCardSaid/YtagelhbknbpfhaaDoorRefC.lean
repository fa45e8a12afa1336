/-
  consortref15: Holder, Boundary.
-/
import Derived.Test.YtagelhbknbpfhaaDoorRefB
namespace Go.Proofs.YtagelhbknbpfhaaDoor
open Go.RowKit Go.BigFrame
set_option maxHeartbeats 1000000
set_option maxRecDepth 100000
/-- The least so far of those that have all. -/
def bestH (l : List Ex) (q : Int) (n : Nat) : Int := l.foldl (fun b x => if decide (0 < n) && (atL x.cnt q == n) && (decide (b < 0) || decide (x.who < b)) then x.who else b) (-1)
theorem bestH_snoc (l : List Ex) (x : Ex) (q : Int) (n : Nat) : bestH (l ++ [x]) q n = if decide (0 < n) && (atL x.cnt q == n) && (decide (bestH l q n < 0) || decide (x.who < bestH l q n)) then x.who else bestH l q n := by simp [bestH]
theorem minN_zero : minN 0 = -1 := rfl
theorem minN_or (s : Nat) (p : Int) (hs : s < 18446744073709551616) (h0 : 0 ≤ p) (h1 : p < 64) : minN (s ||| bitN p) = if minN s < 0 ∨ p < minN s then p else minN s := by
  have hlt : s ||| bitN p < 18446744073709551616 := or_lt64 hs (bitN_lt p)
  have hp : hasN (s ||| bitN p) p = true := by
    rw [hasN_or]
    have : hasN (bitN p) p = true := by unfold hasN; rw [testBit_bitN]; simp [h0, h1]
    rw [this]; simp
  have hne : s ||| bitN p ≠ 0 := by
    intro e; rw [e] at hp; simp [hasN] at hp
  have hpos : 0 ≤ minN (s ||| bitN p) := by rw [minN_pos hne]; omega
  obtain ⟨ha, hb⟩ := minN_has hlt hpos
  have hle := hb p hp
  rw [hasN_or, Bool.or_eq_true] at ha
  have hin : hasN (bitN p) (minN (s ||| bitN p)) = true → minN (s ||| bitN p) = p := by
    intro h
    unfold hasN at h
    rw [testBit_bitN] at h
    simp only [Bool.and_eq_true, decide_eq_true_eq] at h
    omega
  by_cases hs0 : s = 0
  · subst hs0
    rw [if_pos (.inl (by rw [minN_zero]; omega))]
    rcases ha with ha | ha
    · simp [hasN] at ha
    · exact hin ha
  · have hsp : 0 ≤ minN s := by rw [minN_pos hs0]; omega
    obtain ⟨hc, hd⟩ := minN_has hs hsp
    have hle2 := hb (minN s) (by rw [hasN_or, hc]; rfl)
    split
    · rename_i h
      rcases ha with ha | ha
      · have := hd _ ha; omega
      · exact hin ha
    · rename_i h
      rcases ha with ha | ha
      · have := hd _ ha; omega
      · have := hin ha; omega
theorem bestH_eq (q : Int) (n : Nat) (l : List Ex) (h : ∀ x ∈ l, 0 ≤ x.who ∧ x.who < 64) : bestH l q n = minN (holdS l q n) := by
  have key : ∀ k, k ≤ l.length → bestH (l.take k) q n = minN (holdS (l.take k) q n) := by
    intro k
    induction k with
    | zero => intro _; rfl
    | succ k ih =>
      intro hk
      have h1 := ih (by omega)
      have hx := h l[k] (List.getElem_mem (by omega))
      rw [take_snoc l k (by omega)]
      obtain ⟨x, hxe⟩ : ∃ x, l[k] = x := ⟨_, rfl⟩
      rw [hxe] at hx ⊢
      rw [bestH_snoc, holdS_snoc, h1]
      cases hc : (decide (0 < n) && (atL x.cnt q == n)) with
      | false => simp
      | true =>
        rw [if_pos rfl, minN_or _ _ (holdS_lt _ q n) hx.1 hx.2]
        by_cases h2 : minN (holdS (l.take k) q n) < 0 ∨ x.who < minN (holdS (l.take k) q n)
        · rw [if_pos h2, if_pos]; simpa using h2
        · rw [if_neg h2, if_neg]; simpa using h2
  have := key l.length (Nat.le_refl _)
  rwa [List.take_length] at this
theorem rhold_any {w : World} {v : Value} {l : List XE} {a : Option Addr} {c b o : Nat} (h : ExsAt w v l a c b o) (hrg : ∀ x ∈ exs l, 0 ≤ x.who ∧ x.who < 64) (q : Int) :
    Calls Tryd.prog 19 #[v, .int .i64 q] w fun e w' => e = .returned (.int .i64 (holdL (exs l) q)) ∧ w = w' := by
  have hv := h.r.v
  subst hv
  have H2 := Lib.hid h
  have hlen : (l.length : Int) ≤ 1000 := by have := h.len; omega
  obtain ⟨N, hN⟩ : ∃ N, wholeL (exs l) q = N := ⟨_, rfl⟩
  have HN := Lib.hid hN
  have EQ := Lib.hid (show holdL (exs l) q = bestH (exs l) q N by unfold holdL; rw [hN]; exact (bestH_eq q N _ hrg).symm)
  have HRG := Lib.hid hrg
  clear h hN hrg
  go_enter Tryd.func19, Tryd.ntmps19
  go_wp2_with fail
  refine (rwhole_any H2.out q).mono ?_
  rintro e w1 ⟨rfl, rfl⟩
  rw [HN.out]
  go_wp2
  go_loop [6, 7] (fun bv i => ∃ k : Nat, k ≤ l.length ∧ i = .int .i64 k ∧ bv = .int .i64 (bestH (exs (l.take k)) q N)) (fun _ i => l.length - (intOf i).toNat)
  case atStart => exact ⟨0, Nat.zero_le _, rfl, rfl⟩
  case round =>
    obtain ⟨k, hk, rfl, rfl⟩ := hrel
    by_cases hlt : k < l.length
    · obtain ⟨rfl, _⟩ := H2.out.r.a (by omega)
      obtain ⟨y, hy⟩ : ∃ y, l[k] = y := ⟨_, rfl⟩
      have hlt' : (k : Int) < (l.length : Int) := by omega
      have HS := Lib.hid (show bestH (exs (l.take (k + 1))) q N = _ by rw [exs_take l k hlt, hy, bestH_snoc])
      obtain ⟨a', c', b', o', hr⟩ := (H2.out.ok _ (List.getElem_mem hlt)).r
      rw [hy] at hr
      have HR := Lib.hid hr
      have c3 : w.cell? ⟨b, o + k * 6 + 3, none⟩ = some y.sl := by rw [← hy]; exact H2.out.r.at_ XE.len hlt 3 _ rfl
      have c0 : w.cell? ⟨b, o + k * 6, none⟩ = some (.int .i64 y.x.who) := by rw [← hy]; exact H2.out.r.at_ XE.len hlt 0 _ rfl
      rw [hr.v] at c3
      clear hr hy
      obtain ⟨B, hB⟩ : ∃ B, bestH (exs (l.take k)) q N = B := ⟨_, rfl⟩
      obtain ⟨P, hP⟩ : ∃ P, y.x.who = P := ⟨_, rfl⟩
      rw [hB, hP] at HS
      rw [hP] at c0
      rw [hB]
      clear hB hP
      obtain ⟨A, hA⟩ : ∃ A, atL y.x.cnt q = A := ⟨_, rfl⟩
      rw [hA] at HS
      have HA := Lib.hid hA
      clear hA
      by_cases hn : 0 < N
      · have hn' : (0 : Int) < (N : Int) := by omega
        by_cases he : A = N
        · have e1 : ((A : Int) == (N : Int)) = true := by simp [he]
          by_cases hb0 : B < 0
          · have HS2 := Lib.hid (show bestH (exs (l.take (k + 1))) q N = P by rw [HS.out]; simp [hn, he, hb0])
            clear HS hn he
            go_wp2_with fail
            rw [← HR.out.v]
            refine (rat_any _ _ _ _ _ _ _ HR.out q).mono ?_
            rintro e w8 ⟨rfl, rfl⟩
            rw [HA.out]
            go_wp2
            go_round
            case rel => exact ⟨k + 1, by omega, by go_num, by rw [HS2.out]⟩
            case measure => simp [intOf]; omega
          · have hb0' : 0 ≤ B := by omega
            by_cases hpb : P < B
            · have HS2 := Lib.hid (show bestH (exs (l.take (k + 1))) q N = P by rw [HS.out]; simp [hn, he, hpb])
              clear HS hn he
              go_wp2_with fail
              rw [← HR.out.v]
              refine (rat_any _ _ _ _ _ _ _ HR.out q).mono ?_
              rintro e w8 ⟨rfl, rfl⟩
              rw [HA.out]
              go_wp2
              go_round
              case rel => exact ⟨k + 1, by omega, by go_num, by rw [HS2.out]⟩
              case measure => simp [intOf]; omega
            · have hpb' : B ≤ P := by omega
              have HS2 := Lib.hid (show bestH (exs (l.take (k + 1))) q N = B by rw [HS.out]; simp [hb0, hpb])
              clear HS hn he
              go_wp2_with fail
              rw [← HR.out.v]
              refine (rat_any _ _ _ _ _ _ _ HR.out q).mono ?_
              rintro e w8 ⟨rfl, rfl⟩
              rw [HA.out]
              go_wp2
              go_round
              case rel => exact ⟨k + 1, by omega, by go_num, by rw [HS2.out]⟩
              case measure => simp [intOf]; omega
        · have e1 : ((A : Int) == (N : Int)) = false := by rw [beq_eq_false_iff_ne]; omega
          have HS2 := Lib.hid (show bestH (exs (l.take (k + 1))) q N = B by rw [HS.out]; simp [he])
          clear HS hn he
          go_wp2_with fail
          rw [← HR.out.v]
          refine (rat_any _ _ _ _ _ _ _ HR.out q).mono ?_
          rintro e w8 ⟨rfl, rfl⟩
          rw [HA.out]
          go_wp2
          go_round
          case rel => exact ⟨k + 1, by omega, by go_num, by rw [HS2.out]⟩
          case measure => simp [intOf]; omega
      · have hn' : (N : Int) ≤ 0 := by omega
        have HS2 := Lib.hid (show bestH (exs (l.take (k + 1))) q N = B by rw [HS.out]; simp [hn])
        clear HS hn
        go_wp2
        go_round
        case rel => exact ⟨k + 1, by omega, by go_num, by rw [HS2.out]⟩
        case measure => simp [intOf]; omega
    · obtain rfl : k = l.length := by omega
      rw [List.take_length]
      go_wp2
      go_ret
      exact ⟨by rw [EQ.out]; rfl, rfl⟩
theorem cmp_pos (x y : Ky) : 0 < x.cmp y ↔ y.st < x.st ∨ (y.st = x.st ∧ y.fr < x.fr) := by
  unfold Ky.cmp or2 cmpI
  by_cases h1 : (x.st : Int) < (y.st : Int)
  · rw [if_pos h1, if_neg (by decide)]; omega
  · rw [if_neg h1]
    by_cases h2 : (y.st : Int) < (x.st : Int)
    · rw [if_pos h2, if_neg (by decide)]; omega
    · rw [if_neg h2, if_pos rfl]
      by_cases h3 : x.fr < y.fr
      · rw [if_pos h3]; omega
      · rw [if_neg h3]
        by_cases h4 : y.fr < x.fr
        · rw [if_pos h4]; omega
        · rw [if_neg h4]; omega
theorem bnd_take {l : List XE} {k : Nat} (h : k < l.length) {y : XE} (hy : l[k] = y) : bndL (exs (l.take (k + 1))) = if k = 0 then y.x.last else upK (bndL (exs (l.take k))) y.x.last := by
  unfold bndL
  rw [exs_take l k h, hy, List.map_append, List.map_cons, List.map_nil]
  by_cases h0 : k = 0
  · subst h0; rfl
  · rw [if_neg h0, bestK_snoc]
    intro e
    have := congrArg List.length e
    rw [List.length_map, exs_len, List.length_take, List.length_nil] at this
    omega
theorem rbnd_any {w : World} {v : Value} {l : List XE} {a : Option Addr} {c b o : Nat} (h : ExsAt w v l a c b o) :
    Calls Tryd.prog 21 #[v] w fun e w' => e = .returned (.agg (bndL (exs l)).vals.toArray) ∧ Below w.heap.size w w' := by
  have hz := zero_ky
  have hu : Hid ((Tryd.prog.info? 41).map (·.size) = some (2 : Nat)) := Lib.hid size_ky
  have hv := h.r.v
  subst hv
  have H2 := Lib.hid h
  have hlen : (l.length : Int) ≤ 1000 := by have := h.len; omega
  obtain ⟨n, hn⟩ : ∃ n, w.heap.size = n := ⟨_, rfl⟩
  obtain ⟨W, hW⟩ : ∃ W : World, (w.alloc (.cells Ky.zero.vals.toArray 41)).alloc (.cells Ky.zero.vals.toArray 41) = W := ⟨_, rfl⟩
  have B0 := Lib.hid (show W.heap[n]? = some (.cells Ky.zero.vals.toArray 41 (0, 0)) by
    rw [← hW, heap_alloc_old _ _ (by simp; omega), ← hn]; exact heap_alloc_new _ _)
  have B1 := Lib.hid (show W.heap[n + 1]? = some (.cells (bndL (exs (l.take 0))).vals.toArray 41 (0, 0)) by
    rw [← hW, ← hn]
    show _ = some (Obj.cells Ky.zero.vals.toArray 41 (0, 0))
    have := heap_alloc_new (w.alloc (.cells Ky.zero.vals.toArray 41)) (.cells Ky.zero.vals.toArray 41)
    simpa using this)
  have BW := Lib.hid (show Below w.heap.size w W by rw [← hW]; exact ((Below.refl _ _).alloc (Nat.le_refl _) _).alloc (by simp) _)
  have HW := Lib.hid hW
  have HN := Lib.hid hn
  clear hW h
  go_enter Tryd.func21, Tryd.ntmps21
  go_upto_region 2 with fail
  rw [HW.out]
  go_wp2
  go_loopw [4] (fun i wr => ∃ k : Nat, k ≤ l.length ∧ i = .int .i64 k ∧ Below w.heap.size w wr ∧ wr.heap[n]? = some (.cells Ky.zero.vals.toArray 41 (0, 0)) ∧ wr.heap[n + 1]? = some (.cells (bndL (exs (l.take k))).vals.toArray 41 (0, 0))) (fun i _ => l.length - (intOf i).toNat)
  case atStart => exact ⟨0, Nat.zero_le _, rfl, BW.out, B0.out, B1.out⟩
  case round =>
    obtain ⟨k, hk, rfl, hb, hb0, hb1⟩ := hrel
    have HB := Lib.hid hb
    have C0 := Lib.hid hb0
    have C1 := Lib.hid hb1
    clear hb hb0 hb1
    by_cases hlt : k < l.length
    · obtain ⟨rfl, _⟩ := H2.out.r.a (by omega)
      obtain ⟨z, hz2⟩ : ∃ z, l[k] = z := ⟨_, rfl⟩
      have hlt' : (k : Int) < (l.length : Int) := by omega
      have HS := Lib.hid (bnd_take hlt hz2)
      have HX := Lib.hid (show wr.rangeAt b (o + k * 6 + 4) z.x.last.vals from by
        intro j u hj
        have h6 := (H2.out.r.below rfl HB.out).at_ XE.len hlt (4 + j) u
        rw [← Nat.add_assoc, hz2] at h6
        refine h6 ?_
        have hj2 : j < 2 := (List.getElem?_eq_some_iff.1 hj).1
        match j, hj2 with
        | 0, _ => exact hj
        | 1, _ => exact hj)
      obtain ⟨x, hx⟩ : ∃ x, z.x.last = x := ⟨_, rfl⟩
      obtain ⟨y, hy⟩ : ∃ y, bndL (exs (l.take k)) = y := ⟨_, rfl⟩
      rw [hx] at HS HX
      rw [hy] at HS C1
      obtain ⟨D, hD⟩ : ∃ D, wr.heap.size = D := ⟨_, rfl⟩
      have DN : n + 1 < D := by rw [← hD]; exact (Array.getElem?_eq_some_iff.1 C1.out).1
      go_upto_region 6 with (first
        | (guard_target = wpList _ _ _ (Oper.mk none (Op.store _ _ _) _ _ _ none :: _) _ _; refine wpList_store_row rfl 41 _ _ rfl D (by rfl) x.vals.toArray (by rfl) Ky.zero.vals.toArray 41 (by rw [← hD]; exact heap_alloc_new _ _) rfl hu.out x.oneA ?_; intro w7 hw7 hg7)
        | (guard_target = wpList _ _ _ (Oper.mk _ (Op.load 41 _) _ _ _ none :: _) _ _; refine wpList_load_mid rfl 41 _ rfl b (o + k * 6 + 4) (by rfl) x.vals _ HX.out Tryd.underlying41 rfl hu.out ?_; simp only [Act.put, List.setIfInBounds_toArray, List.set_cons_zero, List.set_cons_succ]))
      have hb7 : Below wr.heap.size wr w7 := bel_new (hD ▸ hg7)
      have HB7 := Lib.hid (bthen' HB.out hb7)
      have E0 := Lib.hid (bblock hb7 C0.out)
      have E1 := Lib.hid (bblock hb7 C1.out)
      have DB := Lib.hid hw7
      have HDN := Lib.hid DN
      clear hw7 hg7 hD hb7 hx hy hz2 DN
      have x0 : w7.cell? ⟨D, 0, none⟩ = some (.int .u64 x.st) := by rw [cell_of_row w7 D 0 _ _ _ DB.out]; rfl
      have x1 : w7.cell? ⟨D, 1, none⟩ = some (.int .i64 x.fr) := by rw [cell_of_row w7 D 1 _ _ _ DB.out]; rfl
      have y0 : w7.cell? ⟨n + 1, 0, none⟩ = some (.int .u64 y.st) := by rw [cell_of_row w7 (n + 1) 0 _ _ _ E1.out]; rfl
      have y1 : w7.cell? ⟨n + 1, 1, none⟩ = some (.int .i64 y.fr) := by rw [cell_of_row w7 (n + 1) 1 _ _ _ E1.out]; rfl
      by_cases h0 : k = 0
      · have e1 : ((k : Int) == 0) = true := by simp [h0]
        have HS2 := Lib.hid (show bndL (exs (l.take (k + 1))) = x by rw [HS.out, if_pos h0])
        clear HS h0
        go_wp2_with (first
          | (guard_target = wpList _ _ _ (Oper.mk none (Op.store _ _ _) _ _ _ none :: _) _ _; refine wpList_store_row rfl 41 _ _ rfl (n + 1) (by rfl) x.vals.toArray (by rfl) y.vals.toArray 41 E1.out rfl hu.out x.oneA ?_; intro w9 hw9 hg9)
          | (guard_target = wpList _ _ _ (Oper.mk _ (Op.load 41 _) _ _ _ none :: _) _ _; refine wpList_load_row rfl 41 _ rfl D (by rfl) 41 x.vals.toArray (0, 0) _ DB.out Tryd.underlying41 rfl hu.out ?_; simp only [Act.put, List.setIfInBounds_toArray, List.set_cons_zero, List.set_cons_succ]))
        have HB9 := Lib.hid (show Below w.heap.size w w9 from HB7.out.grown hg9 HB7.out.size (fun k hk => by cases hk; have := HN.out; omega))
        have G0 := Lib.hid (show w9.heap[n]? = _ from (hg9.block n (by have := (Array.getElem?_eq_some_iff.1 E0.out).1; exact this) (by intro e; have := Option.some.inj e; omega)).trans E0.out)
        have G1 := Lib.hid hw9
        clear hw9 hg9 x0 x1 y0 y1
        go_roundw
        case rel => exact ⟨k + 1, by omega, by go_num, by first | exact HB9.out | (rw [← HN.out]; exact HB9.out), G0.out, by rw [HS2.out]; exact G1.out⟩
        case measure => simp [intOf]; omega
      · have e1 : ((k : Int) == 0) = false := by simp; omega
        have HUP := Lib.hid (show bndL (exs (l.take (k + 1))) = upK y x by rw [HS.out, if_neg h0])
        clear HS h0
        by_cases h1 : y.st < x.st
        · have h1' : (y.st : Int) < (x.st : Int) := by omega
          have HS2 := Lib.hid (show bndL (exs (l.take (k + 1))) = x by rw [HUP.out]; unfold upK; rw [if_pos ((cmp_pos x y).2 (.inl h1))])
          clear HUP h1
          go_wp2_with (first
            | (guard_target = wpList _ _ _ (Oper.mk none (Op.store _ _ _) _ _ _ none :: _) _ _; refine wpList_store_row rfl 41 _ _ rfl (n + 1) (by rfl) x.vals.toArray (by rfl) y.vals.toArray 41 E1.out rfl hu.out x.oneA ?_; intro w9 hw9 hg9)
            | (guard_target = wpList _ _ _ (Oper.mk _ (Op.load 41 _) _ _ _ none :: _) _ _; refine wpList_load_row rfl 41 _ rfl D (by rfl) 41 x.vals.toArray (0, 0) _ DB.out Tryd.underlying41 rfl hu.out ?_; simp only [Act.put, List.setIfInBounds_toArray, List.set_cons_zero, List.set_cons_succ]))
          have HB9 := Lib.hid (show Below w.heap.size w w9 from HB7.out.grown hg9 HB7.out.size (fun k hk => by cases hk; have := HN.out; omega))
          have G0 := Lib.hid (show w9.heap[n]? = _ from (hg9.block n (by have := (Array.getElem?_eq_some_iff.1 E0.out).1; exact this) (by intro e; have := Option.some.inj e; omega)).trans E0.out)
          have G1 := Lib.hid hw9
          clear hw9 hg9 x0 x1 y0 y1
          go_roundw
          case rel => exact ⟨k + 1, by omega, by go_num, by first | exact HB9.out | (rw [← HN.out]; exact HB9.out), G0.out, by rw [HS2.out]; exact G1.out⟩
          case measure => simp [intOf]; omega
        · have h1' : (x.st : Int) ≤ (y.st : Int) := by omega
          by_cases h2 : y.st = x.st
          · have e2 : ((y.st : Int) == (x.st : Int)) = true := by simp [h2]
            by_cases h3 : y.fr < x.fr
            · have HS2 := Lib.hid (show bndL (exs (l.take (k + 1))) = x by rw [HUP.out]; unfold upK; rw [if_pos ((cmp_pos x y).2 (.inr ⟨h2, h3⟩))])
              clear HUP h1 h2
              go_wp2_with (first
                | (guard_target = wpList _ _ _ (Oper.mk none (Op.store _ _ _) _ _ _ none :: _) _ _; refine wpList_store_row rfl 41 _ _ rfl (n + 1) (by rfl) x.vals.toArray (by rfl) y.vals.toArray 41 E1.out rfl hu.out x.oneA ?_; intro w9 hw9 hg9)
                | (guard_target = wpList _ _ _ (Oper.mk _ (Op.load 41 _) _ _ _ none :: _) _ _; refine wpList_load_row rfl 41 _ rfl D (by rfl) 41 x.vals.toArray (0, 0) _ DB.out Tryd.underlying41 rfl hu.out ?_; simp only [Act.put, List.setIfInBounds_toArray, List.set_cons_zero, List.set_cons_succ]))
              have HB9 := Lib.hid (show Below w.heap.size w w9 from HB7.out.grown hg9 HB7.out.size (fun k hk => by cases hk; have := HN.out; omega))
              have G0 := Lib.hid (show w9.heap[n]? = _ from (hg9.block n (by have := (Array.getElem?_eq_some_iff.1 E0.out).1; exact this) (by intro e; have := Option.some.inj e; omega)).trans E0.out)
              have G1 := Lib.hid hw9
              clear hw9 hg9 x0 x1 y0 y1
              go_roundw
              case rel => exact ⟨k + 1, by omega, by go_num, by first | exact HB9.out | (rw [← HN.out]; exact HB9.out), G0.out, by rw [HS2.out]; exact G1.out⟩
              case measure => simp [intOf]; omega
            · have h3' : x.fr ≤ y.fr := by omega
              have HS2 := Lib.hid (show bndL (exs (l.take (k + 1))) = y by rw [HUP.out]; unfold upK; rw [if_neg (fun h => by have := (cmp_pos x y).1 h; omega)])
              clear HUP h1 h2 h3
              go_wp2
              clear x0 x1 y0 y1
              go_roundw
              case rel => exact ⟨k + 1, by omega, by go_num, by first | exact HB7.out | (rw [← HN.out]; exact HB7.out), E0.out, by rw [HS2.out]; exact E1.out⟩
              case measure => simp [intOf]; omega
          · have e2 : ((y.st : Int) == (x.st : Int)) = false := by rw [beq_eq_false_iff_ne]; omega
            have HS2 := Lib.hid (show bndL (exs (l.take (k + 1))) = y by rw [HUP.out]; unfold upK; rw [if_neg (fun h => by have := (cmp_pos x y).1 h; omega)])
            clear HUP h1 h2
            go_wp2
            clear x0 x1 y0 y1
            go_roundw
            case rel => exact ⟨k + 1, by omega, by go_num, by first | exact HB7.out | (rw [← HN.out]; exact HB7.out), E0.out, by rw [HS2.out]; exact E1.out⟩
            case measure => simp [intOf]; omega
    · obtain rfl : k = l.length := by omega
      rw [List.take_length] at C1
      go_wp2_with (first
        | (guard_target = wpList _ _ _ (Oper.mk none (Op.store _ _ _) _ _ _ none :: _) _ _; refine wpList_store_row rfl 41 _ _ rfl n (by rfl) (bndL (exs l)).vals.toArray (by rfl) Ky.zero.vals.toArray 41 C0.out rfl hu.out (bndL (exs l)).oneA ?_; intro w9 hw9 hg9)
        | (guard_target = wpList _ _ _ (Oper.mk _ (Op.load 41 _) _ _ _ none :: _) _ _; refine wpList_load_row rfl 41 _ rfl (n + 1) (by rfl) 41 (bndL (exs l)).vals.toArray (0, 0) _ C1.out Tryd.underlying41 rfl hu.out ?_; simp only [Act.put, List.setIfInBounds_toArray, List.set_cons_zero, List.set_cons_succ]))
      refine bodyPost_ret (results_cell_row rfl _ w9 n 41 _ (0, 0) _ (by rfl) hw9 Tryd.underlying41 rfl hu.out) rfl ⟨rfl, ?_⟩
      have HF := HB.out.grown hg9 HB.out.size (fun k hk => by cases hk; have := HN.out; omega)
      exact HF
end Go.Proofs.YtagelhbknbpfhaaDoor

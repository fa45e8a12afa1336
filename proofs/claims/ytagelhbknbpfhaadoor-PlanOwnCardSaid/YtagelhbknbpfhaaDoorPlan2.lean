/-
  Package plan: Companions, Holder.
-/
import Derived.Test.YtagelhbknbpfhaaDoorPlan
namespace Go.Proofs.YtagelhbknbpfhaaDoor
open Go.RowKit Go.BigFrame
set_option maxHeartbeats 1000000
set_option maxRecDepth 100000
theorem companions_any {w : World} {g : Nat} {l : List XE} (h : PlanAt w g l) :
    Calls Tryd.prog 14 #[.pointer (some ⟨g, 0, none⟩)] w fun e w' => e = .returned (.int .u64 (compS (exs l))) ∧ Below w.heap.size w w' := by
  have hz := zero_ex
  have hu : Hid ((Tryd.prog.info? 64).map (·.size) = some (6 : Nat)) := Lib.hid size_ex
  obtain ⟨v, a, c, b, o, h1, h2⟩ := h
  obtain rfl := h2.r.v
  have c0 : w.cell? ⟨g, 0, none⟩ = some (.slice a l.length c) := by rw [cell_of_row w g 0 _ _ _ h1]; rfl
  have H2 := Lib.hid h2
  have hlen : (l.length : Int) ≤ 1000 := by have := h2.len; omega
  clear h1 h2
  go_enter Tryd.func14, Tryd.ntmps14
  go_wp2
  clear c0
  go_loopw [3, 11] (fun s i wr => ∃ k : Nat, k ≤ l.length ∧ i = .int .i64 k ∧ s = .int .u64 (compS (exs (l.take k))) ∧ Below w.heap.size w wr) (fun _ i _ => l.length - (intOf i).toNat)
  case atStart => exact ⟨0, Nat.zero_le _, rfl, rfl, Below.refl _ _⟩
  case round =>
    obtain ⟨k, hk, rfl, rfl, hb⟩ := hrel
    have HB := Lib.hid hb
    clear hb
    by_cases hlt : k < l.length
    · obtain ⟨rfl, _⟩ := H2.out.r.a (by omega)
      obtain ⟨y, hy⟩ : ∃ y, l[k] = y := ⟨_, rfl⟩
      have hlt' : (k : Int) < (l.length : Int) := by omega
      have HS := Lib.hid (show compS (exs (l.take (k + 1))) = compS (exs (l.take k)) ||| bitN y.x.who by rw [exs_take l k hlt, hy, compS_snoc])
      have HLT := Lib.hid (compS_lt (exs (l.take k)))
      have HX := Lib.hid (show wr.rangeAt b (o + k * 6) y.vals from by rw [← hy]; exact (H2.out.r.below rfl HB.out).at_ XE.len hlt)
      have HOK := Lib.hid (show y.Ok wr from by rw [← hy]; exact (H2.out.ok _ (List.getElem_mem hlt)).below rfl HB.out)
      obtain ⟨D, hD⟩ : ∃ D, wr.heap.size = D := ⟨_, rfl⟩
      go_upto_region 5 with (first
        | (guard_target = wpList _ _ _ (Oper.mk none (Op.store _ _ _) _ _ _ none :: _) _ _; refine wpList_store_row rfl 64 _ _ rfl D (by rfl) y.vals.toArray (by rfl) exZero.toArray 64 (by rw [← hD]; exact heap_alloc_new _ _) rfl hu.out HOK.out.oneA ?_; intro w7 hw7 hg7)
        | (guard_target = wpList _ _ _ (Oper.mk _ (Op.load 64 _) _ _ _ none :: _) _ _; refine wpList_load_mid rfl 64 _ rfl b (o + k * 6) (by rfl) y.vals _ HX.out Tryd.underlying64 rfl hu.out ?_; simp only [Act.put, List.setIfInBounds_toArray, List.set_cons_zero, List.set_cons_succ]))
      have HB7 := Lib.hid (bthen' HB.out (bel_new (hD ▸ hg7)))
      have HOK7 := Lib.hid (HOK.out.below rfl (bel_new (hD ▸ hg7)))
      have DB := Lib.hid hw7
      clear hw7 hg7 hD
      clear hy
      have c3 : w7.cell? ⟨D, 0, none⟩ = some (.int .i64 y.x.who) := by rw [cell_of_row w7 D 0 _ _ _ DB.out]; rfl
      go_wp2_with fail
      refine (with_one _ _ _ _ HLT.out _ (cell_new _ _ _)).mono ?_
      rintro e w8 ⟨rfl, rfl⟩
      clear c3
      go_wp2
      go_roundw
      case rel => exact ⟨k + 1, by omega, by go_num, by rw [HS.out], bthen' HB7.out (bel_box _ _ _)⟩
      case measure => simp [intOf]; omega
    · obtain rfl : k = l.length := by omega
      rw [List.take_length]
      go_wp2
      go_ret
      exact ⟨rfl, HB.out⟩
/-- Who has all: the least. -/
def holdL (l : List Ex) (q : Int) : Int := minN (holdS l q (wholeL l q))
theorem holder_any {w : World} {g : Nat} {l : List XE} (h : PlanAt w g l) (hT : TabOk w) (q : Int) :
    Calls Tryd.prog 18 #[.pointer (some ⟨g, 0, none⟩), .int .i64 q] w fun e w' => e = .returned (.int .i64 (holdL (exs l) q)) ∧ Below w.heap.size w w' := by
  have hz := zero_ex
  have hu : Hid ((Tryd.prog.info? 64).map (·.size) = some (6 : Nat)) := Lib.hid size_ex
  have HT := Lib.hid hT
  have HW := Lib.hid (whole_any h q)
  unfold holdL
  obtain ⟨N, hN⟩ : ∃ N, wholeL (exs l) q = N := ⟨_, rfl⟩
  rw [hN] at HW ⊢
  clear hN hT
  have HP := Lib.hid h
  clear h
  go_enter Tryd.func18, Tryd.ntmps18
  go_wp2_with fail
  refine HW.out.mono ?_
  rintro e W ⟨rfl, hb0⟩
  have HB0 := Lib.hid hb0
  clear hb0
  obtain ⟨v, a, c, b, o, h1, h2⟩ := HP.out.below HB0.out
  obtain rfl := h2.r.v
  have c0 : W.cell? ⟨g, 0, none⟩ = some (.slice a l.length c) := by rw [cell_of_row W g 0 _ _ _ h1]; rfl
  have H2 := Lib.hid h2
  have hlen : (l.length : Int) ≤ 1000 := by have := h2.len; omega
  clear h1 h2
  go_wp2
  clear c0
  go_loopw [6, 17] (fun s i wr => ∃ k : Nat, k ≤ l.length ∧ i = .int .i64 k ∧ s = .int .u64 (holdS (exs (l.take k)) q N) ∧ Below W.heap.size W wr) (fun _ i _ => l.length - (intOf i).toNat)
  case atStart => exact ⟨0, Nat.zero_le _, rfl, rfl, Below.refl _ _⟩
  case round =>
    obtain ⟨k, hk, rfl, rfl, hb⟩ := hrel
    have HB := Lib.hid hb
    clear hb
    by_cases hlt : k < l.length
    · obtain ⟨rfl, _⟩ := H2.out.r.a (by omega)
      obtain ⟨y, hy⟩ : ∃ y, l[k] = y := ⟨_, rfl⟩
      have hlt' : (k : Int) < (l.length : Int) := by omega
      have HS := Lib.hid (show holdS (exs (l.take (k + 1))) q N = _ by rw [exs_take l k hlt, hy, holdS_snoc])
      have HLT := Lib.hid (holdS_lt (exs (l.take k)) q N)
      have HX := Lib.hid (show wr.rangeAt b (o + k * 6) y.vals from by rw [← hy]; exact (H2.out.r.below rfl HB.out).at_ XE.len hlt)
      have HOK := Lib.hid (show y.Ok wr from by rw [← hy]; exact (H2.out.ok _ (List.getElem_mem hlt)).below rfl HB.out)
      obtain ⟨D, hD⟩ : ∃ D, wr.heap.size = D := ⟨_, rfl⟩
      go_upto_region 6 with (first
        | (guard_target = wpList _ _ _ (Oper.mk none (Op.store _ _ _) _ _ _ none :: _) _ _; refine wpList_store_row rfl 64 _ _ rfl D (by rfl) y.vals.toArray (by rfl) exZero.toArray 64 (by rw [← hD]; exact heap_alloc_new _ _) rfl hu.out HOK.out.oneA ?_; intro w7 hw7 hg7)
        | (guard_target = wpList _ _ _ (Oper.mk _ (Op.load 64 _) _ _ _ none :: _) _ _; refine wpList_load_mid rfl 64 _ rfl b (o + k * 6) (by rfl) y.vals _ HX.out Tryd.underlying64 rfl hu.out ?_; simp only [Act.put, List.setIfInBounds_toArray, List.set_cons_zero, List.set_cons_succ]))
      have HB7 := Lib.hid (bthen' HB.out (bel_new (hD ▸ hg7)))
      have HOK7 := Lib.hid (HOK.out.below rfl (bel_new (hD ▸ hg7)))
      have DB := Lib.hid hw7
      clear hw7 hg7 hD
      clear hy
      by_cases hn : 0 < N
      · have hn' : (0 : Int) < (N : Int) := by omega
        obtain ⟨a', c', b', o', hr⟩ := HOK7.out.r
        have HR := Lib.hid hr
        have c3 : w7.cell? ⟨D, 3, none⟩ = some y.sl := by rw [cell_of_row w7 D 3 _ _ _ DB.out]; rfl
        have c0 : w7.cell? ⟨D, 0, none⟩ = some (.int .i64 y.x.who) := by rw [cell_of_row w7 D 0 _ _ _ DB.out]; rfl
        rw [hr.v] at c3
        clear hr
        go_wp2_with fail
        rw [← HR.out.v]
        refine (at_any _ _ _ _ _ _ _ HR.out q).mono ?_
        rintro e w8 ⟨rfl, rfl⟩
        clear c3
        obtain ⟨A, hA⟩ : ∃ A, atL y.x.cnt q = A := ⟨_, rfl⟩
        rw [hA] at HS ⊢
        clear hA
        by_cases he : A = N
        · have e1 : ((A : Int) == (N : Int)) = true := by simp [he]
          have HS2 := Lib.hid (show holdS (exs (l.take (k + 1))) q N = holdS (exs (l.take k)) q N ||| bitN y.x.who by rw [HS.out]; simp [he, hn])
          clear HS he hn
          go_wp2_with fail
          refine (with_one _ _ _ _ HLT.out _ (cell_new _ _ _)).mono ?_
          rintro e w8 ⟨rfl, rfl⟩
          clear c0
          go_wp2
          go_roundw
          case rel => exact ⟨k + 1, by omega, by go_num, by rw [HS2.out], bthen' HB7.out (bel_box _ _ _)⟩
          case measure => simp [intOf]; omega
        · have e1 : ((A : Int) == (N : Int)) = false := by rw [beq_eq_false_iff_ne]; omega
          have HS2 := Lib.hid (show holdS (exs (l.take (k + 1))) q N = holdS (exs (l.take k)) q N by rw [HS.out]; simp [he])
          clear HS he hn
          go_wp2
          go_roundw
          case rel => exact ⟨k + 1, by omega, by go_num, by rw [HS2.out], HB7.out⟩
          case measure => simp [intOf]; omega
      · have hn' : (N : Int) ≤ 0 := by omega
        have HS2 := Lib.hid (show holdS (exs (l.take (k + 1))) q N = holdS (exs (l.take k)) q N by rw [HS.out]; simp [hn])
        clear HS hn
        go_wp2
        go_roundw
        case rel => exact ⟨k + 1, by omega, by go_num, by rw [HS2.out], HB7.out⟩
        case measure => simp [intOf]; omega
    · obtain rfl : k = l.length := by omega
      rw [List.take_length]
      have HLT := Lib.hid (holdS_lt (exs l) q N)
      go_wp2_with fail
      refine (min_any _ HLT.out _ ((HT.out.belowS HB0.out).belowS HB.out)).mono ?_
      rintro e w8 ⟨rfl, rfl⟩
      go_wp2
      go_ret
      exact ⟨rfl, bthen' HB0.out HB.out⟩
end Go.Proofs.YtagelhbknbpfhaaDoor

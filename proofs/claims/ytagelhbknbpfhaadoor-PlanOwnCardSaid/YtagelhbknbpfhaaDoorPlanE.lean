/-
  consortlaw15 and consortlaw03: Few.
-/
import Derived.Test.YtagelhbknbpfhaaDoorPlanM
namespace Go.Proofs.YtagelhbknbpfhaaDoor
open Go.RowKit Go.BigFrame
set_option maxHeartbeats 1000000
set_option maxRecDepth 100000
def FewPost (n m : Nat) (w : World) (e : Ending) (w' : World) : Prop := ∃ r : Bool, e = .returned (.bool r) ∧ Below w.heap.size w w' ∧ (r = true → n ≤ m)
theorem few_any (w : World) (v : Value) (l : List XE) (a : Option Addr) (c b o : Nat) (h : RowAt XE.vals w v l a c b o) (hok : ∀ y ∈ l, y.Ok w) (hml : l.length ≤ 9223372036854775807) :
    Calls Tryd.prog 10 #[v] w (FewPost l.length 80 w) := by
  have hv := h.v
  subst hv
  have HR := Lib.hid h
  have HOK := Lib.hid hok
  have hml' : (l.length : Int) ≤ 9223372036854775807 := by omega
  clear h hok
  go_enter Tryd.func10, Tryd.ntmps10
  go_wp2
  go_loop [3, 4] (fun nv i => ∃ k n : Nat, k ≤ l.length ∧ k ≤ 80 ∧ n ≤ 5000 ∧ i = .int .i64 k ∧ nv = .int .i64 n) (fun _ i => l.length - (intOf i).toNat)
  case atStart => exact ⟨0, 0, Nat.zero_le _, Nat.zero_le _, Nat.zero_le _, rfl, rfl⟩
  case round =>
    obtain ⟨k, n, hk, hk80, hn, rfl, rfl⟩ := hrel
    by_cases hlt : k < l.length
    · have hlt' : (k : Int) < (l.length : Int) := by omega
      obtain ⟨rfl, _⟩ := HR.out.a (by omega)
      obtain ⟨y, hy⟩ : ∃ y, l[k] = y := ⟨_, rfl⟩
      obtain ⟨ya, yc, hsl⟩ := (HOK.out _ (List.getElem_mem hlt)).sl
      have c3 : w.cell? ⟨b, o + k * 6 + 3, none⟩ = some y.sl := by rw [← hy]; exact HR.out.at_ XE.len hlt 3 _ rfl
      rw [hy] at hsl
      rw [hsl] at c3
      obtain ⟨L, hL⟩ : ∃ L, y.x.cnt.length = L := ⟨_, rfl⟩
      rw [hL] at c3
      clear hy hsl hL
      have hn' : (n : Int) ≤ 5000 := by omega
      have hk' : (k : Int) ≤ 80 := by omega
      by_cases hLL : L ≤ 5000
      · have hLL' : (L : Int) ≤ 5000 := by omega
        have hmin : min (L : Int) 5000 = L := by omega
        by_cases h80 : k < 80
        · have h80' : (k : Int) < 80 := by omega
          by_cases hs : n + L ≤ 5000
          · have hs' : (n : Int) + (L : Int) ≤ 5000 := by omega
            go_wp2
            go_round
            case rel => exact ⟨k + 1, n + L, by omega, by omega, by omega, by go_num, by go_num⟩
            case measure => simp [intOf]; omega
          · have hs' : 5000 < (n : Int) + (L : Int) := by omega
            go_wp2
            go_ret
            exact ⟨_, rfl, Below.refl _ _, fun h => by cases h⟩
        · have h80' : 80 ≤ (k : Int) := by omega
          go_wp2
          go_ret
          exact ⟨_, rfl, Below.refl _ _, fun h => by cases h⟩
      · have hLL' : 5000 < (L : Int) := by omega
        have hmin : min (L : Int) 5000 = 5000 := by omega
        by_cases h80 : k < 80
        · have h80' : (k : Int) < 80 := by omega
          by_cases hs : n = 0
          · subst hs
            go_wp2
            go_round
            case rel => exact ⟨k + 1, 5000, by omega, by omega, by omega, by go_num, by go_num⟩
            case measure => simp [intOf]; omega
          · have hs' : 0 < (n : Int) := by omega
            go_wp2
            go_ret
            exact ⟨_, rfl, Below.refl _ _, fun h => by cases h⟩
        · have h80' : 80 ≤ (k : Int) := by omega
          go_wp2
          go_ret
          exact ⟨_, rfl, Below.refl _ _, fun h => by cases h⟩
    · obtain rfl : k = l.length := by omega
      go_wp2
      go_ret
      exact ⟨_, rfl, Below.refl _ _, fun _ => hk80⟩
theorem few3_any (w : World) (v : Value) (l : List MsE) (a : Option Addr) (c b o : Nat) (h : MsgsAt w v l a c b o) (hml : l.length ≤ 9223372036854775807) :
    Calls Tryd.prog 24 #[v] w (FewPost l.length 300 w) := by
  have hv := h.r.v
  subst hv
  have HM := Lib.hid h
  have hml' : (l.length : Int) ≤ 9223372036854775807 := by omega
  clear h
  go_enter Tryd.func24, Tryd.ntmps24
  go_wp2
  go_loopw [3, 4] (fun nv i wr => ∃ k n : Nat, k ≤ l.length ∧ k ≤ 300 ∧ n ≤ 20000 ∧ i = .int .i64 k ∧ nv = .int .i64 n ∧ Below w.heap.size w wr) (fun _ i _ => l.length - (intOf i).toNat)
  case atStart => exact ⟨0, 0, Nat.zero_le _, Nat.zero_le _, Nat.zero_le _, rfl, rfl, Below.refl _ _⟩
  case round =>
    obtain ⟨k, n, hk, hk80, hn, rfl, rfl, hb⟩ := hrel
    have HB := Lib.hid hb
    clear hb
    by_cases hlt : k < l.length
    · have hlt' : (k : Int) < (l.length : Int) := by omega
      obtain ⟨rfl, _⟩ := HM.out.r.a (by omega)
      obtain ⟨y, hy⟩ : ∃ y, l[k] = y := ⟨_, rfl⟩
      obtain ⟨ya, yc, yb, yo, hrow⟩ := (HM.out.ok _ (List.getElem_mem hlt)).r
      have hsl := hrow.v
      rw [hy] at hsl
      obtain ⟨C, hC⟩ : ∃ C : World → Prop, ∀ w', C w' ↔ Below w.heap.size w w' := ⟨_, fun _ => Iff.rfl⟩
      have hC0 : C { wr with drawn := wr.drawn + 1 } := (hC _).2 (Below.drew HB.out)
      obtain ⟨L, hL⟩ : ∃ L, y.m.deps.length = L := ⟨_, rfl⟩
      obtain ⟨p, hp⟩ : ∃ p : ByteArray, (⟨y.m.payload.toArray⟩ : ByteArray) = p := ⟨_, rfl⟩
      have hps : (p.size : Int) ≤ 9223372036854775807 := by
        have h1 := (HM.out.ok _ (List.getElem_mem hlt)).pay
        rw [hy] at h1
        have h2 : p.size = y.m.payload.length := by rw [← hp]; exact List.size_toArray
        omega
      have hLs : (L : Int) ≤ 9223372036854775807 := by
        have h1 := (HM.out.ok _ (List.getElem_mem hlt)).dl
        rw [hy, hL] at h1
        omega
      have l5 := Lib.hid (show ∀ w', C w' → w'.cell? ⟨b, o + k * 6 + 5, none⟩ = some (.string p) from fun w' h => by
        rw [← hp, ← hy]; exact (HM.out.r.below rfl ((hC w').1 h)).at_ MsE.len hlt 5 _ rfl)
      have l4 := Lib.hid (show ∀ w', C w' → w'.cell? ⟨b, o + k * 6 + 4, none⟩ = some (.slice ya L yc) from fun w' h => by
        rw [← hL, ← hsl, ← hy]; exact (HM.out.r.below rfl ((hC w').1 h)).at_ MsE.len hlt 4 _ rfl)
      have HC := Lib.hid hC
      clear hC hy hsl hrow hL hp
      have hn' : (n : Int) ≤ 20000 := by omega
      have hk' : (k : Int) ≤ 300 := by omega
      go_upto_region 5 with fail
      refine wp_region_quiet (C := C) (by kernel_rfl) (by kernel_rfl) hC0 ?_
      dsimp only []
      repeat (first | go_big_quiet_skip | (go_big_quiet_want; first | (refine quiet_load _ _ (by rfl) ?_ _ (by rfl) (by first | exact l5.out | exact l4.out) ?_; (· intro w; simp); (simp only [Act.put, List.setIfInBounds_toArray, List.set_cons_zero, List.set_cons_succ]); go_big_quiet_on) | (go_big_quiet_op; go_big_quiet_on) | (go_big_quiet_op; refine Exists.intro _ ⟨fun _ _ => rfl, ?_⟩; go_big_quiet_on)))
      refine wpQuiet_nil ?_
      intro w8 hC8
      have HB8 := Lib.hid ((HC.out _).1 hC8)
      clear hC8 hC0 l5 l4 HC
      obtain ⟨PP, hPP, hPl⟩ : ∃ PP : Nat, (if 20000 < (p.size : Int) then (20000 : Int) else p.size) = PP ∧ PP ≤ 20000 := by
        by_cases h : 20000 < (p.size : Int)
        · exact ⟨20000, by rw [if_pos h]; rfl, by omega⟩
        · exact ⟨p.size, by rw [if_neg h], by omega⟩
      obtain ⟨LL, hLL, hLl⟩ : ∃ LL : Nat, (if 20000 < (L : Int) then (20000 : Int) else L) = LL ∧ LL ≤ 20000 := by
        by_cases h : 20000 < (L : Int)
        · exact ⟨20000, by rw [if_pos h]; rfl, by omega⟩
        · exact ⟨L, by rw [if_neg h], by omega⟩
      rw [hPP, hLL]
      clear hPP hLL hps hLs
      by_cases h80 : k < 300
      · have h80' : (k : Int) < 300 := by omega
        by_cases hs : n + 1 + PP + LL ≤ 20000
        · have hs' : (n : Int) + 1 + PP + LL ≤ 20000 := by omega
          go_wp2
          go_roundw
          case rel => exact ⟨k + 1, n + 1 + PP + LL, by omega, by omega, by omega, by go_num, by go_num, HB8.out⟩
          case measure => simp [intOf]; omega
        · have hs' : 20000 < (n : Int) + 1 + PP + LL := by omega
          go_wp2
          go_ret
          exact ⟨_, rfl, HB8.out, fun h => by cases h⟩
      · have h80' : 300 ≤ (k : Int) := by omega
        go_wp2
        go_ret
        exact ⟨_, rfl, HB8.out, fun h => by cases h⟩
    · obtain rfl : k = l.length := by omega
      go_wp2
      go_ret
      exact ⟨_, rfl, HB.out, fun _ => hk80⟩
end Go.Proofs.YtagelhbknbpfhaaDoor

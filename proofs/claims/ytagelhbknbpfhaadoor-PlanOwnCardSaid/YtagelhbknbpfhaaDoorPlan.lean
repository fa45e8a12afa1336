/-
  Package plan in memory: exchanges, a plan; at, Whole, Companions, Holder.
-/
import Derived.Test.YtagelhbknbpfhaaDoorGen
import Derived.Test.YtagelhbknbpfhaaDoorPlanP
import Derived.Test.YtagelhbknbpfhaaDoorPlain
import Derived.BigGuard
namespace Go.Proofs.YtagelhbknbpfhaaDoor
open Go.RowKit Go.BigFrame
set_option maxHeartbeats 1000000
set_option maxRecDepth 100000
def u32v (n : Nat) : List Value := [.int .u32 n]
theorem u32v_len (n : Nat) : (u32v n).length = 1 := rfl
theorem u32v_one (n : Nat) : ∀ v ∈ u32v n, v.oneCell' = true := by simp [u32v, Value.oneCell']
/-- An exchange, and the slice that it counts in. -/
structure XE where
  x : Ex
  sl : Value
def XE.vals (y : XE) : List Value := [.int .i64 y.x.who, .int .u64 y.x.oe, .int .i64 y.x.orp, y.sl, .int .u64 y.x.ls, .int .i64 y.x.lf]
theorem XE.len (y : XE) : y.vals.length = 6 := rfl
def exZero : List Value := [.int .i64 0, .int .u64 0, .int .i64 0, .slice none 0 0, .int .u64 0, .int .i64 0]
theorem size_ex : (Tryd.prog.info? 64).map (·.size) = some 6 := by kernel_rfl
theorem info_ex : (Tryd.prog.info? 64).map (fun i => (i.zero, i.size, i.bytes)) = some (some (.agg exZero.toArray), 6, 64) := by kernel_rfl
theorem zero_ex (w : World) : (zeroValue 64).run Tryd.prog w = .ok (.agg exZero.toArray) w := by kernel_rfl
/-- Its own memory, read only. -/
structure XE.Ok (w : World) (y : XE) : Prop where
  r : ∃ a c b o, RowAt u32v w y.sl y.x.cnt a c b o
  lt : ∀ n ∈ y.x.cnt, n < 4294967296
  oe : y.x.oe < 18446744073709551616
  ls : y.x.ls < 18446744073709551616
theorem XE.Ok.sl {w : World} {y : XE} (h : y.Ok w) : ∃ a c, y.sl = .slice a y.x.cnt.length c := by
  obtain ⟨a, c, b, o, h⟩ := h.r
  exact ⟨a, c, h.v⟩
theorem XE.Ok.one {w : World} {y : XE} (h : y.Ok w) : ∀ v ∈ y.vals, v.oneCell' = true := by
  obtain ⟨a, c, h⟩ := h.sl
  simp [XE.vals, h, Value.oneCell']
theorem XE.Ok.oneA {w : World} {y : XE} (h : y.Ok w) : ∀ v ∈ y.vals.toArray.toList, v.oneCell' = true := by simpa using h.one
theorem XE.Ok.below {w w' : World} {y : XE} (h : y.Ok w) {n : Nat} (hn : n = w.heap.size) (hb : Below n w w') : y.Ok w' := by
  obtain ⟨a, c, b, o, hr⟩ := h.r
  exact ⟨⟨a, c, b, o, hr.below hn hb⟩, h.lt, h.oe, h.ls⟩
/-- A row of exchanges, read only. -/
structure ExsAt (w : World) (v : Value) (l : List XE) (a : Option Addr) (c b o : Nat) : Prop where
  r : RowAt XE.vals w v l a c b o
  ok : ∀ y ∈ l, y.Ok w
  len : l.length ≤ 1000
theorem ExsAt.below {w w' : World} {v : Value} {l : List XE} {a : Option Addr} {c b o : Nat} (h : ExsAt w v l a c b o) {n : Nat} (hn : n = w.heap.size) (hb : Below n w w') : ExsAt w' v l a c b o :=
  ⟨h.r.below hn hb, fun y hy => (h.ok y hy).below hn hb, h.len⟩
def exs (l : List XE) : List Ex := l.map XE.x
theorem exs_take (l : List XE) (k : Nat) (h : k < l.length) : exs (l.take (k + 1)) = exs (l.take k) ++ [l[k].x] := by
  unfold exs
  rw [take_snoc l k h, List.map_append]; rfl
/-- A plan. -/
def PlanAt (w : World) (g : Nat) (l : List XE) : Prop := ∃ v a c b o, w.heap[g]? = some (.cells #[v] 70 (0, 0)) ∧ ExsAt w v l a c b o
theorem PlanAt.below {w w' : World} {g : Nat} {l : List XE} (h : PlanAt w g l) (hb : Below w.heap.size w w') : PlanAt w' g l := by
  obtain ⟨v, a, c, b, o, h1, h2⟩ := h
  exact ⟨v, a, c, b, o, bblock hb h1, h2.below rfl hb⟩
theorem PlanAt.ok {w : World} {g : Nat} {l : List XE} (h : PlanAt w g l) : ∀ y ∈ l, y.Ok w := by
  obtain ⟨v, a, c, b, o, h1, h2⟩ := h
  exact h2.ok
theorem PlanAt.lt {w : World} {g : Nat} {l : List XE} (h : PlanAt w g l) : ∀ x ∈ exs l, ∀ n ∈ x.cnt, n < 4294967296 := by
  intro x hx
  obtain ⟨y, hy, rfl⟩ := List.mem_map.1 hx
  exact (h.ok y hy).lt
theorem at_any (w : World) (v : Value) (l : List Nat) (a : Option Addr) (c b o : Nat) (h : RowAt u32v w v l a c b o) (p : Int) :
    Calls Tryd.prog 35 #[v, .int .i64 p] w fun e w' => e = .returned (.int .u32 (atL l p)) ∧ w = w' := by
  obtain rfl := h.v
  by_cases h0 : p < 0
  · rw [atL_out (.inl h0)]
    clear h
    go_enter Tryd.func35, Tryd.ntmps35
    go_wp2
    go_ret
    exact ⟨rfl, rfl⟩
  · have h1 : 0 ≤ p := by omega
    obtain ⟨k, rfl⟩ := Int.eq_ofNat_of_zero_le h1
    by_cases h2 : k < l.length
    · have hc := h.at_ u32v_len h2 0 (.int .u32 l[k]) rfl
      obtain ⟨rfl, _⟩ := h.a (by omega)
      rw [Nat.mul_one, Nat.add_zero] at hc
      have h2' : (k : Int) < (l.length : Int) := by omega
      have E := Lib.hid (show atL l k = l[k] from atL_in h2)
      generalize l[k] = x at hc E
      clear h h0 h2
      go_enter Tryd.func35, Tryd.ntmps35
      go_wp2
      go_ret
      exact ⟨by rw [E.out]; rfl, rfl⟩
    · have h2' : (l.length : Int) ≤ (k : Int) := by omega
      rw [atL_out (.inr h2')]
      clear h h0 h2
      go_enter Tryd.func35, Tryd.ntmps35
      go_wp2
      go_ret
      exact ⟨rfl, rfl⟩
theorem whole_any {w : World} {g : Nat} {l : List XE} (h : PlanAt w g l) (q : Int) :
    Calls Tryd.prog 16 #[.pointer (some ⟨g, 0, none⟩), .int .i64 q] w fun e w' => e = .returned (.int .u32 (wholeL (exs l) q)) ∧ Below w.heap.size w w' := by
  have hz := zero_ex
  have hu : Hid ((Tryd.prog.info? 64).map (·.size) = some (6 : Nat)) := Lib.hid size_ex
  by_cases hq : 0 ≤ q ∧ q < 64
  · have E := Lib.hid (show wholeL (exs l) q = wholeF (exs l) q from by unfold wholeL; rw [if_pos hq])
    obtain ⟨hq0, hq1⟩ := hq
    obtain ⟨v, a, c, b, o, h1, h2⟩ := h
    obtain rfl := h2.r.v
    have c0 : w.cell? ⟨g, 0, none⟩ = some (.slice a l.length c) := by rw [cell_of_row w g 0 _ _ _ h1]; rfl
    have H2 := Lib.hid h2
    have hlen : (l.length : Int) ≤ 1000 := by have := h2.len; omega
    clear h1 h2
    go_enter Tryd.func16, Tryd.ntmps16
    go_wp2
    clear c0
    go_loopw [5, 19] (fun n i wr => ∃ k : Nat, k ≤ l.length ∧ i = .int .i64 k ∧ n = .int .u32 (wholeF (exs (l.take k)) q) ∧ Below w.heap.size w wr) (fun _ i _ => l.length - (intOf i).toNat)
    case atStart => exact ⟨0, Nat.zero_le _, rfl, rfl, Below.refl _ _⟩
    case round =>
      obtain ⟨k, hk, rfl, rfl, hb⟩ := hrel
      have HB := Lib.hid hb
      clear hb
      by_cases hlt : k < l.length
      · obtain ⟨rfl, _⟩ := H2.out.r.a (by omega)
        obtain ⟨y, hy⟩ : ∃ y, l[k] = y := ⟨_, rfl⟩
        have hlt' : (k : Int) < (l.length : Int) := by omega
        have HS := Lib.hid (show wholeF (exs (l.take (k + 1))) q = max (wholeF (exs (l.take k)) q) (atL y.x.cnt q) by rw [exs_take l k hlt, hy, wholeF_snoc])
        have HX := Lib.hid (show wr.rangeAt b (o + k * 6) y.vals from by rw [← hy]; exact (H2.out.r.below rfl HB.out).at_ XE.len hlt)
        have HOK := Lib.hid (show y.Ok wr from by rw [← hy]; exact (H2.out.ok _ (List.getElem_mem hlt)).below rfl HB.out)
        obtain ⟨D, hD⟩ : ∃ D, wr.heap.size = D := ⟨_, rfl⟩
        go_upto_region 6 with (first
          | (guard_target = wpList _ _ _ (Oper.mk none (Op.store _ _ _) _ _ _ none :: _) _ _; refine wpList_store_row rfl 64 _ _ rfl D (by rfl) y.vals.toArray (by rfl) exZero.toArray 64 (by rw [← hD]; exact heap_alloc_new _ _) rfl hu.out HOK.out.oneA ?_; intro w7 hw7 hg7)
          | (guard_target = wpList _ _ _ (Oper.mk _ (Op.load 64 _) _ _ _ none :: _) _ _; refine wpList_load_mid rfl 64 _ rfl b (o + k * 6) (by rfl) y.vals _ HX.out Tryd.underlying64 rfl hu.out ?_; simp only [Act.put, List.setIfInBounds_toArray, List.set_cons_zero, List.set_cons_succ]))
        have HB7 := Lib.hid (bthen' HB.out (bel_new (hD ▸ hg7)))
        have HOK7 := Lib.hid (HOK.out.below rfl (bel_new (hD ▸ hg7)))
        have DB := Lib.hid hw7
        clear hw7 hg7 hD
        clear hy
        obtain ⟨a', c', b', o', hr⟩ := HOK7.out.r
        have HR := Lib.hid hr
        have c3 : w7.cell? ⟨D, 3, none⟩ = some y.sl := by rw [cell_of_row w7 D 3 _ _ _ DB.out]; rfl
        rw [hr.v] at c3
        clear hr
        go_wp2_with fail
        rw [← HR.out.v]
        refine (at_any _ _ _ _ _ _ _ HR.out q).mono ?_
        rintro e w8 ⟨rfl, rfl⟩
        clear c3
        go_wp2
        all_goals
          go_roundw
          case rel => exact ⟨k + 1, by omega, by go_num, by rw [HS.out]; go_num, HB7.out⟩
          case measure => simp [intOf]; omega
      · obtain rfl : k = l.length := by omega
        rw [List.take_length]
        go_wp2
        go_ret
        exact ⟨by rw [E.out]; rfl, HB.out⟩
  · have E := Lib.hid (show wholeL (exs l) q = 0 from by unfold wholeL; rw [if_neg hq])
    clear h
    by_cases h0 : 0 ≤ q
    · have h1 : 64 ≤ q := by omega
      clear hq
      go_enter Tryd.func16, Tryd.ntmps16
      go_wp2
      go_ret
      exact ⟨by rw [E.out]; rfl, Below.refl _ _⟩
    · clear hq
      go_enter Tryd.func16, Tryd.ntmps16
      go_wp2
      go_ret
      exact ⟨by rw [E.out]; rfl, Below.refl _ _⟩
end Go.Proofs.YtagelhbknbpfhaaDoor

/-
  Package link: a row of calls (a script) in memory, and what it makes of a window.
-/
import Derived.Test.YtjokfjdbioeohaaDoorLinkA
namespace Go.Proofs.YtjokfjdbioeohaaDoor
open Go.RowKit Go.BigFrame
set_option maxHeartbeats 400000
set_option maxRecDepth 100000
/-- A call. -/
structure LAct where
  p : Int
  n : Int
  s : Nat
structure LAct.Ok (a : LAct) : Prop where
  n : a.n ≤ 9223372036854775807
/-- A script in memory. -/
structure ActsAt (w : World) (v : Value) (l : List LAct) (a : Option Addr) (c b o : Nat) : Prop where
  v : v = .slice a l.length c
  a : 0 < l.length → a = some ⟨b, o, none⟩ ∧ b < w.heap.size
  p : ∀ i (h : i < l.length), w.cell? ⟨b, o + i * 3, none⟩ = some (.int .i64 l[i].p)
  n : ∀ i (h : i < l.length), w.cell? ⟨b, o + i * 3 + 1, none⟩ = some (.int .i64 l[i].n)
  s : ∀ i (h : i < l.length), w.cell? ⟨b, o + i * 3 + 2, none⟩ = some (.int .u32 l[i].s)
  ok : ∀ x ∈ l, x.Ok
/-- What an act makes of a window. -/
def actW (m : Win) (a : LAct) : Win := if a.p < 0 then nextW m a.n else gotW m a.p a.s
def runW (m : Win) (l : List LAct) : Win := l.foldl actW m
theorem runW_take (m : Win) (l : List LAct) (k : Nat) (h : k < l.length) : runW m (l.take (k + 1)) = actW (runW m (l.take k)) l[k] := by
  unfold runW
  rw [List.take_succ_eq_append_getElem h, List.foldl_append]; rfl
theorem actW_sent (m : Win) (a : LAct) : (actW m a).sent ≤ m.sent + 1 := by
  unfold actW
  split
  · unfold nextW
    split
    · exact Nat.le_refl _
    · omega
  · unfold gotW
    split
    · exact Nat.le_succ _
    · omega
theorem runW_sent (m : Win) (l : List LAct) : (runW m l).sent ≤ m.sent + l.length := by
  unfold runW
  induction l generalizing m with
  | nil => simp
  | cons a l ih =>
    have h1 := ih (actW m a)
    have h2 := actW_sent m a
    simp only [List.foldl_cons, List.length_cons]
    omega
theorem Win.Wf.act {m : Win} (h : m.Wf) (hs : m.sent + 1 < 4294967296) (a : LAct) : (actW m a).Wf := by
  unfold actW
  split
  · exact h.next hs _
  · exact h.gotW _ _
section
variable {w0 w w' : World} {g c : Nat} {m m' : Win}
theorem Lk.keep (h : Lk w0 w c m) (hg : w.grownBy w' (some g)) (hne : c ≠ g) (hn : w0.heap.size ≤ g) : Lk w0 w' c m := by
  refine ⟨h.tab.grown hg (by have := h.pos; omega), ?_, below_grown h.bel hg hn, h.new, h.pos, h.wf⟩
  obtain ⟨cs, hh, hc⟩ := h.at_
  exact ⟨cs, by rw [hg.block c (Array.getElem?_eq_some_iff.1 hh).1 (by intro e; exact hne (Option.some.inj e))]; exact hh, hc⟩
theorem do_any (h : Lk w0 w g m) (a : LAct) (ha : a.Ok) (hs : m.sent + 1 < 4294967296) :
    Calls Tryd.prog 31 #[.pointer (some ⟨g, 0, none⟩), .agg #[.int .i64 a.p, .int .i64 a.n, .int .u32 a.s]] w fun e w' =>
      e = .returned (.tuple #[]) ∧ Lk w0 w' g (actW m a) ∧ w.grownBy w' (some g) := by
  have HA := Lib.hid ((Below.refl w.heap.size w).alloc (Nat.le_refl _) (.cells #[.int .i64 a.p, .int .i64 a.n, .int .u32 a.s] 35))
  have HL := Lib.hid (h.below HA.out)
  by_cases hp : a.p < 0
  · have E := Lib.hid (show actW m a = nextW m a.n by unfold actW; rw [if_pos hp])
    have HN := Lib.hid (next_any g m a.n ha.n _ HL.out.tab HL.out.at_ h.wf hs)
    have HX := Lib.hid hs
    clear h hs
    go_enter Tryd.func31, Tryd.ntmps31
    go_wp2_with (go_at_call 16; refine HN.out.mono ?_; rintro e w1 ⟨rfl, hw, hg⟩)
    go_end0
    exact ⟨rfl, by rw [E.out]; exact HL.out.grown hg hw (HL.out.wf.next HX.out _), ⟨hg.os.trans rfl, hg.tape.trans rfl, hg.output.trans rfl, Nat.le_trans HA.out.size hg.size, fun k hk hne => (hg.block k (Nat.lt_of_lt_of_le hk HA.out.size) hne).trans (HA.out.block k hk)⟩⟩
  · have hp' : 0 ≤ a.p := by omega
    have E := Lib.hid (show actW m a = gotW m a.p a.s by unfold actW; rw [if_neg hp])
    have HN := Lib.hid (got_any g m a.p a.s _ HL.out.at_ h.wf)
    clear h hs hp
    go_enter Tryd.func31, Tryd.ntmps31
    go_wp2_with (go_at_call 18; refine HN.out.mono ?_; rintro e w1 ⟨rfl, hw, hg⟩)
    go_end0
    exact ⟨rfl, by rw [E.out]; exact HL.out.grown hg hw (HL.out.wf.gotW _ _), ⟨hg.os.trans rfl, hg.tape.trans rfl, hg.output.trans rfl, Nat.le_trans HA.out.size hg.size, fun k hk hne => (hg.block k (Nat.lt_of_lt_of_le hk HA.out.size) hne).trans (HA.out.block k hk)⟩⟩
end
end Go.Proofs.YtjokfjdbioeohaaDoor

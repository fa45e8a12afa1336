/-
  consortref11: New.
-/
import Derived.Test.YtjokfjdbioeohaaDoorLinkRef3
namespace Go.Proofs.YtjokfjdbioeohaaDoor
open Go.RowKit Go.BigFrame
set_option maxHeartbeats 1000000
set_option maxRecDepth 100000
theorem refZero_oth {i : Nat} (h : i < 64) : refZero[2 + i]? = some (.bool false) := by
  unfold refZero
  rw [List.getElem?_toArray, List.append_assoc, List.append_assoc, List.getElem?_append_right (by simp), List.getElem?_append_left (by simp; omega)]
  show (List.replicate 64 (Value.bool false))[2 + i - 2]? = _
  rw [Nat.add_sub_cancel_left, List.getElem?_replicate, if_pos h]
theorem refZero_got {i : Nat} (h : i < 64) : refZero[67 + i]? = some (.int .u32 0) := by
  unfold refZero
  rw [List.getElem?_toArray, List.getElem?_append_right (by simp)]
  show (List.replicate 64 (Value.int .u32 0))[67 + i - ((([.int .i64 0, .int .i64 0] : List Value) ++ List.replicate 64 (Value.bool false) ++ [Value.int .u32 0])).length]? = _
  rw [show ((([.int .i64 0, .int .i64 0] : List Value) ++ List.replicate 64 (Value.bool false) ++ [Value.int .u32 0])).length = 67 by simp, Nat.add_sub_cancel_left, List.getElem?_replicate, if_pos h]
theorem refZero_sent : refZero[66]? = some (.int .u32 0) := by
  unfold refZero
  rw [List.getElem?_toArray, List.getElem?_append_left (by simp), List.getElem?_append_right (by simp)]
  simp
/-- The window while its others are filled in. -/
def newK (me : Int) (members : Nat) (size : Int) (k : Nat) : Win := { newW me members size with others := butN members (bitN me) % 2 ^ k }
theorem newK_end {me : Int} {members : Nat} {size : Int} (hm : members < 18446744073709551616) : newK me members size 64 = newW me members size := by
  unfold newK newW
  rw [Nat.mod_eq_of_lt (butN_lt hm _)]
theorem newK_zero' (me : Int) (members : Nat) (size sz : Int) : RefCells ((refZero.setIfInBounds 0 (.int .i64 me)).setIfInBounds 1 (.int .i64 sz)) { newK me members size 0 with size := sz } := by
  have hz := refZero_size
  refine ⟨by simp [hz], ?_, ?_, fun i hi => ?_, ?_, fun i hi => ?_⟩
  · simp [hz, newK, newW]
  · simp [hz]
  · rw [Array.getElem?_setIfInBounds_ne (by omega), Array.getElem?_setIfInBounds_ne (by omega), refZero_oth hi]
    simp [newK, Nat.mod_one]
  · rw [Array.getElem?_setIfInBounds_ne (by omega), Array.getElem?_setIfInBounds_ne (by omega), refZero_sent]; rfl
  · rw [Array.getElem?_setIfInBounds_ne (by omega), Array.getElem?_setIfInBounds_ne (by omega), refZero_got hi]; rfl
theorem newK_succ {me : Int} {members : Nat} {size : Int} {k : Nat} (hk : k < 64) {cs : Array Value} (h : RefCells cs (newK me members size k)) (b : Bool) (hb : b = (members.testBit k && !decide ((k : Int) = me))) :
    RefCells (cs.setIfInBounds (2 + k) (.bool b)) (newK me members size (k + 1)) := by
  have hn := h.n
  refine ⟨by simp [hn], by rw [Array.getElem?_setIfInBounds_ne (by omega)]; exact h.me, by rw [Array.getElem?_setIfInBounds_ne (by omega)]; exact h.size, fun i hi => ?_, by rw [Array.getElem?_setIfInBounds_ne (by omega)]; exact h.sent,
    fun i hi => by rw [Array.getElem?_setIfInBounds_ne (by omega)]; exact h.got i hi⟩
  by_cases e : i = k
  · subst e
    rw [Array.getElem?_setIfInBounds_self_of_lt (by omega), hb]
    simp only [newK, Nat.testBit_mod_two_pow, testBit_butN, testBit_bitN]
    have e1 : (decide (0 ≤ me) && decide (me < 64) && decide (me.toNat = i)) = decide ((i : Int) = me) := by
      by_cases he : (i : Int) = me
      · subst he; simp; omega
      · rw [decide_eq_false he]
        by_cases h0 : 0 ≤ me
        · have : ¬ me.toNat = i := by omega
          simp [this]
        · simp [h0]
    rw [e1]
    simp
  · rw [Array.getElem?_setIfInBounds_ne (by omega), h.others i hi]
    simp only [newK, Nat.testBit_mod_two_pow]
    have : (decide (i < k + 1)) = decide (i < k) := by rw [decide_eq_decide]; omega
    rw [this]
theorem newK_zero (me : Int) (members : Nat) (size sz : Int) (hs : sz = max 1 (min size 64)) : RefCells ((refZero.setIfInBounds 0 (.int .i64 me)).setIfInBounds 1 (.int .i64 sz)) (newK me members size 0) := by
  have h := newK_zero' me members size sz
  subst hs
  exact h
/-- The block where New builds its window. -/
def NewAt (w0 w : World) (B : Nat) (m : Win) : Prop := ∃ cs, w.heap[B + 1]? = some (.cells cs 32 (0, 0)) ∧ RefCells cs m ∧ (∃ cur, w.heap[B]? = some (.cells cur 32 (0, 0)) ∧ cur.size = 131) ∧ Below w0.heap.size w0 w
def RefNewPost (m : Win) (w : World) (e : Ending) (w' : World) : Prop := ∃ cs, e = .returned (.agg cs) ∧ RefCells cs m ∧ Below w.heap.size w w'
theorem NewAt.set {w0 w : World} {m m' : Win} (h : NewAt w0 w w0.heap.size m) (k : Nat) (v : Value) (hm : ∀ cs, RefCells cs m → RefCells (cs.setIfInBounds k v) m') : NewAt w0 (w.setCell ⟨w0.heap.size + 1, k, none⟩ v) w0.heap.size m' := by
  obtain ⟨cs, h1, h2, ⟨cur, h3, h4⟩, h5⟩ := h
  refine ⟨_, setRowCell h1 k v, hm cs h2, ⟨cur, ?_, h4⟩, h5.grown (grown_set (grown_of_below (Below.refl _ _) _) k v) h5.size (fun j hj => by cases hj; omega)⟩
  rw [setOther _ _ _ (by omega)]; exact h3
theorem bit_val {members k : Nat} (hm : members < 18446744073709551616) : bits .and .u64 ((members : Int) / 2 ^ k) 1 = ((members / 2 ^ k % 2 : Nat) : Int) := by
  have h := bits_and_u64_nat (members / 2 ^ k) 1 (Nat.lt_of_le_of_lt (Nat.div_le_self _ _) hm) (by omega)
  rw [Nat.and_one_is_mod] at h
  rw [← h]; simp
theorem bit_one {members k : Nat} (hm : members < 18446744073709551616) (h : members.testBit k = true) : bits .and .u64 ((members : Int) / 2 ^ k) 1 = 1 := by
  rw [Nat.testBit_eq_decide_div_mod_eq, decide_eq_true_eq] at h
  rw [bit_val hm, h]; rfl
theorem bit_zero {members k : Nat} (hm : members < 18446744073709551616) (h : members.testBit k = false) : bits .and .u64 ((members : Int) / 2 ^ k) 1 = 0 := by
  rw [Nat.testBit_eq_decide_div_mod_eq, decide_eq_false_iff_not] at h
  have : members / 2 ^ k % 2 = 0 := by omega
  rw [bit_val hm, this]; rfl
theorem NewAt.cell {w0 w : World} {B : Nat} {m : Win} (h : NewAt w0 w B m) (k : Nat) (hk : k < 131) : ∃ c, w.cell? ⟨B + 1, k, none⟩ = some c := by
  obtain ⟨cs, h1, h2, _⟩ := h
  rw [cell_of_row w _ k _ _ _ h1]
  have := h2.n
  exact ⟨cs[k], by simp⟩
theorem NewAt.nf {w0 w : World} {B : Nat} {m : Win} (h : NewAt w0 w B m) (k : Nat) : w.frozen? ⟨B + 1, k, none⟩ = false := by
  obtain ⟨cs, h1, h2, _⟩ := h
  simp [World.frozen?, h1]
theorem rnew_any (me : Int) (members : Nat) (size : Int) (hm : members < 18446744073709551616) (w : World) :
    Calls Tryd.prog 13 #[.int .i64 me, .int .u64 members, .int .i64 size] w (RefNewPost (newW me members size) w) := by
  have hz := zero_ref
  have hzs := refZero_size
  have hi : Hid ((Tryd.prog.info? 32).map (·.size) = some ((refZero.setIfInBounds 0 (.int .i64 me)).setIfInBounds 1 (.int .i64 size)).size) := Lib.hid (by rw [Array.size_setIfInBounds, Array.size_setIfInBounds, refZero_size]; exact size_ref)
  have H2 : Hid (∀ v ∈ ((refZero.setIfInBounds 0 (.int .i64 me)).setIfInBounds 1 (.int .i64 size)).toList, v.oneCell' = true) := Lib.hid (newK_zero' me 0 0 size).one
  have HS : Hid (∀ w1 : World, w1.heap[w.heap.size + 1]? = some (.cells ((refZero.setIfInBounds 0 (.int .i64 me)).setIfInBounds 1 (.int .i64 size)) 32 (0, 0)) →
      ((w.alloc (.cells refZero 32)).alloc (.cells refZero 32)).grownBy w1 (some (w.heap.size + 1)) → NewAt w w1 w.heap.size { newK me members size 0 with size := size }) :=
    Lib.hid fun w1 h1 h2 => ⟨_, h1, newK_zero' me members size size, ⟨refZero, by rw [h2.block w.heap.size (by rw [World.size_alloc, World.size_alloc]; omega) (by simp)]; exact heap_alloc2_old _ _ _, refZero_size⟩,
      (((Below.refl _ _).alloc (Nat.le_refl _) _).alloc (by simp) _).grown h2 (by simp only [World.size_alloc]; omega) (fun k hk => by cases hk; omega)⟩
  have HC1 : Hid (∀ w1 : World, w1.heap[w.heap.size + 1]? = some (.cells ((refZero.setIfInBounds 0 (.int .i64 me)).setIfInBounds 1 (.int .i64 size)) 32 (0, 0)) → w1.cell? ⟨w.heap.size + 1, 1, none⟩ = some (.int .i64 size)) :=
    Lib.hid fun w1 h1 => by rw [cell_of_row w1 _ 1 _ _ _ h1]; exact (newK_zero' me members size size).size
  have HF1 : Hid (∀ w1 : World, w1.heap[w.heap.size + 1]? = some (.cells ((refZero.setIfInBounds 0 (.int .i64 me)).setIfInBounds 1 (.int .i64 size)) 32 (0, 0)) → w1.frozen? ⟨w.heap.size + 1, 1, none⟩ = false) :=
    Lib.hid fun w1 h1 => by simp [World.frozen?, h1]
  have HZ : Hid (∀ (w1 : World) (sz : Int), NewAt w w1 w.heap.size { newK me members size 0 with size := size } → sz = max 1 (min size 64) → NewAt w (w1.setCell ⟨w.heap.size + 1, 1, none⟩ (.int .i64 sz)) w.heap.size (newK me members size 0)) :=
    Lib.hid fun w1 sz hN hsz => hN.set 1 _ fun cs hc => by
      subst hsz
      have hn := hc.n
      refine ⟨by simp [hn], by rw [Array.getElem?_setIfInBounds_ne (by omega)]; exact hc.me, by rw [Array.getElem?_setIfInBounds_self_of_lt (by omega)]; rfl, fun i hi => by rw [Array.getElem?_setIfInBounds_ne (by omega)]; exact hc.others i hi,
        by rw [Array.getElem?_setIfInBounds_ne (by omega)]; exact hc.sent, fun i hi => by rw [Array.getElem?_setIfInBounds_ne (by omega)]; exact hc.got i hi⟩
  by_cases h1 : size < 1
  · have h2 : size ≤ 64 := by omega
    have e := Lib.hid (show (1 : Int) = max 1 (min size 64) by omega)
    go_enter Tryd.func13, Tryd.ntmps13
    go_wp2_with (refine wpList_store_row rfl 32 _ _ rfl (w.heap.size + 1) (by rfl) _ (by rfl) refZero 32 (heap_alloc2_new _ _ _) (by rw [Array.size_setIfInBounds, Array.size_setIfInBounds]) hi.out H2.out ?_; intro w1 hw1 hg1; have HN := Lib.hid (HS.out w1 hw1 hg1); have c1 := HC1.out w1 hw1; have f1 := HF1.out w1 hw1; clear hw1 hg1)
    go_loopw [8] (fun i wr => ∃ k : Nat, k ≤ 64 ∧ i = .int .i64 k ∧ NewAt w wr w.heap.size (newK me members size k)) (fun i _ => 64 - (intOf i).toNat)
    case atStart => exact ⟨0, by omega, rfl, HZ.out _ _ HN.out e.out⟩
    clear HN c1 f1
    case round =>
      obtain ⟨k, hk, rfl, hN⟩ := hrel
      have HN := Lib.hid hN
      clear hN
      by_cases hlt : k < 64
      · have hlt' : (k : Int) < 64 := by omega
        obtain ⟨v2, c2⟩ := HN.out.cell (2 + k) (by omega)
        have f2 := HN.out.nf (2 + k)
        cases hb : members.testBit k
        · have hx := bit_zero hm hb
          have HB := Lib.hid (fun cs h => newK_succ (me := me) (size := size) hlt (cs := cs) h false (by rw [hb]; rfl))
          clear hb
          go_wp2
          go_roundw
          case rel => exact ⟨k + 1, by omega, by go_num, HN.out.set _ _ HB.out⟩
          case measure => simp [intOf]; omega
        · have hx := bit_one hm hb
          have HB := Lib.hid (fun cs h => newK_succ (me := me) (size := size) hlt (cs := cs) h ((k : Int) != me) (by rw [hb]; rfl))
          clear hb
          go_wp2
          go_roundw
          case rel => exact ⟨k + 1, by omega, by go_num, HN.out.set _ _ HB.out⟩
          case measure => simp [intOf]; omega
      · obtain rfl : k = 64 := by omega
        have HE := Lib.hid (show NewAt w wr w.heap.size (newW me members size) by rw [← newK_end hm]; exact HN.out)
        obtain ⟨cs, hg1, hc, ⟨cur, hg0, hcur⟩, hbel⟩ := HE.out
        have hg1' := Lib.hid hg1
        have hg0' := Lib.hid hg0
        have hc' := Lib.hid hc
        have hbel' := Lib.hid hbel
        have hcur' := Lib.hid hcur
        have hi' : Hid ((Tryd.prog.info? 32).map (·.size) = some cs.size) := Lib.hid (by rw [hc.n]; exact size_ref)
        clear hg1 hg0 hc hbel hcur
        go_wp2_with (first
          | (refine wpList_load_row rfl 32 _ rfl (w.heap.size + 1) (by rfl) 32 cs (0, 0) _ hg1'.out Tryd.underlying32 rfl hi'.out ?_; simp only [Act.put, List.setIfInBounds_toArray, List.set_cons_zero, List.set_cons_succ])
          | (refine wpList_store_row rfl 32 _ _ rfl w.heap.size (by rfl) cs (by rfl) cur 32 hg0'.out (by rw [hcur'.out, hc'.out.n]) hi'.out hc'.out.one ?_; intro w2 hw2 hg2))
        refine bodyPost_ret (results_cell_row rfl _ w2 w.heap.size 32 cs (0, 0) _ (by rfl) hw2 Tryd.underlying32 rfl hi'.out) rfl ⟨cs, rfl, hc'.out, hbel'.out.grown hg2 hbel'.out.size (fun k hk => by cases hk; exact Nat.le_refl _)⟩
  · by_cases h3 : 64 < size
    · have h2 : ¬ size < 1 := h1
      have e := Lib.hid (show (64 : Int) = max 1 (min size 64) by omega)
      go_enter Tryd.func13, Tryd.ntmps13
      go_wp2_with (refine wpList_store_row rfl 32 _ _ rfl (w.heap.size + 1) (by rfl) _ (by rfl) refZero 32 (heap_alloc2_new _ _ _) (by rw [Array.size_setIfInBounds, Array.size_setIfInBounds]) hi.out H2.out ?_; intro w1 hw1 hg1; have HN := Lib.hid (HS.out w1 hw1 hg1); have c1 := HC1.out w1 hw1; have f1 := HF1.out w1 hw1; clear hw1 hg1)
      go_loopw [8] (fun i wr => ∃ k : Nat, k ≤ 64 ∧ i = .int .i64 k ∧ NewAt w wr w.heap.size (newK me members size k)) (fun i _ => 64 - (intOf i).toNat)
      case atStart => exact ⟨0, by omega, rfl, HZ.out _ _ HN.out e.out⟩
      clear HN c1 f1
      case round =>
        obtain ⟨k, hk, rfl, hN⟩ := hrel
        have HN := Lib.hid hN
        clear hN
        by_cases hlt : k < 64
        · have hlt' : (k : Int) < 64 := by omega
          obtain ⟨v2, c2⟩ := HN.out.cell (2 + k) (by omega)
          have f2 := HN.out.nf (2 + k)
          cases hb : members.testBit k
          · have hx := bit_zero hm hb
            have HB := Lib.hid (fun cs h => newK_succ (me := me) (size := size) hlt (cs := cs) h false (by rw [hb]; rfl))
            clear hb
            go_wp2
            go_roundw
            case rel => exact ⟨k + 1, by omega, by go_num, HN.out.set _ _ HB.out⟩
            case measure => simp [intOf]; omega
          · have hx := bit_one hm hb
            have HB := Lib.hid (fun cs h => newK_succ (me := me) (size := size) hlt (cs := cs) h ((k : Int) != me) (by rw [hb]; rfl))
            clear hb
            go_wp2
            go_roundw
            case rel => exact ⟨k + 1, by omega, by go_num, HN.out.set _ _ HB.out⟩
            case measure => simp [intOf]; omega
        · obtain rfl : k = 64 := by omega
          have HE := Lib.hid (show NewAt w wr w.heap.size (newW me members size) by rw [← newK_end hm]; exact HN.out)
          obtain ⟨cs, hg1, hc, ⟨cur, hg0, hcur⟩, hbel⟩ := HE.out
          have hg1' := Lib.hid hg1
          have hg0' := Lib.hid hg0
          have hc' := Lib.hid hc
          have hbel' := Lib.hid hbel
          have hcur' := Lib.hid hcur
          have hi' : Hid ((Tryd.prog.info? 32).map (·.size) = some cs.size) := Lib.hid (by rw [hc.n]; exact size_ref)
          clear hg1 hg0 hc hbel hcur
          go_wp2_with (first
            | (refine wpList_load_row rfl 32 _ rfl (w.heap.size + 1) (by rfl) 32 cs (0, 0) _ hg1'.out Tryd.underlying32 rfl hi'.out ?_; simp only [Act.put, List.setIfInBounds_toArray, List.set_cons_zero, List.set_cons_succ])
            | (refine wpList_store_row rfl 32 _ _ rfl w.heap.size (by rfl) cs (by rfl) cur 32 hg0'.out (by rw [hcur'.out, hc'.out.n]) hi'.out hc'.out.one ?_; intro w2 hw2 hg2))
          refine bodyPost_ret (results_cell_row rfl _ w2 w.heap.size 32 cs (0, 0) _ (by rfl) hw2 Tryd.underlying32 rfl hi'.out) rfl ⟨cs, rfl, hc'.out, hbel'.out.grown hg2 hbel'.out.size (fun k hk => by cases hk; exact Nat.le_refl _)⟩
    · have h2 : 1 ≤ size := by omega
      have h4 : size ≤ 64 := by omega
      have e := Lib.hid (show NewAt w = NewAt w from rfl)
      have HY : Hid (∀ (w1 : World), NewAt w w1 w.heap.size { newK me members size 0 with size := size } → NewAt w w1 w.heap.size (newK me members size 0)) :=
        Lib.hid fun w1 hN => by
          have e : ({ newK me members size 0 with size := size } : Win) = newK me members size 0 := by
            unfold newK newW
            rw [show max 1 (min size 64) = size by omega]
          rw [← e]; exact hN
      clear e
      go_enter Tryd.func13, Tryd.ntmps13
      go_wp2_with (refine wpList_store_row rfl 32 _ _ rfl (w.heap.size + 1) (by rfl) _ (by rfl) refZero 32 (heap_alloc2_new _ _ _) (by rw [Array.size_setIfInBounds, Array.size_setIfInBounds]) hi.out H2.out ?_; intro w1 hw1 hg1; have HN := Lib.hid (HS.out w1 hw1 hg1); have c1 := HC1.out w1 hw1; have f1 := HF1.out w1 hw1; clear hw1 hg1)
      go_loopw [8] (fun i wr => ∃ k : Nat, k ≤ 64 ∧ i = .int .i64 k ∧ NewAt w wr w.heap.size (newK me members size k)) (fun i _ => 64 - (intOf i).toNat)
      case atStart => exact ⟨0, by omega, rfl, HY.out _ HN.out⟩
      clear HN c1 f1
      case round =>
        obtain ⟨k, hk, rfl, hN⟩ := hrel
        have HN := Lib.hid hN
        clear hN
        by_cases hlt : k < 64
        · have hlt' : (k : Int) < 64 := by omega
          obtain ⟨v2, c2⟩ := HN.out.cell (2 + k) (by omega)
          have f2 := HN.out.nf (2 + k)
          cases hb : members.testBit k
          · have hx := bit_zero hm hb
            have HB := Lib.hid (fun cs h => newK_succ (me := me) (size := size) hlt (cs := cs) h false (by rw [hb]; rfl))
            clear hb
            go_wp2
            go_roundw
            case rel => exact ⟨k + 1, by omega, by go_num, HN.out.set _ _ HB.out⟩
            case measure => simp [intOf]; omega
          · have hx := bit_one hm hb
            have HB := Lib.hid (fun cs h => newK_succ (me := me) (size := size) hlt (cs := cs) h ((k : Int) != me) (by rw [hb]; rfl))
            clear hb
            go_wp2
            go_roundw
            case rel => exact ⟨k + 1, by omega, by go_num, HN.out.set _ _ HB.out⟩
            case measure => simp [intOf]; omega
        · obtain rfl : k = 64 := by omega
          have HE := Lib.hid (show NewAt w wr w.heap.size (newW me members size) by rw [← newK_end hm]; exact HN.out)
          obtain ⟨cs, hg1, hc, ⟨cur, hg0, hcur⟩, hbel⟩ := HE.out
          have hg1' := Lib.hid hg1
          have hg0' := Lib.hid hg0
          have hc' := Lib.hid hc
          have hbel' := Lib.hid hbel
          have hcur' := Lib.hid hcur
          have hi' : Hid ((Tryd.prog.info? 32).map (·.size) = some cs.size) := Lib.hid (by rw [hc.n]; exact size_ref)
          clear hg1 hg0 hc hbel hcur
          go_wp2_with (first
            | (refine wpList_load_row rfl 32 _ rfl (w.heap.size + 1) (by rfl) 32 cs (0, 0) _ hg1'.out Tryd.underlying32 rfl hi'.out ?_; simp only [Act.put, List.setIfInBounds_toArray, List.set_cons_zero, List.set_cons_succ])
            | (refine wpList_store_row rfl 32 _ _ rfl w.heap.size (by rfl) cs (by rfl) cur 32 hg0'.out (by rw [hcur'.out, hc'.out.n]) hi'.out hc'.out.one ?_; intro w2 hw2 hg2))
          refine bodyPost_ret (results_cell_row rfl _ w2 w.heap.size 32 cs (0, 0) _ (by rfl) hw2 Tryd.underlying32 rfl hi'.out) rfl ⟨cs, rfl, hc'.out, hbel'.out.grown hg2 hbel'.out.size (fun k hk => by cases hk; exact Nat.le_refl _)⟩
end Go.Proofs.YtjokfjdbioeohaaDoor

/-
  NetTrue: the plain law; differ.
-/
import Derived.Test.YthegooaeehblhaaDoorRNetActs
namespace Go.Proofs.YthegooaeehblhaaDoorR
open Go.RowKit Go.BigFrame
set_option maxHeartbeats 1000000
set_option maxRecDepth 100000
/-- How many places differ. -/
def diffL : List UInt8 → List UInt8 → Nat
  | a :: u, b :: v => (if a = b then 0 else 1) + diffL u v
  | _, _ => 0
def gapN (a b : List UInt8) : Int := if a.length = b.length then diffL a b else -1
theorem diffL_le : ∀ a b : List UInt8, diffL a b ≤ a.length
  | [], b => by cases b <;> exact Nat.le_refl _
  | a :: u, [] => Nat.zero_le _
  | a :: u, b :: v => by
    have := diffL_le u v
    unfold diffL
    simp only [List.length_cons]
    split <;> omega
theorem diffL_self : ∀ a : List UInt8, diffL a a = 0
  | [] => rfl
  | a :: u => by unfold diffL; rw [if_pos rfl, diffL_self u]
theorem gapN_self (a : List UInt8) : gapN a a = 0 := by unfold gapN; rw [if_pos rfl, diffL_self]; rfl
theorem diffL_zero : ∀ a b : List UInt8, a.length = b.length → diffL a b = 0 → a = b
  | [], [], _, _ => rfl
  | [], _ :: _, h, _ => by cases h
  | _ :: _, [], h, _ => by cases h
  | a :: u, b :: v, h, h0 => by
    unfold diffL at h0
    by_cases e : a = b
    · rw [e, diffL_zero u v (by simpa using h) (by omega)]
    · rw [if_neg e] at h0; omega
theorem gapN_zero {a b : List UInt8} (h : gapN a b = 0) : a = b := by
  unfold gapN at h
  split at h
  · rename_i e
    exact diffL_zero a b e (by omega)
  · omega
theorem diffL_set : ∀ (a : List UInt8) (k : Nat) (x : UInt8), (hk : k < a.length) → x ≠ a[k] → diffL a (a.set k x) = 1
  | [], _, _, hk, _ => by cases hk
  | a :: u, 0, x, _, hx => by
    show diffL (a :: u) (x :: u) = 1
    unfold diffL
    rw [if_neg (fun e => hx e.symm), diffL_self]
  | a :: u, k + 1, x, hk, hx => by
    show diffL (a :: u) (a :: u.set k x) = 1
    unfold diffL
    rw [if_pos rfl, Nat.zero_add]
    exact diffL_set u k x (by simpa using hk) (by simpa using hx)
theorem diffL_take_succ : ∀ (a b : List UInt8) (k : Nat) (_ : a.length = b.length) (hk : k < a.length) (hb : k < b.length), diffL (a.take (k + 1)) (b.take (k + 1)) = diffL (a.take k) (b.take k) + (if a[k] = b[k] then 0 else 1)
  | [], _, _, _, hk, _ => by cases hk
  | a :: u, [], _, h, _, _ => by cases h
  | a :: u, b :: v, 0, _, _, _ => by simp [diffL]
  | a :: u, b :: v, k + 1, h, hk, hb => by
    have := diffL_take_succ u v k (by simpa using h) (by simpa using hk) (by simpa using hb)
    simp only [List.take_succ_cons, List.getElem_cons_succ]
    unfold diffL
    rw [this]; omega
/-- Does a datagram go back to a call? -/
def cond (x : NAct) (d : Dg) : Bool := (x.kind == 0) && ((x.d.frm == d.frm) && ((x.d.to_ == d.to_) && ((gapN x.d.data d.data == 0) && !d.torn || (gapN x.d.data d.data == 1) && d.torn)))
def Sent (l : List NAct) (k : Nat) (t : Nt) : Prop := ∀ d ∈ t.l, ∃ x ∈ l.take k, cond x d = true
def untorn (x : NAct) : NAct := { x with d := { x.d with torn := false } }
theorem cond_own (x : NAct) (h : x.kind = 0) : cond x (untorn x).d = true := by
  unfold cond untorn
  simp [h, gapN_self]
theorem xor_ne {c m : UInt8} (h : m ≠ 0) : c ^^^ m ≠ c := by
  intro e
  apply h
  have : c ^^^ (c ^^^ m) = c ^^^ c := by rw [e]
  rw [← UInt8.xor_assoc, UInt8.xor_self, UInt8.zero_xor] at this
  exact this
theorem cond_turn {x : NAct} {d : Dg} {a : Int} {m : UInt8} (h : cond x d = true) (ht : d.torn = false) (hd : d.data ≠ []) (hm : m ≠ 0) : cond x (turnD d a m) = true := by
  unfold cond at h ⊢
  rw [ht] at h
  simp only [Bool.not_false, Bool.and_true, Bool.and_false, Bool.or_false, Bool.and_eq_true, beq_iff_eq] at h
  obtain ⟨h1, h2, h3, h4⟩ := h
  have e := gapN_zero h4
  have h5 : gapN x.d.data (turnD d a m).data = 1 := by
    have hk : turnK a d.data.length < d.data.length := Nat.mod_lt _ (List.length_pos_iff.2 hd)
    unfold turnD
    show gapN x.d.data (d.data.set _ _) = 1
    rw [e]
    unfold gapN
    rw [List.length_set, if_pos rfl, diffL_set _ _ _ hk]
    · rfl
    · rw [List.getD_eq_getElem?_getD, List.getElem?_eq_getElem hk]
      exact xor_ne hm
  rw [h5]
  have e1 : (turnD d a m).frm = d.frm := rfl
  have e2 : (turnD d a m).to_ = d.to_ := rfl
  have e3 : (turnD d a m).torn = true := rfl
  rw [e1, e2, e3, h1, h2, h3]
  simp
theorem Sent.mono {l : List NAct} {k : Nat} {t t' : Nt} (h : Sent l k t) (hs : ∀ d ∈ t'.l, d ∈ t.l) : Sent l (k + 1) t' := fun d hd => by
  obtain ⟨x, hx, hc⟩ := h d (hs d hd)
  exact ⟨x, (List.take_subset_take_left l (Nat.le_succ k)) hx, hc⟩
theorem Sent.next {l : List NAct} {k : Nat} {t : Nt} (h : Sent l k t) (hk : k < l.length) : Sent l (k + 1) (actN t (untorn l[k])) := by
  have hown : l[k] ∈ l.take (k + 1) := by rw [← List.take_append_getElem hk]; exact List.mem_append_right _ (List.mem_singleton.2 rfl)
  unfold actN
  split
  · rename_i h0
    unfold sendN
    split
    · intro d hd
      rcases List.mem_append.1 hd with hd | hd
      · exact (h.mono (fun d h => h)) d hd
      · rw [List.mem_singleton.1 hd]
        exact ⟨_, hown, cond_own _ h0⟩
    · exact h.mono (fun d h => h)
  have hdrop : ∀ i, Sent l (k + 1) (dropN t i) := fun i => h.mono (fun d hd => by
    unfold dropN at hd
    split at hd
    · exact List.mem_of_mem_eraseIdx hd
    · exact hd)
  split
  · exact hdrop _
  split
  · exact hdrop _
  split
  · refine h.mono (fun d hd => ?_)
    unfold dblN at hd
    split at hd
    · rename_i hb
      unfold dblB thereN at hb
      simp only [Bool.and_eq_true, decide_eq_true_eq] at hb
      rcases List.mem_append.1 hd with hd | hd
      · exact hd
      · rw [List.mem_singleton.1 hd, List.getD_eq_getElem?_getD, List.getElem?_eq_getElem (by omega)]
        exact List.getElem_mem _
    · exact hd
  split
  · unfold turnN
    split
    · rename_i hb
      unfold turnB thereN at hb
      simp only [Bool.and_eq_true, decide_eq_true_eq, Bool.not_eq_true', List.isEmpty_eq_false_iff] at hb
      obtain ⟨⟨⟨⟨h1, h2⟩, h3⟩, h4⟩, h5⟩ := hb
      intro d hd
      rcases List.mem_or_eq_of_mem_set hd with hd | hd
      · exact (h.mono (fun d h => h)) d hd
      · subst hd
        have hin : t.l.getD (untorn l[k]).i.toNat Dg.zero ∈ t.l := by
          rw [List.getD_eq_getElem?_getD, List.getElem?_eq_getElem (by omega)]
          exact List.getElem_mem _
        obtain ⟨x, hx, hc⟩ := (h.mono (t' := t) (fun d h => h)) _ hin
        exact ⟨x, hx, cond_turn hc h3 h4 (by simpa using h5)⟩
    · exact h.mono (fun d h => h)
  split
  · exact h.mono (fun d hd => by rw [(show (cutN t (untorn l[k]).s).l = t.l from (cutL_keeps _ _ (listN_nodup _) _).2.1)] at hd; exact hd)
  split
  · exact h.mono (fun d hd => by rw [(show (healN t).l = t.l from (healL_keeps _ _ _).2.1)] at hd; exact hd)
  · exact h.mono (fun d h => h)
/-! ### differ -/
theorem quiet_index {P : Program} {C : World → Prop} {o : Oper} {a : Act} {K : Act → Prop} {v : Value} (t : TypeId) (x i : Operand) (ho : o.op = .index t x i) (vx vi : Value) (hx : a.eval x = vx) (hi : a.eval i = vi) (hr : ∀ w, (Instr.index t vx vi).run P w = .ok v w) (hk : K (a.put o.dst v)) : o.quiet P a C K :=
  quiet_free (fun w => by
    unfold execOp
    simp only [ho, hx, hi, Sem.run_bind, hr, Result.andThen_ok, Sem.run_pure]) hk
theorem index_str (a : List UInt8) (k : Nat) (hk : k < a.length) (w : World) : (Instr.index 9 (.string ⟨a.toArray⟩) (.int .i64 k)).run Tryd.prog w = .ok (.int .u8 (a[k].toNat : Int)) w := by
  have hs : (⟨a.toArray⟩ : ByteArray).size = a.length := by simp [ByteArray.size]
  rw [run_index_string w _ _ _ _ Tryd.underlying9, dif_pos ⟨by omega, by rw [hs]; omega⟩]
  rfl
theorem differ_any (a b : List UInt8) (ha : a.length ≤ 9223372036854775807) (hb : b.length ≤ 9223372036854775807) (w : World) :
    Calls Tryd.prog 17 #[str a, str b] w fun e w' => e = .returned (.int .i64 (gapN a b)) ∧ Below w.heap.size w w' := by
  have hsa : (⟨a.toArray⟩ : ByteArray).size = a.length := by simp [ByteArray.size]
  have hsb : (⟨b.toArray⟩ : ByteArray).size = b.length := by simp [ByteArray.size]
  have IA := Lib.hid (index_str a)
  have IB := Lib.hid (index_str b)
  unfold str
  generalize (⟨a.toArray⟩ : ByteArray) = sa at *
  generalize (⟨b.toArray⟩ : ByteArray) = sb at *
  have ha' : (sa.size : Int) ≤ 9223372036854775807 := by omega
  have hb' : (sb.size : Int) ≤ 9223372036854775807 := by omega
  by_cases hl : sa.size = sb.size
  · have E := Lib.hid (show gapN a b = diffL a b by unfold gapN; rw [if_pos (by omega)])
    have HL := Lib.hid (show a.length = b.length by omega)
    have HA := Lib.hid hsa
    have hl' : ((sa.size : Int) == (sb.size : Int)) = true := by rw [hl]; simp
    have hl2 : ((sa.size : Int) != (sb.size : Int)) = false := by rw [hl]; simp
    clear ha hb hsa hsb hl
    go_enter Tryd.func17, Tryd.ntmps17
    go_wp2_with fail
    clear hl' hl2
    go_loopw [5, 6] (fun nv i wr => ∃ (k : Nat), k ≤ sa.size ∧ i = .int .i64 k ∧ nv = .int .i64 (diffL (a.take k) (b.take k)) ∧ Below w.heap.size w wr) (fun _ i _ => sa.size - (intOf i).toNat)
    case atStart => exact ⟨0, Nat.zero_le _, rfl, rfl, Below.refl _ _⟩
    case round =>
      obtain ⟨k, hk, rfl, rfl, hb⟩ := hrel
      have HB := Lib.hid hb
      clear hb
      by_cases hlt : k < sa.size
      · have hkl' : (k : Int) < (sa.size : Int) := by omega
        have hka : k < a.length := by rw [← HA.out]; exact hlt
        have hkb : k < b.length := by rw [← HL.out]; exact hka
        have D := Lib.hid (diffL_take_succ a b k HL.out hka hkb)
        have D0 := diffL_le (a.take k) (b.take k)
        rw [List.length_take, Nat.min_eq_left (by omega)] at D0
        have r1 := Lib.hid (IA.out k hka)
        have r2 := Lib.hid (IB.out k hkb)
        obtain ⟨ca, hca⟩ : ∃ c, a[k] = c := ⟨_, rfl⟩
        obtain ⟨cb, hcb⟩ : ∃ c, b[k] = c := ⟨_, rfl⟩
        rw [hca, hcb] at D
        rw [hca] at r1
        rw [hcb] at r2
        generalize diffL (a.take k) (b.take k) = m at D D0 ⊢
        clear hca hcb hka hkb
        go_upto_region 7 with fail
        obtain ⟨C, hC⟩ : ∃ C : World → Prop, ∀ w', C w' ↔ Below wr.heap.size wr w' := ⟨_, fun _ => Iff.rfl⟩
        have hC0 : C { wr with drawn := wr.drawn + 1 } := (hC _).2 (Below.drew (Below.refl _ _))
        have HC := Lib.hid hC
        clear hC
        by_cases e : ca = cb
        · subst e
          rw [if_pos rfl] at D
          refine wp_region_quiet (C := C) (by kernel_rfl) (by kernel_rfl) hC0 ?_
          dsimp only []
          repeat (first | go_big_quiet_skip | (go_big_quiet_want; first | (refine quiet_index 9 _ _ (by rfl) (.string sa) (.int .i64 k) (by rfl) (by rfl) r1.out ?_; (simp only [Act.put, List.setIfInBounds_toArray, List.set_cons_zero, List.set_cons_succ]); go_big_quiet_on) | (refine quiet_index 9 _ _ (by rfl) (.string sb) (.int .i64 k) (by rfl) (by rfl) r2.out ?_; (simp only [Act.put, List.setIfInBounds_toArray, List.set_cons_zero, List.set_cons_succ]); go_big_quiet_on) | (go_big_quiet_op; go_big_quiet_on) | (go_big_quiet_op; refine Exists.intro _ ⟨fun _ _ => rfl, ?_⟩; go_big_quiet_on)))
          trace_state
          refine wpQuiet_nil ?_
          intro w4 hC4
          have L4 := Lib.hid (bthen' HB.out ((HC.out _).1 hC4))
          clear hC4 hC0 HC
          go_wp2
          exact ⟨⟨k + 1, by omega, by go_num, by rw [D.out]; first | rfl | simp, L4.out⟩, by simp [intOf]; omega⟩
        · rw [if_neg e] at D
          have e1 : ((ca.toNat : Int) == (cb.toNat : Int)) = false := beq_eq_false_iff_ne.2 (fun h => e (UInt8.toNat_inj.1 (by omega)))
          have e2 : ((ca.toNat : Int) != (cb.toNat : Int)) = true := by unfold bne; rw [e1]; rfl
          clear e
          refine wp_region_quiet (C := C) (by kernel_rfl) (by kernel_rfl) hC0 ?_
          dsimp only []
          repeat (first | go_big_quiet_skip | (go_big_quiet_want; first | (refine quiet_index 9 _ _ (by rfl) (.string sa) (.int .i64 k) (by rfl) (by rfl) r1.out ?_; (simp only [Act.put, List.setIfInBounds_toArray, List.set_cons_zero, List.set_cons_succ]); go_big_quiet_on) | (refine quiet_index 9 _ _ (by rfl) (.string sb) (.int .i64 k) (by rfl) (by rfl) r2.out ?_; (simp only [Act.put, List.setIfInBounds_toArray, List.set_cons_zero, List.set_cons_succ]); go_big_quiet_on) | (go_big_quiet_op; go_big_quiet_on) | (go_big_quiet_op; refine Exists.intro _ ⟨fun _ _ => rfl, ?_⟩; go_big_quiet_on)))
          trace_state
          refine wpQuiet_nil ?_
          intro w4 hC4
          have L4 := Lib.hid (bthen' HB.out ((HC.out _).1 hC4))
          clear hC4 hC0 HC
          go_wp2
          exact ⟨⟨k + 1, by omega, by go_num, by rw [D.out]; first | rfl | simp, L4.out⟩, by simp [intOf]; omega⟩
      · obtain rfl : k = sa.size := by omega
        have E2 : diffL (a.take sa.size) (b.take sa.size) = diffL a b := by
          rw [HA.out, List.take_length, HL.out, List.take_length]
        rw [E2]
        have E3 := E.out
        clear E2
        go_wp2
        go_ret
        exact ⟨by rw [E3]; rfl, HB.out⟩
  · have E := Lib.hid (show gapN a b = -1 by unfold gapN; rw [if_neg (by omega)])
    have hl' : ((sa.size : Int) == (sb.size : Int)) = false := beq_eq_false_iff_ne.2 (by omega)
    have hl2 : ((sa.size : Int) != (sb.size : Int)) = true := by unfold bne; rw [hl']; rfl
    clear hsa hsb ha hb hl
    go_enter Tryd.func17, Tryd.ntmps17
    go_wp2
    go_ret
    exact ⟨by rw [E.out]; rfl, Below.refl _ _⟩
end Go.Proofs.YthegooaeehblhaaDoorR

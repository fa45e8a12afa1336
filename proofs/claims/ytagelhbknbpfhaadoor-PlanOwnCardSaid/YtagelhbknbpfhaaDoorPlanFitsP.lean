/-
  Package plan, plainly: what is kept; and consortlaw15's has.
-/
import Derived.Test.YtagelhbknbpfhaaDoorPlanS
import Derived.Test.YtagelhbknbpfhaaDoorPlanQ
import Derived.Test.YtagelhbknbpfhaaDoorPlanH
namespace Go.Proofs.YtagelhbknbpfhaaDoor
open Go.RowKit Go.BigFrame
set_option maxHeartbeats 1000000
set_option maxRecDepth 100000
theorem Fin.le {l : List Ex} {rest : List Ms} {k kf : Nat → Nat} (h : Fin l rest k kf) : ∀ q, kf q ≤ k q := by
  induction h with
  | done kept h => exact fun q => Nat.le_refl _
  | step kept kf m hf _ ih =>
    intro q
    refine Nat.le_trans (ih q) ?_
    unfold lowerK
    split
    · rename_i e
      have := List.find?_some hf
      unfold badM at this
      simp only [Bool.and_eq_true, decide_eq_true_eq] at this
      rw [e]; omega
    · exact Nat.le_refl _
theorem Fin.good {l : List Ex} {rest : List Ms} {k kf : Nat → Nat} (h : Fin l rest k kf) : ∀ m ∈ rest, cntM l m = true → m.seq ≤ kf m.frm.toNat → fitK kf m.deps = true := by
  induction h with
  | done kept h =>
    intro m hm hc hs
    have := List.find?_eq_none.1 h m hm
    unfold badM at this
    rw [hc, decide_eq_true hs] at this
    simpa using this
  | step kept kf m hf _ ih => exact ih
theorem fitK_iff {kept : Nat → Nat} {deps : List Nat} : fitK kept deps = true ↔ ∀ q, q < deps.length → (q < 64 → deps.getD q 0 ≤ kept q) ∧ (64 ≤ q → deps.getD q 0 = 0) := by
  unfold fitK
  rw [List.all_eq_true]
  constructor
  · intro h q hq
    have := h q (by simpa using hq)
    simp only [Bool.not_eq_true', Bool.or_eq_false_iff, Bool.and_eq_false_iff, decide_eq_false_iff_not] at this
    omega
  · intro h q hq
    have := h q (by simpa using hq)
    simp only [Bool.not_eq_true', Bool.or_eq_false_iff, Bool.and_eq_false_iff, decide_eq_false_iff_not]
    omega
/-- Does a message lean on another one? -/
def leansM (m x : Ms) : Bool := (decide (x.frm = m.frm) && decide (x.seq ≤ m.seq)) || (decide (0 ≤ x.frm) && decide (x.frm < m.deps.length) && decide (x.seq ≤ atL m.deps x.frm))
theorem keep_leans {l : List Ex} {rest : List Ms} {kf : Nat → Nat} (h : Fin l rest (fun i => wholeL l i) kf) {m x : Ms} (hm : m ∈ rest) (hk : keepM l kf m = true) (hl : leansM m x = true) (hs : 0 < x.seq) (hw : x.seq ≤ wholeL l x.frm) : keepM l kf x = true := by
  unfold keepM at hk ⊢
  simp only [Bool.and_eq_true, decide_eq_true_eq] at hk ⊢
  have hcx : cntM l x = true := by unfold cntM; simp [hs, hw]
  refine ⟨hcx, ?_⟩
  have hfit := h.good m hm hk.1 hk.2
  unfold leansM at hl
  simp only [Bool.or_eq_true, Bool.and_eq_true, decide_eq_true_eq] at hl
  rcases hl with ⟨h1, h2⟩ | ⟨⟨h1, h2⟩, h3⟩
  · rw [h1]; omega
  · obtain ⟨_, f, hf, hf64⟩ := cntM_in hcx
    rw [hf] at h2 h3 ⊢
    rw [Int.toNat_natCast]
    rw [atL_nat] at h3
    have := (fitK_iff.1 hfit f (by omega)).1 hf64
    omega
theorem keep_deps {l : List Ex} {rest : List Ms} {kf : Nat → Nat} (h : Fin l rest (fun i => wholeL l i) kf) {m : Ms} (hm : m ∈ rest) (hk : keepM l kf m = true) (q : Nat) (hq : q < m.deps.length) : m.deps.getD q 0 ≤ wholeL l q := by
  unfold keepM at hk
  simp only [Bool.and_eq_true, decide_eq_true_eq] at hk
  have h1 := fitK_iff.1 (h.good m hm hk.1 hk.2) q hq
  by_cases h64 : q < 64
  · exact Nat.le_trans (h1.1 h64) (h.le q)
  · rw [h1.2 (by omega)]; omega
def hasM (ks : List MsE) (x : MsE) : Bool := ks.any fun y => sameM y.m x.m
theorem hasM_mem {ks : List MsE} {x : MsE} (h : x ∈ ks) : hasM ks x = true := List.any_eq_true.2 ⟨x, h, sameM_self _⟩
theorem hasM_take {ks : List MsE} {x : MsE} {k : Nat} (h : k < ks.length) (hk : hasM (ks.take k) x = false) : hasM (ks.take (k + 1)) x = sameM ks[k].m x.m := by
  unfold hasM at *
  rw [take_snoc ks k h, List.any_append, hk]; simp
theorem has_msg {w : World} {v : Value} {ks : List MsE} {a : Option Addr} {c b o : Nat} (h : MsgsAt w v ks a c b o) (hl : ks.length ≤ 100000) (x : MsE) (hx : x.Ok w) :
    Calls Tryd.prog 29 #[v, .agg x.vals.toArray] w fun e w' => e = .returned (.bool (hasM ks x)) ∧ Below w.heap.size w w' := by
  have hv := h.r.v
  subst hv
  obtain ⟨n, hn⟩ : ∃ n, w.heap.size = n := ⟨_, rfl⟩
  obtain ⟨W, hW⟩ : ∃ W : World, w.alloc (.cells x.vals.toArray 59) = W := ⟨_, rfl⟩
  have B0 := Lib.hid (show W.heap[n]? = some (.cells x.vals.toArray 59 (0, 0)) by rw [← hW, ← hn]; exact heap_alloc_new _ _)
  have BW := Lib.hid (show Below w.heap.size w W by rw [← hW]; exact bel_box _ _ _)
  have HW := Lib.hid hW
  have HN := Lib.hid hn
  have HM := Lib.hid (h.below rfl BW.out)
  have HXO := Lib.hid (hx.below rfl BW.out)
  have hl' : (ks.length : Int) ≤ 100000 := by omega
  have hu : Hid ((Tryd.prog.info? 59).map (·.size) = some (6 : Nat)) := Lib.hid size_ms
  have hux : Hid ((Tryd.prog.info? 59).map (·.size) = some x.vals.toArray.size) := Lib.hid size_ms
  clear hW h hx hn
  go_enter Tryd.func29, Tryd.ntmps29
  go_upto_region 1 with fail
  rw [HW.out, HN.out]
  go_wp2
  go_loopw [5] (fun i wr => ∃ k : Nat, k ≤ ks.length ∧ i = .int .i64 k ∧ Below W.heap.size W wr ∧ hasM (ks.take k) x = false) (fun i _ => ks.length - (intOf i).toNat)
  case atStart => exact ⟨0, Nat.zero_le _, rfl, Below.refl _ _, rfl⟩
  case round =>
    obtain ⟨k, hk, rfl, hb, hno⟩ := hrel
    have HB := Lib.hid hb
    have HNO := Lib.hid hno
    clear hb hno
    by_cases hlt : k < ks.length
    · have hlt' : (k : Int) < (ks.length : Int) := by omega
      obtain ⟨rfl, _⟩ := HM.out.r.a (by omega)
      obtain ⟨y, hy⟩ : ∃ y, ks[k] = y := ⟨_, rfl⟩
      obtain ⟨K, hK⟩ : ∃ K, sameM y.m x.m = K := ⟨_, rfl⟩
      have HS := Lib.hid (show hasM (ks.take (k + 1)) x = K by rw [hasM_take hlt HNO.out, hy, hK])
      obtain ⟨C, hC⟩ : ∃ C : World → Prop, ∀ w', C w' ↔ Below W.heap.size W w' := ⟨_, fun _ => Iff.rfl⟩
      have hC0 : C { wr with drawn := wr.drawn + 1 } := (hC _).2 (Below.drew HB.out)
      have my := Lib.hid (show ∀ w', C w' → w'.rangeAt b (o + k * 6) y.vals from fun w' h => by rw [← hy]; exact (HM.out.r.below rfl ((hC w').1 h)).at_ MsE.len hlt)
      have a0 := Lib.hid (fun w' (h : C w') => bblock ((hC w').1 h) B0.out)
      have ksm := Lib.hid (show ∀ w', C w' → Calls Tryd.prog 38 #[.agg y.vals.toArray, .agg x.vals.toArray] w' fun e w'' => e = .returned (.bool K) ∧ C w'' from
        fun w' h => (same_any y x w' (by rw [← hy]; exact (HM.out.ok _ (List.getElem_mem hlt)).below rfl ((hC w').1 h)) (HXO.out.below rfl ((hC w').1 h))).mono fun e w'' ⟨he, hw⟩ => ⟨by rw [← hK]; exact he, (hC w'').2 (bthen' ((hC w').1 h) hw)⟩)
      have HANY := Lib.hid (show K = true → hasM ks x = true from fun h => by
        unfold hasM
        exact List.any_eq_true.2 ⟨y, by rw [← hy]; exact List.getElem_mem hlt, hK.trans h⟩)
      have HC := Lib.hid hC
      clear hy hK hC
      cases K with
      | true =>
        have E := HANY.out (by trivial)
        have HE := Lib.hid E
        clear E
        go_upto_region 4 with fail
        refine wp_region_quiet (C := C) (by kernel_rfl) (by kernel_rfl) hC0 ?_
        dsimp only []
        repeat (first | go_big_quiet_skip | (go_big_quiet_want; first | (refine quiet_load_agg Tryd.underlying59 rfl hux.out _ (by rfl) _ (by rfl) _ _ a0.out ?_; (simp only [Act.put, List.setIfInBounds_toArray, List.set_cons_zero, List.set_cons_succ]); go_big_quiet_on) | (refine quiet_call 38 _ _ (by rfl) Tryd.call38 _ ?_ ksm.out ?_; (· rfl); (simp only [Act.put, List.setIfInBounds_toArray, List.set_cons_zero, List.set_cons_succ]); go_big_quiet_on) | (refine quiet_load_mid (cs := y.vals) Tryd.underlying59 rfl hu.out _ (by rfl) b (o + k * 6) (by rfl) my.out ?_; (simp only [Act.put, List.setIfInBounds_toArray, List.set_cons_zero, List.set_cons_succ]); go_big_quiet_on) | (go_big_quiet_op; go_big_quiet_on) | (go_big_quiet_op; refine Exists.intro _ ⟨fun _ _ => rfl, ?_⟩; go_big_quiet_on)))
        refine wpQuiet_nil ?_
        intro w9 hC9
        have HB9 := Lib.hid ((HC.out _).1 hC9)
        clear hC9 hC0 my a0 ksm HC
        go_wp2
        go_ret
        exact ⟨by rw [HE.out]; rfl, bthen' BW.out HB9.out⟩
      | false =>
        go_upto_region 4 with fail
        refine wp_region_quiet (C := C) (by kernel_rfl) (by kernel_rfl) hC0 ?_
        dsimp only []
        repeat (first | go_big_quiet_skip | (go_big_quiet_want; first | (refine quiet_load_agg Tryd.underlying59 rfl hux.out _ (by rfl) _ (by rfl) _ _ a0.out ?_; (simp only [Act.put, List.setIfInBounds_toArray, List.set_cons_zero, List.set_cons_succ]); go_big_quiet_on) | (refine quiet_call 38 _ _ (by rfl) Tryd.call38 _ ?_ ksm.out ?_; (· rfl); (simp only [Act.put, List.setIfInBounds_toArray, List.set_cons_zero, List.set_cons_succ]); go_big_quiet_on) | (refine quiet_load_mid (cs := y.vals) Tryd.underlying59 rfl hu.out _ (by rfl) b (o + k * 6) (by rfl) my.out ?_; (simp only [Act.put, List.setIfInBounds_toArray, List.set_cons_zero, List.set_cons_succ]); go_big_quiet_on) | (go_big_quiet_op; go_big_quiet_on) | (go_big_quiet_op; refine Exists.intro _ ⟨fun _ _ => rfl, ?_⟩; go_big_quiet_on)))
        refine wpQuiet_nil ?_
        intro w9 hC9
        have HB9 := Lib.hid ((HC.out _).1 hC9)
        clear hC9 hC0 my a0 ksm HC
        go_wp2
        go_roundw
        case rel => exact ⟨k + 1, by omega, by go_num, HB9.out, HS.out⟩
        case measure => simp [intOf]; omega
    · obtain rfl : k = ks.length := by omega
      have HE := Lib.hid (show hasM ks x = false by have := HNO.out; rwa [List.take_length] at this)
      go_wp2
      go_ret
      exact ⟨by rw [HE.out]; rfl, bthen' BW.out HB.out⟩
end Go.Proofs.YtagelhbknbpfhaaDoor

/-
  PlanOwn: for every row of what was delivered, of what was sent, and process: where every companion has its own messages, and what it delivered, none of a companion is given up whose Deps are within what it delivered: the law returns true and leaves its arguments as they were. Condition: the table math/bits.deBruijn64tab holds what its initialiser lays (tied to the program's text by the card).
-/
import Derived.Test.YtagelhbknbpfhaaDoorPlanU
import Derived.Test.YtagelhbknbpfhaaDoorPlanOwn
namespace Go.Proofs.YtagelhbknbpfhaaDoor.planOwn
open Go.ChangeShapes Go.WideShapes Go.ChangeAt Go.RowKit Go.Deep
theorem reads_types : ∀ t ∈ Tryd.f7.params.toList, Tryd.prog.readableRec t = true ∧ t < Tryd.prog.types.size := by
  intro t ht
  rw [Tryd.params7] at ht
  have h : ([23, 23, 3] : List TypeId).all (fun t => Tryd.prog.readableRec t && decide (t < Tryd.prog.types.size)) = true := by kernel_rfl
  have := List.all_eq_true.1 h t ht
  simpa using this
set_option maxRecDepth 100000 in
theorem contract (H : Type) (enc : TypeId × Value → H) (W : World) (base : Nat) (args : Array Value) (ds gs : List (DataW H)) (before : List MemPlace)
    (hval : ∀ (j : Nat) t v, Tryd.f7.params[j]? = some t → args[j]? = some v → Value.okWide Tryd.prog W .any base t v)
    (hW : DataW.Whole enc Tryd.prog Tryd.f7.params.toList Rows.planOwnSpec.vars false W args.toList ds gs before) (hsz : (DataW.weightsEach Tryd.prog (Tryd.f7.params.toList ++ (OpenSpec.ofChange Rows.planOwnSpec).bare.plain.varTypes Tryd.prog) (ds ++ gs)).all (· ≤ reachBytes) = true) (hL : laidMetH Tryd.prog Rows.planOwnRow.laid W) :
    Calls Tryd.prog 7 args W fun e W' => ∃ v, e = .returned v ∧ Rows.planOwnSpec.post enc Tryd.prog Tryd.f7 false true false false W args v W' := by
  have hW' := hW
  obtain ⟨p, q, hA0, hV, rfl, hfz, hnd⟩ := hW
  have hA : DataW.TrodAll enc Tryd.prog W 0 (fun _ => true) true Tryd.f7.params.toList args.toList ds p := hA0
  rw [Tryd.params7] at hA hval
  obtain ⟨rfl, rfl⟩ := trodVars_none hV
  obtain ⟨v0, vs0, d0, ds0, p0, q0, hargs, rfl, rfl, h0, r0⟩ := trodAll_cons hA
  obtain ⟨v1, vs1, d1, ds1, p1, q1, rfl, rfl, rfl, h1, r1⟩ := trodAll_cons r0
  obtain ⟨v2, vs2, d2, ds2, p2, q2, rfl, rfl, rfl, h2, r2⟩ := trodAll_cons r1
  obtain ⟨rfl, rfl, rfl⟩ := trodAll_nil r2
  obtain rfl : args = #[v0, v1, v2] := by cases args; simp_all
  obtain ⟨x2, rfl, rfl, rfl, w2⟩ := open_int Tryd.underlying3 (hval 2 3 v2 rfl rfl) h2
  have b2 := bounds_i64 w2
  have wt0 : ∀ b ∈ d0.weights Tryd.prog 23, b ≤ 140737488351232 := fun b hb => by
    have h := List.all_eq_true.1 hsz b (DataW.weights_mem_each (j := 0) (t := 23) (d := d0) (by kernel_rfl) (by rfl) b hb)
    exact of_decide_eq_true h
  have wt1 : ∀ b ∈ d1.weights Tryd.prog 23, b ≤ 140737488351232 := fun b hb => by
    have h := List.all_eq_true.1 hsz b (DataW.weights_mem_each (j := 1) (t := 23) (d := d1) (by kernel_rfl) (by rfl) b hb)
    exact of_decide_eq_true h
  clear hA0
  obtain ⟨dn, ad, cd, bd, od, hdt, hld, hwd, hdm⟩ := open_u32arg (okWide_slice Tryd.underlying23 (hval 0 23 v0 rfl rfl)) h0 _ wt0
  obtain ⟨sn, aq, cq, bq, oq, hqt, hlq, hwq, hqm⟩ := open_u32arg (okWide_slice Tryd.underlying23 (hval 1 23 v1 rfl rfl)) h1 _ wt1
  refine (own_walk dn sn v0 v1 x2 ad cd bd od aq cq bq oq W (tabOk hL) hdt hdm hqt hqm).mono fun e W' ⟨he, hb⟩ => ?_
  subst he
  exact ⟨_, rfl, post_true rfl rfl hW' rfl reads_types hb⟩
theorem laid_met (os : Os) : laidMet Tryd.prog Rows.planOwnRow.laid ((laidWorld os).forCall (fun _ _ => 0) ⟨#[], #[.slice none 0 0, .slice none 0 0, .int .i64 0], []⟩).memory :=
  laidMet_of_run' 8 (by kernel_rfl) (by kernel_rfl)
theorem reads (os : Os) {H : Type} (enc : TypeId × Value → H) : ∃ places, DataW.whole enc Tryd.prog ((laidWorld os).forCall (fun _ _ => 0) ⟨#[], #[.slice none 0 0, .slice none 0 0, .int .i64 0], []⟩).memory Tryd.f7.params.toList Rows.planOwnSpec.vars false
    #[Value.slice none 0 0, .slice none 0 0, .int .i64 0].toList 8 = some ([.nil, .nil, .lit (.int .i64 0)], [], places) :=
  ⟨[], by kernel_rfl⟩
set_option maxRecDepth 100000 in
theorem lifted (os : Os) (started : os.Started) (H : Type) (enc : TypeId × Value → H) (F : Stop.Interp) :
    ReturnsInHanded {} Tryd.checked os 7 .any ((OpenSpec.ofChange Rows.planOwnSpec).preRow enc Tryd.prog Tryd.f7 Rows.planOwnRow.domain false Rows.planOwnRow.laid) (((OpenSpec.ofChange Rows.planOwnSpec).at F).post enc Tryd.prog Tryd.f7 false true false false) := by
  obtain ⟨places, hx⟩ := reads os enc
  refine returnsInHanded_of_row (C := Tryd.checked) (s := OpenSpec.ofChange Rows.planOwnSpec) own started (by kernel_rfl) Tryd.func7
    (witness_row_at (enc := enc) (C := Tryd.checked) false (laidWorld os) #[.slice none 0 0, .slice none 0 0, .int .i64 0] rfl (by kernel_rfl) (by kernel_rfl) (by kernel_rfl)
      (OpenSpec.preRow_of_cond 8 hx (by kernel_rfl) (fun k hk => by cases hk) (by kernel_rfl) (laid_met os))) ?_
  intro W base args ds gs before hval hW _ _ hsz hL _ _
  exact contract H enc W base args ds gs before hval hW hsz hL
theorem said : Rows.PlanOwnSaid :=
  OpenClaim.holds_of_cond 7 Tryd.f7 rfl rfl rfl rfl rfl rfl rfl ⟨rfl, rfl, rfl, rfl, rfl⟩ rfl rfl rfl rfl rfl (by kernel_rfl) Tryd.func7 (by kernel_rfl)
    (of_decide_eq_true (by kernel_rfl)) (by unfold Func.isWrapper; first | (rw [if_pos (by decide +kernel)]; kernel_rfl) | (rw [if_neg (by decide +kernel)]; exact ⟨rfl, rfl⟩))
    (fun os started H enc _ F => by rw [OpenClaim.pre_eq_preRow]; exact lifted os started H enc F)
theorem card : Rows.PlanOwnCardSaid := by
  refine Claim7.holds_tied_plain_at .later [] _ _ _ _ said (fun _ h => by cases h) (by kernel_rfl) (fun _ h => by cases h) planOwn_row_tie rfl ⟨rfl, rfl⟩ (by kernel_rfl) rfl ?_ (by kernel_rfl)
  intro f fn hf hfn
  obtain rfl : f = 7 := Option.some.inj ((show Tryd.prog.funcNamed "consort/consortlaw15.PlanOwn" = some 7 by kernel_rfl).symm.trans hf) |>.symm
  obtain rfl : fn = Tryd.f7 := (Option.some.inj (Tryd.func7.symm.trans hfn)).symm
  refine ⟨by kernel_rfl, fun j t ht => ?_⟩
  rw [Tryd.params7] at ht
  have h : ([23, 23, 3] : List TypeId).all (fun t => !Tryd.prog.wantsStandIn t) = true := by kernel_rfl
  have hm := List.all_eq_true.1 h t (by simpa using Array.mem_of_getElem? ht)
  have hm' : Tryd.prog.wantsStandIn t = false := by simpa using hm
  exact hm'
#print axioms card
end Go.Proofs.YtagelhbknbpfhaaDoor.planOwn

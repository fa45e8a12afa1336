/-
  PlanMore: for every process, list of exchanges and one exchange more: a companion more never makes a whole count less, nor the boundary one ahead; a process of another configuration changes nothing: the law returns true and leaves its arguments as they were. Condition: the table math/bits.deBruijn64tab holds what its initialiser lays (tied to the program's text by the card).
-/
import Derived.Test.YtagelhbknbpfhaaDoorPlanO
import Derived.Test.YtagelhbknbpfhaaDoorMoreO
import Derived.Test.YtagelhbknbpfhaaDoorPlanMore
namespace Go.Proofs.YtagelhbknbpfhaaDoor.planMore
open Go.ChangeShapes Go.WideShapes Go.ChangeAt Go.RowKit Go.Deep
theorem reads_types : ∀ t ∈ Tryd.f8.params.toList, Tryd.prog.readableRec t = true ∧ t < Tryd.prog.types.size := by
  intro t ht
  rw [Tryd.params8] at ht
  have h : ([3, 22, 64] : List TypeId).all (fun t => Tryd.prog.readableRec t && decide (t < Tryd.prog.types.size)) = true := by kernel_rfl
  have := List.all_eq_true.1 h t ht
  simpa using this
set_option maxRecDepth 100000 in
theorem contract (H : Type) (enc : TypeId × Value → H) (W : World) (base : Nat) (args : Array Value) (ds gs : List (DataW H)) (before : List MemPlace)
    (hval : ∀ (j : Nat) t v, Tryd.f8.params[j]? = some t → args[j]? = some v → Value.okWide Tryd.prog W .any base t v)
    (hW : DataW.Whole enc Tryd.prog Tryd.f8.params.toList Rows.planMoreSpec.vars false W args.toList ds gs before) (hsz : (DataW.weightsEach Tryd.prog (Tryd.f8.params.toList ++ (OpenSpec.ofChange Rows.planMoreSpec).bare.plain.varTypes Tryd.prog) (ds ++ gs)).all (· ≤ reachBytes) = true) (hL : laidMetH Tryd.prog Rows.planMoreRow.laid W) :
    Calls Tryd.prog 8 args W fun e W' => ∃ v, e = .returned v ∧ Rows.planMoreSpec.post enc Tryd.prog Tryd.f8 false true false false W args v W' := by
  have hW' := hW
  obtain ⟨p, q, hA0, hV, rfl, hfz, hnd⟩ := hW
  have hA : DataW.TrodAll enc Tryd.prog W 0 (fun _ => true) true Tryd.f8.params.toList args.toList ds p := hA0
  rw [Tryd.params8] at hA hval
  obtain ⟨rfl, rfl⟩ := trodVars_none hV
  obtain ⟨v0, vs0, d0, ds0, p0, q0, hargs, rfl, rfl, h0, r0⟩ := trodAll_cons hA
  obtain ⟨v1, vs1, d1, ds1, p1, q1, rfl, rfl, rfl, h1, r1⟩ := trodAll_cons r0
  obtain ⟨v2, vs2, d2, ds2, p2, q2, rfl, rfl, rfl, h2, r2⟩ := trodAll_cons r1
  obtain ⟨rfl, rfl, rfl⟩ := trodAll_nil r2
  obtain rfl : args = #[v0, v1, v2] := by cases args; simp_all
  obtain ⟨x0, rfl, rfl, rfl, w0⟩ := open_int Tryd.underlying3 (hval 0 3 v0 rfl rfl) h0
  have b0 := bounds_i64 w0
  have wt1 : ∀ b ∈ d1.weights Tryd.prog 22, b ≤ 140737488351232 := fun b hb => by
    have h := List.all_eq_true.1 hsz b (DataW.weights_mem_each (j := 1) (t := 22) (d := d1) (by kernel_rfl) (by rfl) b hb)
    exact of_decide_eq_true h
  clear hA0
  obtain ⟨l, a, c, bb, o, hr, hok, hcl, hml⟩ := open_exs (okWide_slice Tryd.underlying22 (hval 1 22 v1 rfl rfl)) h1 _ wt1
  obtain ⟨y, rfl, hy, hyl⟩ := open_exarg (hval 2 64 v2 rfl rfl) h2
  refine (more_walk x0 l v1 y a c bb o W (tabOk hL) hr hok hcl hml hy hyl).mono fun e W' ⟨he, hb⟩ => ?_
  subst he
  exact ⟨_, rfl, post_true rfl rfl hW' rfl reads_types hb⟩
theorem laid_met (os : Os) : laidMet Tryd.prog Rows.planMoreRow.laid ((laidWorld os).forCall (fun _ _ => 0) ⟨#[], #[.int .i64 0, .slice none 0 0, .agg #[.int .i64 0, .int .u64 0, .int .i64 0, .slice none 0 0, .int .u64 0, .int .i64 0]], []⟩).memory :=
  laidMet_of_run' 8 (by kernel_rfl) (by kernel_rfl)
theorem reads (os : Os) {H : Type} (enc : TypeId × Value → H) : ∃ places, DataW.whole enc Tryd.prog ((laidWorld os).forCall (fun _ _ => 0) ⟨#[], #[.int .i64 0, .slice none 0 0, .agg #[.int .i64 0, .int .u64 0, .int .i64 0, .slice none 0 0, .int .u64 0, .int .i64 0]], []⟩).memory Tryd.f8.params.toList Rows.planMoreSpec.vars false
    #[Value.int .i64 0, .slice none 0 0, .agg #[.int .i64 0, .int .u64 0, .int .i64 0, .slice none 0 0, .int .u64 0, .int .i64 0]].toList 8 = some ([.lit (.int .i64 0), .nil, .agg [.lit (.int .i64 0), .agg [.lit (.int .u64 0), .lit (.int .i64 0)], .nil, .agg [.lit (.int .u64 0), .lit (.int .i64 0)]]], [], places) :=
  ⟨[], by kernel_rfl⟩
set_option maxRecDepth 100000 in
theorem lifted (os : Os) (started : os.Started) (H : Type) (enc : TypeId × Value → H) (F : Stop.Interp) :
    ReturnsInHanded {} Tryd.checked os 8 .any ((OpenSpec.ofChange Rows.planMoreSpec).preRow enc Tryd.prog Tryd.f8 Rows.planMoreRow.domain false Rows.planMoreRow.laid) (((OpenSpec.ofChange Rows.planMoreSpec).at F).post enc Tryd.prog Tryd.f8 false true false false) := by
  obtain ⟨places, hx⟩ := reads os enc
  refine returnsInHanded_of_row (C := Tryd.checked) (s := OpenSpec.ofChange Rows.planMoreSpec) own started (by kernel_rfl) Tryd.func8
    (witness_row_at (enc := enc) (C := Tryd.checked) false (laidWorld os) #[.int .i64 0, .slice none 0 0, .agg #[.int .i64 0, .int .u64 0, .int .i64 0, .slice none 0 0, .int .u64 0, .int .i64 0]] rfl (by kernel_rfl) (by kernel_rfl) (by kernel_rfl)
      (OpenSpec.preRow_of_cond 8 hx (by kernel_rfl) (fun k hk => by cases hk) (by kernel_rfl) (laid_met os))) ?_
  intro W base args ds gs before hval hW _ _ hsz hL _ _
  exact contract H enc W base args ds gs before hval hW hsz hL
theorem said : Rows.PlanMoreSaid :=
  OpenClaim.holds_of_cond 8 Tryd.f8 rfl rfl rfl rfl rfl rfl rfl ⟨rfl, rfl, rfl, rfl, rfl⟩ rfl rfl rfl rfl rfl (by kernel_rfl) Tryd.func8 (by kernel_rfl)
    (of_decide_eq_true (by kernel_rfl)) (by unfold Func.isWrapper; first | (rw [if_pos (by decide +kernel)]; kernel_rfl) | (rw [if_neg (by decide +kernel)]; exact ⟨rfl, rfl⟩))
    (fun os started H enc _ F => by rw [OpenClaim.pre_eq_preRow]; exact lifted os started H enc F)
theorem card : Rows.PlanMoreCardSaid := by
  refine Claim7.holds_tied_plain_at .later [] _ _ _ _ said (fun _ h => by cases h) (by kernel_rfl) (fun _ h => by cases h) planMore_row_tie rfl ⟨rfl, rfl⟩ (by kernel_rfl) rfl ?_ (by kernel_rfl)
  intro f fn hf hfn
  obtain rfl : f = 8 := Option.some.inj ((show Tryd.prog.funcNamed "consort/consortlaw15.PlanMore" = some 8 by kernel_rfl).symm.trans hf) |>.symm
  obtain rfl : fn = Tryd.f8 := (Option.some.inj (Tryd.func8.symm.trans hfn)).symm
  refine ⟨by kernel_rfl, fun j t ht => ?_⟩
  rw [Tryd.params8] at ht
  have h : ([3, 22, 64] : List TypeId).all (fun t => !Tryd.prog.wantsStandIn t) = true := by kernel_rfl
  have hm := List.all_eq_true.1 h t (by simpa using Array.mem_of_getElem? ht)
  have hm' : Tryd.prog.wantsStandIn t = false := by simpa using hm
  exact hm'
#print axioms card
end Go.Proofs.YtagelhbknbpfhaaDoor.planMore

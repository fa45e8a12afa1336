/-
  Quiet operations: a load in the middle of a block; whatever has one run.
-/
import Derived.Test.YtagelhbknbpfhaaDoorWorld
import Derived.Deep.MidRow
namespace Go.Proofs.YtagelhbknbpfhaaDoor
open Go.RowKit
section
variable {P : Program} {C : World → Prop} {o : Oper} {a : Act} {K : Act → Prop}
theorem quiet_load_mid {ty : TypeId} {d : TypeDesc} {cs : List Value} (hu : P.underlying ty = some d) (hd : d.isRow = true) (hi : (P.info? ty).map (·.size) = some cs.length)
    (x : Operand) (ho : o.op = .load ty x) (b k : Nat) (hx : a.eval x = .pointer (some ⟨b, k, none⟩)) (hv : ∀ w, C w → w.rangeAt b k cs) (hk : K (a.put o.dst (.agg cs.toArray))) : o.quiet P a C K :=
  ⟨.agg cs.toArray, fun w hw => by
    unfold Oper.quietAt
    have : (execOp a.eval o).run P w = .ok (.value (.agg cs.toArray)) w := by
      unfold execOp
      simp only [ho, hx, run_loadAt_mid w b k ty cs d (hv w hw) hu hd hi, Sem.run_bind, Sem.run_pure, Result.andThen_ok]
    rw [this]; exact ⟨rfl, rfl⟩, hk⟩
theorem quiet_exec {v : Value} (hr : ∀ w, (execOp a.eval o).run P w = .ok (.value v) w) (hk : K (a.put o.dst v)) : o.quiet P a C K := quiet_free hr hk
theorem quiet_build {v : Value} (t : TypeId) (parts : Array (Nat × Operand)) (ho : o.op = .build t parts) (vs : Array (Nat × Value)) (hp : (parts.map fun (i, x) => (i, a.eval x)) = vs) (hr : ∀ w, (Instr.build t vs).run P w = .ok v w) (hk : K (a.put o.dst v)) : o.quiet P a C K :=
  quiet_free (fun w => by
    unfold execOp
    simp only [ho, hp, Sem.run_bind, hr, Result.andThen_ok, Sem.run_pure]) hk
end
end Go.Proofs.YtagelhbknbpfhaaDoor

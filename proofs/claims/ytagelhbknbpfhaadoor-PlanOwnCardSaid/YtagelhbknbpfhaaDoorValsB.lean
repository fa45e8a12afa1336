/-
  A slice literal in a drawn region, under XVals' walk.
-/
import Derived.Test.YtagelhbknbpfhaaDoorValsOps
namespace Go.Proofs.YtagelhbknbpfhaaDoor
open Go.RowKit
section
variable {P : Program} {ops : Array Oper} {C : (Nat → Bool) → World → Prop} {Q : Act → Prop} {i : Nat} {o : Oper} {rest : List Oper} {a : Act}
/-- A slice literal whose block's place is known. -/
theorem wpVals_build {v : Value} (t : TypeId) (len : Nat) (parts : Array (Nat × Operand)) (ho : o.op = .buildSlice t len parts) (hw : Region.wanted o (yielded ops a.tmps) = true) (vs : Array (Nat × Value)) (hp : (parts.map fun (i, x) => (i, a.eval x)) = vs)
    (hC : ∀ L w, C L w → L i = false → (∀ j, waits ops i j = true → L j = true) → ∃ w', (Instr.buildSlice t len vs).run P w = .ok v w' ∧ C (addL L i) w') (h : wpVals P ops C Q (i + 1) rest (a.put o.dst v)) : wpVals P ops C Q i (o :: rest) a :=
  wpVals_step hw (fun L w hCw hL hwt => by
    obtain ⟨w', hr, hc⟩ := hC L w hCw hL hwt
    have hrun2 : (execOp a.eval o).run P w = .ok (.value v) w' := by
      unfold execOp
      simp only [ho, hp, Sem.run_bind, hr, Result.andThen_ok, Sem.run_pure]
    rw [hrun2]
    exact ⟨rfl, hc⟩) h
end
theorem run_build1 (x : Int) (w : World) : (Instr.buildSlice 85 1 #[(0, .int .i64 x)]).run Tryd.prog w = .ok (.slice (some ⟨w.heap.size, 0, none⟩) 1 1) (w.alloc (.cells #[.int .i64 x] 3)) := by kernel_rfl
end Go.Proofs.YtagelhbknbpfhaaDoor

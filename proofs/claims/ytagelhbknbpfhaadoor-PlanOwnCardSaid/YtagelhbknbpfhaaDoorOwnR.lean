/-
  The rest by five.
-/
import Derived.Test.YtagelhbknbpfhaaDoorOwnM
namespace Go.Proofs.YtagelhbknbpfhaaDoor
open Go Go.RowKit Go.BigFrame
theorem exec_rem5 {P : Program} {o : Oper} {ev : Operand → Value} (t t' : TypeId) (x y : Operand) (ho : o.op = .binOp .rem t x y t') (n : Nat) (hx : ev x = .int .u32 n) (hy : ev y = .int .u32 5) (w : World) : (execOp ev o).run P w = .ok (.value (.int .u32 ((n % 5 : Nat) : Int))) w := by
  unfold execOp
  simp only [ho, hx, hy]
  go_simp
  exact Int.tmod_eq_emod_of_nonneg (by omega)
end Go.Proofs.YtagelhbknbpfhaaDoor

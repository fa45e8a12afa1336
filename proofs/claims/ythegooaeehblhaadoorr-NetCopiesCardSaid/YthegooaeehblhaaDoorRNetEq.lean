/-
  A datagram compared with itself.
-/
import Derived.Test.YthegooaeehblhaaDoorRNetC4
namespace Go.Proofs.YthegooaeehblhaaDoorR
open Go.RowKit Go.BigFrame
set_option maxHeartbeats 1000000
set_option maxRecDepth 100000
theorem exec_neq_dg {o : Oper} {x y : Operand} {r : TypeId} (ho : o.op = .binOp .neq 35 x y r) (ev : Operand → Value) (d : Dg) (hx : ev x = .agg d.vals.toArray) (hy : ev y = .agg d.vals.toArray) (w : World) :
    (execOp ev o).run Tryd.prog w = .ok (.value (.bool false)) w := by
  obtain ⟨frm, to_, data, torn⟩ := d
  obtain ⟨dst, op, type, pos, after, guard⟩ := o
  dsimp only at ho
  subst ho
  unfold Dg.vals str at hx hy
  dsimp only at hx hy
  unfold execOp
  simp only [hx, hy]
  go_simp
end Go.Proofs.YthegooaeehblhaaDoorR

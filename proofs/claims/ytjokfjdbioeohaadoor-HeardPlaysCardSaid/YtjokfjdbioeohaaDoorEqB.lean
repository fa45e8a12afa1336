/-
  Two beats compared.
-/
import Derived.Test.YtjokfjdbioeohaaDoorEarA
namespace Go.Proofs.YtjokfjdbioeohaaDoor
open Go.RowKit Go.BigFrame
set_option maxHeartbeats 1000000
set_option maxRecDepth 100000
theorem wpList_val {P : Program} {ops : Array Oper} {rest : List Oper} {o : Oper} {a : Act} {w : World} {Q : Exit → Act → World → Prop} {v : Value} (hgd : o.guard = none) (hr : (execOp a.eval o).run P w = .ok (.value v) w)
    (h : wpList P ops Q rest (a.put o.dst v) w) : wpList P ops Q (o :: rest) a w :=
  wpList_plain hgd fun K hK => by
    unfold Oper.wp
    rw [hr]
    exact hK _ _ h
def Bt.same (b c : Bt) : Bool := b.ce == c.ce && (b.cr == c.cr) && ((b.pe == c.pe) && (b.pr == c.pr)) && (b.ep == c.ep)
theorem Bt.same_self (b : Bt) : b.same b = true := by simp [Bt.same]
theorem exec_neq_beat {o : Oper} {x y : Operand} {r : TypeId} (ho : o.op = .binOp .neq 67 x y r) (ev : Operand → Value) (b c : Bt) (hx : ev x = .agg b.vals.toArray) (hy : ev y = .agg c.vals.toArray) (w : World) :
    (execOp ev o).run Tryd.prog w = .ok (.value (.bool (!b.same c))) w := by
  obtain ⟨ce, cr, pe, pr, ep⟩ := b
  obtain ⟨ce', cr', pe', pr', ep'⟩ := c
  obtain ⟨dst, op, type, pos, after, guard⟩ := o
  dsimp only at ho
  subst ho
  unfold Bt.vals at hx hy
  dsimp only at hx hy
  unfold execOp
  simp only [hx, hy]
  go_simp
  simp only [Int.natCast_inj]
  unfold Bt.same
  dsimp only
  by_cases h1 : ce = ce' <;> by_cases h2 : cr = cr' <;> by_cases h3 : pe = pe' <;> by_cases h4 : pr = pr' <;> by_cases h5 : ep = ep' <;> simp [h1, h2, h3, h4, h5]
end Go.Proofs.YtjokfjdbioeohaaDoor

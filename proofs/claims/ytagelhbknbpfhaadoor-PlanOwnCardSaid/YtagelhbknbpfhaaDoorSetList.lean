/-
  What (set.Set).List comes to: a slice of its own that holds the members, rising.
-/
import Derived.Test.YtagelhbknbpfhaaDoorSet
import Derived.Carry
namespace Go.Proofs.YtagelhbknbpfhaaDoor
open Go.RowKit
set_option maxHeartbeats 400000

theorem info_int : (Tryd.prog.info? 3).map (fun i => (i.zero, i.size, i.bytes)) = some (some (.int .i64 0), 1, 8) := by kernel_rfl
/-- A slice value that is the call's own (from block B on) and reads as these ints. -/
def IntsOwn (w : World) (B : Nat) (v : Value) (xs : List Nat) : Prop := w.ownsRow B 3 1 v xs.length (xs.map fun (n : Nat) => Value.int .i64 (n : Int))
theorem listN_snoc_step {s t : Nat} {done : List Nat} (h : listN s = done ++ listN t) (h0 : t ≠ 0) (ht : t < 18446744073709551616) :
    listN s = (done ++ [Lib.ctz 64 t]) ++ listN (t &&& (t - 1)) := by
  rw [h, (listN_step h0 ht).2.1]; simp
theorem minN_pos {t : Nat} (h : t ≠ 0) : minN t = (Lib.ctz 64 t : Nat) := by unfold minN; rw [if_neg h]
end Go.Proofs.YtagelhbknbpfhaaDoor

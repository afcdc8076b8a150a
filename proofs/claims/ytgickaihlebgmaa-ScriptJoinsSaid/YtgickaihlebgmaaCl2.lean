/-
  A slice of bytes cloned: its tree. By program; the equation is checked by the kernel.
  It speaks of the pinned program alone; no condition.
-/
import Derived.Test.YtgickaihlebgmaaCl1
namespace Go.Proofs.Ytgickaihlebgmaa.V
open Go
set_option linter.unusedVariables false
set_option linter.unusedSimpArgs false

theorem tClone (A : Ar) (O : OT) (b : List Int) (nl : Bool) : bodyX (Cx A O noL) 100 Try.f35 [u8s b (some nl) false] [] =
    (bif nl then some (X.sl (Ty.int IntKind.u8) [] (some true) true, [])
    else
      bif decide (((0 : Nat) + List.length b) * (1 : Nat) ≤ (140737488355328 : Nat)) then
        some (X.sl (Ty.int IntKind.u8) ([] ++ b) (some (false && List.isEmpty b)) true, [])
      else none) := by kernel_rfl

end Go.Proofs.Ytgickaihlebgmaa.V

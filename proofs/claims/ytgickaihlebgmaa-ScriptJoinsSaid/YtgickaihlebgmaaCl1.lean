/-
  A slice of bytes cloned: what is told.
  It speaks of the pinned program alone; no condition.
-/
import Derived.Test.YtgickaihlebgmaaB1
namespace Go.Proofs.Ytgickaihlebgmaa.V
open Go
set_option linter.unusedVariables false
set_option linter.unusedSimpArgs false

def cloneF (A : Ar) : List X → Tr X
  | [.sl (.int .u8) b (some nl) false] => .test (A.se (decide (b.length ≤ 1000000000) && nlB nl b)) (.give (u8s b (some nl) true)) .no
  | _ => .no

def Ocl (A : Ar) : OT := Oadd (fun _ => none) 35 (.pure (cloneF A))

end Go.Proofs.Ytgickaihlebgmaa.V

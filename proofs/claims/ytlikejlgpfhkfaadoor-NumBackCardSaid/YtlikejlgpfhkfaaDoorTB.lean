/-
  The program's tables: package-level variables that nobody writes, as data: of costs' digits, the two errors and the powers of ten.
  It speaks of the pinned program alone; no condition.
-/
import Derived.Test.YtlikejlgpfhkfaaDoorWa
namespace Go.Proofs.YtlikejlgpfhkfaaDoor.V
open Go

def powT : List Int := [1, 10, 100, 1000, 10000, 100000, 1000000, 10000000, 100000000, 1000000000, 10000000000, 100000000000, 1000000000000, 10000000000000, 100000000000000, 1000000000000000, 10000000000000000, 100000000000000000, 1000000000000000000, 10000000000000000000]

/-- What lies at a package-level variable, for those that the evaluator reads. -/
def tabs : Nat → Option (Σ t : Ty, t.den)
  | 0 => some ⟨.err, false⟩
  | 1 => some ⟨.err, false⟩
  | 2 => some ⟨.arr 20 (.int .u64), powT⟩
  | _ => none

/-- The program's ranges over functions, by their numbers. -/
def rounds : Nat → Option Rd := fun _ => none

end Go.Proofs.YtlikejlgpfhkfaaDoor.V

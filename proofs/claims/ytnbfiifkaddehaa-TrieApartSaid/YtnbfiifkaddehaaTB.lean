/-
  The program's tables: package-level variables that nobody writes, as data, and its ranges over functions. Here: none.
  It speaks of whatever program; no condition.
-/
import Derived.Test.YtnbfiifkaddehaaWa
namespace Go.Proofs.Ytnbfiifkaddehaa.V
open Go

/-- What lies at a package-level variable, for those that the evaluator reads. -/
def tabs : Nat → Option (Σ t : Ty, t.den) := fun _ => none

/-- The program's ranges over functions, by their numbers. -/
def rounds : Nat → Option Rd := fun _ => none

end Go.Proofs.Ytnbfiifkaddehaa.V

/-
  The program's tables: package-level variables that nobody writes, as data, and its ranges over functions. Here: of chapter 04.
  It speaks of the pinned program alone; no condition.
-/
import Derived.Test.YtngifmlpilemlaaWa
import Derived.Test.YtngifmlpilemlaaProg
namespace Go.Proofs.Ytngifmlpilemlaa.V
open Go

/-- What lies at a package-level variable, for those that the evaluator reads. -/
def tabs : Nat → Option (Σ t : Ty, t.den) := fun _ => none

/-- The program's ranges over functions, by their numbers. -/
noncomputable def rounds : Nat → Option Rd
  | 7 => rdOf Try.f7 0 [2]
  | 9 => rdOf Try.f9 0 [2]
  | _ => none

end Go.Proofs.Ytngifmlpilemlaa.V

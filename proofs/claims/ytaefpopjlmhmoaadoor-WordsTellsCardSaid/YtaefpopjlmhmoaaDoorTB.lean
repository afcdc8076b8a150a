/-
  The program's tables: package-level variables that nobody writes, as data: the two tables by which signs are read; its ranges over functions.
  It speaks of the pinned program alone; no condition.
-/
import Derived.Test.YtaefpopjlmhmoaaDoorWa
import Derived.Test.YtaefpopjlmhmoaaDoorProg
namespace Go.Proofs.YtaefpopjlmhmoaaDoor.V
open Go

/-- Of each first byte: how many bytes a sign has, and which second bytes it takes. -/
def firstT : List Int := [240, 240, 240, 240, 240, 240, 240, 240, 240, 240, 240, 240, 240, 240, 240, 240, 240, 240, 240, 240, 240, 240, 240, 240, 240, 240, 240, 240, 240, 240, 240, 240, 240, 240, 240, 240, 240, 240, 240, 240, 240, 240, 240, 240, 240, 240, 240, 240, 240, 240, 240, 240, 240, 240, 240, 240, 240, 240, 240, 240, 240, 240, 240, 240, 240, 240, 240, 240, 240, 240, 240, 240, 240, 240, 240, 240, 240, 240, 240, 240, 240, 240, 240, 240, 240, 240, 240, 240, 240, 240, 240, 240, 240, 240, 240, 240, 240, 240, 240, 240, 240, 240, 240, 240, 240, 240, 240, 240, 240, 240, 240, 240, 240, 240, 240, 240, 240, 240, 240, 240, 240, 240, 240, 240, 240, 240, 240, 240, 241, 241, 241, 241, 241, 241, 241, 241, 241, 241, 241, 241, 241, 241, 241, 241, 241, 241, 241, 241, 241, 241, 241, 241, 241, 241, 241, 241, 241, 241, 241, 241, 241, 241, 241, 241, 241, 241, 241, 241, 241, 241, 241, 241, 241, 241, 241, 241, 241, 241, 241, 241, 241, 241, 241, 241, 241, 241, 241, 241, 241, 241, 241, 241, 241, 241, 2, 2, 2, 2, 2, 2, 2, 2, 2, 2, 2, 2, 2, 2, 2, 2, 2, 2, 2, 2, 2, 2, 2, 2, 2, 2, 2, 2, 2, 2, 19, 3, 3, 3, 3, 3, 3, 3, 3, 3, 3, 3, 3, 35, 3, 3, 52, 4, 4, 4, 68, 241, 241, 241, 241, 241, 241, 241, 241, 241, 241, 241]
/-- Which second bytes may be. -/
def acceptT : List (Int × Int × Unit) := [(128, 191, ()), (160, 191, ()), (128, 159, ()), (144, 191, ()), (128, 143, ()), (0, 0, ()), (0, 0, ()), (0, 0, ()), (0, 0, ()), (0, 0, ()), (0, 0, ()), (0, 0, ()), (0, 0, ()), (0, 0, ()), (0, 0, ()), (0, 0, ())]

/-- What lies at a package-level variable, for those that the evaluator reads. -/
def tabs : Nat → Option (Σ t : Ty, t.den)
  | 0 => some ⟨.arr 256 (.int .u8), firstT⟩
  | 1 => some ⟨.arr 16 (.struct (.prod (.int .u8) (.prod (.int .u8) .unit))), acceptT⟩
  | _ => none

/-- The program's ranges over functions, by their numbers. -/
noncomputable def rounds : Nat → Option Rd
  | 7 => rdOf Tryd.f17 0 [2]
  | 9 => rdOf Tryd.f19 0 [2]
  | _ => none

end Go.Proofs.YtaefpopjlmhmoaaDoor.V

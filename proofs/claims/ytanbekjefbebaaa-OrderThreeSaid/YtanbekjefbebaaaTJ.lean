/-
  A statement some of whose regions are told: the evaluator's text for it.
  It speaks of the pinned program alone; no condition.
-/
import Derived.Test.YtanbekjefbebaaaOr18
namespace Go.Proofs.Ytanbekjefbebaaa.V
open Go
set_option linter.unusedVariables false
/-- The same, some regions being told. -/
abbrev Jt := Nat → Option (Nat × List Nat × (List X → Hp → Tr (List X × Hp)))
def CxJ (A : Ar) (O : Nat → Option Orc) (L : Lp) (M : Nat → Nat) (J : Jt) : Ctx := { A := A, tys := tys, O := O, L := L, M := M, Z := ezs, J := J }
theorem CxJ.ok {O : Nat → Option Orc} (h : OOk O) (L : Lp) (M : Nat → Nat) (J : Jt) : COk Try.prog (CxJ Ar.real O L M J) := ⟨rfl, tysOk, h, fun _ _ e => (by cases e), ezsOk⟩
end Go.Proofs.Ytanbekjefbebaaa.V

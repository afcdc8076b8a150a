/-
  Chapter 04, lines: the calls at the head of all statements.
  It speaks of the pinned program alone; no condition.
-/
import Derived.Test.YtngifmlpilemlaaLi8
namespace Go.Proofs.Ytngifmlpilemlaa.V
open Go
set_option linter.unusedVariables false
set_option linter.unusedSimpArgs false

theorem awake_ok : OrcOk Try.prog 6 (.pure awakeF) := by
  refine pureOk (Cx.ok o8 noL) mixed 6 Try.f6 (by kernel_rfl) (by kernel_rfl) (by kernel_rfl) 100 0 (by kernel_rfl) (fun i h => by omega) fun args r h => ?_
  unfold awakeF at h
  split at h
  · cases h
    refine ⟨rfl, rfl, [], ?_⟩
    rw [tAwake]
    kernel_rfl
  · cases h

theorem o9 : OOk (Ol9 Ar.real) := o8.add awake_ok

end Go.Proofs.Ytngifmlpilemlaa.V

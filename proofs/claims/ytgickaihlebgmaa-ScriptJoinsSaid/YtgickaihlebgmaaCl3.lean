/-
  A slice of bytes cloned: so it is.
  It speaks of the pinned program alone; no condition.
-/
import Derived.Test.YtgickaihlebgmaaCl2
namespace Go.Proofs.Ytgickaihlebgmaa.V
open Go
set_option linter.unusedVariables false
set_option linter.unusedSimpArgs false

theorem clone_ok : OrcOk Try.prog 35 (.pure (cloneF Ar.real)) := by
  refine pureOk (Cx.ok OOk.none noL) mixed 35 Try.f35 (by kernel_rfl) (by kernel_rfl) (by kernel_rfl) 100 0 (by kernel_rfl) (fun i h => by omega) fun args r h => ?_
  unfold cloneF at h
  split at h
  · rename_i b nl
    obtain ⟨hg, rfl⟩ := Tr.one h
    refine ⟨rfl, rfl, [], ?_⟩
    rw [tClone]
    simp only [rw_se, Bool.and_eq_true, decide_eq_true_eq] at hg
    obtain ⟨h1, h2⟩ := hg
    cases nl
    · rw [bf rfl, bt (by simp; omega)]
      simp [u8s]
    · have := nlB_nil h2 rfl
      simp [this]
  · cases h

theorem o_cl : OOk (Ocl Ar.real) := OOk.none.add clone_ok

end Go.Proofs.Ytgickaihlebgmaa.V

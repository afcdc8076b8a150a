/-
  Chapter 10, automata: what stands at the head of all statements is true.
  It speaks of the pinned program alone; no condition.
-/
import Derived.Test.YtnbfiifkaddehaaTr11
namespace Go.Proofs.Ytnbfiifkaddehaa.V
open Go
set_option linter.unusedVariables false

def makeC : List X → Tr X
  | [.sl (.slice (.int .i64)) [[97], [97, 98]] nl false] => .give (.tup [.sl staT [(false, [(97, 1, ())], ()), (true, [(98, 2, ())], ()), (true, [], ())] none false, i64x 0])
  | [.sl (.slice (.int .i64)) [[98], [97]] nl false] => .give (.tup [.sl staT [] (some true) false, i64x 90])
  | _ => .no
theorem makeC_ok : OrcOk Try.prog 10 (.pure makeC) := by
  have h : PureOk Try.prog _ fun a => (makeF Ar.real a).run some := make_ok
  refine PureOk.union h.1 fun args r hr => ⟨_, h, ?_⟩
  unfold makeC at hr
  split at hr
  · rw [← hr]; kernel_rfl
  · rw [← hr]; kernel_rfl
  · cases hr
def OwC : OT := Oadd (Oadd (Oadd noOt 10 (.pure makeC)) 12 (.pure (stepAF Ar.real))) 15 (.pure (checkF Ar.real))
theorem owC : OOk OwC := ((OOk.none.add makeC_ok).add stepA_ok).add check_ok

def awakeF : List X → Tr X
  | [] => .give (boolx true)
  | _ => .no
theorem awake_ok : OrcOk Try.prog 7 (.pure awakeF) := by
  refine pureOk (Cx.ok owC noL) mixed 7 Try.f7 (by kernel_rfl) (by kernel_rfl) (by kernel_rfl) 100 0 (by kernel_rfl) (fun i h => by omega) fun args r h => ?_
  unfold awakeF at h
  split at h
  · simp only [Tr.run, Option.some.injEq] at h
    subst h
    exact ⟨rfl, rfl, [], by kernel_rfl⟩
  · cases h

end Go.Proofs.Ytnbfiifkaddehaa.V

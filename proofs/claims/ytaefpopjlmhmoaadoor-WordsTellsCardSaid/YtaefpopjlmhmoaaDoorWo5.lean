/-
  Chapter 09, word lists: what stands at the head of all statements is true: the functions at the data that stand there.
  It speaks of the pinned program alone; no condition.
-/
import Derived.Test.YtaefpopjlmhmoaaDoorWo4
namespace Go.Proofs.YtaefpopjlmhmoaaDoor.V
open Go
set_option linter.unusedVariables false

def readC : List X → Tr X
  | [.sl (.int .u8) [98, 10, 35, 32, 99, 10, 97, 10, 98, 10] (some false) false] => .give (.tup [.sl (.slice (.int .i64)) [[97], [98]] none false, i64x (-1), i64x 0])
  | [.sl (.int .u8) [97, 10, 97, 32, 98] (some false) false] => .give (.tup [.sl (.slice (.int .i64)) [] none false, i64x 1, i64x 71])
  | [.sl (.int .u8) [255] (some false) false] => .give (.tup [.sl (.slice (.int .i64)) [] none false, i64x 0, i64x 10])
  | [.sl (.int .u8) [97, 97, 97, 97, 97, 97, 97, 97, 97, 97, 97, 97, 97, 97, 97, 97, 97, 97, 97, 97, 97] (some false) false] => .give (.tup [.sl (.slice (.int .i64)) [] none false, i64x 0, i64x 90])
  | _ => .no
def writeC : List X → Tr X
  | [.sl (.slice (.int .i64)) [[97], [98]] nl false] => .give (.tup [u8s [97, 10, 98, 10] (some false) false, i64x 0])
  | [.sl (.slice (.int .i64)) [[98], [97]] nl false] => .give (.tup [u8s [] (some true) false, i64x 90])
  | _ => .no
def fitC : List X → Tr X
  | [.sl (.int .i64) [97] nl false] => .give (boolx true)
  | [.sl (.int .i64) [] nl false] => .give (boolx false)
  | [.sl (.int .i64) [35] nl false] => .give (boolx false)
  | _ => .no

theorem readC_ok : OrcOk Tryd.prog 10 (.pure readC) := by
  have h : PureOk Tryd.prog _ fun a => (readF Ar.real a).run some := read_ok
  refine PureOk.union h.1 fun args r hr => ⟨_, h, ?_⟩
  unfold readC at hr
  split at hr
  · rw [← hr]; kernel_rfl
  · rw [← hr]; kernel_rfl
  · rw [← hr]; kernel_rfl
  · rw [← hr]; kernel_rfl
  · cases hr
theorem writeC_ok : OrcOk Tryd.prog 12 (.pure writeC) := by
  have h : PureOk Tryd.prog _ fun a => (writeF Ar.real a).run some := write_ok
  refine PureOk.union h.1 fun args r hr => ⟨_, h, ?_⟩
  unfold writeC at hr
  split at hr
  · rw [← hr]; kernel_rfl
  · rw [← hr]; kernel_rfl
  · cases hr
theorem fitC_ok : OrcOk Tryd.prog 15 (.pure fitC) := by
  have h : PureOk Tryd.prog _ fun a => (fitF Ar.real a).run some := fit_ok
  refine PureOk.union h.1 fun args r hr => ⟨_, h, ?_⟩
  unfold fitC at hr
  split at hr
  · rw [← hr]; kernel_rfl
  · rw [← hr]; kernel_rfl
  · rw [← hr]; kernel_rfl
  · cases hr

def OwC : OT := Oadd (Oadd (Oadd noOw 12 (.pure writeC)) 10 (.pure readC)) 15 (.pure fitC)
theorem owC : OOk OwC := ((OOk.none.add writeC_ok).add readC_ok).add fitC_ok

def awakeF9 : List X → Tr X
  | [] => .give (boolx true)
  | _ => .no
theorem awake9_ok : OrcOk Tryd.prog 8 (.pure awakeF9) := by
  refine pureOk (Cx.ok owC noL) mixed 8 Tryd.f8 (by kernel_rfl) (by kernel_rfl) (by kernel_rfl) 100 0 (by kernel_rfl) (fun i h => by omega) fun args r h => ?_
  unfold awakeF9 at h
  split at h
  · simp only [Tr.run, Option.some.injEq] at h
    subst h
    exact ⟨rfl, rfl, [], by kernel_rfl⟩
  · cases h

def Ow10 (A : Ar) : OT := Oadd (Oadd (Oadd (Oadd (Ow9 A) 12 (.pure (writeF A))) 10 (.pure (readF A))) 14 (.pure (R.wsameF A))) 9 (.pure (R.fewF A))
def Ow11 (A : Ar) : OT := Oadd (Oadd (Ow10 A) 22 (.pure (R.lessF A))) 23 (.pure (R.weqF A))
def Ow12 (A : Ar) : OT := Oadd (Ow11 A) 8 (.pure awakeF9)
theorem ow10 : OOk (Ow10 Ar.real) := (((ow9.add write_ok).add read_ok).add R.wss_ok).add (R.few_ok _ OOk.none)
theorem ow12 : OOk (Ow12 Ar.real) := ((ow10.add R.less_ok).add (R.wsa_ok _ OOk.none)).add awake9_ok

end Go.Proofs.YtaefpopjlmhmoaaDoor.V

/-
  Chapter 01, utf: the calls whose answers are fixed.
  It speaks of the pinned program alone; no condition.
-/
import Derived.Test.YtnjlfeigcappjaaDoorUt14
namespace Go.Proofs.YtnjlfeigcappjaaDoor.V
open Go
set_option linter.unusedVariables false
set_option linter.unusedSimpArgs false

theorem awake_core : bodyX (Cx Ar.real (Out9 Ar.real) noL) 100 Tryd.f10 [] [] = some (boolx true, []) := by
  rw [tAwake]
  simp only [rw_se]
  have e : ({ data := #[(195 : UInt8), (164 : UInt8), (226 : UInt8), (130 : UInt8), (172 : UInt8), (65 : UInt8)] } : ByteArray) = strOf [195, 164, 226, 130, 172, 65] := rfl
  have s : Ar.real.seq (strOf (putL [228, 8364, 65])) (strOf [195, 164, 226, 130, 172, 65]) = true := by
    rw [seq_str (bytesB_iff.1 (by kernel_rfl)) (bytesB_iff.1 (by kernel_rfl))]
    kernel_rfl
  iterate 6 rw [bt (by kernel_rfl)]
  rw [e, s]
  iterate 12 rw [bt (by kernel_rfl)]
  rfl

theorem awake_ok : OrcOk Tryd.prog 10 (.pure awakeF) := by
  refine pureOk (Cx.ok o_ut9 noL) mixed 10 Tryd.f10 (by kernel_rfl) (by kernel_rfl) (by kernel_rfl) 100 0 (by kernel_rfl) (fun i h => by omega) fun args r h => ?_
  unfold awakeF at h
  split at h
  · cases h
    exact ⟨rfl, rfl, [], awake_core⟩
  · cases h

theorem o_ut : OOk (Out Ar.real) := o_ut9.add awake_ok

end Go.Proofs.YtnjlfeigcappjaaDoor.V

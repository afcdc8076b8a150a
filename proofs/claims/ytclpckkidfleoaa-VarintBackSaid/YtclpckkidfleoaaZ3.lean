/-
  Chapter 13's program: the statement against the document's answer.
  It speaks of the pinned program alone; no condition.
-/
import Derived.Test.YtclpckkidfleoaaZ1
import Derived.Test.YtclpckkidfleoaaZ2
namespace Go.Proofs.Ytclpckkidfleoaa.V
open Go
set_option linter.unusedVariables false
set_option linter.unusedSimpArgs false

theorem wf_u64 {n : Int} (h : (Lit.int .u64 n).wf = true) : isU64 n = true := by
  simp only [Lit.wf, Bool.and_eq_true, decide_eq_true_eq] at h
  rw [isU64_iff]
  have h1 : IntKind.u64.min = 0 := by decide
  have h2 : IntKind.u64.max = 18446744073709551615 := by decide
  omega

theorem row_bytes {W : World} {a : Option Addr} {len cap : Nat} {zs : List Int} (h : IsRow .u8 W a len cap zs) : bytesB (zs.take len) = true ∧ (!a.isNone || (zs.take len).isEmpty) = true := by
  rcases h with ⟨rfl, rfl, rfl, rfl⟩ | ⟨x, rfl, h1, h2, h3, h4, h5⟩
  · exact ⟨rfl, rfl⟩
  · refine ⟨bytesB_iff.2 fun y hy => ?_, rfl⟩
    have h := h5 y (List.mem_of_mem_take hy)
    simp only [Lit.wf, Bool.and_eq_true, decide_eq_true_eq] at h
    have h1 : IntKind.u8.min = 0 := by decide
    have h2 : IntKind.u8.max = 255 := by decide
    omega

def gTells : List X → Bool
  | [.sl (.int .u8) b (some nl) false, .d (.int .u64) n] => isU64 n && (bytesB b && (!nl || b.isEmpty))
  | _ => false

theorem seq_self (a : ByteArray) : Ar.real.seq a a = true := by rw [rw_seq]; simp

theorem tells_core (b : List Int) (nl : Bool) (n : Int) (hu : isU64 n = true) (hy : bytesB b = true) (hn : (!nl || b.isEmpty) = true) :
    bodyX (Cx Ar.real (O7 Ar.real) noL) 200 Try.f3 [u8s b (some nl) false, u64x n] [] = some (boolx true, []) := by
  rw [t3]
  by_cases hb : b.length > 1000
  · rw [bt (by rw [decide_eq_true_eq]; omega)]
  · rw [bf (by rw [decide_eq_false_iff_not]; omega)]
    have d1 : decide (b.length ≤ 100000) = true := by rw [decide_eq_true_eq]; omega
    simp only [rw_se, seq_self, hu, hy, hn, d1, Bool.and_self, beq_self_eq_true, cond_true]

theorem tells_ok : OrcOk Try.prog 3 (.pure (LawF gTells)) := by
  refine pureOk (Cx.ok o7 noL) mixed 3 Try.f3 (by kernel_rfl) (by kernel_rfl) (by kernel_rfl) 200 0 (by kernel_rfl) (fun i h => by omega) fun args r h => ?_
  obtain ⟨hg, rfl⟩ := Tr.one h
  clear h
  unfold gTells at hg
  split at hg
  · rename_i b nl n
    simp only [Bool.and_eq_true] at hg
    exact ⟨rfl, rfl, [], tells_core b nl n hg.1 hg.2.1 (by simpa using hg.2.2)⟩
  · cases hg

end Go.Proofs.Ytclpckkidfleoaa.V

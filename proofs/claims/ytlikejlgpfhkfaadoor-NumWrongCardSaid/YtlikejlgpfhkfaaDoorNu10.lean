/-
  Chapter 05, numbers: the statements hold whatever comes in.
  It speaks of the pinned program alone; no condition.
-/
import Derived.Test.YtlikejlgpfhkfaaDoorNu9
namespace Go.Proofs.YtlikejlgpfhkfaaDoor.V
open Go
set_option linter.unusedVariables false
set_option linter.unusedSimpArgs false

theorem u64_of {c : Int} (h : wfD (.int .u64) c = true) : isU64 c = true := by
  have h1 := wfD_int h
  have h2 : IntKind.u64.min = 0 := by decide
  have h3 : IntKind.u64.max = 18446744073709551615 := by decide
  rw [isU64_iff]
  omega
theorem u8_of {c : Int} (h : wfD (.int .u8) c = true) : 0 ≤ c ∧ c < 256 := by
  have h1 := wfD_int h
  have h2 : IntKind.u8.min = 0 := by decide
  have h3 : IntKind.u8.max = 255 := by decide
  omega

theorem tells_ok : OrcOk Tryd.prog 3 (.pure (LawFc [.int .u64, .slice (.int .u8)])) := by
  refine law_pure (Cx.ok o_n8 noL) mixed 3 Tryd.f3 _ (by kernel_rfl) (by kernel_rfl) (by kernel_rfl) 100 0 (by kernel_rfl) (fun i h => by omega) fun args h => ?_
  obtain ⟨x, xs, rfl, ⟨c, rfl, hc⟩, h1⟩ := h.cons
  obtain ⟨y, ys, rfl, ⟨b, nl, rfl, hb, _⟩, h2⟩ := h1.cons
  obtain rfl := h2.nil
  exact ⟨[], tells_law c b (some nl) (u64_of hc) (bytes_wf hb)⟩
theorem back_ok : OrcOk Tryd.prog 4 (.pure (LawFc [.int .u64, .slice (.int .u8)])) := by
  refine law_pure (Cx.ok o_n8 noL) mixed 4 Tryd.f4 _ (by kernel_rfl) (by kernel_rfl) (by kernel_rfl) 100 0 (by kernel_rfl) (fun i h => by omega) fun args h => ?_
  obtain ⟨x, xs, rfl, ⟨c, rfl, hc⟩, h1⟩ := h.cons
  obtain ⟨y, ys, rfl, ⟨b, nl, rfl, hb, _⟩, h2⟩ := h1.cons
  obtain rfl := h2.nil
  exact ⟨[], back_law c b (some nl) (u64_of hc) (bytes_wf hb)⟩
theorem order_ok : OrcOk Tryd.prog 5 (.pure (LawFc [.int .u64, .int .u64, .int .u8])) := by
  refine law_pure (Cx.ok o_n8 noL) mixed 5 Tryd.f5 _ (by kernel_rfl) (by kernel_rfl) (by kernel_rfl) 100 0 (by kernel_rfl) (fun i h => by omega) fun args h => ?_
  obtain ⟨x, xs, rfl, ⟨a, rfl, ha⟩, h1⟩ := h.cons
  obtain ⟨y, ys, rfl, ⟨b, rfl, hb⟩, h2⟩ := h1.cons
  obtain ⟨z, zs, rfl, ⟨d, rfl, hd⟩, h3⟩ := h2.cons
  obtain rfl := h3.nil
  exact ⟨[], order_law a b d (u64_of ha) (u64_of hb) (u8_of hd)⟩
theorem wrong_ok : OrcOk Tryd.prog 6 (.pure (LawFc [.int .u64, .int .u8, .int .u8])) := by
  refine law_pure (CxM.ok o_n8 noL Mwr) mixed 6 Tryd.f6 _ (by kernel_rfl) (by kernel_rfl) (by kernel_rfl) 100 0 (by kernel_rfl) (fun i h => by omega) fun args h => ?_
  obtain ⟨x, xs, rfl, ⟨c, rfl, hc⟩, h1⟩ := h.cons
  obtain ⟨y, ys, rfl, ⟨a, rfl, ha⟩, h2⟩ := h1.cons
  obtain ⟨z, zs, rfl, ⟨d, rfl, hd⟩, h3⟩ := h2.cons
  obtain rfl := h3.nil
  exact wrong_law c a d (u64_of hc) (u8_of ha) (u8_of hd)
theorem cut_ok : OrcOk Tryd.prog 7 (.pure (LawFc [.int .u64, .int .u8])) := by
  refine law_pure (Cx.ok o_n8 (Lc Ar.real)) mixed 7 Tryd.f7 _ (by kernel_rfl) (by kernel_rfl) (by kernel_rfl) 100 1 (by kernel_rfl) (fun i h => ?_) fun args h => ?_
  · obtain rfl : i = 0 := by omega
    refine Tells.mk (key := 9) (by kernel_rfl) rfl fun xs H r h => ?_
    unfold LcF at h
    split at h
    · rename_i c u w nl o x e n0 i0
      obtain ⟨n, rfl⟩ : ∃ p : Int, p = n0 := ⟨n0, rfl⟩
      obtain ⟨i, rfl⟩ : ∃ p : Int, p = i0 := ⟨i0, rfl⟩
      obtain ⟨hg, rfl⟩ := Tr.one h
      simp only [rw_se, Bool.and_eq_true, decide_eq_true_eq] at hg ⊢
      obtain ⟨hn, h1, h2, h3⟩ := hg
      have hn := isU64_iff.1 hn
      obtain ⟨m, rfl⟩ : ∃ m : Nat, n = (m : Int) := Int.eq_ofNat_of_zero_le hn.1
      obtain ⟨q, rfl⟩ : ∃ q : Nat, i = (q : Int) := Int.eq_ofNat_of_zero_le h1
      rw [Int.toNat_natCast]
      have h2' : (q : Int) ≤ (w.length : Int) := h2
      exact cut_loop h3 _ q m rfl (Int.ofNat_le.1 h2') (by omega)
    · cases h
  · obtain ⟨x, xs, rfl, ⟨c, rfl, hc⟩, h1⟩ := h.cons
    obtain ⟨y, ys, rfl, ⟨a, rfl, ha⟩, h2⟩ := h1.cons
    obtain rfl := h2.nil
    exact ⟨[], cut_law c a (u64_of hc) (u8_of ha)⟩

end Go.Proofs.YtlikejlgpfhkfaaDoor.V

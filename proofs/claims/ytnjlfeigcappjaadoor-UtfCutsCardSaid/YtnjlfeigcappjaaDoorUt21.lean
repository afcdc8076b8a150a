/-
  Chapter 01, utf: the statements' functions answer true.
  It speaks of the pinned program alone; no condition.
-/
import Derived.Test.YtnjlfeigcappjaaDoorUt20
namespace Go.Proofs.YtnjlfeigcappjaaDoor.V
open Go
set_option linter.unusedVariables false
set_option linter.unusedSimpArgs false

theorem no_loops {C : Ctx} {fn : Func} : ∀ i, i < 0 → Tells C 100 (loopAt fn i) := fun i h => absurd h (by omega)

theorem tells_law : OrcOk Tryd.prog 3 (.pure (LawFc [.slice (.int .i64), .slice (.int .u8), .int .i64])) := by
  refine law_pure (Cx.ok o_ut noL) mixed 3 Tryd.f3 _ (by kernel_rfl) (by kernel_rfl) (by kernel_rfl) 100 0 (by kernel_rfl) no_loops fun args h => ?_
  obtain ⟨x, xs, rfl, h1, h⟩ := h.cons
  obtain ⟨y, ys, rfl, h2, h⟩ := h.cons
  obtain ⟨z, zs, rfl, h3, h⟩ := h.cons
  obtain rfl := h.nil
  obtain ⟨l, nl, rfl, _, _⟩ := h1
  obtain ⟨b, nl2, rfl, hb, _⟩ := h2
  obtain ⟨n, rfl, _⟩ := h3
  exact ⟨_, tells_core l nl b nl2 n (bytesB_iff.1 (bytes_wf hb))⟩

theorem back_law : OrcOk Tryd.prog 4 (.pure (LawFc [.slice (.int .i64), .slice (.int .u8)])) := by
  refine law_pure (Cx.ok o_ut noL) mixed 4 Tryd.f4 _ (by kernel_rfl) (by kernel_rfl) (by kernel_rfl) 100 0 (by kernel_rfl) no_loops fun args h => ?_
  obtain ⟨x, xs, rfl, h1, h⟩ := h.cons
  obtain ⟨y, ys, rfl, h2, h⟩ := h.cons
  obtain rfl := h.nil
  obtain ⟨l, nl, rfl, _, _⟩ := h1
  obtain ⟨b, nl2, rfl, hb, _⟩ := h2
  exact ⟨_, back_core l nl b nl2 (bytesB_iff.1 (bytes_wf hb))⟩

theorem order_law : OrcOk Tryd.prog 5 (.pure (LawFc [.slice (.int .i64), .slice (.int .i64)])) := by
  refine law_pure (Cx.ok o_ut (Lord Ar.real)) mixed 5 Tryd.f5 _ (by kernel_rfl) (by kernel_rfl) (by kernel_rfl) 100 1 (by kernel_rfl) (fun i hi => ?_) fun args h => ?_
  · obtain rfl : i = 0 := by omega
    refine Tells.mk (key := 9) (N := 93) (ks := [0, 1, 5, 6, 8, 10]) (F := LordF Ar.real) (by kernel_rfl) rfl fun xs H r h => ?_
    unfold LordF at h
    split at h
    · rename_i a nl b nl2 up x nx y ny i
      obtain ⟨hg, rfl⟩ := Tr.one h
      replace hg : a.length ≤ 1000000 ∧ (0 : Int) ≤ i ∧ i ≤ (a.length : Int) ∧ i ≤ (b.length : Int) := of_decide_eq_true hg
      obtain ⟨g1, g2, g3, g4⟩ := hg
      obtain ⟨m, rfl⟩ := Int.eq_ofNat_of_zero_le g2
      simp only [rw_se, Int.toNat_natCast]
      exact loopOrd a nl b nl2 up x nx y ny g1 _ m rfl (by have : (m : Int) ≤ (a.length : Int) := g3; omega) (by have : (m : Int) ≤ (b.length : Int) := g4; omega)
    · cases h
  · obtain ⟨x, xs, rfl, h1, h⟩ := h.cons
    obtain ⟨y, ys, rfl, h2, h⟩ := h.cons
    obtain rfl := h.nil
    obtain ⟨l, nl, rfl, _, _⟩ := h1
    obtain ⟨b, nl2, rfl, _, _⟩ := h2
    exact ⟨_, order_core l nl b nl2⟩

theorem parts_law : OrcOk Tryd.prog 6 (.pure (LawFc [.slice (.int .i64), .slice (.int .i64), .int .i64, .int .u8])) := by
  refine law_pure (Cx.ok o_utT noL) mixed 6 Tryd.f6 _ (by kernel_rfl) (by kernel_rfl) (by kernel_rfl) 100 0 (by kernel_rfl) no_loops fun args h => ?_
  obtain ⟨x, xs, rfl, h1, h⟩ := h.cons
  obtain ⟨y, ys, rfl, h2, h⟩ := h.cons
  obtain ⟨z, zs, rfl, h3, h⟩ := h.cons
  obtain ⟨u, us, rfl, h4, h⟩ := h.cons
  obtain rfl := h.nil
  obtain ⟨a, nl, rfl, _, _⟩ := h1
  obtain ⟨b, nl2, rfl, _, _⟩ := h2
  obtain ⟨n, rfl, _⟩ := h3
  obtain ⟨cut, rfl, hc⟩ := h4
  have hr := wfD_int hc
  have e1 : IntKind.u8.min = 0 := by decide
  have e2 : IntKind.u8.max = 255 := by decide
  rw [e1, e2] at hr
  exact ⟨_, parts_core a nl b nl2 n cut ⟨hr.1, Int.lt_of_le_of_lt hr.2 (by decide)⟩⟩

theorem sizes_law : OrcOk Tryd.prog 7 (.pure (LawFc [.slice (.int .i64)])) := by
  refine law_pure (Cx.ok o_ut (Lsiz Ar.real)) mixed 7 Tryd.f7 _ (by kernel_rfl) (by kernel_rfl) (by kernel_rfl) 100 1 (by kernel_rfl) (fun i hi => ?_) fun args h => ?_
  · obtain rfl : i = 0 := by omega
    refine Tells.mk (key := 8) (N := 81) (ks := [0, 3, 4, 5, 6, 7, 8]) (F := LsizF Ar.real) (by kernel_rfl) rfl fun xs H r h => ?_
    unfold LsizF at h
    split at h
    · rename_i l nl up b nb e n good i
      obtain ⟨hg, rfl⟩ := Tr.one h
      replace hg : l.length ≤ 1000000 ∧ (0 : Int) ≤ i ∧ i ≤ (l.length : Int) ∧ (0 : Int) ≤ n ∧ n ≤ 4 * (i : Int) := of_decide_eq_true hg
      obtain ⟨g1, g2, g3, g4, g5⟩ := hg
      obtain ⟨m, rfl⟩ := Int.eq_ofNat_of_zero_le g2
      simp only [rw_se, Int.toNat_natCast]
      exact loopSiz l nl up b nb e g1 _ m n good rfl (by have : (m : Int) ≤ (l.length : Int) := g3; omega) g4 g5
    · cases h
  · obtain ⟨x, xs, rfl, h1, h⟩ := h.cons
    obtain rfl := h.nil
    obtain ⟨l, nl, rfl, _, _⟩ := h1
    exact ⟨_, sizes_core l nl⟩

theorem inside_law : OrcOk Tryd.prog 8 (.pure (LawFc [.int .i64, .int .u8])) := by
  refine law_pure (Cx.ok o_ut noL) mixed 8 Tryd.f8 _ (by kernel_rfl) (by kernel_rfl) (by kernel_rfl) 100 0 (by kernel_rfl) no_loops fun args h => ?_
  obtain ⟨x, xs, rfl, h1, h⟩ := h.cons
  obtain ⟨y, ys, rfl, h2, h⟩ := h.cons
  obtain rfl := h.nil
  obtain ⟨n, rfl, _⟩ := h1
  obtain ⟨k, rfl, hc⟩ := h2
  have hr := wfD_int hc
  have e1 : IntKind.u8.min = 0 := by decide
  have e2 : IntKind.u8.max = 255 := by decide
  rw [e1, e2] at hr
  exact ⟨_, inside_core n k ⟨hr.1, Int.lt_of_le_of_lt hr.2 (by decide)⟩⟩

end Go.Proofs.YtnjlfeigcappjaaDoor.V

/-
  Chapter 01, utf: the statement on cuts: its function answers true.
  It speaks of the pinned program alone; no condition.
-/
import Derived.Test.YtnjlfeigcappjaaDoorUt21
import Derived.Test.YtnjlfeigcappjaaDoorWh
namespace Go.Proofs.YtnjlfeigcappjaaDoor.V
open Go
set_option linter.unusedVariables false
set_option linter.unusedSimpArgs false

theorem cuts_law : OrcOk Tryd.prog 9 (.pure (LawFb [.slice (.int .i64), .int .u16])) := by
  refine law_pureB (Cx.ok o_ut (Lcut Ar.real)) mixed 9 Tryd.f9 _ (by kernel_rfl) (by kernel_rfl) (by kernel_rfl) 100 1 (by kernel_rfl) (fun i hi => ?_) fun args h hb => ?_
  · obtain rfl : i = 0 := by omega
    refine Tells.mk (key := 9) (N := 86) (ks := [0, 5, 8, 9, 10, 11, 12]) (F := LcutF Ar.real) (by kernel_rfl) rfl fun xs H r h => ?_
    unfold LcutF at h
    split at h
    · rename_i l nl up c x nx f n i
      obtain ⟨hg, rfl⟩ := Tr.one h
      rw [rw_se, Bool.and_eq_true] at hg
      obtain ⟨hg, ha⟩ := hg
      replace hg : l.length ≤ 1000000 ∧ (0 : Int) ≤ i ∧ i ≤ (l.length : Int) ∧ (0 : Int) ≤ n ∧ n ≤ 4 * (i : Int) := of_decide_eq_true hg
      obtain ⟨g1, g2, g3, g4, g5⟩ := hg
      obtain ⟨m, rfl⟩ := Int.eq_ofNat_of_zero_le g2
      simp only [rw_se, Int.toNat_natCast]
      exact loopCut l nl up c x nx f g1 ha _ m n rfl (by have : (m : Int) ≤ (l.length : Int) := g3; omega) g4 g5
    · cases h
  · obtain ⟨x, xs, rfl, h1, h⟩ := h.cons
    obtain ⟨y, ys, rfl, h2, h⟩ := h.cons
    obtain rfl := h.nil
    obtain ⟨l, nl, rfl, _, _⟩ := h1
    obtain ⟨cut, rfl, hc⟩ := h2
    obtain ⟨⟨l', nl', o', e, hb1⟩, _⟩ := hb
    simp only [X.sl.injEq, heq_eq_eq, true_and] at e
    obtain ⟨rfl, _⟩ := e
    have hr := wfD_int hc
    have e1 : IntKind.u16.min = 0 := by decide
    have e2 : IntKind.u16.max = 65535 := by decide
    have e3 : ebT (.int .i64) = 8 := by decide
    have e4 : reachBytes = 140737488351232 := by decide
    rw [e1, e2] at hr
    rw [e3, e4] at hb1
    refine ⟨_, cuts_core l nl cut ⟨hr.1, Int.lt_of_le_of_lt hr.2 (by decide)⟩ ?_⟩
    exact (by omega : ∀ n : Nat, n * 8 ≤ 140737488351232 → n ≤ 17592186044416) _ hb1

end Go.Proofs.YtnjlfeigcappjaaDoor.V

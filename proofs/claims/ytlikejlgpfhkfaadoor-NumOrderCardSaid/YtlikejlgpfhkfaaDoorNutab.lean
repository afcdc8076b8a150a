/-
  Chapter 05: the variables that the rows list lie where the evaluator reads them.
  It speaks of the pinned program alone; no condition.
-/
import Derived.Test.YtlikejlgpfhkfaaDoorRows
import Derived.Test.YtlikejlgpfhkfaaDoorT
import Derived.MakeChecks
import Derived.Stop.LaidErr
namespace Go.Proofs.YtlikejlgpfhkfaaDoor.V
open Go Go.ChangeShapes Go.WideShapes Go.ChangeAt Go.RowKit
set_option linter.unusedVariables false

theorem star : "*" ++ "errors.errorString" = "*errors.errorString" := by decide
theorem row64 (u : TypeId) (h : Tryd.prog.typeName? 3 u = some "*errors.errorString") : u = 64 :=
  typeName_ptr_named (nm := "errors.errorString") (by rw [star]; kernel_rfl) (by kernel_rfl) (by decide) u (by rw [star]; exact h)

theorem pow_data : (Rows.laid_internal_strconv_uint64pow10 : DataW Unit) = dataOf (.arr 20 (.int .u64)) powT := by kernel_rfl

theorem err_tab {W : World} {n : String} {g : Nat} {T : TypeId} {p : Value} (hg : Tryd.prog.globalNamed n = some g) (hv : W.var? Tryd.prog n = some #[.iface T p]) :
    (startG W).own g = none ∧ ∃ arr ty fr, W.heap[g]? = some (.cells arr ty fr) ∧ RepC W (mini (startG W).U) .err false arr.toList ∧ ∀ j, j < arr.size → j < (startG W).U g := by
  have hh : ∃ ty fr, W.heap[g]? = some (.cells #[.iface T p] ty fr) := by
    unfold World.var? at hv
    rw [hg, Option.bind_some] at hv
    split at hv
    · rename_i cs' ty fr e
      cases hv
      exact ⟨ty, fr, e⟩
    · cases hv
  obtain ⟨ty, fr, hh⟩ := hh
  refine ⟨rfl, _, ty, fr, hh, ⟨_, rfl, fun e => (by cases e), fun _ => ⟨_, _, rfl⟩⟩, fun j hj => ?_⟩
  obtain rfl : j = 0 := by simpa using hj
  have hc : W.cell? ⟨g, 0, none⟩ = some (Value.iface T p) := by simp [World.cell?, hh]
  exact (startG_U hc).2

theorem tabs_of {W : World} (hL : laidMetH Tryd.prog [("math/bits.deBruijn32tab", Rows.laid_math_bits_deBruijn32tab), ("math/bits.deBruijn64tab", Rows.laid_math_bits_deBruijn64tab), ("internal/strconv.uint64pow10", Rows.laid_internal_strconv_uint64pow10), ("strconv.ErrRange", Rows.laid_strconv_ErrRange), ("strconv.ErrSyntax", Rows.laid_strconv_ErrSyntax)] W) : Tabs (startG W) W := by
  rw [MakeChecks.laidMetH_plain _ _ _ (by kernel_rfl)] at hL
  have h3 := hL.tail.tail
  obtain ⟨ps, ⟨g1, t1, cs1, fuel1, p1, q1, hg1, ht1, hv1, hd1, _, _⟩, _, _⟩ := h3
  obtain rfl := Option.some.inj ((show Tryd.prog.globalNamed "internal/strconv.uint64pow10" = some 2 by kernel_rfl).symm.trans hg1)
  obtain rfl := Option.some.inj ((show (Tryd.prog.globals[2]?).map (·.type) = some 58 by kernel_rfl).symm.trans ht1)
  rw [pow_data] at hd1
  have hr : ∃ T p, W.var? Tryd.prog "strconv.ErrRange" = some #[.iface T p] := by
    have h4 := hL.tail.tail.tail
    obtain ⟨a1, s1, hv1, _⟩ := laid_sentinel (g := 1) h4 (by kernel_rfl) (show _ = some 34 by kernel_rfl) Tryd.underlying34 row64 Tryd.underlying64 Tryd.underlying66 rfl rfl Tryd.underlying9 (by kernel_rfl) (by kernel_rfl)
    exact ⟨_, _, hv1⟩
  have hs : ∃ T p, W.var? Tryd.prog "strconv.ErrSyntax" = some #[.iface T p] := by
    have h4 := hL.tail.tail.tail.tail
    obtain ⟨a1, s1, hv1, _⟩ := laid_sentinel (g := 0) h4 (by kernel_rfl) (show _ = some 34 by kernel_rfl) Tryd.underlying34 row64 Tryd.underlying64 Tryd.underlying66 rfl rfl Tryd.underlying9 (by kernel_rfl) (by kernel_rfl)
    exact ⟨_, _, hv1⟩
  obtain ⟨T1, p1, hr⟩ := hr
  obtain ⟨T2, p2, hs⟩ := hs
  intro i t x e
  unfold tabs at e
  split at e
  · cases e
    exact err_tab (by kernel_rfl) hs
  · cases e
    exact err_tab (by kernel_rfl) hr
  · cases e
    exact tab_of_laid hg1 (by kernel_rfl) rfl hv1 hd1
  · cases e

end Go.Proofs.YtlikejlgpfhkfaaDoor.V

/-
  Chapter 09: the tables that the rows list lie where the evaluator reads them.
  It speaks of the pinned program alone; no condition.
-/
import Derived.Test.YtaefpopjlmhmoaaDoorRows
import Derived.Test.YtaefpopjlmhmoaaDoorT
import Derived.MakeChecks
namespace Go.Proofs.YtaefpopjlmhmoaaDoor.V
open Go Go.ChangeShapes Go.WideShapes Go.ChangeAt Go.RowKit
set_option linter.unusedVariables false

theorem first_data : (Rows.laid_unicode_utf8_first : DataW Unit) = dataOf (.arr 256 (.int .u8)) firstT := by kernel_rfl
theorem accept_data : (Rows.laid_unicode_utf8_acceptRanges : DataW Unit) = dataOf (.arr 16 (.struct (.prod (.int .u8) (.prod (.int .u8) .unit)))) acceptT := by kernel_rfl

theorem tabs_of {W : World} (hL : laidMetH Tryd.prog [("unicode/utf8.acceptRanges", Rows.laid_unicode_utf8_acceptRanges), ("unicode/utf8.first", Rows.laid_unicode_utf8_first)] W) : Tabs (startG W) W := by
  rw [MakeChecks.laidMetH_plain _ _ _ (by kernel_rfl)] at hL
  obtain ⟨ps, ⟨g0, t0, cs0, fuel0, p0, q0, hg0, ht0, hv0, hd0, ⟨g1, t1, cs1, fuel1, p1, q1, hg1, ht1, hv1, hd1, _, _⟩, _⟩, _, _⟩ := hL
  obtain rfl := Option.some.inj ((show Tryd.prog.globalNamed "unicode/utf8.acceptRanges" = some 1 by kernel_rfl).symm.trans hg0)
  obtain rfl := Option.some.inj ((show (Tryd.prog.globals[1]?).map (·.type) = some 81 by kernel_rfl).symm.trans ht0)
  obtain rfl := Option.some.inj ((show Tryd.prog.globalNamed "unicode/utf8.first" = some 0 by kernel_rfl).symm.trans hg1)
  obtain rfl := Option.some.inj ((show (Tryd.prog.globals[0]?).map (·.type) = some 78 by kernel_rfl).symm.trans ht1)
  rw [accept_data] at hd0
  rw [first_data] at hd1
  intro i t x e
  unfold tabs at e
  split at e
  · cases e
    exact tab_of_laid hg1 (by kernel_rfl) rfl hv1 hd1
  · cases e
    exact tab_of_laid hg0 (by kernel_rfl) rfl hv0 hd0
  · cases e

end Go.Proofs.YtaefpopjlmhmoaaDoor.V

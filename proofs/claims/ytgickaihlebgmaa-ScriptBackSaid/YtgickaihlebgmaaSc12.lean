/-
  Chapter 23: what the statements' loop tells.
  It speaks of the pinned program alone; no condition.
-/
import Derived.Test.YtgickaihlebgmaaSc3
namespace Go.Proofs.Ytgickaihlebgmaa.V
open Go
set_option linter.unusedVariables false

def LbackF (A : Ar) : List X → Hp → Tr (Ex × List X × Hp)
  | [.sl (.struct (.prod (.int .i64) (.prod (.slice (.int .u8)) (.prod (.slice (.int .u8)) (.prod (.int .i64) (.prod (.int .u64) (.prod (.int .i64) .unit))))))) l nl false, .sl (.int .u8) b nb false, .d .bool up, .d .bool may, .d (.int .i64) i], [] =>
    .test (A.se (decide (l.length ≤ 100 ∧ 0 ≤ i ∧ i ≤ l.length)))
      (.give (.exit 0, [cms l nl false, u8s b nb false, boolx up, boolx (A.se (may && (l.drop i.toNat).all checkC)), .dead], [])) .no
  | _, _ => .no
def Lback (A : Ar) : Lp := fun k => match k with
  | 6 => some (116, [0, 1, 5, 6, 7], LbackF A)
  | _ => none

end Go.Proofs.Ytgickaihlebgmaa.V

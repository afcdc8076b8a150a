/-
  Chapter 14: what the loops of the statements tell.
  It speaks of the pinned program alone; no condition.
-/
import Derived.Test.YtnjjloffhbfenaaCrc3
namespace Go.Proofs.Ytnjjloffhbfenaa.V
open Go
set_option linter.unusedVariables false

def LthreeF (A : Ar) : List X → Hp → Tr (Ex × List X × Hp)
  | [.sl (.int .u8) a (some na) false, .sl (.int .u8) b (some nb) false, .sl (.int .u8) c (some nc) false, .d .bool up, .sl (.int .u8) d (some nd) true, .d (.int .i64) i], [] =>
    .test (A.se (bytesB a && (bytesB b && (bytesB c && decide (a.length ≤ 300 ∧ a.length ≤ b.length ∧ a.length ≤ c.length ∧ 0 ≤ i ∧ i ≤ a.length ∧ (d.length : Int) = i)))))
      (.give (.exit 0, [u8s a (some na) false, u8s b (some nb) false, u8s c (some nc) false, boolx up, u8s (A.se (d ++ xor3 (a.drop i.toNat) (b.drop i.toNat) (c.drop i.toNat))) (some (A.se (nd && (a.drop i.toNat).isEmpty))) true, i64x (A.se (a.length : Int))], [])) .no
  | _, _ => .no
def Lthree (A : Ar) : Lp := fun k => match k with
  | 6 => some (73, [0, 1, 2, 7, 8, 9], LthreeF A)
  | _ => none

end Go.Proofs.Ytnjjloffhbfenaa.V

/-
  Functions of Go's library on bytes: what they tell.
  It speaks of the pinned program alone; no condition.
-/
import Derived.Test.YtnjjloffhbfenaaB1
namespace Go.Proofs.Ytnjjloffhbfenaa.V
open Go
set_option linter.unusedVariables false

def cloneF (A : Ar) : List X → Tr X
  | [.sl (.int .u8) b (some nl) false] => .test (A.se (decide (b.length ≤ 1000000) && nlB nl b)) (.give (u8s b (some nl) true)) .no
  | _ => .no

def equalF (A : Ar) : List X → Tr X
  | [.sl (.int .u8) a (some na) false, .sl (.int .u8) b (some nb) false] => .test (A.se (decide (a.length ≤ 1000000))) (.give (boolx (A.se (decide (a = b))))) .no
  | _ => .no
def LeqF (A : Ar) : List X → Hp → Tr (Ex × List X × Hp)
  | [.sl (.int .u8) a (some na) false, .sl (.int .u8) b (some nb) false, .d .bool z, .d (.int .i64) l, .d (.int .i64) i], [] =>
    .test (A.se (decide (a.length ≤ 1000000 ∧ b.length = a.length ∧ l = a.length ∧ 0 ≤ i ∧ i ≤ l)))
      (.test (A.se (decide (a.drop i.toNat = b.drop i.toNat)))
        (.give (.exit 0, [u8s a (some na) false, u8s b (some nb) false, boolx z, i64x l, i64x l], []))
        (.give (.ret, [.dead, .dead, boolx false, .dead, .dead], []))) .no
  | _, _ => .no
def Leq (A : Ar) : Lp := fun k => match k with
  | 4 => some (26, [0, 1, 4, 12, 13], LeqF A)
  | _ => none

end Go.Proofs.Ytnjjloffhbfenaa.V

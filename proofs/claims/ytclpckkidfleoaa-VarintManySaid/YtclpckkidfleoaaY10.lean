/-
  Chapter 13's program: what the loops of the statement on many numbers tell.
  It speaks of the pinned program alone; no condition.
-/
import Derived.Test.YtclpckkidfleoaaY3
namespace Go.Proofs.Ytclpckkidfleoaa.V
open Go
set_option linter.unusedVariables false

def allU (l : List Int) : Bool := l.all isU64
/-- Numbers' bytes, one behind the other. -/
def encs (l : List Int) : List Int := (l.map fun x => vb x.toNat).flatten

def L6aF (A : Ar) : List X → Hp → Tr (Ex × List X × Hp)
  | [.sl (.int .u64) l (some nl) false, .sl (.int .u8) b (some nb) false, .d .bool up, .sl (.int .u8) c (some nc) true, .d (.int .i64) n, .d (.int .i64) i], [] =>
    .test (A.se (allU l && (decide (l.length ≤ 100 ∧ 0 ≤ i ∧ i ≤ l.length ∧ (c.length : Int) ≤ 10 * i ∧ n = c.length) && (!nc || c.isEmpty))))
      (.give (.exit 0, [u64s l (some nl) false, u8s b (some nb) false, boolx up, u8s (A.se (c ++ encs (l.drop i.toNat))) (some (A.se (nc && (l.drop i.toNat).isEmpty))) true, i64x (A.se ((c ++ encs (l.drop i.toNat)).length : Int)), i64x (A.se (l.length : Int))], [])) .no
  | _, _ => .no
def L6bF (A : Ar) : List X → Hp → Tr (Ex × List X × Hp)
  | [.sl (.int .u64) l (some nl) false, .sl (.int .u8) b (some nb) false, .d .bool up, .sl (.int .u8) c (some nc) oc, .d (.int .i64) n, .d (.int .i64) s, .d (.int .i64) i], [] =>
    .test (A.se (allU l && (bytesB b && (decide (l.length ≤ 100 ∧ b.length ≤ 1000 ∧ 0 ≤ i ∧ i ≤ l.length ∧ c = encs (l.drop i.toNat) ++ b) && (!nc || c.isEmpty)))))
      (.give (.exit 2, [u64s l (some nl) false, u8s b (some nb) false, boolx up, u8s b (some (A.se (nc && (l.drop i.toNat).isEmpty))) (A.se (oc && (l.drop i.toNat).isEmpty)), i64x n, i64x s, .dead], [])) .no
  | _, _ => .no
def L6 (A : Ar) : Lp := fun k => match k with
  | 7 => some (84, [0, 1, 5, 6, 7, 8], L6aF A)
  | 14 => some (84, [0, 1, 5, 6, 7, 9, 10], L6bF A)
  | _ => none

end Go.Proofs.Ytclpckkidfleoaa.V

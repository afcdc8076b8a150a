/-
  Chapter 01, utf: the loops of the statements.
  It speaks of the pinned program alone; no condition.
-/
import Derived.Test.YtnjlfeigcappjaaDoorUt15
namespace Go.Proofs.YtnjlfeigcappjaaDoor.V
open Go
set_option linter.unusedVariables false
set_option linter.unusedSimpArgs false

/-- How many first numbers two lists have alike. -/
def cpl : List Int → List Int → Nat
  | a :: r, b :: s => if a = b then cpl r s + 1 else 0
  | _, _ => 0
def LordF (A : Ar) : List X → Hp → Tr (Ex × List X × Hp)
  | [.sl (.int .i64) a nl false, .sl (.int .i64) b nl2 false, .d .bool up, .sl (.int .u8) x nx false, .sl (.int .u8) y ny false, .d (.int .i64) i], [] =>
    .test (A.se (decide (a.length ≤ 1000000 ∧ 0 ≤ i ∧ i ≤ a.length ∧ i ≤ b.length)))
      (.give (.exit 0, [.sl (.int .i64) a nl false, .sl (.int .i64) b nl2 false, boolx up, .sl (.int .u8) x nx false, .sl (.int .u8) y ny false, i64x (A.se (i + (cpl (a.drop i.toNat) (b.drop i.toNat) : Nat)))], [])) .no
  | _, _ => .no
def Lord (A : Ar) : Lp := fun k => match k with
  | 9 => some (93, [0, 1, 5, 6, 8, 10], LordF A)
  | _ => none
/-- How many bytes a number has, by its size. -/
def szN (n : Int) : Int := (if n ≥ 65536 then 1 else 0) + ((if n ≥ 2048 then 1 else 0) + ((if n ≥ 128 then 1 else 0) + 1))
def szs (l : List Int) : Int := (l.map szN).sum
def LsizF (A : Ar) : List X → Hp → Tr (Ex × List X × Hp)
  | [.sl (.int .i64) l nl false, .d .bool up, .sl (.int .u8) b nb false, .d (.int .i64) e, .d (.int .i64) n, .d .bool good, .d (.int .i64) i], [] =>
    .test (A.se (decide (l.length ≤ 1000000 ∧ 0 ≤ i ∧ i ≤ l.length ∧ 0 ≤ n ∧ n ≤ 4 * i)))
      (.give (.exit 0, [.dead, boolx up, .sl (.int .u8) b nb false, i64x e, i64x (A.se (n + szs (l.drop i.toNat))), boolx (A.se (good && (l.drop i.toNat).all goodN)), .dead], [])) .no
  | _, _ => .no
def Lsiz (A : Ar) : Lp := fun k => match k with
  | 8 => some (81, [0, 3, 4, 5, 6, 7, 8], LsizF A)
  | _ => none
/-- Signs' bytes, as many as do not reach a cut: how many bytes, how many signs. -/
def cutN (k : Int) : List Int → Int → Int × Nat
  | [], n => (n, 0)
  | c :: l, n => if n < k then ((cutN k l (n + (ub c).length)).1, (cutN k l (n + (ub c).length)).2 + 1) else (n, 0)
def LcutF (A : Ar) : List X → Hp → Tr (Ex × List X × Hp)
  | [.sl (.int .i64) l nl false, .d .bool up, .d (.int .i64) k, .sl (.int .i64) x nx false, .d (.int .i64) f, .d (.int .i64) n, .d (.int .i64) i], [] =>
    .test (A.se (decide (l.length ≤ 1000000 ∧ 0 ≤ i ∧ i ≤ l.length ∧ 0 ≤ n ∧ n ≤ 4 * i) && l.all goodN))
      (.give (.exit 0, [.sl (.int .i64) l nl false, boolx up, i64x k, .sl (.int .i64) x nx false, i64x f, i64x (A.se (cutN k (l.drop i.toNat) n).1), i64x (A.se (i + ((cutN k (l.drop i.toNat) n).2 : Nat)))], [])) .no
  | _, _ => .no
def Lcut (A : Ar) : Lp := fun k => match k with
  | 9 => some (86, [0, 5, 8, 9, 10, 11, 12], LcutF A)
  | _ => none


end Go.Proofs.YtnjlfeigcappjaaDoor.V

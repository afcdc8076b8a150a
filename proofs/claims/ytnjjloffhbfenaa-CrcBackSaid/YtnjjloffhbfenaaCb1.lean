/-
  Chapter 14, bits that are changed: what the statement's loop tells, and where its copy is opened.
  It speaks of the pinned program alone; no condition.
-/
import Derived.Test.YtnjjloffhbfenaaCrc3
namespace Go.Proofs.Ytnjjloffhbfenaa.V
open Go
set_option linter.unusedVariables false

def LbackF (A : Ar) : List X → Hp → Tr (Ex × List X × Hp)
  | [.sl (.int .u8) b (some nl) false, .d (.int .u32) w, .d .bool up, .sl (.int .u8) x (some nx) false, .d (.int .i64) e, .sl (.int .u8) y (some ny) false, .d (.int .i64) f, .mref (.int .u8) 0 [] 0 n, .d (.int .i64) fr, .d (.int .i64) i], [(.arr m (.int .u8), .d (.arr q (.int .u8)) l)] =>
    .test (A.se (bytesB l && (isU32 w && decide (l.length = n ∧ m = n ∧ q = n ∧ n ≤ 2000 ∧ 0 ≤ fr ∧ fr + 32 ≤ 8 * (n : Int) ∧ 0 ≤ i ∧ i ≤ 32))))
      (.give (.exit 0, [u8s b (some nl) false, u32x w, boolx up, u8s x (some nx) false, i64x e, u8s y (some ny) false, i64x f, .mref (.int .u8) 0 [] 0 n, i64x fr, i64x 32], [(.arr m (.int .u8), .d (.arr q (.int .u8)) (A.se (flips w.toNat fr.toNat (32 - i.toNat) i.toNat l)))])) .no
  | _, _ => .no
def Lback (A : Ar) : Lp := fun k => match k with
  | 12 => some (112, [0, 2, 7, 9, 10, 11, 12, 13, 14, 15], LbackF A)
  | _ => none

/-- The copy, opened where it is assigned, settled ahead of its last use. -/
def Mcb : Nat → Nat := fun d => match d with
  | 41 => 1
  | 13 => 2
  | 77 => 3
  | _ => 0

end Go.Proofs.Ytnjjloffhbfenaa.V

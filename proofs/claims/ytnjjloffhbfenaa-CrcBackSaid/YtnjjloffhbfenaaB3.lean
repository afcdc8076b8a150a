/-
  Functions of Go's library on bytes: their trees. By program; each equation is checked by the kernel.
  It speaks of the pinned program alone; no condition.
-/
import Derived.Test.YtnjjloffhbfenaaB2
namespace Go.Proofs.Ytnjjloffhbfenaa.V
open Go
set_option linter.unusedVariables false

theorem tClone (A : Ar) (O : OT) (b : List Int) (nl : Bool) : bodyX (Cx A O noL) 100 Try.f15 [u8s b (some nl) false] [] =
    (bif nl then some (X.sl (Ty.int IntKind.u8) [] (some true) true, [])
    else
      bif decide (((0 : Nat) + List.length b) * (1 : Nat) ≤ (140737488355328 : Nat)) then
        some (X.sl (Ty.int IntKind.u8) ([] ++ b) (some (false && List.isEmpty b)) true, [])
      else none) := by kernel_rfl
theorem tEqual (A : Ar) (O : OT) (a : List Int) (na : Bool) (b : List Int) (nb : Bool) : bodyX (Cx A O (Leq A)) 100 Try.f14 [u8s a (some na) false, u8s b (some nb) false] [] =
    (bif (↑(List.length a) : Int) != (↑(List.length b) : Int) then some (X.d Ty.bool false, [])
    else
      bif
          A.se
            (decide
              (List.length a ≤ (1000000 : Nat) ∧
                List.length b = List.length a ∧
                  (↑(List.length a) : Int) = (↑(List.length a) : Int) ∧
                    (0 : Int) ≤ (0 : Int) ∧ (0 : Int) ≤ (↑(List.length a) : Int))) then
        bif A.se (decide (List.drop (Int.toNat (0 : Int)) a = List.drop (Int.toNat (0 : Int)) b)) then
          some (X.d Ty.bool true, [])
        else some (X.d Ty.bool false, [])
      else none) := by kernel_rfl
theorem lEqual (A : Ar) (O : OT) (R : Type) (a : List Int) (na : Bool) (b : List Int) (nb z : Bool) (l i : Int) (k : Ex → List X → Hp → Option R) : stepF (Cx A O (Leq A)) 100 (loopAt Try.f14 0) 26 [0, 1, 4, 12, 13] [u8s a (some na) false, u8s b (some nb) false, boolx z, i64x l, i64x i] [] k =
    (bif decide (i < l) then
      bif decide ((0 : Int) ≤ i ∧ i < (↑(List.length a) : Int)) then
        bif decide ((0 : Int) ≤ i ∧ i < (↑(List.length b) : Int)) then
          bif
              List.getD a (Int.toNat i) (0 : Int) !=
                List.getD b (Int.toNat i) (0 : Int) then
            k Ex.ret
              [X.sl (Ty.int IntKind.u8) a (some na) false, X.sl (Ty.int IntKind.u8) b (some nb) false, X.d Ty.bool false,
                X.d (Ty.int IntKind.i64) l, X.d (Ty.int IntKind.i64) i]
              []
          else
            k Ex.normal
              [X.sl (Ty.int IntKind.u8) a (some na) false, X.sl (Ty.int IntKind.u8) b (some nb) false, X.d Ty.bool z,
                X.d (Ty.int IntKind.i64) l, X.d (Ty.int IntKind.i64) (A.wrap IntKind.i64 (i + (1 : Int)))]
              []
        else none
      else none
    else
      k (Ex.exit (0 : Nat))
        [X.sl (Ty.int IntKind.u8) a (some na) false, X.sl (Ty.int IntKind.u8) b (some nb) false, X.d Ty.bool z,
          X.d (Ty.int IntKind.i64) l, X.d (Ty.int IntKind.i64) i]
        []) := by kernel_rfl
end Go.Proofs.Ytnjjloffhbfenaa.V

/-
  Chapter 13's program: the trees of the statement on many numbers. By program; each equation is checked by the kernel.
  It speaks of the pinned program alone; no condition.
-/
import Derived.Test.YtclpckkidfleoaaY10
namespace Go.Proofs.Ytclpckkidfleoaa.V
open Go
set_option linter.unusedVariables false

theorem t6 (A : Ar) (l : List Int) (nl : Bool) (b : List Int) (nb : Bool) : bodyX (Cx A (O7 A) (L6 A)) 200 Try.f6 [u64s l (some nl) false, u8s b (some nb) false] [] =
    (bif decide ((↑(List.length l) : Int) > (100 : Int)) == false then
      bif decide ((↑(List.length b) : Int) > (1000 : Int)) then some (X.d Ty.bool true, [])
      else
        bif
            A.se
              (allU l &&
                (decide
                    (List.length l ≤ (100 : Nat) ∧
                      (0 : Int) ≤ (0 : Int) ∧
                        (0 : Int) ≤ (↑(List.length l) : Int) ∧
                          (↑(0 : Nat) : Int) ≤ (10 : Int) * (0 : Int) ∧
                            (0 : Int) = (↑(0 : Nat) : Int)) &&
                  (!true || true))) then
          bif
              decide
                ((List.length (A.se ([] ++ encs (List.drop (Int.toNat (0 : Int)) l))) + List.length b) * (1 : Nat) ≤
                  (140737488355328 : Nat)) then
            bif
                A.se
                  (allU l &&
                    (bytesB b &&
                      (decide
                          (List.length l ≤ (100 : Nat) ∧
                            List.length b ≤ (1000 : Nat) ∧
                              (0 : Int) ≤ (0 : Int) ∧
                                (0 : Int) ≤ (↑(List.length l) : Int) ∧
                                  A.se ([] ++ encs (List.drop (Int.toNat (0 : Int)) l)) ++ b =
                                    encs (List.drop (Int.toNat (0 : Int)) l) ++ b) &&
                        (!(A.se (true && List.isEmpty (List.drop (Int.toNat (0 : Int)) l)) && List.isEmpty b) ||
                          List.isEmpty (A.se ([] ++ encs (List.drop (Int.toNat (0 : Int)) l)) ++ b))))) then
              bif A.seq (strOf b) (strOf b) == true then
                some
                  (X.d Ty.bool
                      ((↑(List.length (A.se ([] ++ encs (List.drop (Int.toNat (0 : Int)) l)))) : Int) ==
                        A.se (↑(List.length ([] ++ encs (List.drop (Int.toNat (0 : Int)) l))) : Int)),
                    [])
              else some (X.d Ty.bool false, [])
            else none
          else none
        else none
    else some (X.d Ty.bool true, [])) := by kernel_rfl
theorem l6a (A : Ar) (R : Type) (l : List Int) (nl : Bool) (b : List Int) (nb up : Bool) (c : List Int) (nc : Bool) (n i : Int) (k : Ex → List X → Hp → Option R) : stepF (Cx A (O7 A) (L6 A)) 200 (loopAt Try.f6 0) 84 [0, 1, 5, 6, 7, 8] [u64s l (some nl) false, u8s b (some nb) false, boolx up, u8s c (some nc) true, i64x n, i64x i] [] k =
    (bif decide (i < (↑(List.length l) : Int)) then
      bif decide ((0 : Int) ≤ i ∧ i < (↑(List.length l) : Int)) then
        bif
            A.se
              (isU64 (List.getD l (Int.toNat i) (0 : Int)) &&
                (decide (List.length c ≤ (100000 : Nat)) && (!nc || List.isEmpty c))) then
          bif decide ((0 : Int) ≤ i ∧ i < (↑(List.length l) : Int)) then
            bif A.se (isU64 (List.getD l (Int.toNat i) (0 : Int))) then
              k Ex.normal
                [X.sl (Ty.int IntKind.u64) l (some nl) false, X.sl (Ty.int IntKind.u8) b (some nb) false, X.d Ty.bool up,
                  X.sl (Ty.int IntKind.u8)
                    (A.se (c ++ vb (Int.toNat (List.getD l (Int.toNat i) (0 : Int))))) (some false)
                    true,
                  X.d (Ty.int IntKind.i64)
                    (A.wrap IntKind.i64
                      (n +
                        A.se
                          (↑(List.length (vb (Int.toNat (List.getD l (Int.toNat i) (0 : Int))))) :
                            Int))),
                  X.d (Ty.int IntKind.i64) (A.wrap IntKind.i64 (i + (1 : Int)))]
                []
            else none
          else none
        else none
      else none
    else
      k (Ex.exit (0 : Nat))
        [X.sl (Ty.int IntKind.u64) l (some nl) false, X.sl (Ty.int IntKind.u8) b (some nb) false, X.d Ty.bool up,
          X.sl (Ty.int IntKind.u8) c (some nc) true, X.d (Ty.int IntKind.i64) n, X.d (Ty.int IntKind.i64) i]
        []) := by kernel_rfl
theorem l6b (A : Ar) (R : Type) (l : List Int) (nl : Bool) (b : List Int) (nb up : Bool) (c : List Int) (nc oc : Bool) (n s i : Int) (k : Ex → List X → Hp → Option R) : stepF (Cx A (O7 A) (L6 A)) 200 (loopAt Try.f6 1) 84 [0, 1, 5, 6, 7, 9, 10] [u64s l (some nl) false, u8s b (some nb) false, boolx up, u8s c (some nc) oc, i64x n, i64x s, i64x i] [] k =
    (bif decide (i < (↑(List.length l) : Int)) then
      bif A.se (decide (List.length c ≤ (100000 : Nat)) && (bytesB c && (!nc || List.isEmpty c))) then
        bif (A.se (tkE c) != (0 : Int)) == false then
          bif decide ((0 : Int) ≤ i ∧ i < (↑(List.length l) : Int)) then
            bif A.se (tkN c) != List.getD l (Int.toNat i) (0 : Int) then
              k Ex.ret
                [X.sl (Ty.int IntKind.u64) l (some nl) false, X.sl (Ty.int IntKind.u8) b (some nb) false, X.d Ty.bool up,
                  X.sl (Ty.int IntKind.u8) c (some nc) oc, X.d (Ty.int IntKind.i64) n, X.d (Ty.int IntKind.i64) s,
                  X.d (Ty.int IntKind.i64) i]
                []
            else
              k Ex.normal
                [X.sl (Ty.int IntKind.u64) l (some nl) false, X.sl (Ty.int IntKind.u8) b (some nb) false, X.d Ty.bool up,
                  X.sl (Ty.int IntKind.u8) (A.se (tkR c)) (some (A.se !tkB c)) false, X.d (Ty.int IntKind.i64) n,
                  X.d (Ty.int IntKind.i64) s, X.d (Ty.int IntKind.i64) (A.wrap IntKind.i64 (i + (1 : Int)))]
                []
          else none
        else
          k Ex.ret
            [X.sl (Ty.int IntKind.u64) l (some nl) false, X.sl (Ty.int IntKind.u8) b (some nb) false, X.d Ty.bool up,
              X.sl (Ty.int IntKind.u8) c (some nc) oc, X.d (Ty.int IntKind.i64) n, X.d (Ty.int IntKind.i64) s,
              X.d (Ty.int IntKind.i64) i]
            []
      else none
    else
      k (Ex.exit (2 : Nat))
        [X.sl (Ty.int IntKind.u64) l (some nl) false, X.sl (Ty.int IntKind.u8) b (some nb) false, X.d Ty.bool up,
          X.sl (Ty.int IntKind.u8) c (some nc) oc, X.d (Ty.int IntKind.i64) n, X.d (Ty.int IntKind.i64) s,
          X.d (Ty.int IntKind.i64) i]
        []) := by kernel_rfl
end Go.Proofs.Ytclpckkidfleoaa.V

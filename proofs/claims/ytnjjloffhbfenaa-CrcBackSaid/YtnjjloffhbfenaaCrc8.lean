/-
  Chapter 14: the statements' trees. By program; each equation is checked by the kernel.
  It speaks of the pinned program alone; no condition.
-/
import Derived.Test.YtnjjloffhbfenaaCrc7
namespace Go.Proofs.Ytnjjloffhbfenaa.V
open Go
set_option linter.unusedVariables false

theorem tTells (A : Ar) (b : List Int) (nl : Bool) : bodyX (Cx A (Oawake A) noL) 200 Try.f3 [u8s b (some nl) false] [] =
    (bif decide ((↑(List.length b) : Int) > (1000 : Int)) then some (X.d Ty.bool true, [])
    else
      bif A.se (decide (List.length b ≤ (100000 : Nat)) && (bytesB b && nlB nl b)) then
        bif A.se (decide (List.length b ≤ (100000 : Nat)) && (bytesB b && nlB nl b)) then
          bif A.se (decide (List.length b ≤ (100000 : Nat)) && bytesB b) then
            bif A.se (decide (List.length b ≤ (100000 : Nat)) && bytesB b) then
              bif (A.se (↑(sumB b) : Int) == A.se (↑(sumB b) : Int)) == true then
                bif A.se (decide (List.length b ≤ (100000 : Nat)) && (bytesB b && nlB nl b)) then
                  bif A.se (decide (List.length b ≤ (100000 : Nat)) && (bytesB b && nlB nl b)) then
                    bif A.seq (strOf (A.se (sealB b))) (strOf (A.se (sealB b))) == true then
                      bif A.seq (strOf (A.se (opR b))) (strOf (A.se (opR b))) == true then
                        some (X.d Ty.bool (A.se (opE b) == A.se (opE b)), [])
                      else some (X.d Ty.bool false, [])
                    else some (X.d Ty.bool false, [])
                  else none
                else none
              else some (X.d Ty.bool false, [])
            else none
          else none
        else none
      else none) := by kernel_rfl
theorem tSealLaw (A : Ar) (b : List Int) (nl : Bool) : bodyX (Cx A (Oawake A) noL) 200 Try.f6 [u8s b (some nl) false] [] =
    (bif decide ((↑(List.length b) : Int) > (1000 : Int)) then some (X.d Ty.bool true, [])
    else
      bif A.se (decide (List.length b ≤ (100000 : Nat)) && (bytesB b && nlB nl b)) then
        bif
            ((↑(List.length (A.se (sealB b))) : Int) == A.wrap IntKind.i64 ((↑(List.length b) : Int) + (4 : Int))) ==
              true then
          bif A.se (decide (List.length (A.se (sealB b)) ≤ (100000 : Nat)) && bytesB (A.se (sealB b))) then
            bif A.se (decide ((0 : Nat) ≤ (100000 : Nat)) && (bytesB [] && nlB true [])) then
              bif A.se (decide (List.length (A.se (sealB [])) ≤ (100000 : Nat)) && bytesB (A.se (sealB []))) then
                bif (A.se (↑(sumB (A.se (sealB b))) : Int) == A.se (↑(sumB (A.se (sealB []))) : Int)) == true then
                  bif
                      A.se
                        (decide (List.length (A.se (sealB b)) ≤ (100000 : Nat)) &&
                          (bytesB (A.se (sealB b)) && nlB false (A.se (sealB b)))) then
                    bif
                        A.se
                          (decide (List.length (A.se (sealB (A.se (sealB b)))) ≤ (100000 : Nat)) &&
                            bytesB (A.se (sealB (A.se (sealB b))))) then
                      bif A.se (decide (List.length (A.se (sealB b)) ≤ (100000 : Nat)) && bytesB (A.se (sealB b))) then
                        some
                          (X.d Ty.bool
                              (A.se (↑(sumB (A.se (sealB (A.se (sealB b))))) : Int) ==
                                A.se (↑(sumB (A.se (sealB b))) : Int)),
                            [])
                      else none
                    else none
                  else none
                else some (X.d Ty.bool false, [])
              else none
            else none
          else none
        else some (X.d Ty.bool false, [])
      else none) := by kernel_rfl
theorem tThree (A : Ar) (a : List Int) (na : Bool) (b : List Int) (nb : Bool) (c : List Int) (nc : Bool) : bodyX (Cx A (Oawake A) (Lthree A)) 200 Try.f5 [u8s a (some na) false, u8s b (some nb) false, u8s c (some nc) false] [] =
    (bif decide ((↑(List.length a) : Int) > (300 : Int)) == false then
      bif decide ((↑(List.length b) : Int) < (↑(List.length a) : Int)) == false then
        bif decide ((↑(List.length c) : Int) < (↑(List.length a) : Int)) then some (X.d Ty.bool true, [])
        else
          bif
              A.se
                (bytesB a &&
                  (bytesB b &&
                    (bytesB c &&
                      decide
                        (List.length a ≤ (300 : Nat) ∧
                          List.length a ≤ List.length b ∧
                            List.length a ≤ List.length c ∧
                              (0 : Int) ≤ (0 : Int) ∧
                                (0 : Int) ≤ (↑(List.length a) : Int) ∧
                                  (↑(0 : Nat) : Int) = (0 : Int))))) then
            bif
                A.se
                  (decide
                      (List.length
                          (A.se
                            ([] ++
                              xor3 (List.drop (Int.toNat (0 : Int)) a) (List.drop (Int.toNat (0 : Int)) b)
                                (List.drop (Int.toNat (0 : Int)) c))) ≤
                        (100000 : Nat)) &&
                    bytesB
                      (A.se
                        ([] ++
                          xor3 (List.drop (Int.toNat (0 : Int)) a) (List.drop (Int.toNat (0 : Int)) b)
                            (List.drop (Int.toNat (0 : Int)) c)))) then
              bif A.se (decide (List.length a ≤ (100000 : Nat)) && bytesB a) then
                bif
                    decide
                      ((0 : Int) ≤ (↑(List.length a) : Int) ∧
                        (↑(List.length a) : Int) ≤ (↑(List.length b) : Int)) then
                  bif
                      A.se
                        (decide (List.length (List.take (Int.toNat (↑(List.length a) : Int)) b) ≤ (100000 : Nat)) &&
                          bytesB (List.take (Int.toNat (↑(List.length a) : Int)) b)) then
                    bif
                        decide
                          ((0 : Int) ≤ (↑(List.length a) : Int) ∧
                            (↑(List.length a) : Int) ≤ (↑(List.length c) : Int)) then
                      bif
                          A.se
                            (decide (List.length (List.take (Int.toNat (↑(List.length a) : Int)) c) ≤ (100000 : Nat)) &&
                              bytesB (List.take (Int.toNat (↑(List.length a) : Int)) c)) then
                        some
                          (X.d Ty.bool
                              (A.se
                                  (↑(sumB
                                        (A.se
                                          ([] ++
                                            xor3 (List.drop (Int.toNat (0 : Int)) a) (List.drop (Int.toNat (0 : Int)) b)
                                              (List.drop (Int.toNat (0 : Int)) c)))) :
                                    Int) ==
                                A.wrap IntKind.u32
                                  (A.bxor (32 : Nat)
                                    (A.wrap IntKind.u32
                                      (A.bxor (32 : Nat) (A.se (↑(sumB a) : Int))
                                        (A.se (↑(sumB (List.take (Int.toNat (↑(List.length a) : Int)) b)) : Int))))
                                    (A.se (↑(sumB (List.take (Int.toNat (↑(List.length a) : Int)) c)) : Int)))),
                            [])
                      else none
                    else none
                  else none
                else none
              else none
            else none
          else none
      else some (X.d Ty.bool true, [])
    else some (X.d Ty.bool true, [])) := by kernel_rfl
theorem lThree (A : Ar) (R : Type) (a : List Int) (na : Bool) (b : List Int) (nb : Bool) (c : List Int) (nc up : Bool) (d : List Int) (nd : Bool) (i : Int) (k : Ex → List X → Hp → Option R) : stepF (Cx A (Oawake A) (Lthree A)) 200 (loopAt Try.f5 0) 73 [0, 1, 2, 7, 8, 9] [u8s a (some na) false, u8s b (some nb) false, u8s c (some nc) false, boolx up, u8s d (some nd) true, i64x i] [] k =
    (bif decide (i < (↑(List.length a) : Int)) then
      bif decide ((0 : Int) ≤ i ∧ i < (↑(List.length a) : Int)) then
        bif decide ((0 : Int) ≤ i ∧ i < (↑(List.length b) : Int)) then
          bif decide ((0 : Int) ≤ i ∧ i < (↑(List.length c) : Int)) then
            bif
                decide
                  ((List.length d +
                        List.length
                          [A.wrap IntKind.u8
                              (A.bxor (8 : Nat)
                                (A.wrap IntKind.u8
                                  (A.bxor (8 : Nat) (List.getD a (Int.toNat i) (0 : Int))
                                    (List.getD b (Int.toNat i) (0 : Int))))
                                (List.getD c (Int.toNat i) (0 : Int)))]) *
                      (1 : Nat) ≤
                    (140737488355328 : Nat)) then
              k Ex.normal
                [X.sl (Ty.int IntKind.u8) a (some na) false, X.sl (Ty.int IntKind.u8) b (some nb) false,
                  X.sl (Ty.int IntKind.u8) c (some nc) false, X.d Ty.bool up,
                  X.sl (Ty.int IntKind.u8)
                    (d ++
                      [A.wrap IntKind.u8
                          (A.bxor (8 : Nat)
                            (A.wrap IntKind.u8
                              (A.bxor (8 : Nat) (List.getD a (Int.toNat i) (0 : Int))
                                (List.getD b (Int.toNat i) (0 : Int))))
                            (List.getD c (Int.toNat i) (0 : Int)))])
                    (some
                      (nd &&
                        List.isEmpty
                          [A.wrap IntKind.u8
                              (A.bxor (8 : Nat)
                                (A.wrap IntKind.u8
                                  (A.bxor (8 : Nat) (List.getD a (Int.toNat i) (0 : Int))
                                    (List.getD b (Int.toNat i) (0 : Int))))
                                (List.getD c (Int.toNat i) (0 : Int)))]))
                    true,
                  X.d (Ty.int IntKind.i64) (A.wrap IntKind.i64 (i + (1 : Int)))]
                []
            else none
          else none
        else none
      else none
    else
      k (Ex.exit (0 : Nat))
        [X.sl (Ty.int IntKind.u8) a (some na) false, X.sl (Ty.int IntKind.u8) b (some nb) false,
          X.sl (Ty.int IntKind.u8) c (some nc) false, X.d Ty.bool up, X.sl (Ty.int IntKind.u8) d (some nd) true,
          X.d (Ty.int IntKind.i64) i]
        []) := by kernel_rfl
end Go.Proofs.Ytnjjloffhbfenaa.V

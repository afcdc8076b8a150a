/-
  Chapter 14: the tree of the statement on bits that are changed. By program; each equation is checked by the kernel.
  It speaks of the pinned program alone; no condition.
-/
import Derived.Test.YtnjjloffhbfenaaCb1
namespace Go.Proofs.Ytnjjloffhbfenaa.V
open Go
set_option linter.unusedVariables false

theorem lBack (A : Ar) (R : Type) (b : List Int) (nl : Bool) (w : Int) (up : Bool) (x : List Int) (nx : Bool) (e : Int) (y : List Int) (ny : Bool) (f : Int) (n : Nat) (fr i : Int) (l : List Int) (k : Ex → List X → Hp → Option R) : stepF (CxM A (Oawake A) (Lback A) Mcb) 200 (loopAt Try.f4 0) 112 [0, 2, 7, 9, 10, 11, 12, 13, 14, 15] [u8s b (some nl) false, u32x w, boolx up, u8s x (some nx) false, i64x e, u8s y (some ny) false, i64x f, .mref (.int .u8) 0 [] 0 n, i64x fr, i64x i] [(.arr n (.int .u8), .d (.arr n (.int .u8)) l)] k =
    (bif decide (i < (32 : Int)) then
      bif decide ((0 : Int) ≤ A.wrap IntKind.u64 i) then
        bif Int.tmod (Int.fdiv w (A.p2 (A.wrap IntKind.u64 i) (32 : Nat))) (2 : Int) == (1 : Int) then
          bif
              decide
                ((0 : Int) ≤ A.wrap IntKind.i64 (Int.tdiv (A.wrap IntKind.i64 (fr + i)) (8 : Int)) ∧
                  A.wrap IntKind.i64 (Int.tdiv (A.wrap IntKind.i64 (fr + i)) (8 : Int)) < (↑n : Int)) then
            bif
                decide
                  ((0 : Int) ≤
                    A.wrap IntKind.u64 (Int.tmod (A.wrap IntKind.i64 (fr + i)) (8 : Int))) then
              bif
                  decide
                    ((0 : Int) ≤ A.wrap IntKind.i64 (Int.tdiv (A.wrap IntKind.i64 (fr + i)) (8 : Int)) ∧
                      A.wrap IntKind.i64 (Int.tdiv (A.wrap IntKind.i64 (fr + i)) (8 : Int)) < (↑n : Int)) then
                k Ex.normal
                  [X.sl (Ty.int IntKind.u8) b (some nl) false, X.d (Ty.int IntKind.u32) w, X.d Ty.bool up,
                    X.sl (Ty.int IntKind.u8) x (some nx) false, X.d (Ty.int IntKind.i64) e,
                    X.sl (Ty.int IntKind.u8) y (some ny) false, X.d (Ty.int IntKind.i64) f,
                    X.mref (Ty.int IntKind.u8) (0 : Nat) [] (0 : Nat) n, X.d (Ty.int IntKind.i64) fr,
                    X.d (Ty.int IntKind.i64) (A.wrap IntKind.i64 (i + (1 : Int)))]
                  [(Ty.arr n (Ty.int IntKind.u8),
                      X.d (Ty.arr n (Ty.int IntKind.u8))
                        (List.set l
                          ((0 : Nat) + Int.toNat (A.wrap IntKind.i64 (Int.tdiv (A.wrap IntKind.i64 (fr + i)) (8 : Int))))
                          (A.wrap IntKind.u8
                            (A.bxor (8 : Nat)
                              (List.getD l
                                ((0 : Nat) +
                                  Int.toNat (A.wrap IntKind.i64 (Int.tdiv (A.wrap IntKind.i64 (fr + i)) (8 : Int))))
                                (0 : Int))
                              (A.wrap IntKind.u8
                                ((1 : Int) *
                                  A.p2 (A.wrap IntKind.u64 (Int.tmod (A.wrap IntKind.i64 (fr + i)) (8 : Int)))
                                    (8 : Nat)))))))]
              else none
            else none
          else none
        else
          k Ex.normal
            [X.sl (Ty.int IntKind.u8) b (some nl) false, X.d (Ty.int IntKind.u32) w, X.d Ty.bool up,
              X.sl (Ty.int IntKind.u8) x (some nx) false, X.d (Ty.int IntKind.i64) e,
              X.sl (Ty.int IntKind.u8) y (some ny) false, X.d (Ty.int IntKind.i64) f,
              X.mref (Ty.int IntKind.u8) (0 : Nat) [] (0 : Nat) n, X.d (Ty.int IntKind.i64) fr,
              X.d (Ty.int IntKind.i64) (A.wrap IntKind.i64 (i + (1 : Int)))]
            [(Ty.arr n (Ty.int IntKind.u8), X.d (Ty.arr n (Ty.int IntKind.u8)) l)]
      else none
    else
      k (Ex.exit (0 : Nat))
        [X.sl (Ty.int IntKind.u8) b (some nl) false, X.d (Ty.int IntKind.u32) w, X.d Ty.bool up,
          X.sl (Ty.int IntKind.u8) x (some nx) false, X.d (Ty.int IntKind.i64) e,
          X.sl (Ty.int IntKind.u8) y (some ny) false, X.d (Ty.int IntKind.i64) f,
          X.mref (Ty.int IntKind.u8) (0 : Nat) [] (0 : Nat) n, X.d (Ty.int IntKind.i64) fr, X.d (Ty.int IntKind.i64) i]
        [(Ty.arr n (Ty.int IntKind.u8), X.d (Ty.arr n (Ty.int IntKind.u8)) l)]) := by kernel_rfl
theorem tBack (A : Ar) (b : List Int) (nl : Bool) (at_ w : Int) : bodyX (CxM A (Oawake A) (Lback A) Mcb) 200 Try.f4 [u8s b (some nl) false, .d (.int .u16) at_, u32x w] [] =
    (bif decide ((↑(List.length b) : Int) > (1000 : Int)) then some (X.d Ty.bool true, [])
    else
      bif A.se (decide (List.length b ≤ (100000 : Nat)) && (bytesB b && nlB nl b)) then
        bif
            A.se
              (decide (List.length (A.se (sealB b)) ≤ (100000 : Nat)) &&
                (bytesB (A.se (sealB b)) && nlB false (A.se (sealB b)))) then
          bif A.se (decide (List.length b ≤ (100000 : Nat)) && (bytesB b && nlB nl b)) then
            bif decide ((↑(List.length (A.se (sealB b))) : Int) < (4 : Int)) then some (X.d Ty.bool false, [])
            else
              bif decide (((0 : Nat) + List.length (A.se (sealB b))) * (1 : Nat) ≤ (140737488355328 : Nat)) then
                bif List.isEmpty ([] ++ A.se (sealB b)) then
                  bif
                      decide
                        (A.wrap IntKind.i64
                            (A.wrap IntKind.i64 ((8 : Int) * (↑(List.length (A.se (sealB b))) : Int)) - (31 : Int)) =
                          (0 : Int)) then
                    none
                  else none
                else
                  bif
                      decide
                        (A.wrap IntKind.i64
                            (A.wrap IntKind.i64 ((8 : Int) * (↑(List.length (A.se (sealB b))) : Int)) - (31 : Int)) =
                          (0 : Int)) then
                    none
                  else
                    bif
                        A.se
                          (bytesB ([] ++ A.se (sealB b)) &&
                            (isU32 w &&
                              decide
                                (List.length ([] ++ A.se (sealB b)) = List.length ([] ++ A.se (sealB b)) ∧
                                  List.length ([] ++ A.se (sealB b)) = List.length ([] ++ A.se (sealB b)) ∧
                                    List.length ([] ++ A.se (sealB b)) = List.length ([] ++ A.se (sealB b)) ∧
                                      List.length ([] ++ A.se (sealB b)) ≤ (2000 : Nat) ∧
                                        (0 : Int) ≤
                                            Int.tmod (A.wrap IntKind.i64 at_)
                                              (A.wrap IntKind.i64
                                                (A.wrap IntKind.i64 ((8 : Int) * (↑(List.length (A.se (sealB b))) : Int)) -
                                                  (31 : Int))) ∧
                                          Int.tmod (A.wrap IntKind.i64 at_)
                                                  (A.wrap IntKind.i64
                                                    (A.wrap IntKind.i64
                                                        ((8 : Int) * (↑(List.length (A.se (sealB b))) : Int)) -
                                                      (31 : Int))) +
                                                (32 : Int) ≤
                                              (8 : Int) *
                                                (↑(List.length ([] ++ A.se (sealB b))) : Int) ∧
                                            (0 : Int) ≤ (0 : Int) ∧
                                              (0 : Int) ≤ (32 : Int)))) then
                      bif
                          A.se
                            (decide
                                (List.length
                                    (List.take (List.length ([] ++ A.se (sealB b)))
                                      (List.drop (0 : Nat)
                                        (A.se
                                          (flips (Int.toNat w)
                                            (Int.toNat
                                              (Int.tmod (A.wrap IntKind.i64 at_)
                                                (A.wrap IntKind.i64
                                                  (A.wrap IntKind.i64
                                                      ((8 : Int) * (↑(List.length (A.se (sealB b))) : Int)) -
                                                    (31 : Int)))))
                                            ((32 : Nat) - Int.toNat (0 : Int)) (Int.toNat (0 : Int))
                                            ([] ++ A.se (sealB b)))))) ≤
                                  (100000 : Nat)) &&
                              (bytesB
                                  (List.take (List.length ([] ++ A.se (sealB b)))
                                    (List.drop (0 : Nat)
                                      (A.se
                                        (flips (Int.toNat w)
                                          (Int.toNat
                                            (Int.tmod (A.wrap IntKind.i64 at_)
                                              (A.wrap IntKind.i64
                                                (A.wrap IntKind.i64 ((8 : Int) * (↑(List.length (A.se (sealB b))) : Int)) -
                                                  (31 : Int)))))
                                          ((32 : Nat) - Int.toNat (0 : Int)) (Int.toNat (0 : Int))
                                          ([] ++ A.se (sealB b)))))) &&
                                nlB false
                                  (List.take (List.length ([] ++ A.se (sealB b)))
                                    (List.drop (0 : Nat)
                                      (A.se
                                        (flips (Int.toNat w)
                                          (Int.toNat
                                            (Int.tmod (A.wrap IntKind.i64 at_)
                                              (A.wrap IntKind.i64
                                                (A.wrap IntKind.i64 ((8 : Int) * (↑(List.length (A.se (sealB b))) : Int)) -
                                                  (31 : Int)))))
                                          ((32 : Nat) - Int.toNat (0 : Int)) (Int.toNat (0 : Int))
                                          ([] ++ A.se (sealB b)))))))) then
                        bif (A.se (opE (A.se (sealB b))) == (0 : Int)) == true then
                          bif A.seq (strOf (A.se (opR (A.se (sealB b))))) (strOf b) == true then
                            bif (A.se (opE b) != (0 : Int)) == false then
                              bif
                                  A.se
                                    (decide (List.length (A.se (opR b)) ≤ (100000 : Nat)) &&
                                      (bytesB (A.se (opR b)) && nlB (A.se !openB b) (A.se (opR b)))) then
                                bif A.seq (strOf (A.se (sealB (A.se (opR b))))) (strOf b) == true then
                                  some
                                    (X.d Ty.bool
                                        ((A.se
                                              (opE
                                                (List.take (List.length ([] ++ A.se (sealB b)))
                                                  (List.drop (0 : Nat)
                                                    (A.se
                                                      (flips (Int.toNat w)
                                                        (Int.toNat
                                                          (Int.tmod (A.wrap IntKind.i64 at_)
                                                            (A.wrap IntKind.i64
                                                              (A.wrap IntKind.i64
                                                                  ((8 : Int) * (↑(List.length (A.se (sealB b))) : Int)) -
                                                                (31 : Int)))))
                                                        ((32 : Nat) - Int.toNat (0 : Int)) (Int.toNat (0 : Int))
                                                        ([] ++ A.se (sealB b))))))) ==
                                            (0 : Int)) ==
                                          (w == (0 : Int))),
                                      [(Ty.arr (List.length ([] ++ A.se (sealB b))) (Ty.int IntKind.u8), X.dead)])
                                else
                                  some
                                    (X.d Ty.bool false,
                                      [(Ty.arr (List.length ([] ++ A.se (sealB b))) (Ty.int IntKind.u8), X.dead)])
                              else none
                            else
                              some
                                (X.d Ty.bool
                                    ((A.se
                                          (opE
                                            (List.take (List.length ([] ++ A.se (sealB b)))
                                              (List.drop (0 : Nat)
                                                (A.se
                                                  (flips (Int.toNat w)
                                                    (Int.toNat
                                                      (Int.tmod (A.wrap IntKind.i64 at_)
                                                        (A.wrap IntKind.i64
                                                          (A.wrap IntKind.i64
                                                              ((8 : Int) * (↑(List.length (A.se (sealB b))) : Int)) -
                                                            (31 : Int)))))
                                                    ((32 : Nat) - Int.toNat (0 : Int)) (Int.toNat (0 : Int))
                                                    ([] ++ A.se (sealB b))))))) ==
                                        (0 : Int)) ==
                                      (w == (0 : Int))),
                                  [(Ty.arr (List.length ([] ++ A.se (sealB b))) (Ty.int IntKind.u8), X.dead)])
                          else
                            some
                              (X.d Ty.bool false,
                                [(Ty.arr (List.length ([] ++ A.se (sealB b))) (Ty.int IntKind.u8), X.dead)])
                        else
                          some
                            (X.d Ty.bool false, [(Ty.arr (List.length ([] ++ A.se (sealB b))) (Ty.int IntKind.u8), X.dead)])
                      else none
                    else none
              else none
          else none
        else none
      else none) := by kernel_rfl

end Go.Proofs.Ytnjjloffhbfenaa.V

/-
  Chapter 01, utf: trees of the statements. By program; each equation is checked by the kernel.
  It speaks of the pinned program alone; no condition.
-/
import Derived.Test.YtnjlfeigcappjaaDoorUt16
namespace Go.Proofs.YtnjlfeigcappjaaDoor.V
open Go
set_option linter.unusedVariables false
set_option linter.unusedSimpArgs false

theorem lOrd (A : Ar) (R : Type) (a : List Int) (nl : Option Bool) (b : List Int) (nl2 : Option Bool) (up : Bool) (x : List Int) (nx : Option Bool) (y : List Int) (ny : Option Bool) (i : Int) (k : Ex → List X → Hp → Option R) : stepF (Cx A (Out A) (Lord A)) 100 (loopAt Tryd.f5 0) 93 [0, 1, 5, 6, 8, 10] [i64s a nl false, i64s b nl2 false, boolx up, u8s x nx false, u8s y ny false, i64x i] [] k =
    (bif decide (i < (↑(List.length a) : Int)) == true then
      bif decide (i < (↑(List.length b) : Int)) == true then
        bif decide ((0 : Int) ≤ i ∧ i < (↑(List.length a) : Int)) then
          bif decide ((0 : Int) ≤ i ∧ i < (↑(List.length b) : Int)) then
            bif
                List.getD a (Int.toNat i) (0 : Int) ==
                  List.getD b (Int.toNat i) (0 : Int) then
              k Ex.normal
                [X.sl (Ty.int IntKind.i64) a nl false, X.sl (Ty.int IntKind.i64) b nl2 false, X.d Ty.bool up,
                  X.sl (Ty.int IntKind.u8) x nx false, X.sl (Ty.int IntKind.u8) y ny false,
                  X.d (Ty.int IntKind.i64) (A.wrap IntKind.i64 (i + (1 : Int)))]
                []
            else
              k (Ex.exit (0 : Nat))
                [X.sl (Ty.int IntKind.i64) a nl false, X.sl (Ty.int IntKind.i64) b nl2 false, X.d Ty.bool up,
                  X.sl (Ty.int IntKind.u8) x nx false, X.sl (Ty.int IntKind.u8) y ny false, X.d (Ty.int IntKind.i64) i]
                []
          else none
        else none
      else
        k (Ex.exit (0 : Nat))
          [X.sl (Ty.int IntKind.i64) a nl false, X.sl (Ty.int IntKind.i64) b nl2 false, X.d Ty.bool up,
            X.sl (Ty.int IntKind.u8) x nx false, X.sl (Ty.int IntKind.u8) y ny false, X.d (Ty.int IntKind.i64) i]
          []
    else
      k (Ex.exit (0 : Nat))
        [X.sl (Ty.int IntKind.i64) a nl false, X.sl (Ty.int IntKind.i64) b nl2 false, X.d Ty.bool up,
          X.sl (Ty.int IntKind.u8) x nx false, X.sl (Ty.int IntKind.u8) y ny false, X.d (Ty.int IntKind.i64) i]
        []) := by kernel_rfl
theorem lSiz (A : Ar) (R : Type) (l : List Int) (nl : Option Bool) (up : Bool) (b : List Int) (nb : Option Bool) (e n : Int) (good : Bool) (i : Int) (k : Ex → List X → Hp → Option R) : stepF (Cx A (Out A) (Lsiz A)) 100 (loopAt Tryd.f7 0) 81 [0, 3, 4, 5, 6, 7, 8] [i64s l nl false, boolx up, u8s b nb false, i64x e, i64x n, boolx good, i64x i] [] k =
    (bif decide (i < (↑(List.length l) : Int)) then
      bif good == true then
        bif decide ((0 : Int) ≤ i ∧ i < (↑(List.length l) : Int)) then
          bif decide ((0 : Int) ≤ i ∧ i < (↑(List.length l) : Int)) then
            bif decide (List.getD l (Int.toNat i) (0 : Int) ≥ (128 : Int)) then
              bif decide ((0 : Int) ≤ i ∧ i < (↑(List.length l) : Int)) then
                bif decide (List.getD l (Int.toNat i) (0 : Int) ≥ (2048 : Int)) then
                  bif decide ((0 : Int) ≤ i ∧ i < (↑(List.length l) : Int)) then
                    bif decide (List.getD l (Int.toNat i) (0 : Int) ≥ (65536 : Int)) then
                      k Ex.normal
                        [X.sl (Ty.int IntKind.i64) l nl false, X.d Ty.bool up, X.sl (Ty.int IntKind.u8) b nb false,
                          X.d (Ty.int IntKind.i64) e,
                          X.d (Ty.int IntKind.i64)
                            (A.wrap IntKind.i64
                              (A.wrap IntKind.i64
                                  (A.wrap IntKind.i64 (A.wrap IntKind.i64 (n + (1 : Int)) + (1 : Int)) + (1 : Int)) +
                                (1 : Int))),
                          X.d Ty.bool (A.se (goodN (List.getD l (Int.toNat i) (0 : Int)))),
                          X.d (Ty.int IntKind.i64) (A.wrap IntKind.i64 (i + (1 : Int)))]
                        []
                    else
                      k Ex.normal
                        [X.sl (Ty.int IntKind.i64) l nl false, X.d Ty.bool up, X.sl (Ty.int IntKind.u8) b nb false,
                          X.d (Ty.int IntKind.i64) e,
                          X.d (Ty.int IntKind.i64)
                            (A.wrap IntKind.i64
                              (A.wrap IntKind.i64 (A.wrap IntKind.i64 (n + (1 : Int)) + (1 : Int)) + (1 : Int))),
                          X.d Ty.bool (A.se (goodN (List.getD l (Int.toNat i) (0 : Int)))),
                          X.d (Ty.int IntKind.i64) (A.wrap IntKind.i64 (i + (1 : Int)))]
                        []
                  else none
                else
                  bif decide ((0 : Int) ≤ i ∧ i < (↑(List.length l) : Int)) then
                    bif decide (List.getD l (Int.toNat i) (0 : Int) ≥ (65536 : Int)) then
                      k Ex.normal
                        [X.sl (Ty.int IntKind.i64) l nl false, X.d Ty.bool up, X.sl (Ty.int IntKind.u8) b nb false,
                          X.d (Ty.int IntKind.i64) e,
                          X.d (Ty.int IntKind.i64)
                            (A.wrap IntKind.i64
                              (A.wrap IntKind.i64 (A.wrap IntKind.i64 (n + (1 : Int)) + (1 : Int)) + (1 : Int))),
                          X.d Ty.bool (A.se (goodN (List.getD l (Int.toNat i) (0 : Int)))),
                          X.d (Ty.int IntKind.i64) (A.wrap IntKind.i64 (i + (1 : Int)))]
                        []
                    else
                      k Ex.normal
                        [X.sl (Ty.int IntKind.i64) l nl false, X.d Ty.bool up, X.sl (Ty.int IntKind.u8) b nb false,
                          X.d (Ty.int IntKind.i64) e,
                          X.d (Ty.int IntKind.i64) (A.wrap IntKind.i64 (A.wrap IntKind.i64 (n + (1 : Int)) + (1 : Int))),
                          X.d Ty.bool (A.se (goodN (List.getD l (Int.toNat i) (0 : Int)))),
                          X.d (Ty.int IntKind.i64) (A.wrap IntKind.i64 (i + (1 : Int)))]
                        []
                  else none
              else none
            else
              bif decide ((0 : Int) ≤ i ∧ i < (↑(List.length l) : Int)) then
                bif decide (List.getD l (Int.toNat i) (0 : Int) ≥ (2048 : Int)) then
                  bif decide ((0 : Int) ≤ i ∧ i < (↑(List.length l) : Int)) then
                    bif decide (List.getD l (Int.toNat i) (0 : Int) ≥ (65536 : Int)) then
                      k Ex.normal
                        [X.sl (Ty.int IntKind.i64) l nl false, X.d Ty.bool up, X.sl (Ty.int IntKind.u8) b nb false,
                          X.d (Ty.int IntKind.i64) e,
                          X.d (Ty.int IntKind.i64)
                            (A.wrap IntKind.i64
                              (A.wrap IntKind.i64 (A.wrap IntKind.i64 (n + (1 : Int)) + (1 : Int)) + (1 : Int))),
                          X.d Ty.bool (A.se (goodN (List.getD l (Int.toNat i) (0 : Int)))),
                          X.d (Ty.int IntKind.i64) (A.wrap IntKind.i64 (i + (1 : Int)))]
                        []
                    else
                      k Ex.normal
                        [X.sl (Ty.int IntKind.i64) l nl false, X.d Ty.bool up, X.sl (Ty.int IntKind.u8) b nb false,
                          X.d (Ty.int IntKind.i64) e,
                          X.d (Ty.int IntKind.i64) (A.wrap IntKind.i64 (A.wrap IntKind.i64 (n + (1 : Int)) + (1 : Int))),
                          X.d Ty.bool (A.se (goodN (List.getD l (Int.toNat i) (0 : Int)))),
                          X.d (Ty.int IntKind.i64) (A.wrap IntKind.i64 (i + (1 : Int)))]
                        []
                  else none
                else
                  bif decide ((0 : Int) ≤ i ∧ i < (↑(List.length l) : Int)) then
                    bif decide (List.getD l (Int.toNat i) (0 : Int) ≥ (65536 : Int)) then
                      k Ex.normal
                        [X.sl (Ty.int IntKind.i64) l nl false, X.d Ty.bool up, X.sl (Ty.int IntKind.u8) b nb false,
                          X.d (Ty.int IntKind.i64) e,
                          X.d (Ty.int IntKind.i64) (A.wrap IntKind.i64 (A.wrap IntKind.i64 (n + (1 : Int)) + (1 : Int))),
                          X.d Ty.bool (A.se (goodN (List.getD l (Int.toNat i) (0 : Int)))),
                          X.d (Ty.int IntKind.i64) (A.wrap IntKind.i64 (i + (1 : Int)))]
                        []
                    else
                      k Ex.normal
                        [X.sl (Ty.int IntKind.i64) l nl false, X.d Ty.bool up, X.sl (Ty.int IntKind.u8) b nb false,
                          X.d (Ty.int IntKind.i64) e, X.d (Ty.int IntKind.i64) (A.wrap IntKind.i64 (n + (1 : Int))),
                          X.d Ty.bool (A.se (goodN (List.getD l (Int.toNat i) (0 : Int)))),
                          X.d (Ty.int IntKind.i64) (A.wrap IntKind.i64 (i + (1 : Int)))]
                        []
                  else none
              else none
          else none
        else none
      else
        bif decide ((0 : Int) ≤ i ∧ i < (↑(List.length l) : Int)) then
          bif decide (List.getD l (Int.toNat i) (0 : Int) ≥ (128 : Int)) then
            bif decide ((0 : Int) ≤ i ∧ i < (↑(List.length l) : Int)) then
              bif decide (List.getD l (Int.toNat i) (0 : Int) ≥ (2048 : Int)) then
                bif decide ((0 : Int) ≤ i ∧ i < (↑(List.length l) : Int)) then
                  bif decide (List.getD l (Int.toNat i) (0 : Int) ≥ (65536 : Int)) then
                    k Ex.normal
                      [X.sl (Ty.int IntKind.i64) l nl false, X.d Ty.bool up, X.sl (Ty.int IntKind.u8) b nb false,
                        X.d (Ty.int IntKind.i64) e,
                        X.d (Ty.int IntKind.i64)
                          (A.wrap IntKind.i64
                            (A.wrap IntKind.i64
                                (A.wrap IntKind.i64 (A.wrap IntKind.i64 (n + (1 : Int)) + (1 : Int)) + (1 : Int)) +
                              (1 : Int))),
                        X.d Ty.bool false, X.d (Ty.int IntKind.i64) (A.wrap IntKind.i64 (i + (1 : Int)))]
                      []
                  else
                    k Ex.normal
                      [X.sl (Ty.int IntKind.i64) l nl false, X.d Ty.bool up, X.sl (Ty.int IntKind.u8) b nb false,
                        X.d (Ty.int IntKind.i64) e,
                        X.d (Ty.int IntKind.i64)
                          (A.wrap IntKind.i64
                            (A.wrap IntKind.i64 (A.wrap IntKind.i64 (n + (1 : Int)) + (1 : Int)) + (1 : Int))),
                        X.d Ty.bool false, X.d (Ty.int IntKind.i64) (A.wrap IntKind.i64 (i + (1 : Int)))]
                      []
                else none
              else
                bif decide ((0 : Int) ≤ i ∧ i < (↑(List.length l) : Int)) then
                  bif decide (List.getD l (Int.toNat i) (0 : Int) ≥ (65536 : Int)) then
                    k Ex.normal
                      [X.sl (Ty.int IntKind.i64) l nl false, X.d Ty.bool up, X.sl (Ty.int IntKind.u8) b nb false,
                        X.d (Ty.int IntKind.i64) e,
                        X.d (Ty.int IntKind.i64)
                          (A.wrap IntKind.i64
                            (A.wrap IntKind.i64 (A.wrap IntKind.i64 (n + (1 : Int)) + (1 : Int)) + (1 : Int))),
                        X.d Ty.bool false, X.d (Ty.int IntKind.i64) (A.wrap IntKind.i64 (i + (1 : Int)))]
                      []
                  else
                    k Ex.normal
                      [X.sl (Ty.int IntKind.i64) l nl false, X.d Ty.bool up, X.sl (Ty.int IntKind.u8) b nb false,
                        X.d (Ty.int IntKind.i64) e,
                        X.d (Ty.int IntKind.i64) (A.wrap IntKind.i64 (A.wrap IntKind.i64 (n + (1 : Int)) + (1 : Int))),
                        X.d Ty.bool false, X.d (Ty.int IntKind.i64) (A.wrap IntKind.i64 (i + (1 : Int)))]
                      []
                else none
            else none
          else
            bif decide ((0 : Int) ≤ i ∧ i < (↑(List.length l) : Int)) then
              bif decide (List.getD l (Int.toNat i) (0 : Int) ≥ (2048 : Int)) then
                bif decide ((0 : Int) ≤ i ∧ i < (↑(List.length l) : Int)) then
                  bif decide (List.getD l (Int.toNat i) (0 : Int) ≥ (65536 : Int)) then
                    k Ex.normal
                      [X.sl (Ty.int IntKind.i64) l nl false, X.d Ty.bool up, X.sl (Ty.int IntKind.u8) b nb false,
                        X.d (Ty.int IntKind.i64) e,
                        X.d (Ty.int IntKind.i64)
                          (A.wrap IntKind.i64
                            (A.wrap IntKind.i64 (A.wrap IntKind.i64 (n + (1 : Int)) + (1 : Int)) + (1 : Int))),
                        X.d Ty.bool false, X.d (Ty.int IntKind.i64) (A.wrap IntKind.i64 (i + (1 : Int)))]
                      []
                  else
                    k Ex.normal
                      [X.sl (Ty.int IntKind.i64) l nl false, X.d Ty.bool up, X.sl (Ty.int IntKind.u8) b nb false,
                        X.d (Ty.int IntKind.i64) e,
                        X.d (Ty.int IntKind.i64) (A.wrap IntKind.i64 (A.wrap IntKind.i64 (n + (1 : Int)) + (1 : Int))),
                        X.d Ty.bool false, X.d (Ty.int IntKind.i64) (A.wrap IntKind.i64 (i + (1 : Int)))]
                      []
                else none
              else
                bif decide ((0 : Int) ≤ i ∧ i < (↑(List.length l) : Int)) then
                  bif decide (List.getD l (Int.toNat i) (0 : Int) ≥ (65536 : Int)) then
                    k Ex.normal
                      [X.sl (Ty.int IntKind.i64) l nl false, X.d Ty.bool up, X.sl (Ty.int IntKind.u8) b nb false,
                        X.d (Ty.int IntKind.i64) e,
                        X.d (Ty.int IntKind.i64) (A.wrap IntKind.i64 (A.wrap IntKind.i64 (n + (1 : Int)) + (1 : Int))),
                        X.d Ty.bool false, X.d (Ty.int IntKind.i64) (A.wrap IntKind.i64 (i + (1 : Int)))]
                      []
                  else
                    k Ex.normal
                      [X.sl (Ty.int IntKind.i64) l nl false, X.d Ty.bool up, X.sl (Ty.int IntKind.u8) b nb false,
                        X.d (Ty.int IntKind.i64) e, X.d (Ty.int IntKind.i64) (A.wrap IntKind.i64 (n + (1 : Int))),
                        X.d Ty.bool false, X.d (Ty.int IntKind.i64) (A.wrap IntKind.i64 (i + (1 : Int)))]
                      []
                else none
            else none
        else none
    else
      k (Ex.exit (0 : Nat))
        [X.sl (Ty.int IntKind.i64) l nl false, X.d Ty.bool up, X.sl (Ty.int IntKind.u8) b nb false,
          X.d (Ty.int IntKind.i64) e, X.d (Ty.int IntKind.i64) n, X.d Ty.bool good, X.d (Ty.int IntKind.i64) i]
        []) := by kernel_rfl
theorem lCut (A : Ar) (R : Type) (l : List Int) (nl : Option Bool) (up : Bool) (c : Int) (x : List Int) (nx : Option Bool) (f n i : Int) (k : Ex → List X → Hp → Option R) : stepF (Cx A (Out A) (Lcut A)) 100 (loopAt Tryd.f9 0) 86 [0, 5, 8, 9, 10, 11, 12] [i64s l nl false, boolx up, i64x c, i64s x nx false, i64x f, i64x n, i64x i] [] k =
    (bif decide (i < (↑(List.length l) : Int)) == true then
      bif decide (n < c) then
        bif
            decide
              ((0 : Int) ≤ A.wrap IntKind.i64 (i + (1 : Int)) ∧
                A.wrap IntKind.i64 (i + (1 : Int)) ≤ (↑(List.length l) : Int)) then
          bif decide ((0 : Int) ≤ i ∧ i ≤ A.wrap IntKind.i64 (i + (1 : Int))) then
            bif
                A.se
                  (decide
                    (List.length (List.drop (Int.toNat i) (List.take (Int.toNat (A.wrap IntKind.i64 (i + (1 : Int)))) l)) ≤
                      (17592186044416 : Nat))) then
              k Ex.normal
                [X.sl (Ty.int IntKind.i64) l nl false, X.d Ty.bool up, X.d (Ty.int IntKind.i64) c,
                  X.sl (Ty.int IntKind.i64) x nx false, X.d (Ty.int IntKind.i64) f,
                  X.d (Ty.int IntKind.i64)
                    (A.wrap IntKind.i64
                      (n +
                        (↑(List.length
                              (A.se
                                (putL
                                  (List.drop (Int.toNat i)
                                    (List.take (Int.toNat (A.wrap IntKind.i64 (i + (1 : Int)))) l))))) :
                          Int))),
                  X.d (Ty.int IntKind.i64) (A.wrap IntKind.i64 (i + (1 : Int)))]
                []
            else none
          else none
        else none
      else
        k (Ex.exit (0 : Nat))
          [X.sl (Ty.int IntKind.i64) l nl false, X.d Ty.bool up, X.d (Ty.int IntKind.i64) c,
            X.sl (Ty.int IntKind.i64) x nx false, X.d (Ty.int IntKind.i64) f, X.d (Ty.int IntKind.i64) n,
            X.d (Ty.int IntKind.i64) i]
          []
    else
      k (Ex.exit (0 : Nat))
        [X.sl (Ty.int IntKind.i64) l nl false, X.d Ty.bool up, X.d (Ty.int IntKind.i64) c,
          X.sl (Ty.int IntKind.i64) x nx false, X.d (Ty.int IntKind.i64) f, X.d (Ty.int IntKind.i64) n,
          X.d (Ty.int IntKind.i64) i]
        []) := by kernel_rfl
theorem tOrder (A : Ar) (a : List Int) (nl : Bool) (b : List Int) (nl2 : Bool) : bodyX (Cx A (Out A) (Lord A)) 100 Tryd.f5 [i64s a (some nl) false, i64s b (some nl2) false] [] =
    (bif decide ((↑(List.length a) : Int) > (1000 : Int)) == false then
      bif decide ((↑(List.length b) : Int) > (1000 : Int)) then some (X.d Ty.bool true, [])
      else
        bif A.se (decide (List.length a ≤ (17592186044416 : Nat))) then
          bif A.se (decide (List.length b ≤ (17592186044416 : Nat))) then
            bif (A.se (putE a) != (0 : Int)) == false then
              bif A.se (putE b) != (0 : Int) then some (X.d Ty.bool true, [])
              else
                bif
                    A.se
                      (decide
                        (List.length a ≤ (1000000 : Nat) ∧
                          (0 : Int) ≤ (0 : Int) ∧
                            (0 : Int) ≤ (↑(List.length a) : Int) ∧
                              (0 : Int) ≤ (↑(List.length b) : Int))) then
                  bif
                      decide
                          (A.se
                              ((0 : Int) +
                                (↑(cpl (List.drop (Int.toNat (0 : Int)) a) (List.drop (Int.toNat (0 : Int)) b)) : Int)) <
                            (↑(List.length b) : Int)) ==
                        true then
                    bif
                        (A.se
                              ((0 : Int) +
                                (↑(cpl (List.drop (Int.toNat (0 : Int)) a) (List.drop (Int.toNat (0 : Int)) b)) : Int)) ==
                            (↑(List.length a) : Int)) ==
                          false then
                      bif
                          decide
                            ((0 : Int) ≤
                                A.se
                                  ((0 : Int) +
                                    (↑(cpl (List.drop (Int.toNat (0 : Int)) a) (List.drop (Int.toNat (0 : Int)) b)) :
                                      Int)) ∧
                              A.se
                                  ((0 : Int) +
                                    (↑(cpl (List.drop (Int.toNat (0 : Int)) a) (List.drop (Int.toNat (0 : Int)) b)) :
                                      Int)) <
                                (↑(List.length a) : Int)) then
                        bif
                            decide
                              ((0 : Int) ≤
                                  A.se
                                    ((0 : Int) +
                                      (↑(cpl (List.drop (Int.toNat (0 : Int)) a) (List.drop (Int.toNat (0 : Int)) b)) :
                                        Int)) ∧
                                A.se
                                    ((0 : Int) +
                                      (↑(cpl (List.drop (Int.toNat (0 : Int)) a) (List.drop (Int.toNat (0 : Int)) b)) :
                                        Int)) <
                                  (↑(List.length b) : Int)) then
                          some
                            (X.d Ty.bool
                                (A.slt (strOf (A.se (putL a))) (strOf (A.se (putL b))) ==
                                  decide
                                    (List.getD a
                                        (Int.toNat
                                          (A.se
                                            ((0 : Int) +
                                              (↑(cpl (List.drop (Int.toNat (0 : Int)) a)
                                                    (List.drop (Int.toNat (0 : Int)) b)) :
                                                Int))))
                                        (0 : Int) <
                                      List.getD b
                                        (Int.toNat
                                          (A.se
                                            ((0 : Int) +
                                              (↑(cpl (List.drop (Int.toNat (0 : Int)) a)
                                                    (List.drop (Int.toNat (0 : Int)) b)) :
                                                Int))))
                                        (0 : Int))),
                              [])
                        else none
                      else none
                    else some (X.d Ty.bool (A.slt (strOf (A.se (putL a))) (strOf (A.se (putL b))) == true), [])
                  else some (X.d Ty.bool (A.slt (strOf (A.se (putL a))) (strOf (A.se (putL b))) == false), [])
                else none
            else some (X.d Ty.bool true, [])
          else none
        else none
    else some (X.d Ty.bool true, [])) := by kernel_rfl
theorem tSizes (A : Ar) (l : List Int) (nl : Bool) : bodyX (Cx A (Out A) (Lsiz A)) 100 Tryd.f7 [i64s l (some nl) false] [] =
    (bif decide ((↑(List.length l) : Int) > (1000 : Int)) then some (X.d Ty.bool true, [])
    else
      bif A.se (decide (List.length l ≤ (17592186044416 : Nat))) then
        bif
            A.se
              (decide
                (List.length l ≤ (1000000 : Nat) ∧
                  (0 : Int) ≤ (0 : Int) ∧
                    (0 : Int) ≤ (↑(List.length l) : Int) ∧
                      (0 : Int) ≤ (0 : Int) ∧
                        (0 : Int) ≤ (4 : Int) * (0 : Int))) then
          bif
              ((A.se (putE l) == (0 : Int)) == A.se (true && List.all (List.drop (Int.toNat (0 : Int)) l) goodN)) ==
                true then
            bif (!A.se (true && List.all (List.drop (Int.toNat (0 : Int)) l) goodN)) == true then
              bif ((↑(List.length (A.se (putL l))) : Int) == (0 : Int)) == false then
                bif A.se (true && List.all (List.drop (Int.toNat (0 : Int)) l) goodN) == true then
                  some
                    (X.d Ty.bool
                        ((↑(List.length (A.se (putL l))) : Int) ==
                          A.se ((0 : Int) + szs (List.drop (Int.toNat (0 : Int)) l))),
                      [])
                else some (X.d Ty.bool false, [])
              else some (X.d Ty.bool true, [])
            else
              bif A.se (true && List.all (List.drop (Int.toNat (0 : Int)) l) goodN) == true then
                some
                  (X.d Ty.bool
                      ((↑(List.length (A.se (putL l))) : Int) ==
                        A.se ((0 : Int) + szs (List.drop (Int.toNat (0 : Int)) l))),
                    [])
              else some (X.d Ty.bool false, [])
          else some (X.d Ty.bool false, [])
        else none
      else none) := by kernel_rfl
theorem tInside (A : Ar) (n k : Int) : bodyX (Cx A (Out A) noL) 100 Tryd.f8 [i64x n, u8x k] [] =
    (bif A.se (decide (List.length [n] ≤ (17592186044416 : Nat))) then
      bif (A.se (putE [n]) != (0 : Int)) == false then
        bif decide ((↑(List.length (A.se (putL [n]))) : Int) < (2 : Int)) then
          bif (A.se (putE [n]) == (10 : Int)) == true then
            bif (!A.se (goodN n)) == false then
              bif (A.se (putE [n]) == (0 : Int)) == true then
                bif ((↑(List.length (A.se (putL [n]))) : Int) == (1 : Int)) == true then
                  some (X.d Ty.bool (decide (n < (128 : Int))), [])
                else some (X.d Ty.bool false, [])
              else some (X.d Ty.bool false, [])
            else some (X.d Ty.bool true, [])
          else
            bif (A.se (putE [n]) == (0 : Int)) == true then
              bif ((↑(List.length (A.se (putL [n]))) : Int) == (1 : Int)) == true then
                some (X.d Ty.bool (decide (n < (128 : Int))), [])
              else some (X.d Ty.bool false, [])
            else some (X.d Ty.bool false, [])
        else
          bif
              decide
                (A.wrap IntKind.i64 ((↑(List.length (A.se (putL [n]))) : Int) - (1 : Int)) =
                  (0 : Int)) then
            none
          else
            bif
                decide
                  ((0 : Int) ≤
                      A.wrap IntKind.i64
                        ((1 : Int) +
                          Int.tmod (A.wrap IntKind.i64 k)
                            (A.wrap IntKind.i64 ((↑(List.length (A.se (putL [n]))) : Int) - (1 : Int)))) ∧
                    A.wrap IntKind.i64
                        ((1 : Int) +
                          Int.tmod (A.wrap IntKind.i64 k)
                            (A.wrap IntKind.i64 ((↑(List.length (A.se (putL [n]))) : Int) - (1 : Int)))) ≤
                      (↑(List.length (A.se (putL [n]))) : Int)) then
              bif
                  A.se
                    (bytesB
                      (List.drop
                        (Int.toNat
                          (A.wrap IntKind.i64
                            ((1 : Int) +
                              Int.tmod (A.wrap IntKind.i64 k)
                                (A.wrap IntKind.i64 ((↑(List.length (A.se (putL [n]))) : Int) - (1 : Int))))))
                        (A.se (putL [n])))) then
                bif
                    decide
                      ((0 : Int) ≤
                          A.wrap IntKind.i64
                            ((1 : Int) +
                              Int.tmod (A.wrap IntKind.i64 k)
                                (A.wrap IntKind.i64 ((↑(List.length (A.se (putL [n]))) : Int) - (1 : Int)))) ∧
                        A.wrap IntKind.i64
                            ((1 : Int) +
                              Int.tmod (A.wrap IntKind.i64 k)
                                (A.wrap IntKind.i64 ((↑(List.length (A.se (putL [n]))) : Int) - (1 : Int)))) ≤
                          (↑(List.length (A.se (putL [n]))) : Int)) then
                  bif
                      A.se
                        (bytesB
                            (List.drop
                              (Int.toNat
                                (A.wrap IntKind.i64
                                  ((1 : Int) +
                                    Int.tmod (A.wrap IntKind.i64 k)
                                      (A.wrap IntKind.i64 ((↑(List.length (A.se (putL [n]))) : Int) - (1 : Int))))))
                              (A.se (putL [n]))) &&
                          decide
                            (List.length
                                (List.drop
                                  (Int.toNat
                                    (A.wrap IntKind.i64
                                      ((1 : Int) +
                                        Int.tmod (A.wrap IntKind.i64 k)
                                          (A.wrap IntKind.i64 ((↑(List.length (A.se (putL [n]))) : Int) - (1 : Int))))))
                                  (A.se (putL [n]))) ≤
                              (1000000 : Nat))) then
                    bif
                        (A.se
                              (uE
                                (List.drop
                                  (Int.toNat
                                    (A.wrap IntKind.i64
                                      ((1 : Int) +
                                        Int.tmod (A.wrap IntKind.i64 k)
                                          (A.wrap IntKind.i64 ((↑(List.length (A.se (putL [n]))) : Int) - (1 : Int))))))
                                  (A.se (putL [n])))) ==
                            (10 : Int)) ==
                          true then
                      some
                        (X.d Ty.bool
                            (A.se
                                (rdE
                                  (List.drop
                                    (Int.toNat
                                      (A.wrap IntKind.i64
                                        ((1 : Int) +
                                          Int.tmod (A.wrap IntKind.i64 k)
                                            (A.wrap IntKind.i64 ((↑(List.length (A.se (putL [n]))) : Int) - (1 : Int))))))
                                    (A.se (putL [n])))) ==
                              (10 : Int)),
                          [])
                    else some (X.d Ty.bool false, [])
                  else none
                else none
              else none
            else none
      else
        bif (A.se (putE [n]) == (10 : Int)) == true then
          bif (!A.se (goodN n)) == false then
            bif (A.se (putE [n]) == (0 : Int)) == true then
              bif ((↑(List.length (A.se (putL [n]))) : Int) == (1 : Int)) == true then
                some (X.d Ty.bool (decide (n < (128 : Int))), [])
              else some (X.d Ty.bool false, [])
            else some (X.d Ty.bool false, [])
          else some (X.d Ty.bool true, [])
        else
          bif (A.se (putE [n]) == (0 : Int)) == true then
            bif ((↑(List.length (A.se (putL [n]))) : Int) == (1 : Int)) == true then
              some (X.d Ty.bool (decide (n < (128 : Int))), [])
            else some (X.d Ty.bool false, [])
          else some (X.d Ty.bool false, [])
    else none) := by kernel_rfl
theorem tCuts (A : Ar) (l : List Int) (nl : Bool) (cut : Int) : bodyX (Cx A (Out A) (Lcut A)) 100 Tryd.f9 [i64s l (some nl) false, u16x cut] [] =
    (bif A.se (decide (List.length l ≤ (17592186044416 : Nat))) then
      bif (A.se (putE l) != (0 : Int)) == false then
        bif decide ((↑(List.length l) : Int) > (1000 : Int)) then some (X.d Ty.bool true, [])
        else
          bif
              decide
                (A.wrap IntKind.i64 ((↑(List.length (A.se (putL l))) : Int) + (1 : Int)) =
                  (0 : Int)) then
            none
          else
            bif
                decide
                  ((0 : Int) ≤
                      Int.tmod (A.wrap IntKind.i64 cut)
                        (A.wrap IntKind.i64 ((↑(List.length (A.se (putL l))) : Int) + (1 : Int))) ∧
                    Int.tmod (A.wrap IntKind.i64 cut)
                        (A.wrap IntKind.i64 ((↑(List.length (A.se (putL l))) : Int) + (1 : Int))) ≤
                      (↑(List.length (A.se (putL l))) : Int)) then
              bif
                  A.se
                    (bytesB
                        (List.take
                          (Int.toNat
                            (Int.tmod (A.wrap IntKind.i64 cut)
                              (A.wrap IntKind.i64 ((↑(List.length (A.se (putL l))) : Int) + (1 : Int)))))
                          (A.se (putL l))) &&
                      decide
                        (List.length
                            (List.take
                              (Int.toNat
                                (Int.tmod (A.wrap IntKind.i64 cut)
                                  (A.wrap IntKind.i64 ((↑(List.length (A.se (putL l))) : Int) + (1 : Int)))))
                              (A.se (putL l))) ≤
                          (1000000 : Nat))) then
                bif
                    A.se
                      (decide
                          (List.length l ≤ (1000000 : Nat) ∧
                            (0 : Int) ≤ (0 : Int) ∧
                              (0 : Int) ≤ (↑(List.length l) : Int) ∧
                                (0 : Int) ≤ (0 : Int) ∧
                                  (0 : Int) ≤ (4 : Int) * (0 : Int)) &&
                        List.all l goodN) then
                  bif
                      ((A.se
                              (rdE
                                (List.take
                                  (Int.toNat
                                    (Int.tmod (A.wrap IntKind.i64 cut)
                                      (A.wrap IntKind.i64 ((↑(List.length (A.se (putL l))) : Int) + (1 : Int)))))
                                  (A.se (putL l)))) ==
                            (0 : Int)) ==
                          (A.se
                              (cutN
                                  (Int.tmod (A.wrap IntKind.i64 cut)
                                    (A.wrap IntKind.i64 ((↑(List.length (A.se (putL l))) : Int) + (1 : Int))))
                                  (List.drop (Int.toNat (0 : Int)) l) (0 : Int)).fst ==
                            Int.tmod (A.wrap IntKind.i64 cut)
                              (A.wrap IntKind.i64 ((↑(List.length (A.se (putL l))) : Int) + (1 : Int))))) ==
                        true then
                    bif
                        (A.se
                              (rdE
                                (List.take
                                  (Int.toNat
                                    (Int.tmod (A.wrap IntKind.i64 cut)
                                      (A.wrap IntKind.i64 ((↑(List.length (A.se (putL l))) : Int) + (1 : Int)))))
                                  (A.se (putL l)))) !=
                            (0 : Int)) ==
                          false then
                      bif
                          decide
                            ((0 : Int) ≤
                                A.se
                                  ((0 : Int) +
                                    (↑(cutN
                                            (Int.tmod (A.wrap IntKind.i64 cut)
                                              (A.wrap IntKind.i64 ((↑(List.length (A.se (putL l))) : Int) + (1 : Int))))
                                            (List.drop (Int.toNat (0 : Int)) l) (0 : Int)).snd :
                                      Int)) ∧
                              A.se
                                  ((0 : Int) +
                                    (↑(cutN
                                            (Int.tmod (A.wrap IntKind.i64 cut)
                                              (A.wrap IntKind.i64 ((↑(List.length (A.se (putL l))) : Int) + (1 : Int))))
                                            (List.drop (Int.toNat (0 : Int)) l) (0 : Int)).snd :
                                      Int)) ≤
                                (↑(List.length l) : Int)) then
                        bif
                            A.se
                              (decide
                                (List.length
                                    (A.se
                                      (rdL
                                        (List.take
                                          (Int.toNat
                                            (Int.tmod (A.wrap IntKind.i64 cut)
                                              (A.wrap IntKind.i64 ((↑(List.length (A.se (putL l))) : Int) + (1 : Int)))))
                                          (A.se (putL l))))) ≤
                                  (9223372036854775806 : Nat))) then
                          some
                            (X.d Ty.bool
                                (A.se
                                  (decide
                                    (A.se
                                        (rdL
                                          (List.take
                                            (Int.toNat
                                              (Int.tmod (A.wrap IntKind.i64 cut)
                                                (A.wrap IntKind.i64 ((↑(List.length (A.se (putL l))) : Int) + (1 : Int)))))
                                            (A.se (putL l)))) =
                                      List.take
                                        (Int.toNat
                                          (A.se
                                            ((0 : Int) +
                                              (↑(cutN
                                                      (Int.tmod (A.wrap IntKind.i64 cut)
                                                        (A.wrap IntKind.i64
                                                          ((↑(List.length (A.se (putL l))) : Int) + (1 : Int))))
                                                      (List.drop (Int.toNat (0 : Int)) l) (0 : Int)).snd :
                                                Int))))
                                        l))),
                              [])
                        else none
                      else none
                    else some (X.d Ty.bool true, [])
                  else some (X.d Ty.bool false, [])
                else none
              else none
            else none
      else some (X.d Ty.bool true, [])
    else none) := by kernel_rfl

end Go.Proofs.YtnjlfeigcappjaaDoor.V

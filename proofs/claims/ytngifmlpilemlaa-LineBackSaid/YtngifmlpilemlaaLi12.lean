/-
  Chapter 04, lines: the statements' trees. By program; each equation is checked by the kernel.
  It speaks of the pinned program alone; no condition.
-/
import Derived.Test.YtngifmlpilemlaaLi11
namespace Go.Proofs.Ytngifmlpilemlaa.V
open Go
set_option linter.unusedVariables false
set_option linter.unusedSimpArgs false

theorem lbLine (A : Ar) (R : Type) (l : List (List Int)) (nl : Option Bool) (b : List Int) (nl2 : Option Bool) (z u : Bool) (al : List Int) (x : Bool) (i : Int) (k : Ex → List X → Hp → Option R) : stepF (Cx A (Ol9 A) (Llb A)) 100 (loopAt Try.f3 0) 122 [0, 1, 4, 5, 6, 7] [sss l nl false, u8s b nl2 false, boolx z, boolx u, u8s al (some x) true, i64x i] [] k =
    (bif decide (i < (↑(List.length l) : Int)) then
      bif decide ((0 : Int) ≤ i ∧ i < (↑(List.length l) : Int)) then
        bif decide ((↑(List.length (List.getD l (Int.toNat i) (Ty.zero sT))) : Int) > (100 : Int)) then
          k Ex.ret
            [X.sl sT l nl false, X.sl (Ty.int IntKind.u8) b nl2 false, X.d Ty.bool u, X.d Ty.bool u,
              X.sl (Ty.int IntKind.u8) al (some x) true, X.d (Ty.int IntKind.i64) i]
            []
        else
          bif
              A.se
                (decide
                  ((0 : Int) ≤ i ∧
                    i < (↑(List.length l) : Int) ∧
                      (0 : Int) ≤ (0 : Int) ∧
                        (0 : Int) ≤ (↑(List.length (List.getD l (Int.toNat i) [])) : Int) ∧
                          List.length (List.getD l (Int.toNat i) []) ≤ (100 : Nat) ∧ List.length l ≤ (100 : Nat))) then
            bif A.se (noEnd (List.drop (Int.toNat (0 : Int)) (List.getD l (Int.toNat i) []))) then
              bif decide ((0 : Int) ≤ i ∧ i < (↑(List.length l) : Int)) then
                bif
                    decide
                      ((List.length al + List.length (List.getD l (Int.toNat i) (Ty.zero sT))) * (1 : Nat) ≤
                        (140737488355328 : Nat)) then
                  bif
                      decide
                        ((List.length (al ++ List.getD l (Int.toNat i) (Ty.zero sT)) + List.length [(10 : Int)]) *
                            (1 : Nat) ≤
                          (140737488355328 : Nat)) then
                    k Ex.normal
                      [X.sl sT l nl false, X.sl (Ty.int IntKind.u8) b nl2 false, X.d Ty.bool z, X.d Ty.bool u,
                        X.sl (Ty.int IntKind.u8) (al ++ List.getD l (Int.toNat i) (Ty.zero sT) ++ [(10 : Int)])
                          (some (x && List.isEmpty (List.getD l (Int.toNat i) (Ty.zero sT)) && List.isEmpty [(10 : Int)]))
                          true,
                        X.d (Ty.int IntKind.i64) (A.wrap IntKind.i64 (i + (1 : Int)))]
                      []
                  else none
                else none
              else none
            else
              k Ex.ret
                [X.sl sT l nl false, X.sl (Ty.int IntKind.u8) b nl2 false, X.d Ty.bool u, X.d Ty.bool u, X.dead, X.dead] []
          else none
      else none
    else
      k (Ex.exit (0 : Nat))
        [X.sl sT l nl false, X.sl (Ty.int IntKind.u8) b nl2 false, X.d Ty.bool z, X.d Ty.bool u,
          X.sl (Ty.int IntKind.u8) al (some x) true, X.d (Ty.int IntKind.i64) i]
        []) := by kernel_rfl
theorem lbScan (A : Ar) (R : Type) (l : List (List Int)) (nl : Option Bool) (b : List Int) (nl2 : Option Bool) (z u : Bool) (al : List Int) (x : Bool) (i j : Int) (k : Ex → List X → Hp → Option R) : stepF (Cx A (Ol9 A) (Llb A)) 100 (loopAt Try.f3 1) 122 [0, 1, 4, 5, 6, 7, 8] [sss l nl false, u8s b nl2 false, boolx z, boolx u, u8s al (some x) true, i64x i, i64x j] [] k =
    (bif decide ((0 : Int) ≤ i ∧ i < (↑(List.length l) : Int)) then
      bif decide (j < (↑(List.length (List.getD l (Int.toNat i) (Ty.zero sT))) : Int)) then
        bif decide ((0 : Int) ≤ i ∧ i < (↑(List.length l) : Int)) then
          bif decide ((0 : Int) ≤ j ∧ j < (↑(List.length (List.getD l (Int.toNat i) (Ty.zero sT))) : Int)) then
            bif
                List.getD (List.getD l (Int.toNat i) (Ty.zero sT)) (Int.toNat j) (0 : Int) ==
                  (10 : Int) then
              k Ex.ret
                [X.sl sT l nl false, X.sl (Ty.int IntKind.u8) b nl2 false, X.d Ty.bool u, X.d Ty.bool u,
                  X.sl (Ty.int IntKind.u8) al (some x) true, X.d (Ty.int IntKind.i64) i, X.d (Ty.int IntKind.i64) j]
                []
            else
              k Ex.normal
                [X.sl sT l nl false, X.sl (Ty.int IntKind.u8) b nl2 false, X.d Ty.bool z, X.d Ty.bool u,
                  X.sl (Ty.int IntKind.u8) al (some x) true, X.d (Ty.int IntKind.i64) i,
                  X.d (Ty.int IntKind.i64) (A.wrap IntKind.i64 (j + (1 : Int)))]
                []
          else none
        else none
      else
        k (Ex.exit (2 : Nat))
          [X.sl sT l nl false, X.sl (Ty.int IntKind.u8) b nl2 false, X.d Ty.bool z, X.d Ty.bool u,
            X.sl (Ty.int IntKind.u8) al (some x) true, X.d (Ty.int IntKind.i64) i, X.d (Ty.int IntKind.i64) j]
          []
    else none) := by kernel_rfl
theorem lcLine (A : Ar) (R : Type) (l : List (List Int)) (nl : Option Bool) (b : List Int) (nl2 : Option Bool) (z u : Bool) (al : List Int) (x : Bool) (s : List (List Int)) (nl3 : Option Bool) (n i : Int) (k : Ex → List X → Hp → Option R) : stepF (Cx A (Ol9 A) (Llb A)) 100 (loopAt Try.f3 2) 122 [0, 1, 4, 5, 6, 9, 10, 11] [sss l nl false, u8s b nl2 false, boolx z, boolx u, u8s al (some x) true, sss s nl3 false, i64x n, i64x i] [] k =
    (bif decide (i < (↑(List.length s) : Int)) then
      bif
          A.se
            (decide
                ((0 : Int) ≤ i ∧
                  i < (↑(List.length s) : Int) ∧
                    (0 : Int) ≤ (0 : Int) ∧
                      (0 : Int) ≤ (↑(List.length (List.getD s (Int.toNat i) [])) : Int) ∧
                        List.length (List.getD s (Int.toNat i) []) ≤ (1000 : Nat) ∧ List.length s ≤ (2000 : Nat)) &&
              noEnd (List.getD s (Int.toNat i) [])) then
        bif decide ((0 : Int) ≤ i ∧ i < (↑(List.length s) : Int)) then
          k Ex.normal
            [X.sl sT l nl false, X.sl (Ty.int IntKind.u8) b nl2 false, X.d Ty.bool z, X.d Ty.bool u,
              X.sl (Ty.int IntKind.u8) al (some x) true, X.sl sT s nl3 false,
              X.d (Ty.int IntKind.i64)
                (A.wrap IntKind.i64
                  (A.wrap IntKind.i64 (n + (↑(List.length (List.getD s (Int.toNat i) (Ty.zero sT))) : Int)) + (1 : Int))),
              X.d (Ty.int IntKind.i64) (A.wrap IntKind.i64 (i + (1 : Int)))]
            []
        else none
      else none
    else
      k (Ex.exit (4 : Nat))
        [X.sl sT l nl false, X.sl (Ty.int IntKind.u8) b nl2 false, X.d Ty.bool z, X.d Ty.bool u,
          X.sl (Ty.int IntKind.u8) al (some x) true, X.sl sT s nl3 false, X.d (Ty.int IntKind.i64) n,
          X.d (Ty.int IntKind.i64) i]
        []) := by kernel_rfl
theorem lcScan (A : Ar) (R : Type) (l : List (List Int)) (nl : Option Bool) (b : List Int) (nl2 : Option Bool) (z u : Bool) (al : List Int) (x : Bool) (s : List (List Int)) (nl3 : Option Bool) (n i j : Int) (k : Ex → List X → Hp → Option R) : stepF (Cx A (Ol9 A) (Llb A)) 100 (loopAt Try.f3 3) 122 [0, 1, 4, 5, 6, 9, 10, 11, 12] [sss l nl false, u8s b nl2 false, boolx z, boolx u, u8s al (some x) true, sss s nl3 false, i64x n, i64x i, i64x j] [] k =
    (bif decide ((0 : Int) ≤ i ∧ i < (↑(List.length s) : Int)) then
      bif decide (j < (↑(List.length (List.getD s (Int.toNat i) (Ty.zero sT))) : Int)) then
        bif decide ((0 : Int) ≤ i ∧ i < (↑(List.length s) : Int)) then
          bif decide ((0 : Int) ≤ j ∧ j < (↑(List.length (List.getD s (Int.toNat i) (Ty.zero sT))) : Int)) then
            bif
                List.getD (List.getD s (Int.toNat i) (Ty.zero sT)) (Int.toNat j) (0 : Int) ==
                  (10 : Int) then
              k Ex.ret
                [X.sl sT l nl false, X.sl (Ty.int IntKind.u8) b nl2 false, X.d Ty.bool false, X.d Ty.bool u,
                  X.sl (Ty.int IntKind.u8) al (some x) true, X.sl sT s nl3 false, X.d (Ty.int IntKind.i64) n,
                  X.d (Ty.int IntKind.i64) i, X.d (Ty.int IntKind.i64) j]
                []
            else
              k Ex.normal
                [X.sl sT l nl false, X.sl (Ty.int IntKind.u8) b nl2 false, X.d Ty.bool z, X.d Ty.bool u,
                  X.sl (Ty.int IntKind.u8) al (some x) true, X.sl sT s nl3 false, X.d (Ty.int IntKind.i64) n,
                  X.d (Ty.int IntKind.i64) i, X.d (Ty.int IntKind.i64) (A.wrap IntKind.i64 (j + (1 : Int)))]
                []
          else none
        else none
      else
        k (Ex.exit (6 : Nat))
          [X.sl sT l nl false, X.sl (Ty.int IntKind.u8) b nl2 false, X.d Ty.bool z, X.d Ty.bool u,
            X.sl (Ty.int IntKind.u8) al (some x) true, X.sl sT s nl3 false, X.d (Ty.int IntKind.i64) n,
            X.d (Ty.int IntKind.i64) i, X.d (Ty.int IntKind.i64) j]
          []
    else none) := by kernel_rfl
theorem tBack (A : Ar) (l : List (List Int)) (nl : Option Bool) (b : List Int) (nl2 : Option Bool) : bodyX (Cx A (Ol9 A) (Llb A)) 100 Try.f3 [sss l nl false, u8s b nl2 false] [] =
    (bif decide ((↑(List.length l) : Int) > (100 : Int)) == false then
      bif decide ((↑(List.length b) : Int) > (1000 : Int)) then some (X.d Ty.bool true, [])
      else
        bif
            A.se
              (decide
                ((0 : Int) ≤ (0 : Int) ∧
                  (0 : Int) ≤ (↑(List.length l) : Int) ∧
                    List.length l ≤ (100 : Nat) ∧ (↑(0 : Nat) : Int) ≤ (101 : Int) * (0 : Int))) then
          bif A.se (List.all (List.drop (Int.toNat (0 : Int)) l) goodE) then
            bif Ok A b nl2 then
              bif
                  A.se
                    (decide
                        ((0 : Int) ≤ (0 : Int) ∧
                          (0 : Int) ≤ (↑(List.length (A.se (splitL b))) : Int) ∧
                            List.length (A.se (splitL b)) ≤ (2000 : Nat) ∧
                              (0 : Int) ≤ (0 : Int) ∧
                                (0 : Int) ≤ (1001 : Int) * (0 : Int)) &&
                      List.all (A.se (splitL b)) fun q => decide (List.length q ≤ (1000 : Nat)) && noEnd q) then
                bif
                    (A.se ((0 : Int) + (↑(sumL (List.drop (Int.toNat (0 : Int)) (A.se (splitL b)))) : Int)) ==
                        (↑(List.length b) : Int)) ==
                      false then
                  bif
                      Ok A (A.se ([] ++ joinE (List.drop (Int.toNat (0 : Int)) l)))
                        (some (A.se (true && List.isEmpty (List.drop (Int.toNat (0 : Int)) l)))) then
                    bif
                        A.se
                          (bytesBB (A.se (splitL (A.se ([] ++ joinE (List.drop (Int.toNat (0 : Int)) l))))) &&
                            (bytesBB l &&
                              decide
                                (List.length (A.se (splitL (A.se ([] ++ joinE (List.drop (Int.toNat (0 : Int)) l))))) ≤
                                    (100000 : Nat) ∧
                                  List.length l ≤ (100000 : Nat)))) then
                      bif A.se (A.se (splitL (A.se ([] ++ joinE (List.drop (Int.toNat (0 : Int)) l)))) == l) == true then
                        bif
                            (A.se ((0 : Int) + (↑(sumL (List.drop (Int.toNat (0 : Int)) (A.se (splitL b)))) : Int)) ==
                                A.wrap IntKind.i64 ((↑(List.length b) : Int) + (1 : Int))) ==
                              false then
                          some (X.d Ty.bool ((↑(List.length b) : Int) == (0 : Int)), [])
                        else some (X.d Ty.bool true, [])
                      else some (X.d Ty.bool false, [])
                    else none
                  else none
                else
                  bif
                      Ok A (A.se ([] ++ joinE (List.drop (Int.toNat (0 : Int)) l)))
                        (some (A.se (true && List.isEmpty (List.drop (Int.toNat (0 : Int)) l)))) then
                    bif
                        A.se
                          (bytesBB (A.se (splitL (A.se ([] ++ joinE (List.drop (Int.toNat (0 : Int)) l))))) &&
                            (bytesBB l &&
                              decide
                                (List.length (A.se (splitL (A.se ([] ++ joinE (List.drop (Int.toNat (0 : Int)) l))))) ≤
                                    (100000 : Nat) ∧
                                  List.length l ≤ (100000 : Nat)))) then
                      bif A.se (A.se (splitL (A.se ([] ++ joinE (List.drop (Int.toNat (0 : Int)) l)))) == l) == true then
                        some (X.d Ty.bool true, [])
                      else some (X.d Ty.bool false, [])
                    else none
                  else none
              else none
            else none
          else some (X.d Ty.bool true, [])
        else none
    else some (X.d Ty.bool true, [])) := by kernel_rfl
theorem lfLine (A : Ar) (R : Type) (l : List (List Int)) (nl : Option Bool) (b : List Int) (nl2 : Option Bool) (z u : Bool) (al : List Int) (x : Bool) (i : Int) (k : Ex → List X → Hp → Option R) : stepF (Cx A (Ol9 A) (Llf A)) 100 (loopAt Try.f4 0) 121 [0, 1, 4, 5, 6, 7] [sss l nl false, u8s b nl2 false, boolx z, boolx u, u8s al (some x) true, i64x i] [] k =
    (bif decide (i < (↑(List.length l) : Int)) then
      bif decide ((0 : Int) ≤ i ∧ i < (↑(List.length l) : Int)) then
        bif ((↑(List.length (List.getD l (Int.toNat i) (Ty.zero sT))) : Int) == (0 : Int)) == false then
          bif decide ((0 : Int) ≤ i ∧ i < (↑(List.length l) : Int)) then
            bif decide ((↑(List.length (List.getD l (Int.toNat i) (Ty.zero sT))) : Int) > (100 : Int)) then
              k Ex.ret
                [X.sl sT l nl false, X.sl (Ty.int IntKind.u8) b nl2 false, X.d Ty.bool u, X.d Ty.bool u,
                  X.sl (Ty.int IntKind.u8) al (some x) true, X.d (Ty.int IntKind.i64) i]
                []
            else
              bif
                  A.se
                    (decide
                      ((0 : Int) ≤ i ∧
                        i < (↑(List.length l) : Int) ∧
                          (0 : Int) ≤ (0 : Int) ∧
                            (0 : Int) ≤ (↑(List.length (List.getD l (Int.toNat i) [])) : Int) ∧
                              List.length (List.getD l (Int.toNat i) []) ≤ (100 : Nat) ∧ List.length l ≤ (100 : Nat))) then
                bif A.se (noBl (List.drop (Int.toNat (0 : Int)) (List.getD l (Int.toNat i) []))) then
                  bif
                      A.se
                        (bytesB b &&
                          decide
                            ((0 : Int) ≤ i ∧
                              i ≤ (100 : Int) ∧
                                (0 : Int) ≤ (0 : Int) ∧
                                  (0 : Int) ≤ (↑(tabN b (Int.toNat i)) : Int) ∧ List.length al ≤ (100000 : Nat))) then
                    bif decide ((0 : Int) ≤ i ∧ i < (↑(List.length l) : Int)) then
                      bif
                          decide
                            ((List.length
                                    (A.se
                                      (al ++
                                        List.replicate (tabN b (Int.toNat i) - Int.toNat (0 : Int))
                                          (9 : Int))) +
                                  List.length (List.getD l (Int.toNat i) (Ty.zero sT))) *
                                (1 : Nat) ≤
                              (140737488355328 : Nat)) then
                        bif
                            decide
                              ((List.length
                                      (A.se
                                          (al ++
                                            List.replicate (tabN b (Int.toNat i) - Int.toNat (0 : Int))
                                              (9 : Int)) ++
                                        List.getD l (Int.toNat i) (Ty.zero sT)) +
                                    List.length [(32 : Int)]) *
                                  (1 : Nat) ≤
                                (140737488355328 : Nat)) then
                          k Ex.normal
                            [X.sl sT l nl false, X.sl (Ty.int IntKind.u8) b nl2 false, X.d Ty.bool z, X.d Ty.bool u,
                              X.sl (Ty.int IntKind.u8)
                                (A.se
                                      (al ++
                                        List.replicate (tabN b (Int.toNat i) - Int.toNat (0 : Int))
                                          (9 : Int)) ++
                                    List.getD l (Int.toNat i) (Ty.zero sT) ++
                                  [(32 : Int)])
                                (some
                                  (A.se (x && decide (tabN b (Int.toNat i) ≤ Int.toNat (0 : Int))) &&
                                      List.isEmpty (List.getD l (Int.toNat i) (Ty.zero sT)) &&
                                    List.isEmpty [(32 : Int)]))
                                true,
                              X.d (Ty.int IntKind.i64) (A.wrap IntKind.i64 (i + (1 : Int)))]
                            []
                        else none
                      else none
                    else none
                  else none
                else
                  k Ex.ret
                    [X.sl sT l nl false, X.sl (Ty.int IntKind.u8) b nl2 false, X.d Ty.bool u, X.d Ty.bool u, X.dead, X.dead]
                    []
              else none
          else none
        else
          k Ex.ret
            [X.sl sT l nl false, X.sl (Ty.int IntKind.u8) b nl2 false, X.d Ty.bool u, X.d Ty.bool u,
              X.sl (Ty.int IntKind.u8) al (some x) true, X.d (Ty.int IntKind.i64) i]
            []
      else none
    else
      k (Ex.exit (0 : Nat))
        [X.sl sT l nl false, X.sl (Ty.int IntKind.u8) b nl2 false, X.d Ty.bool z, X.d Ty.bool u,
          X.sl (Ty.int IntKind.u8) al (some x) true, X.d (Ty.int IntKind.i64) i]
        []) := by kernel_rfl
theorem lfScan (A : Ar) (R : Type) (l : List (List Int)) (nl : Option Bool) (b : List Int) (nl2 : Option Bool) (z u : Bool) (al : List Int) (x : Bool) (i j : Int) (k : Ex → List X → Hp → Option R) : stepF (Cx A (Ol9 A) (Llf A)) 100 (loopAt Try.f4 1) 121 [0, 1, 4, 5, 6, 7, 8] [sss l nl false, u8s b nl2 false, boolx z, boolx u, u8s al (some x) true, i64x i, i64x j] [] k =
    (bif decide ((0 : Int) ≤ i ∧ i < (↑(List.length l) : Int)) then
      bif decide (j < (↑(List.length (List.getD l (Int.toNat i) (Ty.zero sT))) : Int)) then
        bif decide ((0 : Int) ≤ i ∧ i < (↑(List.length l) : Int)) then
          bif decide ((0 : Int) ≤ j ∧ j < (↑(List.length (List.getD l (Int.toNat i) (Ty.zero sT))) : Int)) then
            bif
                (List.getD (List.getD l (Int.toNat i) (Ty.zero sT)) (Int.toNat j) (0 : Int) ==
                    (32 : Int)) ==
                  false then
              bif decide ((0 : Int) ≤ i ∧ i < (↑(List.length l) : Int)) then
                bif decide ((0 : Int) ≤ j ∧ j < (↑(List.length (List.getD l (Int.toNat i) (Ty.zero sT))) : Int)) then
                  bif
                      List.getD (List.getD l (Int.toNat i) (Ty.zero sT)) (Int.toNat j) (0 : Int) ==
                        (9 : Int) then
                    k Ex.ret
                      [X.sl sT l nl false, X.sl (Ty.int IntKind.u8) b nl2 false, X.d Ty.bool u, X.d Ty.bool u,
                        X.sl (Ty.int IntKind.u8) al (some x) true, X.d (Ty.int IntKind.i64) i, X.d (Ty.int IntKind.i64) j]
                      []
                  else
                    k Ex.normal
                      [X.sl sT l nl false, X.sl (Ty.int IntKind.u8) b nl2 false, X.d Ty.bool z, X.d Ty.bool u,
                        X.sl (Ty.int IntKind.u8) al (some x) true, X.d (Ty.int IntKind.i64) i,
                        X.d (Ty.int IntKind.i64) (A.wrap IntKind.i64 (j + (1 : Int)))]
                      []
                else none
              else none
            else
              k Ex.ret
                [X.sl sT l nl false, X.sl (Ty.int IntKind.u8) b nl2 false, X.d Ty.bool u, X.d Ty.bool u,
                  X.sl (Ty.int IntKind.u8) al (some x) true, X.d (Ty.int IntKind.i64) i, X.d (Ty.int IntKind.i64) j]
                []
          else none
        else none
      else
        k (Ex.exit (2 : Nat))
          [X.sl sT l nl false, X.sl (Ty.int IntKind.u8) b nl2 false, X.d Ty.bool z, X.d Ty.bool u,
            X.sl (Ty.int IntKind.u8) al (some x) true, X.d (Ty.int IntKind.i64) i, X.d (Ty.int IntKind.i64) j]
          []
    else none) := by kernel_rfl
theorem lfTabs (A : Ar) (R : Type) (l : List (List Int)) (nl : Option Bool) (b : List Int) (nl2 : Option Bool) (z u : Bool) (al : List Int) (x : Bool) (i j : Int) (k : Ex → List X → Hp → Option R) : stepF (Cx A (Ol9 A) (Llf A)) 100 (loopAt Try.f4 2) 121 [0, 1, 4, 5, 6, 7, 9] [sss l nl false, u8s b nl2 false, boolx z, boolx u, u8s al (some x) true, i64x i, i64x j] [] k =
    (bif decide (i < (↑(List.length b) : Int)) == true then
      bif decide ((0 : Int) ≤ i ∧ i < (↑(List.length b) : Int)) then
        bif
            decide
              (j < A.wrap IntKind.i64 (Int.tmod (List.getD b (Int.toNat i) (0 : Int)) (3 : Int))) then
          bif decide ((List.length al + List.length [(9 : Int)]) * (1 : Nat) ≤ (140737488355328 : Nat)) then
            k Ex.normal
              [X.sl sT l nl false, X.sl (Ty.int IntKind.u8) b nl2 false, X.d Ty.bool z, X.d Ty.bool u,
                X.sl (Ty.int IntKind.u8) (al ++ [(9 : Int)]) (some (x && List.isEmpty [(9 : Int)])) true,
                X.d (Ty.int IntKind.i64) i, X.d (Ty.int IntKind.i64) (A.wrap IntKind.i64 (j + (1 : Int)))]
              []
          else none
        else
          k (Ex.exit (4 : Nat))
            [X.sl sT l nl false, X.sl (Ty.int IntKind.u8) b nl2 false, X.d Ty.bool z, X.d Ty.bool u,
              X.sl (Ty.int IntKind.u8) al (some x) true, X.d (Ty.int IntKind.i64) i, X.d (Ty.int IntKind.i64) j]
            []
      else none
    else
      k (Ex.exit (4 : Nat))
        [X.sl sT l nl false, X.sl (Ty.int IntKind.u8) b nl2 false, X.d Ty.bool z, X.d Ty.bool u,
          X.sl (Ty.int IntKind.u8) al (some x) true, X.d (Ty.int IntKind.i64) i, X.d (Ty.int IntKind.i64) j]
        []) := by kernel_rfl
theorem tLFields (A : Ar) (l : List (List Int)) (nl : Option Bool) (b : List Int) (nl2 : Option Bool) : bodyX (Cx A (Ol9 A) (Llf A)) 100 Try.f4 [sss l nl false, u8s b nl2 false] [] =
    (bif decide ((↑(List.length l) : Int) > (100 : Int)) == false then
      bif decide ((↑(List.length b) : Int) > (300 : Int)) then some (X.d Ty.bool true, [])
      else
        bif
            A.se
              (bytesB b &&
                decide
                  ((0 : Int) ≤ (0 : Int) ∧
                    (0 : Int) ≤ (↑(List.length l) : Int) ∧
                      List.length l ≤ (100 : Nat) ∧ (↑(0 : Nat) : Int) ≤ (104 : Int) * (0 : Int))) then
          bif A.se (List.all (List.drop (Int.toNat (0 : Int)) l) goodB) then
            bif ((↑(List.length l) : Int) == (0 : Int)) == false then
              bif decide ((0 : Int) ≤ (0 : Int) ∧ (0 : Int) < (↑(List.length l) : Int)) then
                bif
                    decide
                      ((0 : Int) ≤ (0 : Int) ∧
                        (0 : Int) < (↑(List.length (List.getD l (Int.toNat (0 : Int)) (Ty.zero sT))) : Int)) then
                  bif
                      Ok A (A.se ([] ++ joinF b (Int.toNat (0 : Int)) (List.drop (Int.toNat (0 : Int)) l)))
                        (some (A.se (true && List.isEmpty (List.drop (Int.toNat (0 : Int)) l)))) then
                    bif
                        A.se
                          (bytesBB
                              (A.se
                                (fieldsL
                                  (A.se ([] ++ joinF b (Int.toNat (0 : Int)) (List.drop (Int.toNat (0 : Int)) l))))) &&
                            (bytesBB l &&
                              decide
                                (List.length
                                      (A.se
                                        (fieldsL
                                          (A.se
                                            ([] ++ joinF b (Int.toNat (0 : Int)) (List.drop (Int.toNat (0 : Int)) l))))) ≤
                                    (100000 : Nat) ∧
                                  List.length l ≤ (100000 : Nat)))) then
                      bif
                          A.se
                              (A.se
                                  (fieldsL
                                    (A.se ([] ++ joinF b (Int.toNat (0 : Int)) (List.drop (Int.toNat (0 : Int)) l)))) ==
                                l) ==
                            true then
                        bif
                            Ok A (A.se ([] ++ joinF b (Int.toNat (0 : Int)) (List.drop (Int.toNat (0 : Int)) l)))
                              (some (A.se (true && List.isEmpty (List.drop (Int.toNat (0 : Int)) l)))) then
                          some
                            (X.d Ty.bool
                                (A.se
                                    (bareB
                                      (A.se ([] ++ joinF b (Int.toNat (0 : Int)) (List.drop (Int.toNat (0 : Int)) l)))) ==
                                  (List.getD (List.getD l (Int.toNat (0 : Int)) (Ty.zero sT)) (Int.toNat (0 : Int))
                                      (0 : Int) ==
                                    (35 : Int))),
                              [])
                        else none
                      else some (X.d Ty.bool false, [])
                    else none
                  else none
                else none
              else none
            else
              bif
                  Ok A (A.se ([] ++ joinF b (Int.toNat (0 : Int)) (List.drop (Int.toNat (0 : Int)) l)))
                    (some (A.se (true && List.isEmpty (List.drop (Int.toNat (0 : Int)) l)))) then
                bif
                    A.se
                      (bytesBB
                          (A.se
                            (fieldsL (A.se ([] ++ joinF b (Int.toNat (0 : Int)) (List.drop (Int.toNat (0 : Int)) l))))) &&
                        (bytesBB l &&
                          decide
                            (List.length
                                  (A.se
                                    (fieldsL
                                      (A.se ([] ++ joinF b (Int.toNat (0 : Int)) (List.drop (Int.toNat (0 : Int)) l))))) ≤
                                (100000 : Nat) ∧
                              List.length l ≤ (100000 : Nat)))) then
                  bif
                      A.se
                          (A.se
                              (fieldsL (A.se ([] ++ joinF b (Int.toNat (0 : Int)) (List.drop (Int.toNat (0 : Int)) l)))) ==
                            l) ==
                        true then
                    bif
                        Ok A (A.se ([] ++ joinF b (Int.toNat (0 : Int)) (List.drop (Int.toNat (0 : Int)) l)))
                          (some (A.se (true && List.isEmpty (List.drop (Int.toNat (0 : Int)) l)))) then
                      some
                        (X.d Ty.bool
                            (A.se
                                (bareB (A.se ([] ++ joinF b (Int.toNat (0 : Int)) (List.drop (Int.toNat (0 : Int)) l)))) ==
                              true),
                          [])
                    else none
                  else some (X.d Ty.bool false, [])
                else none
              else none
          else some (X.d Ty.bool true, [])
        else none
    else some (X.d Ty.bool true, [])) := by kernel_rfl
theorem lsMap (A : Ar) (R : Type) (l : List Int) (nl : Option Bool) (z u : Bool) (o : List Int) (x : Bool) (i : Int) (k : Ex → List X → Hp → Option R) : stepF (Cx A (Ol9 A) (Lls A)) 100 (loopAt Try.f5 0) 92 [0, 2, 3, 4, 5] [u8s l nl false, boolx z, boolx u, u8s o (some x) true, i64x i] [] k =
    (bif decide (i < (↑(List.length l) : Int)) then
      bif decide ((0 : Int) ≤ i ∧ i < (↑(List.length l) : Int)) then
        bif (List.getD l (Int.toNat i) (0 : Int) == (9 : Int)) == false then
          bif List.getD l (Int.toNat i) (0 : Int) == (32 : Int) then
            bif
                decide
                  ((List.length o +
                        List.length
                          [A.wrap IntKind.u8 ((41 : Int) - List.getD l (Int.toNat i) (0 : Int))]) *
                      (1 : Nat) ≤
                    (140737488355328 : Nat)) then
              k Ex.normal
                [X.sl (Ty.int IntKind.u8) l nl false, X.d Ty.bool z, X.d Ty.bool u,
                  X.sl (Ty.int IntKind.u8)
                    (o ++ [A.wrap IntKind.u8 ((41 : Int) - List.getD l (Int.toNat i) (0 : Int))])
                    (some
                      (x &&
                        List.isEmpty
                          [A.wrap IntKind.u8 ((41 : Int) - List.getD l (Int.toNat i) (0 : Int))]))
                    true,
                  X.d (Ty.int IntKind.i64) (A.wrap IntKind.i64 (i + (1 : Int)))]
                []
            else none
          else
            bif
                decide
                  ((List.length o + List.length [List.getD l (Int.toNat i) (0 : Int)]) * (1 : Nat) ≤
                    (140737488355328 : Nat)) then
              k Ex.normal
                [X.sl (Ty.int IntKind.u8) l nl false, X.d Ty.bool z, X.d Ty.bool u,
                  X.sl (Ty.int IntKind.u8) (o ++ [List.getD l (Int.toNat i) (0 : Int)])
                    (some (x && List.isEmpty [List.getD l (Int.toNat i) (0 : Int)])) true,
                  X.d (Ty.int IntKind.i64) (A.wrap IntKind.i64 (i + (1 : Int)))]
                []
            else none
        else
          bif
              decide
                ((List.length o +
                      List.length
                        [A.wrap IntKind.u8 ((41 : Int) - List.getD l (Int.toNat i) (0 : Int))]) *
                    (1 : Nat) ≤
                  (140737488355328 : Nat)) then
            k Ex.normal
              [X.sl (Ty.int IntKind.u8) l nl false, X.d Ty.bool z, X.d Ty.bool u,
                X.sl (Ty.int IntKind.u8)
                  (o ++ [A.wrap IntKind.u8 ((41 : Int) - List.getD l (Int.toNat i) (0 : Int))])
                  (some
                    (x &&
                      List.isEmpty
                        [A.wrap IntKind.u8 ((41 : Int) - List.getD l (Int.toNat i) (0 : Int))]))
                  true,
                X.d (Ty.int IntKind.i64) (A.wrap IntKind.i64 (i + (1 : Int)))]
              []
          else none
      else none
    else
      k (Ex.exit (0 : Nat))
        [X.sl (Ty.int IntKind.u8) l nl false, X.d Ty.bool z, X.d Ty.bool u, X.sl (Ty.int IntKind.u8) o (some x) true,
          X.d (Ty.int IntKind.i64) i]
        []) := by kernel_rfl
theorem lsLine (A : Ar) (R : Type) (l : List Int) (nl : Option Bool) (z u : Bool) (o : List Int) (x : Bool) (f : List (List Int)) (nl3 : Option Bool) (i : Int) (k : Ex → List X → Hp → Option R) : stepF (Cx A (Ol9 A) (Lls A)) 100 (loopAt Try.f5 1) 92 [0, 2, 3, 4, 7, 8] [u8s l nl false, boolx z, boolx u, u8s o (some x) true, sss f nl3 false, i64x i] [] k =
    (bif decide (i < (↑(List.length f) : Int)) then
      bif
          A.se
            (decide
                ((0 : Int) ≤ i ∧
                  i < (↑(List.length f) : Int) ∧
                    (0 : Int) ≤ (0 : Int) ∧
                      (0 : Int) ≤ (↑(List.length (List.getD f (Int.toNat i) [])) : Int) ∧
                        List.length (List.getD f (Int.toNat i) []) ≤ (1000 : Nat) ∧ List.length f ≤ (2000 : Nat)) &&
              noBl (List.getD f (Int.toNat i) [])) then
        bif decide ((0 : Int) ≤ i ∧ i < (↑(List.length f) : Int)) then
          bif (↑(List.length (List.getD f (Int.toNat i) (Ty.zero sT))) : Int) == (0 : Int) then
            k Ex.ret
              [X.sl (Ty.int IntKind.u8) l nl false, X.d Ty.bool false, X.d Ty.bool u,
                X.sl (Ty.int IntKind.u8) o (some x) true, X.sl sT f nl3 false, X.d (Ty.int IntKind.i64) i]
              []
          else
            k Ex.normal
              [X.sl (Ty.int IntKind.u8) l nl false, X.d Ty.bool z, X.d Ty.bool u, X.sl (Ty.int IntKind.u8) o (some x) true,
                X.sl sT f nl3 false, X.d (Ty.int IntKind.i64) (A.wrap IntKind.i64 (i + (1 : Int)))]
              []
        else none
      else none
    else
      k (Ex.exit (2 : Nat))
        [X.sl (Ty.int IntKind.u8) l nl false, X.d Ty.bool z, X.d Ty.bool u, X.sl (Ty.int IntKind.u8) o (some x) true,
          X.sl sT f nl3 false, X.d (Ty.int IntKind.i64) i]
        []) := by kernel_rfl
theorem lsScan (A : Ar) (R : Type) (l : List Int) (nl : Option Bool) (z u : Bool) (o : List Int) (x : Bool) (f : List (List Int)) (nl3 : Option Bool) (i j : Int) (k : Ex → List X → Hp → Option R) : stepF (Cx A (Ol9 A) (Lls A)) 100 (loopAt Try.f5 2) 92 [0, 2, 3, 4, 7, 8, 9] [u8s l nl false, boolx z, boolx u, u8s o (some x) true, sss f nl3 false, i64x i, i64x j] [] k =
    (bif decide ((0 : Int) ≤ i ∧ i < (↑(List.length f) : Int)) then
      bif decide (j < (↑(List.length (List.getD f (Int.toNat i) (Ty.zero sT))) : Int)) then
        bif decide ((0 : Int) ≤ i ∧ i < (↑(List.length f) : Int)) then
          bif decide ((0 : Int) ≤ j ∧ j < (↑(List.length (List.getD f (Int.toNat i) (Ty.zero sT))) : Int)) then
            bif
                (List.getD (List.getD f (Int.toNat i) (Ty.zero sT)) (Int.toNat j) (0 : Int) ==
                    (9 : Int)) ==
                  false then
              bif decide ((0 : Int) ≤ i ∧ i < (↑(List.length f) : Int)) then
                bif decide ((0 : Int) ≤ j ∧ j < (↑(List.length (List.getD f (Int.toNat i) (Ty.zero sT))) : Int)) then
                  bif
                      List.getD (List.getD f (Int.toNat i) (Ty.zero sT)) (Int.toNat j) (0 : Int) ==
                        (32 : Int) then
                    k Ex.ret
                      [X.sl (Ty.int IntKind.u8) l nl false, X.d Ty.bool false, X.d Ty.bool u,
                        X.sl (Ty.int IntKind.u8) o (some x) true, X.sl sT f nl3 false, X.d (Ty.int IntKind.i64) i,
                        X.d (Ty.int IntKind.i64) j]
                      []
                  else
                    k Ex.normal
                      [X.sl (Ty.int IntKind.u8) l nl false, X.d Ty.bool z, X.d Ty.bool u,
                        X.sl (Ty.int IntKind.u8) o (some x) true, X.sl sT f nl3 false, X.d (Ty.int IntKind.i64) i,
                        X.d (Ty.int IntKind.i64) (A.wrap IntKind.i64 (j + (1 : Int)))]
                      []
                else none
              else none
            else
              k Ex.ret
                [X.sl (Ty.int IntKind.u8) l nl false, X.d Ty.bool false, X.d Ty.bool u,
                  X.sl (Ty.int IntKind.u8) o (some x) true, X.sl sT f nl3 false, X.d (Ty.int IntKind.i64) i,
                  X.d (Ty.int IntKind.i64) j]
                []
          else none
        else none
      else
        k (Ex.exit (4 : Nat))
          [X.sl (Ty.int IntKind.u8) l nl false, X.d Ty.bool z, X.d Ty.bool u, X.sl (Ty.int IntKind.u8) o (some x) true,
            X.sl sT f nl3 false, X.d (Ty.int IntKind.i64) i, X.d (Ty.int IntKind.i64) j]
          []
    else none) := by kernel_rfl
theorem tBlanks (A : Ar) (l : List Int) (nl : Option Bool) : bodyX (Cx A (Ol9 A) (Lls A)) 100 Try.f5 [u8s l nl false] [] =
    (bif decide ((↑(List.length l) : Int) > (1000 : Int)) then some (X.d Ty.bool true, [])
    else
      bif
          A.se
            (bytesB l &&
              decide
                ((0 : Int) ≤ (0 : Int) ∧
                  (0 : Int) ≤ (↑(List.length l) : Int) ∧
                    List.length l ≤ (1000 : Nat) ∧ (↑(0 : Nat) : Int) ≤ (0 : Int))) then
        bif Ok A l nl then
          bif
              A.se
                (decide
                    ((0 : Int) ≤ (0 : Int) ∧
                      (0 : Int) ≤ (↑(List.length (A.se (fieldsL l))) : Int) ∧
                        List.length (A.se (fieldsL l)) ≤ (2000 : Nat)) &&
                  List.all (A.se (fieldsL l)) fun q =>
                    !List.isEmpty q && (decide (List.length q ≤ (1000 : Nat)) && noBl q)) then
            bif
                Ok A (A.se ([] ++ List.map sw (List.drop (Int.toNat (0 : Int)) l)))
                  (some (A.se (true && List.isEmpty (List.drop (Int.toNat (0 : Int)) l)))) then
              bif
                  A.se
                    (bytesBB (A.se (fieldsL (A.se ([] ++ List.map sw (List.drop (Int.toNat (0 : Int)) l))))) &&
                      (bytesBB (A.se (fieldsL l)) &&
                        decide
                          (List.length (A.se (fieldsL (A.se ([] ++ List.map sw (List.drop (Int.toNat (0 : Int)) l))))) ≤
                              (100000 : Nat) ∧
                            List.length (A.se (fieldsL l)) ≤ (100000 : Nat)))) then
                bif
                    A.se
                        (A.se (fieldsL (A.se ([] ++ List.map sw (List.drop (Int.toNat (0 : Int)) l)))) ==
                          A.se (fieldsL l)) ==
                      true then
                  bif
                      Ok A (A.se ([] ++ List.map sw (List.drop (Int.toNat (0 : Int)) l)))
                        (some (A.se (true && List.isEmpty (List.drop (Int.toNat (0 : Int)) l)))) then
                    bif Ok A l nl then
                      some
                        (X.d Ty.bool
                            (A.se (bareB (A.se ([] ++ List.map sw (List.drop (Int.toNat (0 : Int)) l)))) == A.se (bareB l)),
                          [])
                    else none
                  else none
                else some (X.d Ty.bool false, [])
              else none
            else none
          else none
        else none
      else none) := by kernel_rfl

end Go.Proofs.Ytngifmlpilemlaa.V

/-
  Chapter 01, utf: each function's tree. By program; each equation is checked by the kernel.
  It speaks of the pinned program alone; no condition.
-/
import Derived.Test.YtnjlfeigcappjaaDoorUt3
namespace Go.Proofs.YtnjlfeigcappjaaDoor.V
open Go
set_option linter.unusedVariables false
set_option linter.unusedSimpArgs false

theorem tGood (A : Ar) (n : Int) : bodyX (Cx A noO noL) 100 Tryd.f18 [.d (.int .i64) n] [] =
    (bif decide (n < (0 : Int)) then some (X.d Ty.bool false, [])
    else
      bif decide (n > (1114111 : Int)) then some (X.d Ty.bool false, [])
      else
        bif decide (n ≥ (55296 : Int)) then some (X.d Ty.bool (decide (n > (57343 : Int))), [])
        else some (X.d Ty.bool true, [])) := by kernel_rfl
theorem tRGood (A : Ar) (n : Int) : bodyX (Cx A noO noL) 100 Tryd.f19 [.d (.int .i64) n] [] =
    (bif decide (n ≥ (0 : Int)) == true then
      bif decide (n ≤ (1114111 : Int)) == true then
        bif decide (n < (55296 : Int)) == false then some (X.d Ty.bool (decide (n > (57343 : Int))), [])
        else some (X.d Ty.bool true, [])
      else some (X.d Ty.bool false, [])
    else some (X.d Ty.bool false, [])) := by kernel_rfl
theorem tROne (A : Ar) (n : Int) : bodyX (Cx A noO noL) 100 Tryd.f21 [.d (.int .i64) n] [] =
    (bif decide (n < (128 : Int)) then some (X.sl (Ty.int IntKind.u8) [A.wrap IntKind.u8 n] (some false) true, [])
    else
      bif decide (n < (2048 : Int)) then
        some
          (X.sl (Ty.int IntKind.u8)
              [A.wrap IntKind.u8 (A.wrap IntKind.i64 ((192 : Int) + A.wrap IntKind.i64 (Int.tdiv n (64 : Int)))),
                A.wrap IntKind.u8 (A.wrap IntKind.i64 ((128 : Int) + Int.tmod n (64 : Int)))]
              (some false) true,
            [])
      else
        bif decide (n < (65536 : Int)) then
          some
            (X.sl (Ty.int IntKind.u8)
                [A.wrap IntKind.u8 (A.wrap IntKind.i64 ((224 : Int) + A.wrap IntKind.i64 (Int.tdiv n (4096 : Int)))),
                  A.wrap IntKind.u8
                    (A.wrap IntKind.i64 ((128 : Int) + Int.tmod (A.wrap IntKind.i64 (Int.tdiv n (64 : Int))) (64 : Int))),
                  A.wrap IntKind.u8 (A.wrap IntKind.i64 ((128 : Int) + Int.tmod n (64 : Int)))]
                (some false) true,
              [])
        else
          some
            (X.sl (Ty.int IntKind.u8)
                [A.wrap IntKind.u8 (A.wrap IntKind.i64 ((240 : Int) + A.wrap IntKind.i64 (Int.tdiv n (262144 : Int)))),
                  A.wrap IntKind.u8
                    (A.wrap IntKind.i64 ((128 : Int) + Int.tmod (A.wrap IntKind.i64 (Int.tdiv n (4096 : Int))) (64 : Int))),
                  A.wrap IntKind.u8
                    (A.wrap IntKind.i64 ((128 : Int) + Int.tmod (A.wrap IntKind.i64 (Int.tdiv n (64 : Int))) (64 : Int))),
                  A.wrap IntKind.u8 (A.wrap IntKind.i64 ((128 : Int) + Int.tmod n (64 : Int)))]
                (some false) true,
              [])) := by kernel_rfl
theorem tNonAsc (A : Ar) (b : List Int) (nl : Bool) (n : Int) : bodyX (Cx A (Out1 A) noL) 100 Tryd.f25 [.sl (.int .u8) b (some nl) true, .d (.int .i32) n] [] =
    (bif decide (A.wrap IntKind.u32 n ≤ (2047 : Int)) then
      bif
          decide
            ((List.length b +
                  List.length
                    [A.wrap IntKind.u8
                        (A.bor (8 : Nat) (192 : Int) (A.wrap IntKind.u8 (Int.fdiv n (A.p2 (6 : Int) (32 : Nat))))),
                      A.wrap IntKind.u8
                        (A.bor (8 : Nat) (128 : Int)
                          (A.wrap IntKind.u8 (A.band (8 : Nat) (A.wrap IntKind.u8 n) (63 : Int))))]) *
                (1 : Nat) ≤
              (140737488355328 : Nat)) then
        some
          (X.sl (Ty.int IntKind.u8)
              (b ++
                [A.wrap IntKind.u8
                    (A.bor (8 : Nat) (192 : Int) (A.wrap IntKind.u8 (Int.fdiv n (A.p2 (6 : Int) (32 : Nat))))),
                  A.wrap IntKind.u8
                    (A.bor (8 : Nat) (128 : Int) (A.wrap IntKind.u8 (A.band (8 : Nat) (A.wrap IntKind.u8 n) (63 : Int))))])
              (some
                (nl &&
                  List.isEmpty
                    [A.wrap IntKind.u8
                        (A.bor (8 : Nat) (192 : Int) (A.wrap IntKind.u8 (Int.fdiv n (A.p2 (6 : Int) (32 : Nat))))),
                      A.wrap IntKind.u8
                        (A.bor (8 : Nat) (128 : Int)
                          (A.wrap IntKind.u8 (A.band (8 : Nat) (A.wrap IntKind.u8 n) (63 : Int))))]))
              true,
            [])
      else none
    else
      bif decide (A.wrap IntKind.u32 n < (55296 : Int)) then
        bif
            decide
              ((List.length b +
                    List.length
                      [A.wrap IntKind.u8
                          (A.bor (8 : Nat) (224 : Int) (A.wrap IntKind.u8 (Int.fdiv n (A.p2 (12 : Int) (32 : Nat))))),
                        A.wrap IntKind.u8
                          (A.bor (8 : Nat) (128 : Int)
                            (A.wrap IntKind.u8
                              (A.band (8 : Nat) (A.wrap IntKind.u8 (Int.fdiv n (A.p2 (6 : Int) (32 : Nat)))) (63 : Int)))),
                        A.wrap IntKind.u8
                          (A.bor (8 : Nat) (128 : Int)
                            (A.wrap IntKind.u8 (A.band (8 : Nat) (A.wrap IntKind.u8 n) (63 : Int))))]) *
                  (1 : Nat) ≤
                (140737488355328 : Nat)) then
          some
            (X.sl (Ty.int IntKind.u8)
                (b ++
                  [A.wrap IntKind.u8
                      (A.bor (8 : Nat) (224 : Int) (A.wrap IntKind.u8 (Int.fdiv n (A.p2 (12 : Int) (32 : Nat))))),
                    A.wrap IntKind.u8
                      (A.bor (8 : Nat) (128 : Int)
                        (A.wrap IntKind.u8
                          (A.band (8 : Nat) (A.wrap IntKind.u8 (Int.fdiv n (A.p2 (6 : Int) (32 : Nat)))) (63 : Int)))),
                    A.wrap IntKind.u8
                      (A.bor (8 : Nat) (128 : Int)
                        (A.wrap IntKind.u8 (A.band (8 : Nat) (A.wrap IntKind.u8 n) (63 : Int))))])
                (some
                  (nl &&
                    List.isEmpty
                      [A.wrap IntKind.u8
                          (A.bor (8 : Nat) (224 : Int) (A.wrap IntKind.u8 (Int.fdiv n (A.p2 (12 : Int) (32 : Nat))))),
                        A.wrap IntKind.u8
                          (A.bor (8 : Nat) (128 : Int)
                            (A.wrap IntKind.u8
                              (A.band (8 : Nat) (A.wrap IntKind.u8 (Int.fdiv n (A.p2 (6 : Int) (32 : Nat)))) (63 : Int)))),
                        A.wrap IntKind.u8
                          (A.bor (8 : Nat) (128 : Int)
                            (A.wrap IntKind.u8 (A.band (8 : Nat) (A.wrap IntKind.u8 n) (63 : Int))))]))
                true,
              [])
        else none
      else
        bif decide ((57343 : Int) < A.wrap IntKind.u32 n) == true then
          bif decide (A.wrap IntKind.u32 n ≤ (65535 : Int)) then
            bif
                decide
                  ((List.length b +
                        List.length
                          [A.wrap IntKind.u8
                              (A.bor (8 : Nat) (224 : Int) (A.wrap IntKind.u8 (Int.fdiv n (A.p2 (12 : Int) (32 : Nat))))),
                            A.wrap IntKind.u8
                              (A.bor (8 : Nat) (128 : Int)
                                (A.wrap IntKind.u8
                                  (A.band (8 : Nat) (A.wrap IntKind.u8 (Int.fdiv n (A.p2 (6 : Int) (32 : Nat))))
                                    (63 : Int)))),
                            A.wrap IntKind.u8
                              (A.bor (8 : Nat) (128 : Int)
                                (A.wrap IntKind.u8 (A.band (8 : Nat) (A.wrap IntKind.u8 n) (63 : Int))))]) *
                      (1 : Nat) ≤
                    (140737488355328 : Nat)) then
              some
                (X.sl (Ty.int IntKind.u8)
                    (b ++
                      [A.wrap IntKind.u8
                          (A.bor (8 : Nat) (224 : Int) (A.wrap IntKind.u8 (Int.fdiv n (A.p2 (12 : Int) (32 : Nat))))),
                        A.wrap IntKind.u8
                          (A.bor (8 : Nat) (128 : Int)
                            (A.wrap IntKind.u8
                              (A.band (8 : Nat) (A.wrap IntKind.u8 (Int.fdiv n (A.p2 (6 : Int) (32 : Nat)))) (63 : Int)))),
                        A.wrap IntKind.u8
                          (A.bor (8 : Nat) (128 : Int)
                            (A.wrap IntKind.u8 (A.band (8 : Nat) (A.wrap IntKind.u8 n) (63 : Int))))])
                    (some
                      (nl &&
                        List.isEmpty
                          [A.wrap IntKind.u8
                              (A.bor (8 : Nat) (224 : Int) (A.wrap IntKind.u8 (Int.fdiv n (A.p2 (12 : Int) (32 : Nat))))),
                            A.wrap IntKind.u8
                              (A.bor (8 : Nat) (128 : Int)
                                (A.wrap IntKind.u8
                                  (A.band (8 : Nat) (A.wrap IntKind.u8 (Int.fdiv n (A.p2 (6 : Int) (32 : Nat))))
                                    (63 : Int)))),
                            A.wrap IntKind.u8
                              (A.bor (8 : Nat) (128 : Int)
                                (A.wrap IntKind.u8 (A.band (8 : Nat) (A.wrap IntKind.u8 n) (63 : Int))))]))
                    true,
                  [])
            else none
          else
            bif decide (A.wrap IntKind.u32 n > (65535 : Int)) == true then
              bif decide (A.wrap IntKind.u32 n ≤ (1114111 : Int)) then
                bif
                    decide
                      ((List.length b +
                            List.length
                              [A.wrap IntKind.u8
                                  (A.bor (8 : Nat) (240 : Int)
                                    (A.wrap IntKind.u8 (Int.fdiv n (A.p2 (18 : Int) (32 : Nat))))),
                                A.wrap IntKind.u8
                                  (A.bor (8 : Nat) (128 : Int)
                                    (A.wrap IntKind.u8
                                      (A.band (8 : Nat) (A.wrap IntKind.u8 (Int.fdiv n (A.p2 (12 : Int) (32 : Nat))))
                                        (63 : Int)))),
                                A.wrap IntKind.u8
                                  (A.bor (8 : Nat) (128 : Int)
                                    (A.wrap IntKind.u8
                                      (A.band (8 : Nat) (A.wrap IntKind.u8 (Int.fdiv n (A.p2 (6 : Int) (32 : Nat))))
                                        (63 : Int)))),
                                A.wrap IntKind.u8
                                  (A.bor (8 : Nat) (128 : Int)
                                    (A.wrap IntKind.u8 (A.band (8 : Nat) (A.wrap IntKind.u8 n) (63 : Int))))]) *
                          (1 : Nat) ≤
                        (140737488355328 : Nat)) then
                  some
                    (X.sl (Ty.int IntKind.u8)
                        (b ++
                          [A.wrap IntKind.u8
                              (A.bor (8 : Nat) (240 : Int) (A.wrap IntKind.u8 (Int.fdiv n (A.p2 (18 : Int) (32 : Nat))))),
                            A.wrap IntKind.u8
                              (A.bor (8 : Nat) (128 : Int)
                                (A.wrap IntKind.u8
                                  (A.band (8 : Nat) (A.wrap IntKind.u8 (Int.fdiv n (A.p2 (12 : Int) (32 : Nat))))
                                    (63 : Int)))),
                            A.wrap IntKind.u8
                              (A.bor (8 : Nat) (128 : Int)
                                (A.wrap IntKind.u8
                                  (A.band (8 : Nat) (A.wrap IntKind.u8 (Int.fdiv n (A.p2 (6 : Int) (32 : Nat))))
                                    (63 : Int)))),
                            A.wrap IntKind.u8
                              (A.bor (8 : Nat) (128 : Int)
                                (A.wrap IntKind.u8 (A.band (8 : Nat) (A.wrap IntKind.u8 n) (63 : Int))))])
                        (some
                          (nl &&
                            List.isEmpty
                              [A.wrap IntKind.u8
                                  (A.bor (8 : Nat) (240 : Int)
                                    (A.wrap IntKind.u8 (Int.fdiv n (A.p2 (18 : Int) (32 : Nat))))),
                                A.wrap IntKind.u8
                                  (A.bor (8 : Nat) (128 : Int)
                                    (A.wrap IntKind.u8
                                      (A.band (8 : Nat) (A.wrap IntKind.u8 (Int.fdiv n (A.p2 (12 : Int) (32 : Nat))))
                                        (63 : Int)))),
                                A.wrap IntKind.u8
                                  (A.bor (8 : Nat) (128 : Int)
                                    (A.wrap IntKind.u8
                                      (A.band (8 : Nat) (A.wrap IntKind.u8 (Int.fdiv n (A.p2 (6 : Int) (32 : Nat))))
                                        (63 : Int)))),
                                A.wrap IntKind.u8
                                  (A.bor (8 : Nat) (128 : Int)
                                    (A.wrap IntKind.u8 (A.band (8 : Nat) (A.wrap IntKind.u8 n) (63 : Int))))]))
                        true,
                      [])
                else none
              else
                bif
                    decide
                      ((List.length b + List.length [(239 : Int), (191 : Int), (189 : Int)]) * (1 : Nat) ≤
                        (140737488355328 : Nat)) then
                  some
                    (X.sl (Ty.int IntKind.u8) (b ++ [(239 : Int), (191 : Int), (189 : Int)])
                        (some (nl && List.isEmpty [(239 : Int), (191 : Int), (189 : Int)])) true,
                      [])
                else none
            else
              bif
                  decide
                    ((List.length b + List.length [(239 : Int), (191 : Int), (189 : Int)]) * (1 : Nat) ≤
                      (140737488355328 : Nat)) then
                some
                  (X.sl (Ty.int IntKind.u8) (b ++ [(239 : Int), (191 : Int), (189 : Int)])
                      (some (nl && List.isEmpty [(239 : Int), (191 : Int), (189 : Int)])) true,
                    [])
              else none
        else
          bif decide (A.wrap IntKind.u32 n > (65535 : Int)) == true then
            bif decide (A.wrap IntKind.u32 n ≤ (1114111 : Int)) then
              bif
                  decide
                    ((List.length b +
                          List.length
                            [A.wrap IntKind.u8
                                (A.bor (8 : Nat) (240 : Int) (A.wrap IntKind.u8 (Int.fdiv n (A.p2 (18 : Int) (32 : Nat))))),
                              A.wrap IntKind.u8
                                (A.bor (8 : Nat) (128 : Int)
                                  (A.wrap IntKind.u8
                                    (A.band (8 : Nat) (A.wrap IntKind.u8 (Int.fdiv n (A.p2 (12 : Int) (32 : Nat))))
                                      (63 : Int)))),
                              A.wrap IntKind.u8
                                (A.bor (8 : Nat) (128 : Int)
                                  (A.wrap IntKind.u8
                                    (A.band (8 : Nat) (A.wrap IntKind.u8 (Int.fdiv n (A.p2 (6 : Int) (32 : Nat))))
                                      (63 : Int)))),
                              A.wrap IntKind.u8
                                (A.bor (8 : Nat) (128 : Int)
                                  (A.wrap IntKind.u8 (A.band (8 : Nat) (A.wrap IntKind.u8 n) (63 : Int))))]) *
                        (1 : Nat) ≤
                      (140737488355328 : Nat)) then
                some
                  (X.sl (Ty.int IntKind.u8)
                      (b ++
                        [A.wrap IntKind.u8
                            (A.bor (8 : Nat) (240 : Int) (A.wrap IntKind.u8 (Int.fdiv n (A.p2 (18 : Int) (32 : Nat))))),
                          A.wrap IntKind.u8
                            (A.bor (8 : Nat) (128 : Int)
                              (A.wrap IntKind.u8
                                (A.band (8 : Nat) (A.wrap IntKind.u8 (Int.fdiv n (A.p2 (12 : Int) (32 : Nat))))
                                  (63 : Int)))),
                          A.wrap IntKind.u8
                            (A.bor (8 : Nat) (128 : Int)
                              (A.wrap IntKind.u8
                                (A.band (8 : Nat) (A.wrap IntKind.u8 (Int.fdiv n (A.p2 (6 : Int) (32 : Nat))))
                                  (63 : Int)))),
                          A.wrap IntKind.u8
                            (A.bor (8 : Nat) (128 : Int)
                              (A.wrap IntKind.u8 (A.band (8 : Nat) (A.wrap IntKind.u8 n) (63 : Int))))])
                      (some
                        (nl &&
                          List.isEmpty
                            [A.wrap IntKind.u8
                                (A.bor (8 : Nat) (240 : Int) (A.wrap IntKind.u8 (Int.fdiv n (A.p2 (18 : Int) (32 : Nat))))),
                              A.wrap IntKind.u8
                                (A.bor (8 : Nat) (128 : Int)
                                  (A.wrap IntKind.u8
                                    (A.band (8 : Nat) (A.wrap IntKind.u8 (Int.fdiv n (A.p2 (12 : Int) (32 : Nat))))
                                      (63 : Int)))),
                              A.wrap IntKind.u8
                                (A.bor (8 : Nat) (128 : Int)
                                  (A.wrap IntKind.u8
                                    (A.band (8 : Nat) (A.wrap IntKind.u8 (Int.fdiv n (A.p2 (6 : Int) (32 : Nat))))
                                      (63 : Int)))),
                              A.wrap IntKind.u8
                                (A.bor (8 : Nat) (128 : Int)
                                  (A.wrap IntKind.u8 (A.band (8 : Nat) (A.wrap IntKind.u8 n) (63 : Int))))]))
                      true,
                    [])
              else none
            else
              bif
                  decide
                    ((List.length b + List.length [(239 : Int), (191 : Int), (189 : Int)]) * (1 : Nat) ≤
                      (140737488355328 : Nat)) then
                some
                  (X.sl (Ty.int IntKind.u8) (b ++ [(239 : Int), (191 : Int), (189 : Int)])
                      (some (nl && List.isEmpty [(239 : Int), (191 : Int), (189 : Int)])) true,
                    [])
              else none
          else
            bif
                decide
                  ((List.length b + List.length [(239 : Int), (191 : Int), (189 : Int)]) * (1 : Nat) ≤
                    (140737488355328 : Nat)) then
              some
                (X.sl (Ty.int IntKind.u8) (b ++ [(239 : Int), (191 : Int), (189 : Int)])
                    (some (nl && List.isEmpty [(239 : Int), (191 : Int), (189 : Int)])) true,
                  [])
            else none) := by kernel_rfl
theorem tAppRune (A : Ar) (b : List Int) (nl : Bool) (n : Int) : bodyX (Cx A (Out2 A) noL) 100 Tryd.f20 [.sl (.int .u8) b (some nl) true, .d (.int .i32) n] [] =
    (bif decide (A.wrap IntKind.u32 n ≤ (127 : Int)) then
      bif decide ((List.length b + List.length [A.wrap IntKind.u8 n]) * (1 : Nat) ≤ (140737488355328 : Nat)) then
        some
          (X.sl (Ty.int IntKind.u8) (b ++ [A.wrap IntKind.u8 n]) (some (nl && List.isEmpty [A.wrap IntKind.u8 n])) true, [])
      else none
    else
      bif A.se (goodN n && decide ((128 : Int) ≤ n ∧ List.length b ≤ (70368744177664 : Nat))) then
        some (X.sl (Ty.int IntKind.u8) (A.se (b ++ ub n)) (some false) true, [])
      else none) := by kernel_rfl
theorem lUPut (A : Ar) (R : Type) (z : Int) (out : List Int) (nl : Bool) (l : List Int) (nl2 : Option Bool) (n i : Int) (k : Ex → List X → Hp → Option R) : stepF (Cx A (Out3 A) (LuPut A)) 100 (loopAt Tryd.f11 0) 22 [2, 3, 4, 7, 8, 9] [u8s [] (some true) true, i64x z, u8s out (some nl) true, i64s l nl2 false, i64x n, i64x i] [] k =
    (bif decide (i < n) then
      bif decide ((0 : Int) ≤ i ∧ i < (↑(List.length l) : Int)) then
        bif !A.se (goodN (List.getD l (Int.toNat i) (0 : Int))) then
          k Ex.ret
            [X.sl (Ty.int IntKind.u8) [] (some true) true, X.d (Ty.int IntKind.i64) (10 : Int),
              X.sl (Ty.int IntKind.u8) out (some nl) true, X.sl (Ty.int IntKind.i64) l nl2 false,
              X.d (Ty.int IntKind.i64) n, X.d (Ty.int IntKind.i64) i]
            []
        else
          bif
              A.se
                (goodN (A.wrap IntKind.i32 (List.getD l (Int.toNat i) (0 : Int))) &&
                  decide (List.length out ≤ (70368744177664 : Nat))) then
            k Ex.normal
              [X.sl (Ty.int IntKind.u8) [] (some true) true, X.d (Ty.int IntKind.i64) z,
                X.sl (Ty.int IntKind.u8)
                  (A.se (out ++ ub (A.wrap IntKind.i32 (List.getD l (Int.toNat i) (0 : Int)))))
                  (some false) true,
                X.sl (Ty.int IntKind.i64) l nl2 false, X.d (Ty.int IntKind.i64) n,
                X.d (Ty.int IntKind.i64) (A.wrap IntKind.i64 (i + (1 : Int)))]
              []
          else none
      else none
    else
      k (Ex.exit (0 : Nat))
        [X.sl (Ty.int IntKind.u8) [] (some true) true, X.d (Ty.int IntKind.i64) z,
          X.sl (Ty.int IntKind.u8) out (some nl) true, X.sl (Ty.int IntKind.i64) l nl2 false, X.d (Ty.int IntKind.i64) n,
          X.d (Ty.int IntKind.i64) i]
        []) := by kernel_rfl
theorem tUPut (A : Ar) (l : List Int) (nl2 : Option Bool) : bodyX (Cx A (Out3 A) (LuPut A)) 100 Tryd.f11 [i64s l nl2 false] [] =
    (bif
        A.se
          (gPut l [] (0 : Int) && decide ((↑(List.length l) : Int) = (↑(List.length l) : Int))) then
      bif A.se (List.all (List.drop (Int.toNat (0 : Int)) l) goodN) then
        some
          (X.tup
              [X.sl (Ty.int IntKind.u8) (A.se ([] ++ ups (List.drop (Int.toNat (0 : Int)) l)))
                  (some (A.se (true && List.isEmpty (ups (List.drop (Int.toNat (0 : Int)) l))))) false,
                X.d (Ty.int IntKind.i64) (0 : Int)],
            [])
      else some (X.tup [X.sl (Ty.int IntKind.u8) [] (some true) false, X.d (Ty.int IntKind.i64) (10 : Int)], [])
    else none) := by kernel_rfl
theorem lRPut (A : Ar) (R : Type) (l : List Int) (nl2 : Option Bool) (z : Int) (out : List Int) (nl : Bool) (i : Int) (k : Ex → List X → Hp → Option R) : stepF (Cx A (Out3 A) (LrPut A)) 100 (loopAt Tryd.f12 0) 26 [0, 2, 3, 4, 5] [i64s l nl2 false, u8s [] (some true) true, i64x z, u8s out (some nl) true, i64x i] [] k =
    (bif decide (i < (↑(List.length l) : Int)) then
      bif decide ((0 : Int) ≤ i ∧ i < (↑(List.length l) : Int)) then
        bif !A.se (goodN (List.getD l (Int.toNat i) (0 : Int))) then
          k Ex.ret
            [X.sl (Ty.int IntKind.i64) l nl2 false, X.sl (Ty.int IntKind.u8) [] (some true) true,
              X.d (Ty.int IntKind.i64) (10 : Int), X.sl (Ty.int IntKind.u8) out (some nl) true, X.d (Ty.int IntKind.i64) i]
            []
        else
          bif decide ((0 : Int) ≤ i ∧ i < (↑(List.length l) : Int)) then
            bif A.se (goodN (List.getD l (Int.toNat i) (0 : Int))) then
              bif
                  decide
                    ((List.length out +
                          List.length (A.se (ub (List.getD l (Int.toNat i) (0 : Int))))) *
                        (1 : Nat) ≤
                      (140737488355328 : Nat)) then
                k Ex.normal
                  [X.sl (Ty.int IntKind.i64) l nl2 false, X.sl (Ty.int IntKind.u8) [] (some true) true,
                    X.d (Ty.int IntKind.i64) z,
                    X.sl (Ty.int IntKind.u8) (out ++ A.se (ub (List.getD l (Int.toNat i) (0 : Int))))
                      (some (nl && List.isEmpty (A.se (ub (List.getD l (Int.toNat i) (0 : Int))))))
                      true,
                    X.d (Ty.int IntKind.i64) (A.wrap IntKind.i64 (i + (1 : Int)))]
                  []
              else none
            else none
          else none
      else none
    else
      k (Ex.exit (0 : Nat))
        [X.sl (Ty.int IntKind.i64) l nl2 false, X.sl (Ty.int IntKind.u8) [] (some true) true, X.d (Ty.int IntKind.i64) z,
          X.sl (Ty.int IntKind.u8) out (some nl) true, X.d (Ty.int IntKind.i64) i]
        []) := by kernel_rfl
theorem tRPut (A : Ar) (l : List Int) (nl2 : Option Bool) : bodyX (Cx A (Out3 A) (LrPut A)) 100 Tryd.f12 [i64s l nl2 false] [] =
    (bif A.se (gPut l [] (0 : Int)) then
      bif A.se (List.all (List.drop (Int.toNat (0 : Int)) l) goodN) then
        some
          (X.tup
              [X.sl (Ty.int IntKind.u8) (A.se ([] ++ ups (List.drop (Int.toNat (0 : Int)) l)))
                  (some (A.se (true && List.isEmpty (ups (List.drop (Int.toNat (0 : Int)) l))))) false,
                X.d (Ty.int IntKind.i64) (0 : Int)],
            [])
      else some (X.tup [X.sl (Ty.int IntKind.u8) [] (some true) false, X.d (Ty.int IntKind.i64) (10 : Int)], [])
    else none) := by kernel_rfl
theorem lNum (A : Ar) (R : Type) (b : List Int) (nl : Option Bool) (n o i : Int) (k : Ex → List X → Hp → Option R) : stepF (Cx A (Out4 A) (Lnum A)) 100 (loopAt Tryd.f23 0) 47 [0, 1, 5, 6] [u8s b nl false, i64x n, i64x o, i64x i] [] k =
    (bif decide (i < n) then
      bif decide ((0 : Int) ≤ i ∧ i < (↑(List.length b) : Int)) then
        k Ex.normal
          [X.sl (Ty.int IntKind.u8) b nl false, X.d (Ty.int IntKind.i64) n,
            X.d (Ty.int IntKind.i64)
              (A.wrap IntKind.i64
                (A.wrap IntKind.i64 (o * (64 : Int)) +
                  Int.tmod (A.wrap IntKind.i64 (List.getD b (Int.toNat i) (0 : Int))) (64 : Int))),
            X.d (Ty.int IntKind.i64) (A.wrap IntKind.i64 (i + (1 : Int)))]
          []
      else none
    else
      k (Ex.exit (0 : Nat))
        [X.sl (Ty.int IntKind.u8) b nl false, X.d (Ty.int IntKind.i64) n, X.d (Ty.int IntKind.i64) o,
          X.d (Ty.int IntKind.i64) i]
        []) := by kernel_rfl
theorem tNum (A : Ar) (b : List Int) (nl : Option Bool) (n : Int) : bodyX (Cx A (Out4 A) (Lnum A)) 100 Tryd.f23 [u8s b nl false, i64x n] [] =
    (bif decide ((0 : Int) ≤ (0 : Int) ∧ (0 : Int) < (↑(List.length b) : Int)) then
      bif n == (2 : Int) then
        bif decide ((0 : Int) ≤ (0 : Int) ∧ (0 : Int) < (↑(List.length b) : Int)) then
          bif n == (3 : Int) then
            bif decide ((0 : Int) ≤ (0 : Int) ∧ (0 : Int) < (↑(List.length b) : Int)) then
              bif n == (4 : Int) then
                bif decide ((0 : Int) ≤ (0 : Int) ∧ (0 : Int) < (↑(List.length b) : Int)) then
                  bif
                      A.se
                        (bytesB b &&
                          decide
                            ((1 : Int) ≤ (1 : Int) ∧
                              (1 : Int) ≤ n ∧
                                n ≤ (4 : Int) ∧
                                  n ≤ (↑(List.length b) : Int) ∧
                                    (0 : Int) ≤
                                        Int.tmod
                                          (A.wrap IntKind.i64
                                            (List.getD b (Int.toNat (0 : Int)) (0 : Int)))
                                          (8 : Int) ∧
                                      Int.tmod
                                          (A.wrap IntKind.i64
                                            (List.getD b (Int.toNat (0 : Int)) (0 : Int)))
                                          (8 : Int) <
                                        (256 : Int) *
                                          (64 : Int) ^ (Int.toNat (1 : Int) - (1 : Nat)))) then
                    some
                      (X.d (Ty.int IntKind.i64)
                          (A.se
                            (numL
                              (Int.tmod
                                (A.wrap IntKind.i64 (List.getD b (Int.toNat (0 : Int)) (0 : Int)))
                                (8 : Int))
                              (List.drop (Int.toNat (1 : Int)) (List.take (Int.toNat n) b)))),
                        [])
                  else none
                else none
              else
                bif
                    A.se
                      (bytesB b &&
                        decide
                          ((1 : Int) ≤ (1 : Int) ∧
                            (1 : Int) ≤ n ∧
                              n ≤ (4 : Int) ∧
                                n ≤ (↑(List.length b) : Int) ∧
                                  (0 : Int) ≤
                                      Int.tmod
                                        (A.wrap IntKind.i64
                                          (List.getD b (Int.toNat (0 : Int)) (0 : Int)))
                                        (16 : Int) ∧
                                    Int.tmod
                                        (A.wrap IntKind.i64
                                          (List.getD b (Int.toNat (0 : Int)) (0 : Int)))
                                        (16 : Int) <
                                      (256 : Int) *
                                        (64 : Int) ^ (Int.toNat (1 : Int) - (1 : Nat)))) then
                  some
                    (X.d (Ty.int IntKind.i64)
                        (A.se
                          (numL
                            (Int.tmod (A.wrap IntKind.i64 (List.getD b (Int.toNat (0 : Int)) (0 : Int)))
                              (16 : Int))
                            (List.drop (Int.toNat (1 : Int)) (List.take (Int.toNat n) b)))),
                      [])
                else none
            else none
          else
            bif n == (4 : Int) then
              bif decide ((0 : Int) ≤ (0 : Int) ∧ (0 : Int) < (↑(List.length b) : Int)) then
                bif
                    A.se
                      (bytesB b &&
                        decide
                          ((1 : Int) ≤ (1 : Int) ∧
                            (1 : Int) ≤ n ∧
                              n ≤ (4 : Int) ∧
                                n ≤ (↑(List.length b) : Int) ∧
                                  (0 : Int) ≤
                                      Int.tmod
                                        (A.wrap IntKind.i64
                                          (List.getD b (Int.toNat (0 : Int)) (0 : Int)))
                                        (8 : Int) ∧
                                    Int.tmod
                                        (A.wrap IntKind.i64
                                          (List.getD b (Int.toNat (0 : Int)) (0 : Int)))
                                        (8 : Int) <
                                      (256 : Int) *
                                        (64 : Int) ^ (Int.toNat (1 : Int) - (1 : Nat)))) then
                  some
                    (X.d (Ty.int IntKind.i64)
                        (A.se
                          (numL
                            (Int.tmod (A.wrap IntKind.i64 (List.getD b (Int.toNat (0 : Int)) (0 : Int)))
                              (8 : Int))
                            (List.drop (Int.toNat (1 : Int)) (List.take (Int.toNat n) b)))),
                      [])
                else none
              else none
            else
              bif
                  A.se
                    (bytesB b &&
                      decide
                        ((1 : Int) ≤ (1 : Int) ∧
                          (1 : Int) ≤ n ∧
                            n ≤ (4 : Int) ∧
                              n ≤ (↑(List.length b) : Int) ∧
                                (0 : Int) ≤
                                    Int.tmod
                                      (A.wrap IntKind.i64 (List.getD b (Int.toNat (0 : Int)) (0 : Int)))
                                      (32 : Int) ∧
                                  Int.tmod
                                      (A.wrap IntKind.i64 (List.getD b (Int.toNat (0 : Int)) (0 : Int)))
                                      (32 : Int) <
                                    (256 : Int) *
                                      (64 : Int) ^ (Int.toNat (1 : Int) - (1 : Nat)))) then
                some
                  (X.d (Ty.int IntKind.i64)
                      (A.se
                        (numL
                          (Int.tmod (A.wrap IntKind.i64 (List.getD b (Int.toNat (0 : Int)) (0 : Int)))
                            (32 : Int))
                          (List.drop (Int.toNat (1 : Int)) (List.take (Int.toNat n) b)))),
                    [])
              else none
        else none
      else
        bif n == (3 : Int) then
          bif decide ((0 : Int) ≤ (0 : Int) ∧ (0 : Int) < (↑(List.length b) : Int)) then
            bif n == (4 : Int) then
              bif decide ((0 : Int) ≤ (0 : Int) ∧ (0 : Int) < (↑(List.length b) : Int)) then
                bif
                    A.se
                      (bytesB b &&
                        decide
                          ((1 : Int) ≤ (1 : Int) ∧
                            (1 : Int) ≤ n ∧
                              n ≤ (4 : Int) ∧
                                n ≤ (↑(List.length b) : Int) ∧
                                  (0 : Int) ≤
                                      Int.tmod
                                        (A.wrap IntKind.i64
                                          (List.getD b (Int.toNat (0 : Int)) (0 : Int)))
                                        (8 : Int) ∧
                                    Int.tmod
                                        (A.wrap IntKind.i64
                                          (List.getD b (Int.toNat (0 : Int)) (0 : Int)))
                                        (8 : Int) <
                                      (256 : Int) *
                                        (64 : Int) ^ (Int.toNat (1 : Int) - (1 : Nat)))) then
                  some
                    (X.d (Ty.int IntKind.i64)
                        (A.se
                          (numL
                            (Int.tmod (A.wrap IntKind.i64 (List.getD b (Int.toNat (0 : Int)) (0 : Int)))
                              (8 : Int))
                            (List.drop (Int.toNat (1 : Int)) (List.take (Int.toNat n) b)))),
                      [])
                else none
              else none
            else
              bif
                  A.se
                    (bytesB b &&
                      decide
                        ((1 : Int) ≤ (1 : Int) ∧
                          (1 : Int) ≤ n ∧
                            n ≤ (4 : Int) ∧
                              n ≤ (↑(List.length b) : Int) ∧
                                (0 : Int) ≤
                                    Int.tmod
                                      (A.wrap IntKind.i64 (List.getD b (Int.toNat (0 : Int)) (0 : Int)))
                                      (16 : Int) ∧
                                  Int.tmod
                                      (A.wrap IntKind.i64 (List.getD b (Int.toNat (0 : Int)) (0 : Int)))
                                      (16 : Int) <
                                    (256 : Int) *
                                      (64 : Int) ^ (Int.toNat (1 : Int) - (1 : Nat)))) then
                some
                  (X.d (Ty.int IntKind.i64)
                      (A.se
                        (numL
                          (Int.tmod (A.wrap IntKind.i64 (List.getD b (Int.toNat (0 : Int)) (0 : Int)))
                            (16 : Int))
                          (List.drop (Int.toNat (1 : Int)) (List.take (Int.toNat n) b)))),
                    [])
              else none
          else none
        else
          bif n == (4 : Int) then
            bif decide ((0 : Int) ≤ (0 : Int) ∧ (0 : Int) < (↑(List.length b) : Int)) then
              bif
                  A.se
                    (bytesB b &&
                      decide
                        ((1 : Int) ≤ (1 : Int) ∧
                          (1 : Int) ≤ n ∧
                            n ≤ (4 : Int) ∧
                              n ≤ (↑(List.length b) : Int) ∧
                                (0 : Int) ≤
                                    Int.tmod
                                      (A.wrap IntKind.i64 (List.getD b (Int.toNat (0 : Int)) (0 : Int)))
                                      (8 : Int) ∧
                                  Int.tmod
                                      (A.wrap IntKind.i64 (List.getD b (Int.toNat (0 : Int)) (0 : Int)))
                                      (8 : Int) <
                                    (256 : Int) *
                                      (64 : Int) ^ (Int.toNat (1 : Int) - (1 : Nat)))) then
                some
                  (X.d (Ty.int IntKind.i64)
                      (A.se
                        (numL
                          (Int.tmod (A.wrap IntKind.i64 (List.getD b (Int.toNat (0 : Int)) (0 : Int)))
                            (8 : Int))
                          (List.drop (Int.toNat (1 : Int)) (List.take (Int.toNat n) b)))),
                    [])
              else none
            else none
          else
            bif
                A.se
                  (bytesB b &&
                    decide
                      ((1 : Int) ≤ (1 : Int) ∧
                        (1 : Int) ≤ n ∧
                          n ≤ (4 : Int) ∧
                            n ≤ (↑(List.length b) : Int) ∧
                              (0 : Int) ≤
                                  A.wrap IntKind.i64 (List.getD b (Int.toNat (0 : Int)) (0 : Int)) ∧
                                A.wrap IntKind.i64 (List.getD b (Int.toNat (0 : Int)) (0 : Int)) <
                                  (256 : Int) *
                                    (64 : Int) ^ (Int.toNat (1 : Int) - (1 : Nat)))) then
              some
                (X.d (Ty.int IntKind.i64)
                    (A.se
                      (numL (A.wrap IntKind.i64 (List.getD b (Int.toNat (0 : Int)) (0 : Int)))
                        (List.drop (Int.toNat (1 : Int)) (List.take (Int.toNat n) b)))),
                  [])
            else none
    else none) := by kernel_rfl
theorem tSlow (A : Ar) (b : List Int) (nl : Option Bool) : bodyX (Cx A (Out4 A) noL) 100 Tryd.f26 [u8s b nl false] [] =
    (bif decide ((↑(List.length b) : Int) < (1 : Int)) then
      some (X.tup [X.d (Ty.int IntKind.i32) (65533 : Int), X.d (Ty.int IntKind.i64) (0 : Int)], [])
    else
      bif decide ((0 : Int) ≤ (0 : Int) ∧ (0 : Int) < (↑(List.length b) : Int)) then
        bif
            decide
              ((0 : Int) ≤ List.getD b (Int.toNat (0 : Int)) (0 : Int) ∧
                List.getD b (Int.toNat (0 : Int)) (0 : Int) < (↑(256 : Nat) : Int)) then
          bif
              decide
                (List.getD firstT (Int.toNat (List.getD b (Int.toNat (0 : Int)) (0 : Int)))
                    (0 : Int) ≥
                  (240 : Int)) then
            bif decide ((0 : Int) ≤ (0 : Int) ∧ (0 : Int) < (↑(List.length b) : Int)) then
              some
                (X.tup
                    [X.d (Ty.int IntKind.i32)
                        (A.wrap IntKind.i32
                          (A.bor (32 : Nat)
                            (A.wrap IntKind.i32
                              (A.bclr (32 : Nat)
                                (A.wrap IntKind.i32 (List.getD b (Int.toNat (0 : Int)) (0 : Int)))
                                (Int.fdiv
                                  (A.wrap IntKind.i32
                                    (A.wrap IntKind.i32
                                        (List.getD firstT
                                          (Int.toNat (List.getD b (Int.toNat (0 : Int)) (0 : Int)))
                                          (0 : Int)) *
                                      A.p2 (31 : Int) (32 : Nat)))
                                  (A.p2 (31 : Int) (32 : Nat)))))
                            (A.wrap IntKind.i32
                              (A.band (32 : Nat) (65533 : Int)
                                (Int.fdiv
                                  (A.wrap IntKind.i32
                                    (A.wrap IntKind.i32
                                        (List.getD firstT
                                          (Int.toNat (List.getD b (Int.toNat (0 : Int)) (0 : Int)))
                                          (0 : Int)) *
                                      A.p2 (31 : Int) (32 : Nat)))
                                  (A.p2 (31 : Int) (32 : Nat))))))),
                      X.d (Ty.int IntKind.i64) (1 : Int)],
                  [])
            else none
          else
            bif
                decide
                  ((0 : Int) ≤
                      Int.fdiv
                        (List.getD firstT (Int.toNat (List.getD b (Int.toNat (0 : Int)) (0 : Int)))
                          (0 : Int))
                        (A.p2 (4 : Int) (8 : Nat)) ∧
                    Int.fdiv
                        (List.getD firstT (Int.toNat (List.getD b (Int.toNat (0 : Int)) (0 : Int)))
                          (0 : Int))
                        (A.p2 (4 : Int) (8 : Nat)) <
                      (↑(16 : Nat) : Int)) then
              bif
                  decide
                    ((↑(List.length b) : Int) <
                      A.wrap IntKind.i64
                        (A.wrap IntKind.u8
                          (A.band (8 : Nat)
                            (List.getD firstT (Int.toNat (List.getD b (Int.toNat (0 : Int)) (0 : Int)))
                              (0 : Int))
                            (7 : Int)))) then
                some
                  (X.tup [X.d (Ty.int IntKind.i32) (65533 : Int), X.d (Ty.int IntKind.i64) (1 : Int)],
                    [(Ty.struct (Ty.prod (Ty.int IntKind.u8) (Ty.prod (Ty.int IntKind.u8) Ty.unit)),
                        X.d (Ty.struct (Ty.prod (Ty.int IntKind.u8) (Ty.prod (Ty.int IntKind.u8) Ty.unit)))
                          (List.getD acceptT
                            (Int.toNat
                              (Int.fdiv
                                (List.getD firstT
                                  (Int.toNat (List.getD b (Int.toNat (0 : Int)) (0 : Int)))
                                  (0 : Int))
                                (A.p2 (4 : Int) (8 : Nat))))
                            (Ty.zero (Ty.struct (Ty.prod (Ty.int IntKind.u8) (Ty.prod (Ty.int IntKind.u8) Ty.unit))))))])
              else
                bif decide ((0 : Int) ≤ (1 : Int) ∧ (1 : Int) < (↑(List.length b) : Int)) then
                  bif
                      decide
                          (List.getD b (Int.toNat (1 : Int)) (0 : Int) <
                            (List.getD acceptT
                                (Int.toNat
                                  (Int.fdiv
                                    (List.getD firstT
                                      (Int.toNat (List.getD b (Int.toNat (0 : Int)) (0 : Int)))
                                      (0 : Int))
                                    (A.p2 (4 : Int) (8 : Nat))))
                                (Ty.zero
                                  (Ty.struct (Ty.prod (Ty.int IntKind.u8) (Ty.prod (Ty.int IntKind.u8) Ty.unit))))).fst) ==
                        false then
                    bif
                        decide
                          ((List.getD acceptT
                                  (Int.toNat
                                    (Int.fdiv
                                      (List.getD firstT
                                        (Int.toNat (List.getD b (Int.toNat (0 : Int)) (0 : Int)))
                                        (0 : Int))
                                      (A.p2 (4 : Int) (8 : Nat))))
                                  (Ty.zero
                                    (Ty.struct
                                      (Ty.prod (Ty.int IntKind.u8) (Ty.prod (Ty.int IntKind.u8) Ty.unit))))).snd.fst <
                            List.getD b (Int.toNat (1 : Int)) (0 : Int)) then
                      some
                        (X.tup [X.d (Ty.int IntKind.i32) (65533 : Int), X.d (Ty.int IntKind.i64) (1 : Int)],
                          [(Ty.struct (Ty.prod (Ty.int IntKind.u8) (Ty.prod (Ty.int IntKind.u8) Ty.unit)),
                              X.d (Ty.struct (Ty.prod (Ty.int IntKind.u8) (Ty.prod (Ty.int IntKind.u8) Ty.unit)))
                                (List.getD acceptT
                                  (Int.toNat
                                    (Int.fdiv
                                      (List.getD firstT
                                        (Int.toNat (List.getD b (Int.toNat (0 : Int)) (0 : Int)))
                                        (0 : Int))
                                      (A.p2 (4 : Int) (8 : Nat))))
                                  (Ty.zero
                                    (Ty.struct (Ty.prod (Ty.int IntKind.u8) (Ty.prod (Ty.int IntKind.u8) Ty.unit))))))])
                    else
                      bif
                          decide
                            (A.wrap IntKind.i64
                                (A.wrap IntKind.u8
                                  (A.band (8 : Nat)
                                    (List.getD firstT
                                      (Int.toNat (List.getD b (Int.toNat (0 : Int)) (0 : Int)))
                                      (0 : Int))
                                    (7 : Int))) ≤
                              (2 : Int)) then
                        some
                          (X.tup
                              [X.d (Ty.int IntKind.i32)
                                  (A.wrap IntKind.i32
                                    (A.bor (32 : Nat)
                                      (A.wrap IntKind.i32
                                        (A.wrap IntKind.i32
                                            (A.wrap IntKind.u8
                                              (A.band (8 : Nat)
                                                (List.getD b (Int.toNat (0 : Int)) (0 : Int))
                                                (31 : Int))) *
                                          A.p2 (6 : Int) (32 : Nat)))
                                      (A.wrap IntKind.i32
                                        (A.wrap IntKind.u8
                                          (A.band (8 : Nat)
                                            (List.getD b (Int.toNat (1 : Int)) (0 : Int))
                                            (63 : Int)))))),
                                X.d (Ty.int IntKind.i64) (2 : Int)],
                            [(Ty.struct (Ty.prod (Ty.int IntKind.u8) (Ty.prod (Ty.int IntKind.u8) Ty.unit)),
                                X.d (Ty.struct (Ty.prod (Ty.int IntKind.u8) (Ty.prod (Ty.int IntKind.u8) Ty.unit)))
                                  (List.getD acceptT
                                    (Int.toNat
                                      (Int.fdiv
                                        (List.getD firstT
                                          (Int.toNat (List.getD b (Int.toNat (0 : Int)) (0 : Int)))
                                          (0 : Int))
                                        (A.p2 (4 : Int) (8 : Nat))))
                                    (Ty.zero
                                      (Ty.struct (Ty.prod (Ty.int IntKind.u8) (Ty.prod (Ty.int IntKind.u8) Ty.unit))))))])
                      else
                        bif decide ((0 : Int) ≤ (2 : Int) ∧ (2 : Int) < (↑(List.length b) : Int)) then
                          bif
                              decide (List.getD b (Int.toNat (2 : Int)) (0 : Int) < (128 : Int)) ==
                                false then
                            bif decide ((191 : Int) < List.getD b (Int.toNat (2 : Int)) (0 : Int)) then
                              some
                                (X.tup [X.d (Ty.int IntKind.i32) (65533 : Int), X.d (Ty.int IntKind.i64) (1 : Int)],
                                  [(Ty.struct (Ty.prod (Ty.int IntKind.u8) (Ty.prod (Ty.int IntKind.u8) Ty.unit)),
                                      X.d (Ty.struct (Ty.prod (Ty.int IntKind.u8) (Ty.prod (Ty.int IntKind.u8) Ty.unit)))
                                        (List.getD acceptT
                                          (Int.toNat
                                            (Int.fdiv
                                              (List.getD firstT
                                                (Int.toNat
                                                  (List.getD b (Int.toNat (0 : Int)) (0 : Int)))
                                                (0 : Int))
                                              (A.p2 (4 : Int) (8 : Nat))))
                                          (Ty.zero
                                            (Ty.struct
                                              (Ty.prod (Ty.int IntKind.u8) (Ty.prod (Ty.int IntKind.u8) Ty.unit))))))])
                            else
                              bif
                                  decide
                                    (A.wrap IntKind.i64
                                        (A.wrap IntKind.u8
                                          (A.band (8 : Nat)
                                            (List.getD firstT
                                              (Int.toNat (List.getD b (Int.toNat (0 : Int)) (0 : Int)))
                                              (0 : Int))
                                            (7 : Int))) ≤
                                      (3 : Int)) then
                                some
                                  (X.tup
                                      [X.d (Ty.int IntKind.i32)
                                          (A.wrap IntKind.i32
                                            (A.bor (32 : Nat)
                                              (A.wrap IntKind.i32
                                                (A.bor (32 : Nat)
                                                  (A.wrap IntKind.i32
                                                    (A.wrap IntKind.i32
                                                        (A.wrap IntKind.u8
                                                          (A.band (8 : Nat)
                                                            (List.getD b (Int.toNat (0 : Int))
                                                              (0 : Int))
                                                            (15 : Int))) *
                                                      A.p2 (12 : Int) (32 : Nat)))
                                                  (A.wrap IntKind.i32
                                                    (A.wrap IntKind.i32
                                                        (A.wrap IntKind.u8
                                                          (A.band (8 : Nat)
                                                            (List.getD b (Int.toNat (1 : Int))
                                                              (0 : Int))
                                                            (63 : Int))) *
                                                      A.p2 (6 : Int) (32 : Nat)))))
                                              (A.wrap IntKind.i32
                                                (A.wrap IntKind.u8
                                                  (A.band (8 : Nat)
                                                    (List.getD b (Int.toNat (2 : Int)) (0 : Int))
                                                    (63 : Int)))))),
                                        X.d (Ty.int IntKind.i64) (3 : Int)],
                                    [(Ty.struct (Ty.prod (Ty.int IntKind.u8) (Ty.prod (Ty.int IntKind.u8) Ty.unit)),
                                        X.d (Ty.struct (Ty.prod (Ty.int IntKind.u8) (Ty.prod (Ty.int IntKind.u8) Ty.unit)))
                                          (List.getD acceptT
                                            (Int.toNat
                                              (Int.fdiv
                                                (List.getD firstT
                                                  (Int.toNat
                                                    (List.getD b (Int.toNat (0 : Int)) (0 : Int)))
                                                  (0 : Int))
                                                (A.p2 (4 : Int) (8 : Nat))))
                                            (Ty.zero
                                              (Ty.struct
                                                (Ty.prod (Ty.int IntKind.u8) (Ty.prod (Ty.int IntKind.u8) Ty.unit))))))])
                              else
                                bif decide ((0 : Int) ≤ (3 : Int) ∧ (3 : Int) < (↑(List.length b) : Int)) then
                                  bif
                                      decide
                                          (List.getD b (Int.toNat (3 : Int)) (0 : Int) < (128 : Int)) ==
                                        false then
                                    bif
                                        decide
                                          ((191 : Int) <
                                            List.getD b (Int.toNat (3 : Int)) (0 : Int)) then
                                      some
                                        (X.tup [X.d (Ty.int IntKind.i32) (65533 : Int), X.d (Ty.int IntKind.i64) (1 : Int)],
                                          [(Ty.struct (Ty.prod (Ty.int IntKind.u8) (Ty.prod (Ty.int IntKind.u8) Ty.unit)),
                                              X.d
                                                (Ty.struct
                                                  (Ty.prod (Ty.int IntKind.u8) (Ty.prod (Ty.int IntKind.u8) Ty.unit)))
                                                (List.getD acceptT
                                                  (Int.toNat
                                                    (Int.fdiv
                                                      (List.getD firstT
                                                        (Int.toNat
                                                          (List.getD b (Int.toNat (0 : Int)) (0 : Int)))
                                                        (0 : Int))
                                                      (A.p2 (4 : Int) (8 : Nat))))
                                                  (Ty.zero
                                                    (Ty.struct
                                                      (Ty.prod (Ty.int IntKind.u8)
                                                        (Ty.prod (Ty.int IntKind.u8) Ty.unit))))))])
                                    else
                                      some
                                        (X.tup
                                            [X.d (Ty.int IntKind.i32)
                                                (A.wrap IntKind.i32
                                                  (A.bor (32 : Nat)
                                                    (A.wrap IntKind.i32
                                                      (A.bor (32 : Nat)
                                                        (A.wrap IntKind.i32
                                                          (A.bor (32 : Nat)
                                                            (A.wrap IntKind.i32
                                                              (A.wrap IntKind.i32
                                                                  (A.wrap IntKind.u8
                                                                    (A.band (8 : Nat)
                                                                      (List.getD b (Int.toNat (0 : Int))
                                                                        (0 : Int))
                                                                      (7 : Int))) *
                                                                A.p2 (18 : Int) (32 : Nat)))
                                                            (A.wrap IntKind.i32
                                                              (A.wrap IntKind.i32
                                                                  (A.wrap IntKind.u8
                                                                    (A.band (8 : Nat)
                                                                      (List.getD b (Int.toNat (1 : Int))
                                                                        (0 : Int))
                                                                      (63 : Int))) *
                                                                A.p2 (12 : Int) (32 : Nat)))))
                                                        (A.wrap IntKind.i32
                                                          (A.wrap IntKind.i32
                                                              (A.wrap IntKind.u8
                                                                (A.band (8 : Nat)
                                                                  (List.getD b (Int.toNat (2 : Int))
                                                                    (0 : Int))
                                                                  (63 : Int))) *
                                                            A.p2 (6 : Int) (32 : Nat)))))
                                                    (A.wrap IntKind.i32
                                                      (A.wrap IntKind.u8
                                                        (A.band (8 : Nat)
                                                          (List.getD b (Int.toNat (3 : Int)) (0 : Int))
                                                          (63 : Int)))))),
                                              X.d (Ty.int IntKind.i64) (4 : Int)],
                                          [(Ty.struct (Ty.prod (Ty.int IntKind.u8) (Ty.prod (Ty.int IntKind.u8) Ty.unit)),
                                              X.d
                                                (Ty.struct
                                                  (Ty.prod (Ty.int IntKind.u8) (Ty.prod (Ty.int IntKind.u8) Ty.unit)))
                                                (List.getD acceptT
                                                  (Int.toNat
                                                    (Int.fdiv
                                                      (List.getD firstT
                                                        (Int.toNat
                                                          (List.getD b (Int.toNat (0 : Int)) (0 : Int)))
                                                        (0 : Int))
                                                      (A.p2 (4 : Int) (8 : Nat))))
                                                  (Ty.zero
                                                    (Ty.struct
                                                      (Ty.prod (Ty.int IntKind.u8)
                                                        (Ty.prod (Ty.int IntKind.u8) Ty.unit))))))])
                                  else
                                    some
                                      (X.tup [X.d (Ty.int IntKind.i32) (65533 : Int), X.d (Ty.int IntKind.i64) (1 : Int)],
                                        [(Ty.struct (Ty.prod (Ty.int IntKind.u8) (Ty.prod (Ty.int IntKind.u8) Ty.unit)),
                                            X.d
                                              (Ty.struct
                                                (Ty.prod (Ty.int IntKind.u8) (Ty.prod (Ty.int IntKind.u8) Ty.unit)))
                                              (List.getD acceptT
                                                (Int.toNat
                                                  (Int.fdiv
                                                    (List.getD firstT
                                                      (Int.toNat
                                                        (List.getD b (Int.toNat (0 : Int)) (0 : Int)))
                                                      (0 : Int))
                                                    (A.p2 (4 : Int) (8 : Nat))))
                                                (Ty.zero
                                                  (Ty.struct
                                                    (Ty.prod (Ty.int IntKind.u8)
                                                      (Ty.prod (Ty.int IntKind.u8) Ty.unit))))))])
                                else none
                          else
                            some
                              (X.tup [X.d (Ty.int IntKind.i32) (65533 : Int), X.d (Ty.int IntKind.i64) (1 : Int)],
                                [(Ty.struct (Ty.prod (Ty.int IntKind.u8) (Ty.prod (Ty.int IntKind.u8) Ty.unit)),
                                    X.d (Ty.struct (Ty.prod (Ty.int IntKind.u8) (Ty.prod (Ty.int IntKind.u8) Ty.unit)))
                                      (List.getD acceptT
                                        (Int.toNat
                                          (Int.fdiv
                                            (List.getD firstT
                                              (Int.toNat (List.getD b (Int.toNat (0 : Int)) (0 : Int)))
                                              (0 : Int))
                                            (A.p2 (4 : Int) (8 : Nat))))
                                        (Ty.zero
                                          (Ty.struct
                                            (Ty.prod (Ty.int IntKind.u8) (Ty.prod (Ty.int IntKind.u8) Ty.unit))))))])
                        else none
                  else
                    some
                      (X.tup [X.d (Ty.int IntKind.i32) (65533 : Int), X.d (Ty.int IntKind.i64) (1 : Int)],
                        [(Ty.struct (Ty.prod (Ty.int IntKind.u8) (Ty.prod (Ty.int IntKind.u8) Ty.unit)),
                            X.d (Ty.struct (Ty.prod (Ty.int IntKind.u8) (Ty.prod (Ty.int IntKind.u8) Ty.unit)))
                              (List.getD acceptT
                                (Int.toNat
                                  (Int.fdiv
                                    (List.getD firstT
                                      (Int.toNat (List.getD b (Int.toNat (0 : Int)) (0 : Int)))
                                      (0 : Int))
                                    (A.p2 (4 : Int) (8 : Nat))))
                                (Ty.zero
                                  (Ty.struct (Ty.prod (Ty.int IntKind.u8) (Ty.prod (Ty.int IntKind.u8) Ty.unit))))))])
                else none
            else none
        else none
      else none) := by kernel_rfl
theorem lDec (A : Ar) (R : Type) (b : List Int) (nl : Option Bool) (y z : Int) (b2 : List Int) (nl2 : Option Bool) (l i : Int) (k : Ex → List X → Hp → Option R) : stepF (Cx A (Out5 A) (Ldec A)) 100 (loopAt Tryd.f22 0) 22 [0, 2, 3, 6, 7, 8] [u8s b nl false, i32x y, i64x z, u8s b2 nl2 false, i64x l, i64x i] [] k =
    (bif decide (i < l) then
      bif decide ((0 : Int) ≤ i ∧ i < (↑(List.length b2) : Int)) then
        bif decide (List.getD b2 (Int.toNat i) (0 : Int) < (128 : Int)) then
          k Ex.ret
            [X.sl (Ty.int IntKind.u8) b nl false,
              X.d (Ty.int IntKind.i32) (A.wrap IntKind.i32 (List.getD b2 (Int.toNat i) (0 : Int))),
              X.d (Ty.int IntKind.i64) (1 : Int), X.sl (Ty.int IntKind.u8) b2 nl2 false, X.d (Ty.int IntKind.i64) l,
              X.d (Ty.int IntKind.i64) i]
            []
        else
          k (Ex.exit (0 : Nat))
            [X.sl (Ty.int IntKind.u8) b nl false, X.d (Ty.int IntKind.i32) y, X.d (Ty.int IntKind.i64) z,
              X.sl (Ty.int IntKind.u8) b2 nl2 false, X.d (Ty.int IntKind.i64) l, X.d (Ty.int IntKind.i64) i]
            []
      else none
    else
      k (Ex.exit (0 : Nat))
        [X.sl (Ty.int IntKind.u8) b nl false, X.d (Ty.int IntKind.i32) y, X.d (Ty.int IntKind.i64) z,
          X.sl (Ty.int IntKind.u8) b2 nl2 false, X.d (Ty.int IntKind.i64) l, X.d (Ty.int IntKind.i64) i]
        []) := by kernel_rfl
theorem tDec (A : Ar) (b : List Int) (nl : Option Bool) : bodyX (Cx A (Out5 A) (Ldec A)) 100 Tryd.f22 [u8s b nl false] [] =
    (bif
        A.se
          (bytesB b &&
            decide
              (b = b ∧
                (↑(List.length b) : Int) = (↑(List.length b) : Int) ∧
                  (0 : Int) = (0 : Int))) then
      bif A.se (ascB b) then
        some
          (X.tup
              [X.d (Ty.int IntKind.i32) (A.se (List.getD b (0 : Nat) (0 : Int))),
                X.d (Ty.int IntKind.i64) (1 : Int)],
            [])
      else
        bif A.se (bytesB b && !ascB b) then
          some (X.tup [X.d (Ty.int IntKind.i32) (A.se (dR b)), X.d (Ty.int IntKind.i64) (A.se (dL b))], [])
        else none
    else none) := by kernel_rfl
theorem lRTake (A : Ar) (R : Type) (b : List Int) (nl : Option Bool) (x y z n : Int) (k : Ex → List X → Hp → Option R) : stepF (Cx A (Out5 A) (LrTake A)) 100 (loopAt Tryd.f14 0) 34 [0, 2, 3, 4, 5] [u8s b nl false, i64x x, i64x y, i64x z, i64x n] [] k =
    (bif decide (n ≤ (4 : Int)) == true then
      bif decide (n ≤ (↑(List.length b) : Int)) then
        bif
            A.se
              (bytesB b &&
                decide
                  ((1 : Int) ≤ n ∧
                    n ≤ (4 : Int) ∧ n ≤ (↑(List.length b) : Int))) then
          bif A.se (goodN (A.se (numN b (Int.toNat n)))) == true then
            bif A.se (goodN (A.se (numN b (Int.toNat n)))) then
              bif decide ((0 : Int) ≤ n ∧ n ≤ (↑(List.length b) : Int)) then
                bif A.seq (strOf (A.se (ub (A.se (numN b (Int.toNat n)))))) (strOf (List.take (Int.toNat n) b)) then
                  k Ex.ret
                    [X.sl (Ty.int IntKind.u8) b nl false, X.d (Ty.int IntKind.i64) (A.se (numN b (Int.toNat n))),
                      X.d (Ty.int IntKind.i64) n, X.d (Ty.int IntKind.i64) (0 : Int), X.d (Ty.int IntKind.i64) n]
                    []
                else
                  k Ex.normal
                    [X.sl (Ty.int IntKind.u8) b nl false, X.d (Ty.int IntKind.i64) x, X.d (Ty.int IntKind.i64) y,
                      X.d (Ty.int IntKind.i64) z, X.d (Ty.int IntKind.i64) (A.wrap IntKind.i64 (n + (1 : Int)))]
                    []
              else none
            else none
          else
            k Ex.normal
              [X.sl (Ty.int IntKind.u8) b nl false, X.d (Ty.int IntKind.i64) x, X.d (Ty.int IntKind.i64) y,
                X.d (Ty.int IntKind.i64) z, X.d (Ty.int IntKind.i64) (A.wrap IntKind.i64 (n + (1 : Int)))]
              []
        else none
      else
        k (Ex.exit (0 : Nat))
          [X.sl (Ty.int IntKind.u8) b nl false, X.d (Ty.int IntKind.i64) x, X.d (Ty.int IntKind.i64) y,
            X.d (Ty.int IntKind.i64) z, X.d (Ty.int IntKind.i64) n]
          []
    else
      k (Ex.exit (0 : Nat))
        [X.sl (Ty.int IntKind.u8) b nl false, X.d (Ty.int IntKind.i64) x, X.d (Ty.int IntKind.i64) y,
          X.d (Ty.int IntKind.i64) z, X.d (Ty.int IntKind.i64) n]
        []) := by kernel_rfl
theorem tRTake (A : Ar) (b : List Int) (nl : Option Bool) : bodyX (Cx A (Out5 A) (LrTake A)) 100 Tryd.f14 [u8s b nl false] [] =
    (bif
        A.se
          (bytesB b &&
            (decide ((1 : Int) ≤ (1 : Int) ∧ (1 : Int) ≤ (5 : Int)) &&
              List.all (List.range (Int.toNat (1 : Int))) fun m => !tryB b m)) then
      bif A.se (Option.isSome (takeU b)) then
        some
          (X.tup
              [X.d (Ty.int IntKind.i64) (A.se (uN b)), X.d (Ty.int IntKind.i64) (A.se (uL b)),
                X.d (Ty.int IntKind.i64) (0 : Int)],
            [])
      else
        some
          (X.tup
              [X.d (Ty.int IntKind.i64) (0 : Int), X.d (Ty.int IntKind.i64) (0 : Int), X.d (Ty.int IntKind.i64) (10 : Int)],
            [])
    else none) := by kernel_rfl
theorem tUTake (A : Ar) (b : List Int) (nl : Option Bool) : bodyX (Cx A (Out6 A) noL) 100 Tryd.f13 [u8s b nl false] [] =
    (bif A.se (bytesB b) then
      bif (A.se (dL b) == (1 : Int)) == true then
        bif A.se (dR b) == (65533 : Int) then
          some
            (X.tup
                [X.d (Ty.int IntKind.i64) (0 : Int), X.d (Ty.int IntKind.i64) (0 : Int),
                  X.d (Ty.int IntKind.i64) (10 : Int)],
              [])
        else
          bif A.se (dL b) == (0 : Int) then
            some
              (X.tup
                  [X.d (Ty.int IntKind.i64) (0 : Int), X.d (Ty.int IntKind.i64) (0 : Int),
                    X.d (Ty.int IntKind.i64) (10 : Int)],
                [])
          else
            some
              (X.tup
                  [X.d (Ty.int IntKind.i64) (A.wrap IntKind.i64 (A.se (dR b))), X.d (Ty.int IntKind.i64) (A.se (dL b)),
                    X.d (Ty.int IntKind.i64) (0 : Int)],
                [])
      else
        bif A.se (dL b) == (0 : Int) then
          some
            (X.tup
                [X.d (Ty.int IntKind.i64) (0 : Int), X.d (Ty.int IntKind.i64) (0 : Int),
                  X.d (Ty.int IntKind.i64) (10 : Int)],
              [])
        else
          some
            (X.tup
                [X.d (Ty.int IntKind.i64) (A.wrap IntKind.i64 (A.se (dR b))), X.d (Ty.int IntKind.i64) (A.se (dL b)),
                  X.d (Ty.int IntKind.i64) (0 : Int)],
              [])
    else none) := by kernel_rfl
theorem tWord (A : Ar) (b : List Int) (nl : Option Bool) : bodyX (Cx A (Out6 A) noL) 100 Tryd.f27 [u8s b nl false] [] =
    (bif decide ((0 : Int) ≤ (0 : Int) ∧ (0 : Int) < (↑(List.length b) : Int)) then
      bif decide ((0 : Int) ≤ (1 : Int) ∧ (1 : Int) < (↑(List.length b) : Int)) then
        bif decide ((0 : Int) ≤ (2 : Int) ∧ (2 : Int) < (↑(List.length b) : Int)) then
          bif decide ((0 : Int) ≤ (3 : Int) ∧ (3 : Int) < (↑(List.length b) : Int)) then
            bif decide ((0 : Int) ≤ (4 : Int) ∧ (4 : Int) < (↑(List.length b) : Int)) then
              bif decide ((0 : Int) ≤ (5 : Int) ∧ (5 : Int) < (↑(List.length b) : Int)) then
                bif decide ((0 : Int) ≤ (6 : Int) ∧ (6 : Int) < (↑(List.length b) : Int)) then
                  bif decide ((0 : Int) ≤ (7 : Int) ∧ (7 : Int) < (↑(List.length b) : Int)) then
                    some
                      (X.d (Ty.int IntKind.u64)
                          (A.wrap IntKind.u64
                            (A.bor (64 : Nat)
                              (A.wrap IntKind.u64
                                (A.bor (64 : Nat)
                                  (A.wrap IntKind.u64
                                    (A.bor (64 : Nat)
                                      (A.wrap IntKind.u64
                                        (A.bor (64 : Nat)
                                          (A.wrap IntKind.u64
                                            (A.bor (64 : Nat)
                                              (A.wrap IntKind.u64
                                                (A.bor (64 : Nat)
                                                  (A.wrap IntKind.u64
                                                    (A.bor (64 : Nat)
                                                      (A.wrap IntKind.u64
                                                        (List.getD b (Int.toNat (0 : Int)) (0 : Int)))
                                                      (A.wrap IntKind.u64
                                                        (A.wrap IntKind.u64
                                                            (List.getD b (Int.toNat (1 : Int))
                                                              (0 : Int)) *
                                                          A.p2 (8 : Int) (64 : Nat)))))
                                                  (A.wrap IntKind.u64
                                                    (A.wrap IntKind.u64
                                                        (List.getD b (Int.toNat (2 : Int)) (0 : Int)) *
                                                      A.p2 (16 : Int) (64 : Nat)))))
                                              (A.wrap IntKind.u64
                                                (A.wrap IntKind.u64
                                                    (List.getD b (Int.toNat (3 : Int)) (0 : Int)) *
                                                  A.p2 (24 : Int) (64 : Nat)))))
                                          (A.wrap IntKind.u64
                                            (A.wrap IntKind.u64
                                                (List.getD b (Int.toNat (4 : Int)) (0 : Int)) *
                                              A.p2 (32 : Int) (64 : Nat)))))
                                      (A.wrap IntKind.u64
                                        (A.wrap IntKind.u64
                                            (List.getD b (Int.toNat (5 : Int)) (0 : Int)) *
                                          A.p2 (40 : Int) (64 : Nat)))))
                                  (A.wrap IntKind.u64
                                    (A.wrap IntKind.u64 (List.getD b (Int.toNat (6 : Int)) (0 : Int)) *
                                      A.p2 (48 : Int) (64 : Nat)))))
                              (A.wrap IntKind.u64
                                (A.wrap IntKind.u64 (List.getD b (Int.toNat (7 : Int)) (0 : Int)) *
                                  A.p2 (56 : Int) (64 : Nat))))),
                        [])
                  else none
                else none
              else none
            else none
          else none
        else none
      else none
    else none) := by kernel_rfl
theorem lValA (A : Ar) (R : Type) (b : List Int) (nl : Option Bool) (x : Bool) (k : Ex → List X → Hp → Option R) : stepF (Cx A (Out7 A) (Lval A)) 100 (loopAt Tryd.f24 0) 188 [0, 2] [u8s b nl false, boolx x] [] k =
    (bif decide ((↑(List.length b) : Int) > (0 : Int)) then
      bif decide ((0 : Int) ≤ (0 : Int) ∧ (0 : Int) < (↑(List.length b) : Int)) then
        bif decide (List.getD b (Int.toNat (0 : Int)) (0 : Int) < (128 : Int)) then
          bif decide ((0 : Int) ≤ (1 : Int) ∧ (1 : Int) ≤ (↑(List.length b) : Int)) then
            bif decide ((↑(List.length (List.drop (Int.toNat (1 : Int)) b)) : Int) > (8 : Int)) == true then
              bif
                  A.se
                    (bytesB (List.drop (Int.toNat (1 : Int)) b) &&
                      decide ((8 : Nat) ≤ List.length (List.drop (Int.toNat (1 : Int)) b))) then
                bif
                    A.wrap IntKind.u64
                        (A.band (64 : Nat) (A.se (wordL (List.take (8 : Nat) (List.drop (Int.toNat (1 : Int)) b))))
                          (9259542123273814144 : Int)) ==
                      (0 : Int) then
                  bif
                      decide
                        ((0 : Int) ≤ (8 : Int) ∧
                          (8 : Int) ≤ (↑(List.length (List.drop (Int.toNat (1 : Int)) b)) : Int)) then
                    bif
                        decide
                            ((↑(List.length (List.drop (Int.toNat (8 : Int)) (List.drop (Int.toNat (1 : Int)) b))) : Int) >
                              (16 : Int)) ==
                          true then
                      bif
                          A.se
                            (bytesB (List.drop (Int.toNat (8 : Int)) (List.drop (Int.toNat (1 : Int)) b)) &&
                              decide
                                ((8 : Nat) ≤
                                  List.length (List.drop (Int.toNat (8 : Int)) (List.drop (Int.toNat (1 : Int)) b)))) then
                        bif
                            decide
                              ((0 : Int) ≤ (8 : Int) ∧
                                (8 : Int) ≤
                                  (↑(List.length (List.drop (Int.toNat (8 : Int)) (List.drop (Int.toNat (1 : Int)) b))) :
                                    Int)) then
                          bif
                              A.se
                                (bytesB
                                    (List.drop (Int.toNat (8 : Int))
                                      (List.drop (Int.toNat (8 : Int)) (List.drop (Int.toNat (1 : Int)) b))) &&
                                  decide
                                    ((8 : Nat) ≤
                                      List.length
                                        (List.drop (Int.toNat (8 : Int))
                                          (List.drop (Int.toNat (8 : Int)) (List.drop (Int.toNat (1 : Int)) b))))) then
                            bif
                                A.wrap IntKind.u64
                                    (A.band (64 : Nat)
                                      (A.wrap IntKind.u64
                                        (A.bor (64 : Nat)
                                          (A.se
                                            (wordL
                                              (List.take (8 : Nat)
                                                (List.drop (Int.toNat (8 : Int)) (List.drop (Int.toNat (1 : Int)) b)))))
                                          (A.se
                                            (wordL
                                              (List.take (8 : Nat)
                                                (List.drop (Int.toNat (8 : Int))
                                                  (List.drop (Int.toNat (8 : Int))
                                                    (List.drop (Int.toNat (1 : Int)) b))))))))
                                      (9259542123273814144 : Int)) ==
                                  (0 : Int) then
                              bif
                                  decide
                                    ((0 : Int) ≤ (16 : Int) ∧
                                      (16 : Int) ≤
                                        (↑(List.length
                                              (List.drop (Int.toNat (8 : Int)) (List.drop (Int.toNat (1 : Int)) b))) :
                                          Int)) then
                                bif
                                    A.se
                                      (bytesB
                                          (List.drop (Int.toNat (16 : Int))
                                            (List.drop (Int.toNat (8 : Int)) (List.drop (Int.toNat (1 : Int)) b))) &&
                                        decide
                                          (List.length
                                              (List.drop (Int.toNat (16 : Int))
                                                (List.drop (Int.toNat (8 : Int)) (List.drop (Int.toNat (1 : Int)) b))) ≤
                                            (1000000 : Nat))) then
                                  k Ex.normal
                                    [X.sl (Ty.int IntKind.u8)
                                        (A.se
                                          (sk32
                                            (List.length
                                              (List.drop (Int.toNat (16 : Int))
                                                (List.drop (Int.toNat (8 : Int)) (List.drop (Int.toNat (1 : Int)) b))))
                                            (List.drop (Int.toNat (16 : Int))
                                              (List.drop (Int.toNat (8 : Int)) (List.drop (Int.toNat (1 : Int)) b)))))
                                        nl false,
                                      X.d Ty.bool x]
                                    []
                                else none
                              else none
                            else
                              k Ex.normal
                                [X.sl (Ty.int IntKind.u8)
                                    (List.drop (Int.toNat (8 : Int)) (List.drop (Int.toNat (1 : Int)) b)) nl false,
                                  X.d Ty.bool x]
                                []
                          else none
                        else none
                      else none
                    else
                      k Ex.normal
                        [X.sl (Ty.int IntKind.u8) (List.drop (Int.toNat (8 : Int)) (List.drop (Int.toNat (1 : Int)) b)) nl
                            false,
                          X.d Ty.bool x]
                        []
                  else none
                else k Ex.normal [X.sl (Ty.int IntKind.u8) (List.drop (Int.toNat (1 : Int)) b) nl false, X.d Ty.bool x] []
              else none
            else k Ex.normal [X.sl (Ty.int IntKind.u8) (List.drop (Int.toNat (1 : Int)) b) nl false, X.d Ty.bool x] []
          else none
        else
          bif
              decide
                ((0 : Int) ≤ List.getD b (Int.toNat (0 : Int)) (0 : Int) ∧
                  List.getD b (Int.toNat (0 : Int)) (0 : Int) < (↑(256 : Nat) : Int)) then
            bif
                decide
                  ((0 : Int) ≤
                      Int.fdiv
                        (List.getD firstT (Int.toNat (List.getD b (Int.toNat (0 : Int)) (0 : Int)))
                          (0 : Int))
                        (A.p2 (4 : Int) (8 : Nat)) ∧
                    Int.fdiv
                        (List.getD firstT (Int.toNat (List.getD b (Int.toNat (0 : Int)) (0 : Int)))
                          (0 : Int))
                        (A.p2 (4 : Int) (8 : Nat)) <
                      (↑(16 : Nat) : Int)) then
              bif
                  A.wrap IntKind.i64
                      (A.wrap IntKind.u8
                        (A.band (8 : Nat)
                          (List.getD firstT (Int.toNat (List.getD b (Int.toNat (0 : Int)) (0 : Int)))
                            (0 : Int))
                          (7 : Int))) ==
                    (2 : Int) then
                bif decide ((↑(List.length b) : Int) < (2 : Int)) == false then
                  bif decide ((0 : Int) ≤ (1 : Int) ∧ (1 : Int) < (↑(List.length b) : Int)) then
                    bif
                        decide
                            (List.getD b (Int.toNat (1 : Int)) (0 : Int) <
                              (List.getD acceptT
                                  (Int.toNat
                                    (Int.fdiv
                                      (List.getD firstT
                                        (Int.toNat (List.getD b (Int.toNat (0 : Int)) (0 : Int)))
                                        (0 : Int))
                                      (A.p2 (4 : Int) (8 : Nat))))
                                  (Ty.zero
                                    (Ty.struct
                                      (Ty.prod (Ty.int IntKind.u8) (Ty.prod (Ty.int IntKind.u8) Ty.unit))))).fst) ==
                          false then
                      bif decide ((0 : Int) ≤ (1 : Int) ∧ (1 : Int) < (↑(List.length b) : Int)) then
                        bif
                            decide
                              ((List.getD acceptT
                                      (Int.toNat
                                        (Int.fdiv
                                          (List.getD firstT
                                            (Int.toNat (List.getD b (Int.toNat (0 : Int)) (0 : Int)))
                                            (0 : Int))
                                          (A.p2 (4 : Int) (8 : Nat))))
                                      (Ty.zero
                                        (Ty.struct
                                          (Ty.prod (Ty.int IntKind.u8) (Ty.prod (Ty.int IntKind.u8) Ty.unit))))).snd.fst <
                                List.getD b (Int.toNat (1 : Int)) (0 : Int)) then
                          k Ex.ret [X.sl (Ty.int IntKind.u8) b nl false, X.d Ty.bool false]
                            [(Ty.struct (Ty.prod (Ty.int IntKind.u8) (Ty.prod (Ty.int IntKind.u8) Ty.unit)),
                                X.d (Ty.struct (Ty.prod (Ty.int IntKind.u8) (Ty.prod (Ty.int IntKind.u8) Ty.unit)))
                                  (List.getD acceptT
                                    (Int.toNat
                                      (Int.fdiv
                                        (List.getD firstT
                                          (Int.toNat (List.getD b (Int.toNat (0 : Int)) (0 : Int)))
                                          (0 : Int))
                                        (A.p2 (4 : Int) (8 : Nat))))
                                    (Ty.zero
                                      (Ty.struct (Ty.prod (Ty.int IntKind.u8) (Ty.prod (Ty.int IntKind.u8) Ty.unit))))))]
                        else
                          bif
                              decide
                                ((0 : Int) ≤ (2 : Int) ∧ (2 : Int) ≤ (↑(List.length b) : Int)) then
                            k Ex.normal
                              [X.sl (Ty.int IntKind.u8) (List.drop (Int.toNat (2 : Int)) b) nl false, X.d Ty.bool x]
                              [(Ty.struct (Ty.prod (Ty.int IntKind.u8) (Ty.prod (Ty.int IntKind.u8) Ty.unit)),
                                  X.d (Ty.struct (Ty.prod (Ty.int IntKind.u8) (Ty.prod (Ty.int IntKind.u8) Ty.unit)))
                                    (List.getD acceptT
                                      (Int.toNat
                                        (Int.fdiv
                                          (List.getD firstT
                                            (Int.toNat (List.getD b (Int.toNat (0 : Int)) (0 : Int)))
                                            (0 : Int))
                                          (A.p2 (4 : Int) (8 : Nat))))
                                      (Ty.zero
                                        (Ty.struct (Ty.prod (Ty.int IntKind.u8) (Ty.prod (Ty.int IntKind.u8) Ty.unit))))))]
                          else none
                      else none
                    else
                      k Ex.ret [X.sl (Ty.int IntKind.u8) b nl false, X.d Ty.bool false]
                        [(Ty.struct (Ty.prod (Ty.int IntKind.u8) (Ty.prod (Ty.int IntKind.u8) Ty.unit)),
                            X.d (Ty.struct (Ty.prod (Ty.int IntKind.u8) (Ty.prod (Ty.int IntKind.u8) Ty.unit)))
                              (List.getD acceptT
                                (Int.toNat
                                  (Int.fdiv
                                    (List.getD firstT
                                      (Int.toNat (List.getD b (Int.toNat (0 : Int)) (0 : Int)))
                                      (0 : Int))
                                    (A.p2 (4 : Int) (8 : Nat))))
                                (Ty.zero (Ty.struct (Ty.prod (Ty.int IntKind.u8) (Ty.prod (Ty.int IntKind.u8) Ty.unit))))))]
                  else none
                else
                  k Ex.ret [X.sl (Ty.int IntKind.u8) b nl false, X.d Ty.bool false]
                    [(Ty.struct (Ty.prod (Ty.int IntKind.u8) (Ty.prod (Ty.int IntKind.u8) Ty.unit)),
                        X.d (Ty.struct (Ty.prod (Ty.int IntKind.u8) (Ty.prod (Ty.int IntKind.u8) Ty.unit)))
                          (List.getD acceptT
                            (Int.toNat
                              (Int.fdiv
                                (List.getD firstT
                                  (Int.toNat (List.getD b (Int.toNat (0 : Int)) (0 : Int)))
                                  (0 : Int))
                                (A.p2 (4 : Int) (8 : Nat))))
                            (Ty.zero (Ty.struct (Ty.prod (Ty.int IntKind.u8) (Ty.prod (Ty.int IntKind.u8) Ty.unit))))))]
              else
                bif
                    A.wrap IntKind.i64
                        (A.wrap IntKind.u8
                          (A.band (8 : Nat)
                            (List.getD firstT (Int.toNat (List.getD b (Int.toNat (0 : Int)) (0 : Int)))
                              (0 : Int))
                            (7 : Int))) ==
                      (3 : Int) then
                  bif decide ((↑(List.length b) : Int) < (3 : Int)) == false then
                    bif decide ((0 : Int) ≤ (1 : Int) ∧ (1 : Int) < (↑(List.length b) : Int)) then
                      bif
                          decide
                              (List.getD b (Int.toNat (1 : Int)) (0 : Int) <
                                (List.getD acceptT
                                    (Int.toNat
                                      (Int.fdiv
                                        (List.getD firstT
                                          (Int.toNat (List.getD b (Int.toNat (0 : Int)) (0 : Int)))
                                          (0 : Int))
                                        (A.p2 (4 : Int) (8 : Nat))))
                                    (Ty.zero
                                      (Ty.struct
                                        (Ty.prod (Ty.int IntKind.u8) (Ty.prod (Ty.int IntKind.u8) Ty.unit))))).fst) ==
                            false then
                        bif decide ((0 : Int) ≤ (1 : Int) ∧ (1 : Int) < (↑(List.length b) : Int)) then
                          bif
                              decide
                                  ((List.getD acceptT
                                          (Int.toNat
                                            (Int.fdiv
                                              (List.getD firstT
                                                (Int.toNat
                                                  (List.getD b (Int.toNat (0 : Int)) (0 : Int)))
                                                (0 : Int))
                                              (A.p2 (4 : Int) (8 : Nat))))
                                          (Ty.zero
                                            (Ty.struct
                                              (Ty.prod (Ty.int IntKind.u8)
                                                (Ty.prod (Ty.int IntKind.u8) Ty.unit))))).snd.fst <
                                    List.getD b (Int.toNat (1 : Int)) (0 : Int)) ==
                                false then
                            bif decide ((0 : Int) ≤ (2 : Int) ∧ (2 : Int) < (↑(List.length b) : Int)) then
                              bif
                                  decide (List.getD b (Int.toNat (2 : Int)) (0 : Int) < (128 : Int)) ==
                                    false then
                                bif decide ((0 : Int) ≤ (2 : Int) ∧ (2 : Int) < (↑(List.length b) : Int)) then
                                  bif
                                      decide
                                        ((191 : Int) < List.getD b (Int.toNat (2 : Int)) (0 : Int)) then
                                    k Ex.ret [X.sl (Ty.int IntKind.u8) b nl false, X.d Ty.bool false]
                                      [(Ty.struct (Ty.prod (Ty.int IntKind.u8) (Ty.prod (Ty.int IntKind.u8) Ty.unit)),
                                          X.d
                                            (Ty.struct (Ty.prod (Ty.int IntKind.u8) (Ty.prod (Ty.int IntKind.u8) Ty.unit)))
                                            (List.getD acceptT
                                              (Int.toNat
                                                (Int.fdiv
                                                  (List.getD firstT
                                                    (Int.toNat
                                                      (List.getD b (Int.toNat (0 : Int)) (0 : Int)))
                                                    (0 : Int))
                                                  (A.p2 (4 : Int) (8 : Nat))))
                                              (Ty.zero
                                                (Ty.struct
                                                  (Ty.prod (Ty.int IntKind.u8) (Ty.prod (Ty.int IntKind.u8) Ty.unit))))))]
                                  else
                                    bif
                                        decide
                                          ((0 : Int) ≤ (3 : Int) ∧
                                            (3 : Int) ≤ (↑(List.length b) : Int)) then
                                      k Ex.normal
                                        [X.sl (Ty.int IntKind.u8) (List.drop (Int.toNat (3 : Int)) b) nl false,
                                          X.d Ty.bool x]
                                        [(Ty.struct (Ty.prod (Ty.int IntKind.u8) (Ty.prod (Ty.int IntKind.u8) Ty.unit)),
                                            X.d
                                              (Ty.struct
                                                (Ty.prod (Ty.int IntKind.u8) (Ty.prod (Ty.int IntKind.u8) Ty.unit)))
                                              (List.getD acceptT
                                                (Int.toNat
                                                  (Int.fdiv
                                                    (List.getD firstT
                                                      (Int.toNat
                                                        (List.getD b (Int.toNat (0 : Int)) (0 : Int)))
                                                      (0 : Int))
                                                    (A.p2 (4 : Int) (8 : Nat))))
                                                (Ty.zero
                                                  (Ty.struct
                                                    (Ty.prod (Ty.int IntKind.u8) (Ty.prod (Ty.int IntKind.u8) Ty.unit))))))]
                                    else none
                                else none
                              else
                                k Ex.ret [X.sl (Ty.int IntKind.u8) b nl false, X.d Ty.bool false]
                                  [(Ty.struct (Ty.prod (Ty.int IntKind.u8) (Ty.prod (Ty.int IntKind.u8) Ty.unit)),
                                      X.d (Ty.struct (Ty.prod (Ty.int IntKind.u8) (Ty.prod (Ty.int IntKind.u8) Ty.unit)))
                                        (List.getD acceptT
                                          (Int.toNat
                                            (Int.fdiv
                                              (List.getD firstT
                                                (Int.toNat
                                                  (List.getD b (Int.toNat (0 : Int)) (0 : Int)))
                                                (0 : Int))
                                              (A.p2 (4 : Int) (8 : Nat))))
                                          (Ty.zero
                                            (Ty.struct
                                              (Ty.prod (Ty.int IntKind.u8) (Ty.prod (Ty.int IntKind.u8) Ty.unit))))))]
                            else none
                          else
                            k Ex.ret [X.sl (Ty.int IntKind.u8) b nl false, X.d Ty.bool false]
                              [(Ty.struct (Ty.prod (Ty.int IntKind.u8) (Ty.prod (Ty.int IntKind.u8) Ty.unit)),
                                  X.d (Ty.struct (Ty.prod (Ty.int IntKind.u8) (Ty.prod (Ty.int IntKind.u8) Ty.unit)))
                                    (List.getD acceptT
                                      (Int.toNat
                                        (Int.fdiv
                                          (List.getD firstT
                                            (Int.toNat (List.getD b (Int.toNat (0 : Int)) (0 : Int)))
                                            (0 : Int))
                                          (A.p2 (4 : Int) (8 : Nat))))
                                      (Ty.zero
                                        (Ty.struct (Ty.prod (Ty.int IntKind.u8) (Ty.prod (Ty.int IntKind.u8) Ty.unit))))))]
                        else none
                      else
                        k Ex.ret [X.sl (Ty.int IntKind.u8) b nl false, X.d Ty.bool false]
                          [(Ty.struct (Ty.prod (Ty.int IntKind.u8) (Ty.prod (Ty.int IntKind.u8) Ty.unit)),
                              X.d (Ty.struct (Ty.prod (Ty.int IntKind.u8) (Ty.prod (Ty.int IntKind.u8) Ty.unit)))
                                (List.getD acceptT
                                  (Int.toNat
                                    (Int.fdiv
                                      (List.getD firstT
                                        (Int.toNat (List.getD b (Int.toNat (0 : Int)) (0 : Int)))
                                        (0 : Int))
                                      (A.p2 (4 : Int) (8 : Nat))))
                                  (Ty.zero
                                    (Ty.struct (Ty.prod (Ty.int IntKind.u8) (Ty.prod (Ty.int IntKind.u8) Ty.unit))))))]
                    else none
                  else
                    k Ex.ret [X.sl (Ty.int IntKind.u8) b nl false, X.d Ty.bool false]
                      [(Ty.struct (Ty.prod (Ty.int IntKind.u8) (Ty.prod (Ty.int IntKind.u8) Ty.unit)),
                          X.d (Ty.struct (Ty.prod (Ty.int IntKind.u8) (Ty.prod (Ty.int IntKind.u8) Ty.unit)))
                            (List.getD acceptT
                              (Int.toNat
                                (Int.fdiv
                                  (List.getD firstT
                                    (Int.toNat (List.getD b (Int.toNat (0 : Int)) (0 : Int)))
                                    (0 : Int))
                                  (A.p2 (4 : Int) (8 : Nat))))
                              (Ty.zero (Ty.struct (Ty.prod (Ty.int IntKind.u8) (Ty.prod (Ty.int IntKind.u8) Ty.unit))))))]
                else
                  bif
                      A.wrap IntKind.i64
                          (A.wrap IntKind.u8
                            (A.band (8 : Nat)
                              (List.getD firstT
                                (Int.toNat (List.getD b (Int.toNat (0 : Int)) (0 : Int)))
                                (0 : Int))
                              (7 : Int))) ==
                        (4 : Int) then
                    bif decide ((↑(List.length b) : Int) < (4 : Int)) == false then
                      bif decide ((0 : Int) ≤ (1 : Int) ∧ (1 : Int) < (↑(List.length b) : Int)) then
                        bif
                            decide
                                (List.getD b (Int.toNat (1 : Int)) (0 : Int) <
                                  (List.getD acceptT
                                      (Int.toNat
                                        (Int.fdiv
                                          (List.getD firstT
                                            (Int.toNat (List.getD b (Int.toNat (0 : Int)) (0 : Int)))
                                            (0 : Int))
                                          (A.p2 (4 : Int) (8 : Nat))))
                                      (Ty.zero
                                        (Ty.struct
                                          (Ty.prod (Ty.int IntKind.u8) (Ty.prod (Ty.int IntKind.u8) Ty.unit))))).fst) ==
                              false then
                          bif decide ((0 : Int) ≤ (1 : Int) ∧ (1 : Int) < (↑(List.length b) : Int)) then
                            bif
                                decide
                                    ((List.getD acceptT
                                            (Int.toNat
                                              (Int.fdiv
                                                (List.getD firstT
                                                  (Int.toNat
                                                    (List.getD b (Int.toNat (0 : Int)) (0 : Int)))
                                                  (0 : Int))
                                                (A.p2 (4 : Int) (8 : Nat))))
                                            (Ty.zero
                                              (Ty.struct
                                                (Ty.prod (Ty.int IntKind.u8)
                                                  (Ty.prod (Ty.int IntKind.u8) Ty.unit))))).snd.fst <
                                      List.getD b (Int.toNat (1 : Int)) (0 : Int)) ==
                                  false then
                              bif decide ((0 : Int) ≤ (2 : Int) ∧ (2 : Int) < (↑(List.length b) : Int)) then
                                bif
                                    decide
                                        (List.getD b (Int.toNat (2 : Int)) (0 : Int) < (128 : Int)) ==
                                      false then
                                  bif decide ((0 : Int) ≤ (2 : Int) ∧ (2 : Int) < (↑(List.length b) : Int)) then
                                    bif
                                        decide
                                            ((191 : Int) <
                                              List.getD b (Int.toNat (2 : Int)) (0 : Int)) ==
                                          false then
                                      bif decide ((0 : Int) ≤ (3 : Int) ∧ (3 : Int) < (↑(List.length b) : Int)) then
                                        bif
                                            decide
                                                (List.getD b (Int.toNat (3 : Int)) (0 : Int) <
                                                  (128 : Int)) ==
                                              false then
                                          bif decide ((0 : Int) ≤ (3 : Int) ∧ (3 : Int) < (↑(List.length b) : Int)) then
                                            bif
                                                decide
                                                  ((191 : Int) <
                                                    List.getD b (Int.toNat (3 : Int)) (0 : Int)) then
                                              k Ex.ret [X.sl (Ty.int IntKind.u8) b nl false, X.d Ty.bool false]
                                                [(Ty.struct
                                                      (Ty.prod (Ty.int IntKind.u8) (Ty.prod (Ty.int IntKind.u8) Ty.unit)),
                                                    X.d
                                                      (Ty.struct
                                                        (Ty.prod (Ty.int IntKind.u8) (Ty.prod (Ty.int IntKind.u8) Ty.unit)))
                                                      (List.getD acceptT
                                                        (Int.toNat
                                                          (Int.fdiv
                                                            (List.getD firstT
                                                              (Int.toNat
                                                                (List.getD b (Int.toNat (0 : Int))
                                                                  (0 : Int)))
                                                              (0 : Int))
                                                            (A.p2 (4 : Int) (8 : Nat))))
                                                        (Ty.zero
                                                          (Ty.struct
                                                            (Ty.prod (Ty.int IntKind.u8)
                                                              (Ty.prod (Ty.int IntKind.u8) Ty.unit))))))]
                                            else
                                              bif
                                                  decide
                                                    ((0 : Int) ≤ (4 : Int) ∧
                                                      (4 : Int) ≤ (↑(List.length b) : Int)) then
                                                k Ex.normal
                                                  [X.sl (Ty.int IntKind.u8) (List.drop (Int.toNat (4 : Int)) b) nl false,
                                                    X.d Ty.bool x]
                                                  [(Ty.struct
                                                        (Ty.prod (Ty.int IntKind.u8) (Ty.prod (Ty.int IntKind.u8) Ty.unit)),
                                                      X.d
                                                        (Ty.struct
                                                          (Ty.prod (Ty.int IntKind.u8)
                                                            (Ty.prod (Ty.int IntKind.u8) Ty.unit)))
                                                        (List.getD acceptT
                                                          (Int.toNat
                                                            (Int.fdiv
                                                              (List.getD firstT
                                                                (Int.toNat
                                                                  (List.getD b (Int.toNat (0 : Int))
                                                                    (0 : Int)))
                                                                (0 : Int))
                                                              (A.p2 (4 : Int) (8 : Nat))))
                                                          (Ty.zero
                                                            (Ty.struct
                                                              (Ty.prod (Ty.int IntKind.u8)
                                                                (Ty.prod (Ty.int IntKind.u8) Ty.unit))))))]
                                              else none
                                          else none
                                        else
                                          k Ex.ret [X.sl (Ty.int IntKind.u8) b nl false, X.d Ty.bool false]
                                            [(Ty.struct (Ty.prod (Ty.int IntKind.u8) (Ty.prod (Ty.int IntKind.u8) Ty.unit)),
                                                X.d
                                                  (Ty.struct
                                                    (Ty.prod (Ty.int IntKind.u8) (Ty.prod (Ty.int IntKind.u8) Ty.unit)))
                                                  (List.getD acceptT
                                                    (Int.toNat
                                                      (Int.fdiv
                                                        (List.getD firstT
                                                          (Int.toNat
                                                            (List.getD b (Int.toNat (0 : Int))
                                                              (0 : Int)))
                                                          (0 : Int))
                                                        (A.p2 (4 : Int) (8 : Nat))))
                                                    (Ty.zero
                                                      (Ty.struct
                                                        (Ty.prod (Ty.int IntKind.u8)
                                                          (Ty.prod (Ty.int IntKind.u8) Ty.unit))))))]
                                      else none
                                    else
                                      k Ex.ret [X.sl (Ty.int IntKind.u8) b nl false, X.d Ty.bool false]
                                        [(Ty.struct (Ty.prod (Ty.int IntKind.u8) (Ty.prod (Ty.int IntKind.u8) Ty.unit)),
                                            X.d
                                              (Ty.struct
                                                (Ty.prod (Ty.int IntKind.u8) (Ty.prod (Ty.int IntKind.u8) Ty.unit)))
                                              (List.getD acceptT
                                                (Int.toNat
                                                  (Int.fdiv
                                                    (List.getD firstT
                                                      (Int.toNat
                                                        (List.getD b (Int.toNat (0 : Int)) (0 : Int)))
                                                      (0 : Int))
                                                    (A.p2 (4 : Int) (8 : Nat))))
                                                (Ty.zero
                                                  (Ty.struct
                                                    (Ty.prod (Ty.int IntKind.u8) (Ty.prod (Ty.int IntKind.u8) Ty.unit))))))]
                                  else none
                                else
                                  k Ex.ret [X.sl (Ty.int IntKind.u8) b nl false, X.d Ty.bool false]
                                    [(Ty.struct (Ty.prod (Ty.int IntKind.u8) (Ty.prod (Ty.int IntKind.u8) Ty.unit)),
                                        X.d (Ty.struct (Ty.prod (Ty.int IntKind.u8) (Ty.prod (Ty.int IntKind.u8) Ty.unit)))
                                          (List.getD acceptT
                                            (Int.toNat
                                              (Int.fdiv
                                                (List.getD firstT
                                                  (Int.toNat
                                                    (List.getD b (Int.toNat (0 : Int)) (0 : Int)))
                                                  (0 : Int))
                                                (A.p2 (4 : Int) (8 : Nat))))
                                            (Ty.zero
                                              (Ty.struct
                                                (Ty.prod (Ty.int IntKind.u8) (Ty.prod (Ty.int IntKind.u8) Ty.unit))))))]
                              else none
                            else
                              k Ex.ret [X.sl (Ty.int IntKind.u8) b nl false, X.d Ty.bool false]
                                [(Ty.struct (Ty.prod (Ty.int IntKind.u8) (Ty.prod (Ty.int IntKind.u8) Ty.unit)),
                                    X.d (Ty.struct (Ty.prod (Ty.int IntKind.u8) (Ty.prod (Ty.int IntKind.u8) Ty.unit)))
                                      (List.getD acceptT
                                        (Int.toNat
                                          (Int.fdiv
                                            (List.getD firstT
                                              (Int.toNat (List.getD b (Int.toNat (0 : Int)) (0 : Int)))
                                              (0 : Int))
                                            (A.p2 (4 : Int) (8 : Nat))))
                                        (Ty.zero
                                          (Ty.struct
                                            (Ty.prod (Ty.int IntKind.u8) (Ty.prod (Ty.int IntKind.u8) Ty.unit))))))]
                          else none
                        else
                          k Ex.ret [X.sl (Ty.int IntKind.u8) b nl false, X.d Ty.bool false]
                            [(Ty.struct (Ty.prod (Ty.int IntKind.u8) (Ty.prod (Ty.int IntKind.u8) Ty.unit)),
                                X.d (Ty.struct (Ty.prod (Ty.int IntKind.u8) (Ty.prod (Ty.int IntKind.u8) Ty.unit)))
                                  (List.getD acceptT
                                    (Int.toNat
                                      (Int.fdiv
                                        (List.getD firstT
                                          (Int.toNat (List.getD b (Int.toNat (0 : Int)) (0 : Int)))
                                          (0 : Int))
                                        (A.p2 (4 : Int) (8 : Nat))))
                                    (Ty.zero
                                      (Ty.struct (Ty.prod (Ty.int IntKind.u8) (Ty.prod (Ty.int IntKind.u8) Ty.unit))))))]
                      else none
                    else
                      k Ex.ret [X.sl (Ty.int IntKind.u8) b nl false, X.d Ty.bool false]
                        [(Ty.struct (Ty.prod (Ty.int IntKind.u8) (Ty.prod (Ty.int IntKind.u8) Ty.unit)),
                            X.d (Ty.struct (Ty.prod (Ty.int IntKind.u8) (Ty.prod (Ty.int IntKind.u8) Ty.unit)))
                              (List.getD acceptT
                                (Int.toNat
                                  (Int.fdiv
                                    (List.getD firstT
                                      (Int.toNat (List.getD b (Int.toNat (0 : Int)) (0 : Int)))
                                      (0 : Int))
                                    (A.p2 (4 : Int) (8 : Nat))))
                                (Ty.zero (Ty.struct (Ty.prod (Ty.int IntKind.u8) (Ty.prod (Ty.int IntKind.u8) Ty.unit))))))]
                  else
                    k Ex.ret [X.sl (Ty.int IntKind.u8) b nl false, X.d Ty.bool false]
                      [(Ty.struct (Ty.prod (Ty.int IntKind.u8) (Ty.prod (Ty.int IntKind.u8) Ty.unit)),
                          X.d (Ty.struct (Ty.prod (Ty.int IntKind.u8) (Ty.prod (Ty.int IntKind.u8) Ty.unit)))
                            (List.getD acceptT
                              (Int.toNat
                                (Int.fdiv
                                  (List.getD firstT
                                    (Int.toNat (List.getD b (Int.toNat (0 : Int)) (0 : Int)))
                                    (0 : Int))
                                  (A.p2 (4 : Int) (8 : Nat))))
                              (Ty.zero (Ty.struct (Ty.prod (Ty.int IntKind.u8) (Ty.prod (Ty.int IntKind.u8) Ty.unit))))))]
            else none
          else none
      else none
    else k (Ex.exit (0 : Nat)) [X.sl (Ty.int IntKind.u8) b nl false, X.d Ty.bool x] []) := by kernel_rfl
theorem lValB (A : Ar) (R : Type) (b : List Int) (nl : Option Bool) (x : Bool) (k : Ex → List X → Hp → Option R) : stepF (Cx A (Out7 A) (Lval A)) 100 (loopAt Tryd.f24 1) 188 [0, 2] [u8s b nl false, boolx x] [] k =
    (bif decide ((↑(List.length b) : Int) > (32 : Int)) == true then
      bif A.se (bytesB b && decide ((8 : Nat) ≤ List.length b)) then
        bif decide ((0 : Int) ≤ (8 : Int) ∧ (8 : Int) ≤ (↑(List.length b) : Int)) then
          bif
              A.se
                (bytesB (List.drop (Int.toNat (8 : Int)) b) &&
                  decide ((8 : Nat) ≤ List.length (List.drop (Int.toNat (8 : Int)) b))) then
            bif decide ((0 : Int) ≤ (16 : Int) ∧ (16 : Int) ≤ (↑(List.length b) : Int)) then
              bif
                  A.se
                    (bytesB (List.drop (Int.toNat (16 : Int)) b) &&
                      decide ((8 : Nat) ≤ List.length (List.drop (Int.toNat (16 : Int)) b))) then
                bif decide ((0 : Int) ≤ (24 : Int) ∧ (24 : Int) ≤ (↑(List.length b) : Int)) then
                  bif
                      A.se
                        (bytesB (List.drop (Int.toNat (24 : Int)) b) &&
                          decide ((8 : Nat) ≤ List.length (List.drop (Int.toNat (24 : Int)) b))) then
                    bif
                        A.wrap IntKind.u64
                            (A.band (64 : Nat)
                              (A.wrap IntKind.u64
                                (A.bor (64 : Nat)
                                  (A.wrap IntKind.u64
                                    (A.bor (64 : Nat) (A.se (wordL (List.take (8 : Nat) b)))
                                      (A.se (wordL (List.take (8 : Nat) (List.drop (Int.toNat (8 : Int)) b))))))
                                  (A.wrap IntKind.u64
                                    (A.bor (64 : Nat)
                                      (A.se (wordL (List.take (8 : Nat) (List.drop (Int.toNat (16 : Int)) b))))
                                      (A.se (wordL (List.take (8 : Nat) (List.drop (Int.toNat (24 : Int)) b))))))))
                              (9259542123273814144 : Int)) ==
                          (0 : Int) then
                      bif
                          decide
                            ((0 : Int) ≤ (32 : Int) ∧ (32 : Int) ≤ (↑(List.length b) : Int)) then
                        k Ex.normal [X.sl (Ty.int IntKind.u8) (List.drop (Int.toNat (32 : Int)) b) nl false, X.d Ty.bool x]
                          []
                      else none
                    else k (Ex.exit (2 : Nat)) [X.sl (Ty.int IntKind.u8) b nl false, X.d Ty.bool x] []
                  else none
                else none
              else none
            else none
          else none
        else none
      else none
    else k (Ex.exit (2 : Nat)) [X.sl (Ty.int IntKind.u8) b nl false, X.d Ty.bool x] []) := by kernel_rfl
theorem tValid (A : Ar) (b : List Int) (nl : Option Bool) : bodyX (Cx A (Out7 A) (Lval A)) 100 Tryd.f24 [u8s b nl false] [] =
    (bif
        decide
          ((0 : Int) ≤ (↑(List.length b) : Int) ∧
            (↑(List.length b) : Int) ≤ (↑(List.length b) : Int)) then
      bif decide ((↑(List.length b) : Int) ≤ (↑(List.length b) : Int)) then
        bif
            A.se
              (bytesB (List.take (Int.toNat (↑(List.length b) : Int)) b) &&
                decide (List.length (List.take (Int.toNat (↑(List.length b) : Int)) b) ≤ (1000000 : Nat))) then
          bif A.se (validU (List.take (Int.toNat (↑(List.length b) : Int)) b)) then some (X.d Ty.bool true, [])
          else some (X.d Ty.bool false, [])
        else none
      else none
    else none) := by kernel_rfl
theorem lURead (A : Ar) (R : Type) (out : List Int) (nl : Bool) (s : ByteArray) (p : Int) (k : Ex → List X → Hp → Option R) : stepF (Cx A (Out8 A) (LuRead A)) 100 (loopAt Tryd.f15 0) 22 [4, 12] [i64s out (some nl) true, .ptr 0 []] [(.unit, .tup [.d .str s, .d (.int .i64) p])] k =
    (bif decide (p < (↑(ByteArray.size s) : Int)) then
      bif
          decide
            ((List.length out + List.length [A.wrap IntKind.i64 (runeAt s p)]) * (8 : Nat) ≤ (140737488355328 : Nat)) then
        k Ex.normal
          [X.sl (Ty.int IntKind.i64) (out ++ [A.wrap IntKind.i64 (runeAt s p)])
              (some (nl && List.isEmpty [A.wrap IntKind.i64 (runeAt s p)])) true,
            X.ptr (0 : Nat) []]
          [(Ty.unit, X.tup [X.d Ty.str s, X.d (Ty.int IntKind.i64) (p + widthAt s p)])]
      else none
    else
      k (Ex.exit (0 : Nat)) [X.sl (Ty.int IntKind.i64) out (some nl) true, X.ptr (0 : Nat) []]
        [(Ty.unit, X.tup [X.d Ty.str s, X.d (Ty.int IntKind.i64) p])]) := by kernel_rfl
theorem tURead (A : Ar) (b : List Int) (nl : Option Bool) : bodyX (Cx A (Out8 A) (LuRead A)) 100 Tryd.f15 [u8s b nl false] [] =
    (bif A.se (bytesB b && decide (List.length b ≤ (1000000 : Nat))) then
      bif !A.se (validU b) then
        some (X.tup [X.sl (Ty.int IntKind.i64) [] (some true) false, X.d (Ty.int IntKind.i64) (10 : Int)], [])
      else
        bif
            A.se
              (decide
                  ((0 : Int) ≤ (0 : Int) ∧
                    (0 : Int) ≤ (↑(ByteArray.size (strOf b)) : Int) ∧
                      (↑(0 : Nat) : Int) + ((↑(ByteArray.size (strOf b)) : Int) - (0 : Int)) ≤ (1000000 : Int)) &&
                validU (List.drop (Int.toNat (0 : Int)) (bytesOf (strOf b)))) then
          some
            (X.tup
                [X.sl (Ty.int IntKind.i64) (A.se ([] ++ sg (strOf b) (0 : Int)))
                    (some (A.se (true && List.isEmpty (sg (strOf b) (0 : Int))))) false,
                  X.d (Ty.int IntKind.i64) (0 : Int)],
              [(Ty.unit,
                  X.tup [X.d Ty.str (strOf b), X.d (Ty.int IntKind.i64) (A.se (↑(ByteArray.size (strOf b)) : Int))])])
        else none
    else none) := by kernel_rfl
theorem lRRead (A : Ar) (R : Type) (b : List Int) (nl : Option Bool) (z : Int) (out : List Int) (nl2 : Bool) (k : Ex → List X → Hp → Option R) : stepF (Cx A (Out8 A) (LrRead A)) 100 (loopAt Tryd.f16 0) 28 [0, 2, 3, 4] [u8s b nl false, i64s [] (some true) true, i64x z, i64s out (some nl2) true] [] k =
    (bif decide ((↑(List.length b) : Int) > (0 : Int)) then
      bif A.se (bytesB b) then
        bif A.se (uE b) != (0 : Int) then
          k Ex.ret
            [X.sl (Ty.int IntKind.u8) b nl false, X.sl (Ty.int IntKind.i64) [] (some true) true,
              X.d (Ty.int IntKind.i64) (A.se (uE b)), X.sl (Ty.int IntKind.i64) out (some nl2) true]
            []
        else
          bif decide ((List.length out + List.length [A.se (uN b)]) * (8 : Nat) ≤ (140737488355328 : Nat)) then
            bif decide ((0 : Int) ≤ A.se (uL b) ∧ A.se (uL b) ≤ (↑(List.length b) : Int)) then
              k Ex.normal
                [X.sl (Ty.int IntKind.u8) (List.drop (Int.toNat (A.se (uL b))) b) nl false,
                  X.sl (Ty.int IntKind.i64) [] (some true) true, X.d (Ty.int IntKind.i64) z,
                  X.sl (Ty.int IntKind.i64) (out ++ [A.se (uN b)]) (some (nl2 && List.isEmpty [A.se (uN b)])) true]
                []
            else none
          else none
      else none
    else
      k (Ex.exit (0 : Nat))
        [X.sl (Ty.int IntKind.u8) b nl false, X.sl (Ty.int IntKind.i64) [] (some true) true, X.d (Ty.int IntKind.i64) z,
          X.sl (Ty.int IntKind.i64) out (some nl2) true]
        []) := by kernel_rfl
theorem tRRead (A : Ar) (b : List Int) (nl : Option Bool) : bodyX (Cx A (Out8 A) (LrRead A)) 100 Tryd.f16 [u8s b nl false] [] =
    (bif A.se (bytesB b && decide ((0 : Nat) + List.length b ≤ (1000000 : Nat))) then
      bif A.se (validU b) then
        some
          (X.tup
              [X.sl (Ty.int IntKind.i64) (A.se ([] ++ rdL b)) (some (A.se (true && List.isEmpty (rdL b)))) false,
                X.d (Ty.int IntKind.i64) (0 : Int)],
            [])
      else some (X.tup [X.sl (Ty.int IntKind.i64) [] (some true) false, X.d (Ty.int IntKind.i64) (10 : Int)], [])
    else none) := by kernel_rfl
theorem lSame (A : Ar) (R : Type) (a : List Int) (nl : Option Bool) (b : List Int) (nl2 : Option Bool) (x : Bool) (i : Int) (k : Ex → List X → Hp → Option R) : stepF (Cx A (Out7 A) (Lsame A)) 100 (loopAt Tryd.f17 0) 26 [0, 1, 4, 5] [i64s a nl false, i64s b nl2 false, boolx x, i64x i] [] k =
    (bif decide (i < (↑(List.length a) : Int)) then
      bif decide ((0 : Int) ≤ i ∧ i < (↑(List.length a) : Int)) then
        bif decide ((0 : Int) ≤ i ∧ i < (↑(List.length b) : Int)) then
          bif
              List.getD a (Int.toNat i) (0 : Int) !=
                List.getD b (Int.toNat i) (0 : Int) then
            k Ex.ret
              [X.sl (Ty.int IntKind.i64) a nl false, X.sl (Ty.int IntKind.i64) b nl2 false, X.d Ty.bool false,
                X.d (Ty.int IntKind.i64) i]
              []
          else
            k Ex.normal
              [X.sl (Ty.int IntKind.i64) a nl false, X.sl (Ty.int IntKind.i64) b nl2 false, X.d Ty.bool x,
                X.d (Ty.int IntKind.i64) (A.wrap IntKind.i64 (i + (1 : Int)))]
              []
        else none
      else none
    else
      k (Ex.exit (0 : Nat))
        [X.sl (Ty.int IntKind.i64) a nl false, X.sl (Ty.int IntKind.i64) b nl2 false, X.d Ty.bool x,
          X.d (Ty.int IntKind.i64) i]
        []) := by kernel_rfl
theorem tSame (A : Ar) (a : List Int) (nl : Option Bool) (b : List Int) (nl2 : Option Bool) : bodyX (Cx A (Out7 A) (Lsame A)) 100 Tryd.f17 [i64s a nl false, i64s b nl2 false] [] =
    (bif (↑(List.length a) : Int) != (↑(List.length b) : Int) then some (X.d Ty.bool false, [])
    else
      bif
          A.se
            (decide
              (List.length a ≤ (9223372036854775806 : Nat) ∧
                List.length a = List.length b ∧
                  (0 : Int) ≤ (0 : Int) ∧
                    (0 : Int) ≤ (↑(List.length a) : Int))) then
        bif A.se (decide (List.drop (Int.toNat (0 : Int)) a = List.drop (Int.toNat (0 : Int)) b)) then
          some (X.d Ty.bool true, [])
        else some (X.d Ty.bool false, [])
      else none) := by kernel_rfl
theorem tAwake (A : Ar) : bodyX (Cx A (Out9 A) noL) 100 Tryd.f10 [] [] =
    (bif A.se (decide (List.length [(228 : Int), (8364 : Int), (65 : Int)] ≤ (17592186044416 : Nat))) then
      bif
          A.se
            (bytesB (A.se (putL [(228 : Int), (8364 : Int), (65 : Int)])) &&
              decide (List.length (A.se (putL [(228 : Int), (8364 : Int), (65 : Int)])) ≤ (1000000 : Nat))) then
        bif A.se (bytesB [(226 : Int), (130 : Int), (172 : Int), (9 : Int)]) then
          bif A.se (decide (List.length [(55296 : Int)] ≤ (17592186044416 : Nat))) then
            bif
                A.se
                  (bytesB [(192 : Int), (128 : Int)] &&
                    decide (List.length [(192 : Int), (128 : Int)] ≤ (1000000 : Nat))) then
              bif A.se (bytesB []) then
                bif
                    A.seq (strOf (A.se (putL [(228 : Int), (8364 : Int), (65 : Int)])))
                        {
                          data :=
                            #[(195 : UInt8), (164 : UInt8), (226 : UInt8), (130 : UInt8), (172 : UInt8), (65 : UInt8)] } ==
                      true then
                  bif (A.se (putE [(228 : Int), (8364 : Int), (65 : Int)]) == (0 : Int)) == true then
                    bif
                        A.se
                          (decide
                            (List.length (A.se (rdL (A.se (putL [(228 : Int), (8364 : Int), (65 : Int)])))) ≤
                              (9223372036854775806 : Nat))) then
                      bif
                          A.se
                              (decide
                                (A.se (rdL (A.se (putL [(228 : Int), (8364 : Int), (65 : Int)]))) =
                                  [(228 : Int), (8364 : Int), (65 : Int)])) ==
                            true then
                        bif (A.se (rdE (A.se (putL [(228 : Int), (8364 : Int), (65 : Int)]))) == (0 : Int)) == true then
                          bif (A.se (uN [(226 : Int), (130 : Int), (172 : Int), (9 : Int)]) == (8364 : Int)) == true then
                            bif (A.se (uL [(226 : Int), (130 : Int), (172 : Int), (9 : Int)]) == (3 : Int)) == true then
                              bif (A.se (uE [(226 : Int), (130 : Int), (172 : Int), (9 : Int)]) == (0 : Int)) == true then
                                bif (A.se (putE [(55296 : Int)]) == (10 : Int)) == true then
                                  bif (A.se (rdE [(192 : Int), (128 : Int)]) == (10 : Int)) == true then
                                    bif (A.se (uE []) == (10 : Int)) == true then
                                      bif A.se (goodN (1114111 : Int)) == true then
                                        bif !A.se (goodN (-1 : Int)) then some (X.d Ty.bool true, [])
                                        else some (X.d Ty.bool false, [])
                                      else some (X.d Ty.bool false, [])
                                    else some (X.d Ty.bool false, [])
                                  else some (X.d Ty.bool false, [])
                                else some (X.d Ty.bool false, [])
                              else some (X.d Ty.bool false, [])
                            else some (X.d Ty.bool false, [])
                          else some (X.d Ty.bool false, [])
                        else some (X.d Ty.bool false, [])
                      else some (X.d Ty.bool false, [])
                    else none
                  else some (X.d Ty.bool false, [])
                else some (X.d Ty.bool false, [])
              else none
            else none
          else none
        else none
      else none
    else none) := by kernel_rfl

end Go.Proofs.YtnjlfeigcappjaaDoor.V

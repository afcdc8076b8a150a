/-
  Chapter 04, lines: each function's tree. By program; each equation is checked by the kernel.
  It speaks of the pinned program alone; no condition.
-/
import Derived.Test.YtngifmlpilemlaaLi3
namespace Go.Proofs.Ytngifmlpilemlaa.V
open Go
set_option linter.unusedVariables false
set_option linter.unusedSimpArgs false

theorem tClone (A : Ar) (b : List Int) (nl : Bool) : bodyX (Cx A noO noL) 100 Try.f13 [u8s b (some nl) false] [] =
    (bif nl then some (X.sl (Ty.int IntKind.u8) [] (some true) true, [])
    else
      bif decide (((0 : Nat) + List.length b) * (1 : Nat) ≤ (140737488355328 : Nat)) then
        some (X.sl (Ty.int IntKind.u8) ([] ++ b) (some (false && List.isEmpty b)) true, [])
      else none) := by kernel_rfl
theorem tEnd (A : Ar) (c : Int) : bodyX (Cx A noO noL) 100 Try.f12 [u8x c] [] =
    (some (X.d Ty.bool (c == (10 : Int)), [])) := by kernel_rfl
theorem tIxb (A : Ar) (xs : List Int) (nl : Option Bool) (c : Int) : bodyX (Cx A (Ol2 A) noL) 100 Try.f15 [u8s xs nl false, u8x c] [] =
    (bif
        A.se
          (decide (xs = [(32 : Int), (9 : Int)]) &&
            decide ((0 : Int) ≤ c ∧ c < (256 : Int))) then
      some
        (X.d (Ty.int IntKind.i64)
            (A.se
              (bif c == (32 : Int) then (0 : Int)
              else bif c == (9 : Int) then (1 : Int) else (-1 : Int))),
          [])
    else none) := by kernel_rfl
theorem tBl (A : Ar) (c : Int) : bodyX (Cx A (Ol3 A) noL) 100 Try.f14 [u8x c] [] =
    (bif
        A.se
          (decide ([(32 : Int), (9 : Int)] = [(32 : Int), (9 : Int)]) &&
            decide ((0 : Int) ≤ c ∧ c < (256 : Int))) then
      some
        (X.d Ty.bool
            (decide
              (A.se
                  (bif c == (32 : Int) then (0 : Int)
                  else bif c == (9 : Int) then (1 : Int) else (-1 : Int)) ≥
                (0 : Int))),
          [])
    else none) := by kernel_rfl
theorem lIdxE (A : Ar) (R : Type) (b : List Int) (nl : Option Bool) (z l i : Int) (k : Ex → List X → Hp → Option R) : stepF (Cx A (Ol4 A) (Lidx A)) 100 (loopAt Try.f17 0) 19 [0, 1, 4, 7, 8] [u8s b nl false, .fn 12 [] [], i64x z, i64x l, i64x i] [] k =
    (bif decide (i < l) then
      bif decide ((0 : Int) ≤ i ∧ i < (↑(List.length b) : Int)) then
        bif List.getD b (Int.toNat i) (0 : Int) == (10 : Int) then
          k Ex.ret
            [X.sl (Ty.int IntKind.u8) b nl false, X.fn (12 : Nat) [] [], X.d (Ty.int IntKind.i64) i,
              X.d (Ty.int IntKind.i64) l, X.d (Ty.int IntKind.i64) i]
            []
        else
          k Ex.normal
            [X.sl (Ty.int IntKind.u8) b nl false, X.fn (12 : Nat) [] [], X.d (Ty.int IntKind.i64) z,
              X.d (Ty.int IntKind.i64) l, X.d (Ty.int IntKind.i64) (A.wrap IntKind.i64 (i + (1 : Int)))]
            []
      else none
    else
      k (Ex.exit (0 : Nat))
        [X.sl (Ty.int IntKind.u8) b nl false, X.fn (12 : Nat) [] [], X.d (Ty.int IntKind.i64) z, X.d (Ty.int IntKind.i64) l,
          X.d (Ty.int IntKind.i64) i]
        []) := by kernel_rfl
theorem lIdxB (A : Ar) (R : Type) (b : List Int) (nl : Option Bool) (z l i : Int) (k : Ex → List X → Hp → Option R) : stepF (Cx A (Ol4 A) (Lidx A)) 100 (loopAt Try.f17 0) 19 [0, 1, 4, 7, 8] [u8s b nl false, .fn 14 [] [], i64x z, i64x l, i64x i] [] k =
    (bif decide (i < l) then
      bif decide ((0 : Int) ≤ i ∧ i < (↑(List.length b) : Int)) then
        bif
            A.se
              (decide
                ((0 : Int) ≤ List.getD b (Int.toNat i) (0 : Int) ∧
                  List.getD b (Int.toNat i) (0 : Int) < (256 : Int))) then
          bif A.se (isBl (List.getD b (Int.toNat i) (0 : Int))) then
            k Ex.ret
              [X.sl (Ty.int IntKind.u8) b nl false, X.fn (14 : Nat) [] [], X.d (Ty.int IntKind.i64) i,
                X.d (Ty.int IntKind.i64) l, X.d (Ty.int IntKind.i64) i]
              []
          else
            k Ex.normal
              [X.sl (Ty.int IntKind.u8) b nl false, X.fn (14 : Nat) [] [], X.d (Ty.int IntKind.i64) z,
                X.d (Ty.int IntKind.i64) l, X.d (Ty.int IntKind.i64) (A.wrap IntKind.i64 (i + (1 : Int)))]
              []
        else none
      else none
    else
      k (Ex.exit (0 : Nat))
        [X.sl (Ty.int IntKind.u8) b nl false, X.fn (14 : Nat) [] [], X.d (Ty.int IntKind.i64) z, X.d (Ty.int IntKind.i64) l,
          X.d (Ty.int IntKind.i64) i]
        []) := by kernel_rfl
theorem tIdxE (A : Ar) (b : List Int) (nl : Option Bool) : bodyX (Cx A (Ol4 A) (Lidx A)) 100 Try.f17 [u8s b nl false, .fn 12 [] []] [] =
    (bif
        A.se
          (bytesB b &&
            decide
              (List.length b ≤ (1000000000 : Nat) ∧
                (↑(List.length b) : Int) = (↑(List.length b) : Int) ∧
                  (0 : Int) ≤ (0 : Int) ∧ (0 : Int) ≤ (↑(List.length b) : Int))) then
      bif A.se (decide (idxP isEnd (List.drop (Int.toNat (0 : Int)) b) < (0 : Int))) then
        some (X.d (Ty.int IntKind.i64) (-1 : Int), [])
      else some (X.d (Ty.int IntKind.i64) (A.se ((0 : Int) + idxP isEnd (List.drop (Int.toNat (0 : Int)) b))), [])
    else none) := by kernel_rfl
theorem tIdxB (A : Ar) (b : List Int) (nl : Option Bool) : bodyX (Cx A (Ol4 A) (Lidx A)) 100 Try.f17 [u8s b nl false, .fn 14 [] []] [] =
    (bif
        A.se
          (bytesB b &&
            decide
              (List.length b ≤ (1000000000 : Nat) ∧
                (↑(List.length b) : Int) = (↑(List.length b) : Int) ∧
                  (0 : Int) ≤ (0 : Int) ∧ (0 : Int) ≤ (↑(List.length b) : Int))) then
      bif A.se (decide (idxP isBl (List.drop (Int.toNat (0 : Int)) b) < (0 : Int))) then
        some (X.d (Ty.int IntKind.i64) (-1 : Int), [])
      else some (X.d (Ty.int IntKind.i64) (A.se ((0 : Int) + idxP isBl (List.drop (Int.toNat (0 : Int)) b))), [])
    else none) := by kernel_rfl
theorem tPieces (A : Ar) (h : Ty × X) (b : List Int) (nl : Option Bool) (g : Nat) : bodyX (Cx A (Ol5 A) noL) 100 Try.f11 [u8s b nl false, .fn g [] []] [h] =
    (some
      (X.fn (16 : Nat) []
          [X.ptr (List.length [h]) [],
            X.ptr
              (List.length
                ([h] ++
                  [(Ty.slice (Ty.int IntKind.u8),
                      typed (Cx A (Ol5 A) noL) (23 : Nat)
                        (St.val
                          {
                            tm :=
                              [u8s b nl false, X.fn g [] []] ++
                                List.replicate ((6 : Nat) - List.length [u8s b nl false, X.fn g [] []]) X.undef,
                            H := [h] }
                          (Operand.tmp (0 : Nat))))]))
              []],
        [h, (Ty.slice (Ty.int IntKind.u8), X.sl (Ty.int IntKind.u8) b nl false), (Ty.any, X.fn g [] [])])) := by kernel_rfl
theorem tAll (A : Ar) (q : List Int) (nl : Option Bool) (out : List (List Int)) (x : Bool) (h1 h2 : Ty × X) : roundX (CxG A (Ol5 A) noL noY (fun _ => none) true) 100 7 3 [.ptr 0 []] [u8s q nl false] [(ssT, sss out (some x) true), h1, h2, (.unit, .rnd 7 [.ptr 0 []])] =
    (bif A.se (decide (List.length q ≤ (1000000000 : Nat)) && nlO nl q) then
      bif decide ((List.length out + List.length [q]) * (24 : Nat) ≤ (140737488355328 : Nat)) then
        some
          (true,
            [(ssT, X.sl sT (out ++ [q]) (some (x && List.isEmpty [q])) true), h1, h2,
              (Ty.unit, X.rnd (7 : Nat) [X.ptr (0 : Nat) []])])
      else none
    else none) := by kernel_rfl
theorem tFull (A : Ar) (q : List Int) (nl : Option Bool) (out : List (List Int)) (x : Bool) (h1 h2 : Ty × X) : roundX (CxG A (Ol5 A) noL noY (fun _ => none) true) 100 9 3 [.ptr 0 []] [u8s q nl false] [(ssT, sss out (some x) true), h1, h2, (.unit, .rnd 9 [.ptr 0 []])] =
    (bif decide ((↑(List.length q) : Int) > (0 : Int)) then
      bif A.se (decide (List.length q ≤ (1000000000 : Nat)) && nlO nl q) then
        bif decide ((List.length out + List.length [q]) * (24 : Nat) ≤ (140737488355328 : Nat)) then
          some
            (true,
              [(ssT, X.sl sT (out ++ [q]) (some (x && List.isEmpty [q])) true), h1, h2,
                (Ty.unit, X.rnd (9 : Nat) [X.ptr (0 : Nat) []])])
        else none
      else none
    else some (true, [(ssT, X.sl sT out (some x) true), h1, h2, (Ty.unit, X.rnd (9 : Nat) [X.ptr (0 : Nat) []])])) := by kernel_rfl
theorem lSeqE (A : Ar) (R : Type) (b : List Int) (nl : Option Bool) (i : Int) (out : List (List Int)) (x : Bool) (k : Ex → List X → Hp → Option R) : stepF (CxG A (Ol5 A) (Lseq A) (Ys A) (fun _ => none) false) 100 (loopAt Try.f16 0) 34 [0, 1, 2, 4] [.yld 3, .ptr 1 [], .ptr 2 [], i64x i] [(ssT, sss out (some x) true), (sT, u8s b nl false), (.any, .fn 12 [] []), (.unit, .rnd 7 [.ptr 0 []])] k =
    (bif decide (i ≤ (↑(List.length b) : Int)) then
      bif decide ((0 : Int) ≤ i ∧ i ≤ (↑(List.length b) : Int)) then
        bif
            A.se
              (bytesB (List.drop (Int.toNat i) b) &&
                decide (List.length (List.drop (Int.toNat i) b) ≤ (1000000000 : Nat))) then
          bif decide (A.se (idxP isEnd (List.drop (Int.toNat i) b)) < (0 : Int)) then
            bif
                decide
                  ((0 : Int) ≤
                      A.wrap IntKind.i64 (i + A.wrap IntKind.i64 ((↑(List.length b) : Int) - i)) ∧
                    A.wrap IntKind.i64 (i + A.wrap IntKind.i64 ((↑(List.length b) : Int) - i)) ≤
                      (↑(List.length b) : Int)) then
              bif
                  decide
                    ((0 : Int) ≤ i ∧
                      i ≤ A.wrap IntKind.i64 (i + A.wrap IntKind.i64 ((↑(List.length b) : Int) - i))) then
                bif
                    A.se
                      (decide
                          (List.length
                                (List.drop (Int.toNat i)
                                  (List.take
                                    (Int.toNat (A.wrap IntKind.i64 (i + A.wrap IntKind.i64 ((↑(List.length b) : Int) - i))))
                                    b)) ≤
                              (1000000000 : Nat) ∧
                            List.length out ≤ (1000000 : Nat)) &&
                        nlO nl
                          (List.drop (Int.toNat i)
                            (List.take
                              (Int.toNat (A.wrap IntKind.i64 (i + A.wrap IntKind.i64 ((↑(List.length b) : Int) - i))))
                              b))) then
                  k Ex.normal
                    [X.yld (3 : Nat), X.ptr (1 : Nat) [], X.ptr (2 : Nat) [],
                      X.d (Ty.int IntKind.i64)
                        (A.wrap IntKind.i64
                          (i + A.wrap IntKind.i64 (A.wrap IntKind.i64 ((↑(List.length b) : Int) - i) + (1 : Int))))]
                    [(ssT,
                        X.sl sT
                          (out ++
                            [List.drop (Int.toNat i)
                                (List.take
                                  (Int.toNat (A.wrap IntKind.i64 (i + A.wrap IntKind.i64 ((↑(List.length b) : Int) - i))))
                                  b)])
                          (some (A.se false)) true),
                      (sT, X.sl (Ty.int IntKind.u8) b nl false), (Ty.any, X.fn (12 : Nat) [] []),
                      (Ty.unit, X.rnd (7 : Nat) [X.ptr (0 : Nat) []])]
                else none
              else none
            else none
          else
            bif
                decide
                  ((0 : Int) ≤
                      A.wrap IntKind.i64 (i + A.se (idxP isEnd (List.drop (Int.toNat i) b))) ∧
                    A.wrap IntKind.i64 (i + A.se (idxP isEnd (List.drop (Int.toNat i) b))) ≤ (↑(List.length b) : Int)) then
              bif
                  decide
                    ((0 : Int) ≤ i ∧
                      i ≤ A.wrap IntKind.i64 (i + A.se (idxP isEnd (List.drop (Int.toNat i) b)))) then
                bif
                    A.se
                      (decide
                          (List.length
                                (List.drop (Int.toNat i)
                                  (List.take
                                    (Int.toNat (A.wrap IntKind.i64 (i + A.se (idxP isEnd (List.drop (Int.toNat i) b)))))
                                    b)) ≤
                              (1000000000 : Nat) ∧
                            List.length out ≤ (1000000 : Nat)) &&
                        nlO nl
                          (List.drop (Int.toNat i)
                            (List.take (Int.toNat (A.wrap IntKind.i64 (i + A.se (idxP isEnd (List.drop (Int.toNat i) b)))))
                              b))) then
                  k Ex.normal
                    [X.yld (3 : Nat), X.ptr (1 : Nat) [], X.ptr (2 : Nat) [],
                      X.d (Ty.int IntKind.i64)
                        (A.wrap IntKind.i64
                          (i + A.wrap IntKind.i64 (A.se (idxP isEnd (List.drop (Int.toNat i) b)) + (1 : Int))))]
                    [(ssT,
                        X.sl sT
                          (out ++
                            [List.drop (Int.toNat i)
                                (List.take
                                  (Int.toNat (A.wrap IntKind.i64 (i + A.se (idxP isEnd (List.drop (Int.toNat i) b))))) b)])
                          (some (A.se false)) true),
                      (sT, X.sl (Ty.int IntKind.u8) b nl false), (Ty.any, X.fn (12 : Nat) [] []),
                      (Ty.unit, X.rnd (7 : Nat) [X.ptr (0 : Nat) []])]
                else none
              else none
            else none
        else none
      else none
    else
      k (Ex.exit (0 : Nat)) [X.yld (3 : Nat), X.ptr (1 : Nat) [], X.ptr (2 : Nat) [], X.d (Ty.int IntKind.i64) i]
        [(ssT, X.sl sT out (some x) true), (sT, X.sl (Ty.int IntKind.u8) b nl false), (Ty.any, X.fn (12 : Nat) [] []),
          (Ty.unit, X.rnd (7 : Nat) [X.ptr (0 : Nat) []])]) := by kernel_rfl
theorem lSeqB (A : Ar) (R : Type) (b : List Int) (nl : Option Bool) (i : Int) (out : List (List Int)) (x : Bool) (k : Ex → List X → Hp → Option R) : stepF (CxG A (Ol5 A) (Lseq A) (Ys A) (fun _ => none) false) 100 (loopAt Try.f16 0) 34 [0, 1, 2, 4] [.yld 3, .ptr 1 [], .ptr 2 [], i64x i] [(ssT, sss out (some x) true), (sT, u8s b nl false), (.any, .fn 14 [] []), (.unit, .rnd 9 [.ptr 0 []])] k =
    (bif decide (i ≤ (↑(List.length b) : Int)) then
      bif decide ((0 : Int) ≤ i ∧ i ≤ (↑(List.length b) : Int)) then
        bif
            A.se
              (bytesB (List.drop (Int.toNat i) b) &&
                decide (List.length (List.drop (Int.toNat i) b) ≤ (1000000000 : Nat))) then
          bif decide (A.se (idxP isBl (List.drop (Int.toNat i) b)) < (0 : Int)) then
            bif
                decide
                  ((0 : Int) ≤
                      A.wrap IntKind.i64 (i + A.wrap IntKind.i64 ((↑(List.length b) : Int) - i)) ∧
                    A.wrap IntKind.i64 (i + A.wrap IntKind.i64 ((↑(List.length b) : Int) - i)) ≤
                      (↑(List.length b) : Int)) then
              bif
                  decide
                    ((0 : Int) ≤ i ∧
                      i ≤ A.wrap IntKind.i64 (i + A.wrap IntKind.i64 ((↑(List.length b) : Int) - i))) then
                bif
                    A.se
                      (decide
                          (List.length
                                (List.drop (Int.toNat i)
                                  (List.take
                                    (Int.toNat (A.wrap IntKind.i64 (i + A.wrap IntKind.i64 ((↑(List.length b) : Int) - i))))
                                    b)) ≤
                              (1000000000 : Nat) ∧
                            List.length out ≤ (1000000 : Nat)) &&
                        nlO nl
                          (List.drop (Int.toNat i)
                            (List.take
                              (Int.toNat (A.wrap IntKind.i64 (i + A.wrap IntKind.i64 ((↑(List.length b) : Int) - i))))
                              b))) then
                  k Ex.normal
                    [X.yld (3 : Nat), X.ptr (1 : Nat) [], X.ptr (2 : Nat) [],
                      X.d (Ty.int IntKind.i64)
                        (A.wrap IntKind.i64
                          (i + A.wrap IntKind.i64 (A.wrap IntKind.i64 ((↑(List.length b) : Int) - i) + (1 : Int))))]
                    [(ssT,
                        X.sl sT
                          (A.se
                            (out ++
                              full
                                [List.drop (Int.toNat i)
                                    (List.take
                                      (Int.toNat
                                        (A.wrap IntKind.i64 (i + A.wrap IntKind.i64 ((↑(List.length b) : Int) - i))))
                                      b)]))
                          (some
                            (A.se
                              (x &&
                                List.isEmpty
                                  (List.drop (Int.toNat i)
                                    (List.take
                                      (Int.toNat
                                        (A.wrap IntKind.i64 (i + A.wrap IntKind.i64 ((↑(List.length b) : Int) - i))))
                                      b)))))
                          true),
                      (sT, X.sl (Ty.int IntKind.u8) b nl false), (Ty.any, X.fn (14 : Nat) [] []),
                      (Ty.unit, X.rnd (9 : Nat) [X.ptr (0 : Nat) []])]
                else none
              else none
            else none
          else
            bif
                decide
                  ((0 : Int) ≤
                      A.wrap IntKind.i64 (i + A.se (idxP isBl (List.drop (Int.toNat i) b))) ∧
                    A.wrap IntKind.i64 (i + A.se (idxP isBl (List.drop (Int.toNat i) b))) ≤ (↑(List.length b) : Int)) then
              bif
                  decide
                    ((0 : Int) ≤ i ∧
                      i ≤ A.wrap IntKind.i64 (i + A.se (idxP isBl (List.drop (Int.toNat i) b)))) then
                bif
                    A.se
                      (decide
                          (List.length
                                (List.drop (Int.toNat i)
                                  (List.take
                                    (Int.toNat (A.wrap IntKind.i64 (i + A.se (idxP isBl (List.drop (Int.toNat i) b)))))
                                    b)) ≤
                              (1000000000 : Nat) ∧
                            List.length out ≤ (1000000 : Nat)) &&
                        nlO nl
                          (List.drop (Int.toNat i)
                            (List.take (Int.toNat (A.wrap IntKind.i64 (i + A.se (idxP isBl (List.drop (Int.toNat i) b)))))
                              b))) then
                  k Ex.normal
                    [X.yld (3 : Nat), X.ptr (1 : Nat) [], X.ptr (2 : Nat) [],
                      X.d (Ty.int IntKind.i64)
                        (A.wrap IntKind.i64
                          (i + A.wrap IntKind.i64 (A.se (idxP isBl (List.drop (Int.toNat i) b)) + (1 : Int))))]
                    [(ssT,
                        X.sl sT
                          (A.se
                            (out ++
                              full
                                [List.drop (Int.toNat i)
                                    (List.take
                                      (Int.toNat (A.wrap IntKind.i64 (i + A.se (idxP isBl (List.drop (Int.toNat i) b)))))
                                      b)]))
                          (some
                            (A.se
                              (x &&
                                List.isEmpty
                                  (List.drop (Int.toNat i)
                                    (List.take
                                      (Int.toNat (A.wrap IntKind.i64 (i + A.se (idxP isBl (List.drop (Int.toNat i) b)))))
                                      b)))))
                          true),
                      (sT, X.sl (Ty.int IntKind.u8) b nl false), (Ty.any, X.fn (14 : Nat) [] []),
                      (Ty.unit, X.rnd (9 : Nat) [X.ptr (0 : Nat) []])]
                else none
              else none
            else none
        else none
      else none
    else
      k (Ex.exit (0 : Nat)) [X.yld (3 : Nat), X.ptr (1 : Nat) [], X.ptr (2 : Nat) [], X.d (Ty.int IntKind.i64) i]
        [(ssT, X.sl sT out (some x) true), (sT, X.sl (Ty.int IntKind.u8) b nl false), (Ty.any, X.fn (14 : Nat) [] []),
          (Ty.unit, X.rnd (9 : Nat) [X.ptr (0 : Nat) []])]) := by kernel_rfl
theorem tSeqE (A : Ar) (b : List Int) (nl : Option Bool) (out : List (List Int)) (x : Bool) : bodyX (CxG A (Ol5 A) (Lseq A) (Ys A) (fun _ => none) false) 100 Try.f16 [.yld 3, .ptr 1 [], .ptr 2 []] [(ssT, sss out (some x) true), (sT, u8s b nl false), (.any, .fn 12 [] []), (.unit, .rnd 7 [.ptr 0 []])] =
    (bif
        A.se
          (bytesB b &&
            (nlO nl b &&
              (decide (kOf (7 : Nat) = some (12 : Nat)) &&
                decide
                  (List.length b + List.length out ≤ (100000 : Nat) ∧
                    (0 : Int) ≤ (0 : Int) ∧
                      (0 : Int) ≤
                        (↑(List.length b) : Int) + (1 : Int))))) then
      some
        (X.tup [],
          [(ssT,
              X.sl sT (A.se (out ++ tk (7 : Nat) (pcs isEnd b (Int.toNat (0 : Int)))))
                (some (A.se (x && List.isEmpty (tk (7 : Nat) (pcs isEnd b (Int.toNat (0 : Int))))))) true),
            (sT, X.sl (Ty.int IntKind.u8) b nl false), (Ty.any, X.fn (12 : Nat) [] []),
            (Ty.unit, X.rnd (7 : Nat) [X.ptr (0 : Nat) []])])
    else none) := by kernel_rfl
theorem tSeqB (A : Ar) (b : List Int) (nl : Option Bool) (out : List (List Int)) (x : Bool) : bodyX (CxG A (Ol5 A) (Lseq A) (Ys A) (fun _ => none) false) 100 Try.f16 [.yld 3, .ptr 1 [], .ptr 2 []] [(ssT, sss out (some x) true), (sT, u8s b nl false), (.any, .fn 14 [] []), (.unit, .rnd 9 [.ptr 0 []])] =
    (bif
        A.se
          (bytesB b &&
            (nlO nl b &&
              (decide (kOf (9 : Nat) = some (14 : Nat)) &&
                decide
                  (List.length b + List.length out ≤ (100000 : Nat) ∧
                    (0 : Int) ≤ (0 : Int) ∧
                      (0 : Int) ≤
                        (↑(List.length b) : Int) + (1 : Int))))) then
      some
        (X.tup [],
          [(ssT,
              X.sl sT (A.se (out ++ tk (9 : Nat) (pcs isBl b (Int.toNat (0 : Int)))))
                (some (A.se (x && List.isEmpty (tk (9 : Nat) (pcs isBl b (Int.toNat (0 : Int))))))) true),
            (sT, X.sl (Ty.int IntKind.u8) b nl false), (Ty.any, X.fn (14 : Nat) [] []),
            (Ty.unit, X.rnd (9 : Nat) [X.ptr (0 : Nat) []])])
    else none) := by kernel_rfl
theorem tSplit (A : Ar) (b : List Int) (nl : Option Bool) : bodyX (CxG A (Ol6 A) noL noY k7 false) 100 Try.f7 [u8s b nl false] [] =
    (bif
        A.se
          (bytesB b &&
            (nlO nl b &&
              (decide (kOf (7 : Nat) = some (12 : Nat)) && decide (List.length b + (0 : Nat) ≤ (100000 : Nat))))) then
      bif
          decide
            ((0 : Int) ≤ A.wrap IntKind.i64 ((↑(List.length (A.se ([] ++ tk (7 : Nat) (cut isEnd b)))) : Int) - (1 : Int)) ∧
              A.wrap IntKind.i64 ((↑(List.length (A.se ([] ++ tk (7 : Nat) (cut isEnd b)))) : Int) - (1 : Int)) <
                (↑(List.length (A.se ([] ++ tk (7 : Nat) (cut isEnd b)))) : Int)) then
        bif
            (↑(List.length
                    (List.getD (A.se ([] ++ tk (7 : Nat) (cut isEnd b)))
                      (Int.toNat
                        (A.wrap IntKind.i64 ((↑(List.length (A.se ([] ++ tk (7 : Nat) (cut isEnd b)))) : Int) - (1 : Int))))
                      (Ty.zero sT))) :
                Int) ==
              (0 : Int) then
          bif
              decide
                ((0 : Int) ≤
                    A.wrap IntKind.i64 ((↑(List.length (A.se ([] ++ tk (7 : Nat) (cut isEnd b)))) : Int) - (1 : Int)) ∧
                  A.wrap IntKind.i64 ((↑(List.length (A.se ([] ++ tk (7 : Nat) (cut isEnd b)))) : Int) - (1 : Int)) ≤
                    (↑(List.length (A.se ([] ++ tk (7 : Nat) (cut isEnd b)))) : Int)) then
            some
              (X.sl sT
                  (List.take
                    (Int.toNat
                      (A.wrap IntKind.i64 ((↑(List.length (A.se ([] ++ tk (7 : Nat) (cut isEnd b)))) : Int) - (1 : Int))))
                    (A.se ([] ++ tk (7 : Nat) (cut isEnd b))))
                  (some (A.se (true && List.isEmpty (tk (7 : Nat) (cut isEnd b))))) false,
                [(ssT,
                    X.sl sT
                      (List.take
                        (Int.toNat
                          (A.wrap IntKind.i64
                            ((↑(List.length (A.se ([] ++ tk (7 : Nat) (cut isEnd b)))) : Int) - (1 : Int))))
                        (A.se ([] ++ tk (7 : Nat) (cut isEnd b))))
                      (some (A.se (true && List.isEmpty (tk (7 : Nat) (cut isEnd b))))) false),
                  (sT, X.sl (Ty.int IntKind.u8) b nl false), (Ty.any, X.fn (12 : Nat) [] []), (Ty.unit, X.dead)])
          else none
        else
          some
            (X.sl sT (A.se ([] ++ tk (7 : Nat) (cut isEnd b)))
                (some (A.se (true && List.isEmpty (tk (7 : Nat) (cut isEnd b))))) false,
              [(ssT,
                  X.sl sT (A.se ([] ++ tk (7 : Nat) (cut isEnd b)))
                    (some (A.se (true && List.isEmpty (tk (7 : Nat) (cut isEnd b))))) false),
                (sT, X.sl (Ty.int IntKind.u8) b nl false), (Ty.any, X.fn (12 : Nat) [] []), (Ty.unit, X.dead)])
      else none
    else none) := by kernel_rfl
theorem tFields (A : Ar) (b : List Int) (nl : Option Bool) : bodyX (CxG A (Ol6 A) noL noY k9 false) 100 Try.f9 [u8s b nl false] [] =
    (bif
        A.se
          (bytesB b &&
            (nlO nl b &&
              (decide (kOf (9 : Nat) = some (14 : Nat)) && decide (List.length b + (0 : Nat) ≤ (100000 : Nat))))) then
      some
        (X.sl sT (A.se ([] ++ tk (9 : Nat) (cut isBl b))) (some (A.se (true && List.isEmpty (tk (9 : Nat) (cut isBl b)))))
            false,
          [(ssT,
              X.sl sT (A.se ([] ++ tk (9 : Nat) (cut isBl b)))
                (some (A.se (true && List.isEmpty (tk (9 : Nat) (cut isBl b))))) false),
            (sT, X.sl (Ty.int IntKind.u8) b nl false), (Ty.any, X.fn (14 : Nat) [] []), (Ty.unit, X.dead)])
    else none) := by kernel_rfl
theorem tBare (A : Ar) (b : List Int) (nl : Option Bool) : bodyX (Cx A (Ol7 A) noL) 100 Try.f10 [u8s b nl false] [] =
    (bif Ok A b nl then
      bif ((↑(List.length (A.se (fieldsL b))) : Int) == (0 : Int)) == false then
        bif decide ((0 : Int) ≤ (0 : Int) ∧ (0 : Int) < (↑(List.length (A.se (fieldsL b))) : Int)) then
          bif
              decide
                ((0 : Int) ≤ (0 : Int) ∧
                  (0 : Int) < (↑(List.length (List.getD (A.se (fieldsL b)) (Int.toNat (0 : Int)) (Ty.zero sT))) : Int)) then
            some
              (X.d Ty.bool
                  (List.getD (List.getD (A.se (fieldsL b)) (Int.toNat (0 : Int)) (Ty.zero sT)) (Int.toNat (0 : Int))
                      (0 : Int) ==
                    (35 : Int)),
                [])
          else none
        else none
      else some (X.d Ty.bool true, [])
    else none) := by kernel_rfl
theorem lSame (A : Ar) (R : Type) (a b : List (List Int)) (nl nl2 : Option Bool) (x : Bool) (i : Int) (k : Ex → List X → Hp → Option R) : stepF (Cx A (Ol7 A) (Lsame A)) 100 (loopAt Try.f8 0) 28 [0, 1, 4, 5] [sss a nl false, sss b nl2 false, boolx x, i64x i] [] k =
    (bif decide (i < (↑(List.length a) : Int)) then
      bif decide ((0 : Int) ≤ i ∧ i < (↑(List.length a) : Int)) then
        bif decide ((0 : Int) ≤ i ∧ i < (↑(List.length b) : Int)) then
          bif !A.seq (strOf (List.getD a (Int.toNat i) (Ty.zero sT))) (strOf (List.getD b (Int.toNat i) (Ty.zero sT))) then
            k Ex.ret [X.sl sT a nl false, X.sl sT b nl2 false, X.d Ty.bool false, X.d (Ty.int IntKind.i64) i] []
          else
            k Ex.normal
              [X.sl sT a nl false, X.sl sT b nl2 false, X.d Ty.bool x,
                X.d (Ty.int IntKind.i64) (A.wrap IntKind.i64 (i + (1 : Int)))]
              []
        else none
      else none
    else k (Ex.exit (0 : Nat)) [X.sl sT a nl false, X.sl sT b nl2 false, X.d Ty.bool x, X.d (Ty.int IntKind.i64) i] []) := by kernel_rfl
theorem tSame (A : Ar) (a b : List (List Int)) (nl nl2 : Option Bool) : bodyX (Cx A (Ol7 A) (Lsame A)) 100 Try.f8 [sss a nl false, sss b nl2 false] [] =
    (bif (↑(List.length a) : Int) != (↑(List.length b) : Int) then some (X.d Ty.bool false, [])
    else
      bif
          A.se
            (bytesBB a &&
              (bytesBB b &&
                decide
                  (List.length a ≤ (100000 : Nat) ∧
                    List.length a = List.length b ∧
                      (0 : Int) ≤ (0 : Int) ∧
                        (0 : Int) ≤ (↑(List.length a) : Int)))) then
        bif A.se (List.drop (Int.toNat (0 : Int)) a == List.drop (Int.toNat (0 : Int)) b) then some (X.d Ty.bool true, [])
        else some (X.d Ty.bool false, [])
      else none) := by kernel_rfl
theorem tAwake (A : Ar) : bodyX (Cx A (Ol8 A) noL) 100 Try.f6 [] [] =
    (bif Ok A [(97 : Int), (10 : Int), (10 : Int), (98 : Int)] (some false) then
      bif Ok A [(32 : Int), (97 : Int), (9 : Int), (98 : Int), (99 : Int), (32 : Int), (32 : Int)] (some false) then
        bif
            ((↑(List.length (A.se (splitL [(97 : Int), (10 : Int), (10 : Int), (98 : Int)]))) : Int) == (3 : Int)) ==
              true then
          bif
              decide
                ((0 : Int) ≤ (0 : Int) ∧
                  (0 : Int) < (↑(List.length (A.se (splitL [(97 : Int), (10 : Int), (10 : Int), (98 : Int)]))) : Int)) then
            bif
                A.seq
                    (strOf
                      (List.getD (A.se (splitL [(97 : Int), (10 : Int), (10 : Int), (98 : Int)])) (Int.toNat (0 : Int))
                        (Ty.zero sT)))
                    { data := #[(97 : UInt8)] } ==
                  true then
              bif
                  decide
                    ((0 : Int) ≤ (1 : Int) ∧
                      (1 : Int) <
                        (↑(List.length (A.se (splitL [(97 : Int), (10 : Int), (10 : Int), (98 : Int)]))) : Int)) then
                bif
                    ((↑(List.length
                              (List.getD (A.se (splitL [(97 : Int), (10 : Int), (10 : Int), (98 : Int)]))
                                (Int.toNat (1 : Int)) (Ty.zero sT))) :
                          Int) ==
                        (0 : Int)) ==
                      true then
                  bif
                      decide
                        ((0 : Int) ≤ (2 : Int) ∧
                          (2 : Int) <
                            (↑(List.length (A.se (splitL [(97 : Int), (10 : Int), (10 : Int), (98 : Int)]))) : Int)) then
                    bif
                        A.seq
                            (strOf
                              (List.getD (A.se (splitL [(97 : Int), (10 : Int), (10 : Int), (98 : Int)]))
                                (Int.toNat (2 : Int)) (Ty.zero sT)))
                            { data := #[(98 : UInt8)] } ==
                          true then
                      bif Ok A [(97 : Int), (10 : Int)] (some false) then
                        bif ((↑(List.length (A.se (splitL [(97 : Int), (10 : Int)]))) : Int) == (1 : Int)) == true then
                          bif Ok A [] (some true) then
                            bif ((↑(List.length (A.se (splitL []))) : Int) == (0 : Int)) == true then
                              bif
                                  ((↑(List.length
                                            (A.se
                                              (fieldsL
                                                [(32 : Int), (97 : Int), (9 : Int), (98 : Int), (99 : Int), (32 : Int),
                                                  (32 : Int)]))) :
                                        Int) ==
                                      (2 : Int)) ==
                                    true then
                                bif
                                    decide
                                      ((0 : Int) ≤ (1 : Int) ∧
                                        (1 : Int) <
                                          (↑(List.length
                                                (A.se
                                                  (fieldsL
                                                    [(32 : Int), (97 : Int), (9 : Int), (98 : Int), (99 : Int), (32 : Int),
                                                      (32 : Int)]))) :
                                            Int)) then
                                  bif
                                      A.seq
                                          (strOf
                                            (List.getD
                                              (A.se
                                                (fieldsL
                                                  [(32 : Int), (97 : Int), (9 : Int), (98 : Int), (99 : Int), (32 : Int),
                                                    (32 : Int)]))
                                              (Int.toNat (1 : Int)) (Ty.zero sT)))
                                          { data := #[(98 : UInt8), (99 : UInt8)] } ==
                                        true then
                                    bif Ok A [(32 : Int), (35 : Int), (32 : Int), (97 : Int)] (some false) then
                                      bif A.se (bareB [(32 : Int), (35 : Int), (32 : Int), (97 : Int)]) == true then
                                        bif Ok A [] (some true) then
                                          bif A.se (bareB []) == true then
                                            bif Ok A [(97 : Int), (32 : Int), (35 : Int)] (some false) then
                                              some (X.d Ty.bool !A.se (bareB [(97 : Int), (32 : Int), (35 : Int)]), [])
                                            else none
                                          else some (X.d Ty.bool false, [])
                                        else none
                                      else some (X.d Ty.bool false, [])
                                    else none
                                  else some (X.d Ty.bool false, [])
                                else none
                              else some (X.d Ty.bool false, [])
                            else some (X.d Ty.bool false, [])
                          else none
                        else some (X.d Ty.bool false, [])
                      else none
                    else some (X.d Ty.bool false, [])
                  else none
                else some (X.d Ty.bool false, [])
              else none
            else some (X.d Ty.bool false, [])
          else none
        else some (X.d Ty.bool false, [])
      else none
    else none) := by kernel_rfl

end Go.Proofs.Ytngifmlpilemlaa.V

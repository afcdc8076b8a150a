/-
  Chapter 13, varint: each function's tree. By program; each equation is checked by the kernel.
  It speaks of the pinned program alone; no condition.
-/
import Derived.Test.YtgickaihlebgmaaVi3
namespace Go.Proofs.Ytgickaihlebgmaa.V
open Go
set_option linter.unusedVariables false
set_option linter.unusedSimpArgs false

def tab0 : ByteArray := { data := List.toArray (List.append (List.append [(0 : UInt8), (1 : UInt8), (2 : UInt8), (2 : UInt8), (3 : UInt8), (3 : UInt8), (3 : UInt8), (3 : UInt8), (4 : UInt8), (4 : UInt8), (4 : UInt8), (4 : UInt8), (4 : UInt8), (4 : UInt8), (4 : UInt8), (4 : UInt8), (5 : UInt8), (5 : UInt8), (5 : UInt8), (5 : UInt8), (5 : UInt8), (5 : UInt8), (5 : UInt8), (5 : UInt8), (5 : UInt8), (5 : UInt8), (5 : UInt8), (5 : UInt8), (5 : UInt8), (5 : UInt8), (5 : UInt8), (5 : UInt8), (6 : UInt8), (6 : UInt8), (6 : UInt8), (6 : UInt8), (6 : UInt8), (6 : UInt8), (6 : UInt8), (6 : UInt8), (6 : UInt8), (6 : UInt8), (6 : UInt8), (6 : UInt8), (6 : UInt8), (6 : UInt8), (6 : UInt8), (6 : UInt8), (6 : UInt8), (6 : UInt8), (6 : UInt8), (6 : UInt8), (6 : UInt8), (6 : UInt8), (6 : UInt8), (6 : UInt8), (6 : UInt8), (6 : UInt8), (6 : UInt8), (6 : UInt8), (6 : UInt8), (6 : UInt8), (6 : UInt8), (6 : UInt8)] [(7 : UInt8), (7 : UInt8), (7 : UInt8), (7 : UInt8), (7 : UInt8), (7 : UInt8), (7 : UInt8), (7 : UInt8), (7 : UInt8), (7 : UInt8), (7 : UInt8), (7 : UInt8), (7 : UInt8), (7 : UInt8), (7 : UInt8), (7 : UInt8), (7 : UInt8), (7 : UInt8), (7 : UInt8), (7 : UInt8), (7 : UInt8), (7 : UInt8), (7 : UInt8), (7 : UInt8), (7 : UInt8), (7 : UInt8), (7 : UInt8), (7 : UInt8), (7 : UInt8), (7 : UInt8), (7 : UInt8), (7 : UInt8), (7 : UInt8), (7 : UInt8), (7 : UInt8), (7 : UInt8), (7 : UInt8), (7 : UInt8), (7 : UInt8), (7 : UInt8), (7 : UInt8), (7 : UInt8), (7 : UInt8), (7 : UInt8), (7 : UInt8), (7 : UInt8), (7 : UInt8), (7 : UInt8), (7 : UInt8), (7 : UInt8), (7 : UInt8), (7 : UInt8), (7 : UInt8), (7 : UInt8), (7 : UInt8), (7 : UInt8), (7 : UInt8), (7 : UInt8), (7 : UInt8), (7 : UInt8), (7 : UInt8), (7 : UInt8), (7 : UInt8), (7 : UInt8)]) (List.append [(8 : UInt8), (8 : UInt8), (8 : UInt8), (8 : UInt8), (8 : UInt8), (8 : UInt8), (8 : UInt8), (8 : UInt8), (8 : UInt8), (8 : UInt8), (8 : UInt8), (8 : UInt8), (8 : UInt8), (8 : UInt8), (8 : UInt8), (8 : UInt8), (8 : UInt8), (8 : UInt8), (8 : UInt8), (8 : UInt8), (8 : UInt8), (8 : UInt8), (8 : UInt8), (8 : UInt8), (8 : UInt8), (8 : UInt8), (8 : UInt8), (8 : UInt8), (8 : UInt8), (8 : UInt8), (8 : UInt8), (8 : UInt8), (8 : UInt8), (8 : UInt8), (8 : UInt8), (8 : UInt8), (8 : UInt8), (8 : UInt8), (8 : UInt8), (8 : UInt8), (8 : UInt8), (8 : UInt8), (8 : UInt8), (8 : UInt8), (8 : UInt8), (8 : UInt8), (8 : UInt8), (8 : UInt8), (8 : UInt8), (8 : UInt8), (8 : UInt8), (8 : UInt8), (8 : UInt8), (8 : UInt8), (8 : UInt8), (8 : UInt8), (8 : UInt8), (8 : UInt8), (8 : UInt8), (8 : UInt8), (8 : UInt8), (8 : UInt8), (8 : UInt8), (8 : UInt8)] [(8 : UInt8), (8 : UInt8), (8 : UInt8), (8 : UInt8), (8 : UInt8), (8 : UInt8), (8 : UInt8), (8 : UInt8), (8 : UInt8), (8 : UInt8), (8 : UInt8), (8 : UInt8), (8 : UInt8), (8 : UInt8), (8 : UInt8), (8 : UInt8), (8 : UInt8), (8 : UInt8), (8 : UInt8), (8 : UInt8), (8 : UInt8), (8 : UInt8), (8 : UInt8), (8 : UInt8), (8 : UInt8), (8 : UInt8), (8 : UInt8), (8 : UInt8), (8 : UInt8), (8 : UInt8), (8 : UInt8), (8 : UInt8), (8 : UInt8), (8 : UInt8), (8 : UInt8), (8 : UInt8), (8 : UInt8), (8 : UInt8), (8 : UInt8), (8 : UInt8), (8 : UInt8), (8 : UInt8), (8 : UInt8), (8 : UInt8), (8 : UInt8), (8 : UInt8), (8 : UInt8), (8 : UInt8), (8 : UInt8), (8 : UInt8), (8 : UInt8), (8 : UInt8), (8 : UInt8), (8 : UInt8), (8 : UInt8), (8 : UInt8), (8 : UInt8), (8 : UInt8), (8 : UInt8), (8 : UInt8), (8 : UInt8), (8 : UInt8), (8 : UInt8), (8 : UInt8)])) }
theorem tLen64 (A : Ar) (O : OT) (n : Int) : bodyX (Cx A O noL) 100 Try.f27 [.d (.int .u64) n] [] =
    (bif decide (n ≥ (4294967296 : Int)) then
      bif decide (Int.fdiv n (A.p2 (32 : Int) (64 : Nat)) ≥ (65536 : Int)) then
        bif decide (Int.fdiv (Int.fdiv n (A.p2 (32 : Int) (64 : Nat))) (A.p2 (16 : Int) (64 : Nat)) ≥ (256 : Int)) then
          bif
              decide
                ((0 : Int) ≤
                    A.wrap IntKind.u8
                      (Int.fdiv (Int.fdiv (Int.fdiv n (A.p2 (32 : Int) (64 : Nat))) (A.p2 (16 : Int) (64 : Nat)))
                        (A.p2 (8 : Int) (64 : Nat))) ∧
                  A.wrap IntKind.u8
                      (Int.fdiv (Int.fdiv (Int.fdiv n (A.p2 (32 : Int) (64 : Nat))) (A.p2 (16 : Int) (64 : Nat)))
                        (A.p2 (8 : Int) (64 : Nat))) <
                    (↑(ByteArray.size
                          tab0) :
                      Int)) then
            some
              (X.d (Ty.int IntKind.i64)
                  (A.wrap IntKind.i64
                    (A.wrap IntKind.i64 (A.wrap IntKind.i64 ((32 : Int) + (16 : Int)) + (8 : Int)) +
                      A.wrap IntKind.i64
                        (List.getD
                          (bytesOf
                            tab0)
                          (Int.toNat
                            (A.wrap IntKind.u8
                              (Int.fdiv (Int.fdiv (Int.fdiv n (A.p2 (32 : Int) (64 : Nat))) (A.p2 (16 : Int) (64 : Nat)))
                                (A.p2 (8 : Int) (64 : Nat)))))
                          (0 : Int)))),
                [])
          else none
        else
          bif
              decide
                ((0 : Int) ≤
                    A.wrap IntKind.u8 (Int.fdiv (Int.fdiv n (A.p2 (32 : Int) (64 : Nat))) (A.p2 (16 : Int) (64 : Nat))) ∧
                  A.wrap IntKind.u8 (Int.fdiv (Int.fdiv n (A.p2 (32 : Int) (64 : Nat))) (A.p2 (16 : Int) (64 : Nat))) <
                    (↑(ByteArray.size
                          tab0) :
                      Int)) then
            some
              (X.d (Ty.int IntKind.i64)
                  (A.wrap IntKind.i64
                    (A.wrap IntKind.i64 ((32 : Int) + (16 : Int)) +
                      A.wrap IntKind.i64
                        (List.getD
                          (bytesOf
                            tab0)
                          (Int.toNat
                            (A.wrap IntKind.u8
                              (Int.fdiv (Int.fdiv n (A.p2 (32 : Int) (64 : Nat))) (A.p2 (16 : Int) (64 : Nat)))))
                          (0 : Int)))),
                [])
          else none
      else
        bif decide (Int.fdiv n (A.p2 (32 : Int) (64 : Nat)) ≥ (256 : Int)) then
          bif
              decide
                ((0 : Int) ≤
                    A.wrap IntKind.u8 (Int.fdiv (Int.fdiv n (A.p2 (32 : Int) (64 : Nat))) (A.p2 (8 : Int) (64 : Nat))) ∧
                  A.wrap IntKind.u8 (Int.fdiv (Int.fdiv n (A.p2 (32 : Int) (64 : Nat))) (A.p2 (8 : Int) (64 : Nat))) <
                    (↑(ByteArray.size
                          tab0) :
                      Int)) then
            some
              (X.d (Ty.int IntKind.i64)
                  (A.wrap IntKind.i64
                    (A.wrap IntKind.i64 ((32 : Int) + (8 : Int)) +
                      A.wrap IntKind.i64
                        (List.getD
                          (bytesOf
                            tab0)
                          (Int.toNat
                            (A.wrap IntKind.u8
                              (Int.fdiv (Int.fdiv n (A.p2 (32 : Int) (64 : Nat))) (A.p2 (8 : Int) (64 : Nat)))))
                          (0 : Int)))),
                [])
          else none
        else
          bif
              decide
                ((0 : Int) ≤ A.wrap IntKind.u8 (Int.fdiv n (A.p2 (32 : Int) (64 : Nat))) ∧
                  A.wrap IntKind.u8 (Int.fdiv n (A.p2 (32 : Int) (64 : Nat))) <
                    (↑(ByteArray.size
                          tab0) :
                      Int)) then
            some
              (X.d (Ty.int IntKind.i64)
                  (A.wrap IntKind.i64
                    ((32 : Int) +
                      A.wrap IntKind.i64
                        (List.getD
                          (bytesOf
                            tab0)
                          (Int.toNat (A.wrap IntKind.u8 (Int.fdiv n (A.p2 (32 : Int) (64 : Nat))))) (0 : Int)))),
                [])
          else none
    else
      bif decide (n ≥ (65536 : Int)) then
        bif decide (Int.fdiv n (A.p2 (16 : Int) (64 : Nat)) ≥ (256 : Int)) then
          bif
              decide
                ((0 : Int) ≤
                    A.wrap IntKind.u8 (Int.fdiv (Int.fdiv n (A.p2 (16 : Int) (64 : Nat))) (A.p2 (8 : Int) (64 : Nat))) ∧
                  A.wrap IntKind.u8 (Int.fdiv (Int.fdiv n (A.p2 (16 : Int) (64 : Nat))) (A.p2 (8 : Int) (64 : Nat))) <
                    (↑(ByteArray.size
                          tab0) :
                      Int)) then
            some
              (X.d (Ty.int IntKind.i64)
                  (A.wrap IntKind.i64
                    (A.wrap IntKind.i64 (A.wrap IntKind.i64 ((0 : Int) + (16 : Int)) + (8 : Int)) +
                      A.wrap IntKind.i64
                        (List.getD
                          (bytesOf
                            tab0)
                          (Int.toNat
                            (A.wrap IntKind.u8
                              (Int.fdiv (Int.fdiv n (A.p2 (16 : Int) (64 : Nat))) (A.p2 (8 : Int) (64 : Nat)))))
                          (0 : Int)))),
                [])
          else none
        else
          bif
              decide
                ((0 : Int) ≤ A.wrap IntKind.u8 (Int.fdiv n (A.p2 (16 : Int) (64 : Nat))) ∧
                  A.wrap IntKind.u8 (Int.fdiv n (A.p2 (16 : Int) (64 : Nat))) <
                    (↑(ByteArray.size
                          tab0) :
                      Int)) then
            some
              (X.d (Ty.int IntKind.i64)
                  (A.wrap IntKind.i64
                    (A.wrap IntKind.i64 ((0 : Int) + (16 : Int)) +
                      A.wrap IntKind.i64
                        (List.getD
                          (bytesOf
                            tab0)
                          (Int.toNat (A.wrap IntKind.u8 (Int.fdiv n (A.p2 (16 : Int) (64 : Nat))))) (0 : Int)))),
                [])
          else none
      else
        bif decide (n ≥ (256 : Int)) then
          bif
              decide
                ((0 : Int) ≤ A.wrap IntKind.u8 (Int.fdiv n (A.p2 (8 : Int) (64 : Nat))) ∧
                  A.wrap IntKind.u8 (Int.fdiv n (A.p2 (8 : Int) (64 : Nat))) <
                    (↑(ByteArray.size
                          tab0) :
                      Int)) then
            some
              (X.d (Ty.int IntKind.i64)
                  (A.wrap IntKind.i64
                    (A.wrap IntKind.i64 ((0 : Int) + (8 : Int)) +
                      A.wrap IntKind.i64
                        (List.getD
                          (bytesOf
                            tab0)
                          (Int.toNat (A.wrap IntKind.u8 (Int.fdiv n (A.p2 (8 : Int) (64 : Nat))))) (0 : Int)))),
                [])
          else none
        else
          bif
              decide
                ((0 : Int) ≤ A.wrap IntKind.u8 n ∧
                  A.wrap IntKind.u8 n <
                    (↑(ByteArray.size
                          tab0) :
                      Int)) then
            some
              (X.d (Ty.int IntKind.i64)
                  (A.wrap IntKind.i64
                    ((0 : Int) +
                      A.wrap IntKind.i64
                        (List.getD
                          (bytesOf
                            tab0)
                          (Int.toNat (A.wrap IntKind.u8 n)) (0 : Int)))),
                [])
          else none) := by kernel_rfl
theorem tSize (A : Ar) (n : Int) : bodyX (Cx A (Ovi1 A) noL) 100 Try.f17 [.d (.int .u64) n] [] =
    (bif A.se (isU64 (A.wrap IntKind.u64 (A.bor (64 : Nat) n (1 : Int)))) then
      some
        (X.d (Ty.int IntKind.i64)
            (A.wrap IntKind.i64
              (Int.tdiv
                (A.wrap IntKind.i64
                  (A.wrap IntKind.i64
                      (A.se (↑(blen (Int.toNat (A.wrap IntKind.u64 (A.bor (64 : Nat) n (1 : Int))))) : Int) + (7 : Int)) -
                    (1 : Int)))
                (7 : Int))),
          [])
    else none) := by kernel_rfl
theorem tOne (A : Ar) (k : Nat) (n : Int) : bodyX (Cx A (OviG A k) noL) 100 Try.f30 [.d (.int .u64) n] [] =
    (bif decide (n < (128 : Int)) then some (X.sl (Ty.int IntKind.u8) [A.wrap IntKind.u8 n] (some false) true, [])
    else
      bif
          A.se
            (isU64 (A.wrap IntKind.u64 (Int.tdiv n (128 : Int))) &&
              decide (Int.toNat (A.wrap IntKind.u64 (Int.tdiv n (128 : Int))) < k)) then
        bif
            decide
              ((List.length [A.wrap IntKind.u8 (A.wrap IntKind.u64 ((128 : Int) + Int.tmod n (128 : Int)))] +
                    List.length (A.se (vb (Int.toNat (A.wrap IntKind.u64 (Int.tdiv n (128 : Int))))))) *
                  (1 : Nat) ≤
                (140737488355328 : Nat)) then
          some
            (X.sl (Ty.int IntKind.u8)
                ([A.wrap IntKind.u8 (A.wrap IntKind.u64 ((128 : Int) + Int.tmod n (128 : Int)))] ++
                  A.se (vb (Int.toNat (A.wrap IntKind.u64 (Int.tdiv n (128 : Int))))))
                (some (false && List.isEmpty (A.se (vb (Int.toNat (A.wrap IntKind.u64 (Int.tdiv n (128 : Int)))))))) true,
              [])
        else none
      else none) := by kernel_rfl
theorem tRefPut (A : Ar) (b : List Int) (nl : Bool) (n : Int) : bodyX (Cx A (Ovi3 A) noL) 100 Try.f24 [.sl (.int .u8) b (some nl) false, .d (.int .u64) n] [] =
    (bif decide (((0 : Nat) + List.length b) * (1 : Nat) ≤ (140737488355328 : Nat)) then
      bif A.se (isU64 n) then
        bif
            decide
              ((List.length ([] ++ b) + List.length (A.se (vb (Int.toNat n)))) * (1 : Nat) ≤ (140737488355328 : Nat)) then
          some
            (X.sl (Ty.int IntKind.u8) ([] ++ b ++ A.se (vb (Int.toNat n)))
                (some (false && List.isEmpty b && List.isEmpty (A.se (vb (Int.toNat n))))) true,
              [])
        else none
      else none
    else none) := by kernel_rfl
theorem tPut (A : Ar) (b : List Int) (nl : Bool) (n : Int) : bodyX (Cx A (Ovi3 A) (L10 A)) 100 Try.f29 [.sl (.int .u8) b (some nl) false, .d (.int .u64) n] [] =
    (bif A.se (decide (List.length b ≤ (1000000000 : Nat)) && nlB nl b) then
      bif A.se (isU64 n) then
        bif
            A.se
              (isU64 n &&
                (decide
                    ((0 : Int) ≤ (0 : Int) ∧
                      A.wrap IntKind.i64 (A.se (↑(List.length (vb (Int.toNat n))) : Int) - (1 : Int)) =
                          (0 : Int) + (↑(List.length (vb (Int.toNat n))) : Int) -
                            (1 : Int) ∧
                        A.wrap IntKind.i64 (A.se (↑(List.length (vb (Int.toNat n))) : Int) - (1 : Int)) ≤
                          (10 : Int)) &&
                  decide (List.length b + List.length (vb (Int.toNat n)) ≤ (1000000000 : Nat)))) then
          bif
              decide
                ((List.length (A.se (b ++ List.dropLast (vb (Int.toNat n)))) +
                      List.length [A.wrap IntKind.u8 (A.se (Option.getD (List.getLast? (vb (Int.toNat n))) (0 : Int)))]) *
                    (1 : Nat) ≤
                  (140737488355328 : Nat)) then
            some
              (X.sl (Ty.int IntKind.u8)
                  (A.se (b ++ List.dropLast (vb (Int.toNat n))) ++
                    [A.wrap IntKind.u8 (A.se (Option.getD (List.getLast? (vb (Int.toNat n))) (0 : Int)))])
                  (some
                    (A.se (nl && List.isEmpty (List.dropLast (vb (Int.toNat n)))) &&
                      List.isEmpty [A.wrap IntKind.u8 (A.se (Option.getD (List.getLast? (vb (Int.toNat n))) (0 : Int)))]))
                  true,
                [])
          else none
        else none
      else none
    else none) := by kernel_rfl
theorem lPut (A : Ar) (R : Type) (n : Int) (b : List Int) (nl : Bool) (l i : Int) (k : Ex → List X → Hp → Option R) : stepF (Cx A (Ovi3 A) (L10 A)) 100 (loopAt Try.f29 0) 27 [1, 5, 10, 11] [u64x n, .sl (.int .u8) b (some nl) true, i64x l, i64x i] [] k =
    (bif decide (i < l) then
      bif
          decide
            ((List.length b + List.length [A.wrap IntKind.u8 (A.bor (8 : Nat) (A.wrap IntKind.u8 n) (128 : Int))]) *
                (1 : Nat) ≤
              (140737488355328 : Nat)) then
        k Ex.normal
          [X.d (Ty.int IntKind.u64) (Int.fdiv n (A.p2 (7 : Int) (64 : Nat))),
            X.sl (Ty.int IntKind.u8) (b ++ [A.wrap IntKind.u8 (A.bor (8 : Nat) (A.wrap IntKind.u8 n) (128 : Int))])
              (some (nl && List.isEmpty [A.wrap IntKind.u8 (A.bor (8 : Nat) (A.wrap IntKind.u8 n) (128 : Int))])) true,
            X.d (Ty.int IntKind.i64) l, X.d (Ty.int IntKind.i64) (A.wrap IntKind.i64 (i + (1 : Int)))]
          []
      else none
    else
      k (Ex.exit (0 : Nat))
        [X.d (Ty.int IntKind.u64) n, X.sl (Ty.int IntKind.u8) b (some nl) true, X.d (Ty.int IntKind.i64) l,
          X.d (Ty.int IntKind.i64) i]
        []) := by kernel_rfl
theorem lRefTakeA (A : Ar) (R : Type) (b : List Int) (nl : Bool) (i : Int) (k : Ex → List X → Hp → Option R) : stepF (Cx A (Ovi4 A) (L9 A)) 100 (loopAt Try.f37 0) 57 [0, 5] [.sl (.int .u8) b (some nl) false, i64x i] [] k =
    (bif decide (i < (↑(List.length b) : Int)) == true then
      bif decide ((0 : Int) ≤ i ∧ i < (↑(List.length b) : Int)) then
        bif decide (List.getD b (Int.toNat i) (0 : Int) ≥ (128 : Int)) then
          k Ex.normal
            [X.sl (Ty.int IntKind.u8) b (some nl) false, X.d (Ty.int IntKind.i64) (A.wrap IntKind.i64 (i + (1 : Int)))] []
        else k (Ex.exit (0 : Nat)) [X.sl (Ty.int IntKind.u8) b (some nl) false, X.d (Ty.int IntKind.i64) i] []
      else none
    else k (Ex.exit (0 : Nat)) [X.sl (Ty.int IntKind.u8) b (some nl) false, X.d (Ty.int IntKind.i64) i] []) := by kernel_rfl
theorem lRefTakeB (A : Ar) (R : Type) (b : List Int) (nl : Bool) (j n i : Int) (k : Ex → List X → Hp → Option R) : stepF (Cx A (Ovi4 A) (L9 A)) 100 (loopAt Try.f37 1) 57 [0, 5, 6, 7] [.sl (.int .u8) b (some nl) false, i64x j, u64x n, i64x i] [] k =
    (bif decide (i ≥ (0 : Int)) then
      bif decide ((0 : Int) ≤ i ∧ i < (↑(List.length b) : Int)) then
        k Ex.normal
          [X.sl (Ty.int IntKind.u8) b (some nl) false, X.d (Ty.int IntKind.i64) j,
            X.d (Ty.int IntKind.u64)
              (A.wrap IntKind.u64
                (A.wrap IntKind.u64 (n * (128 : Int)) +
                  A.wrap IntKind.u64 (Int.tmod (List.getD b (Int.toNat i) (0 : Int)) (128 : Int)))),
            X.d (Ty.int IntKind.i64) (A.wrap IntKind.i64 (i - (1 : Int)))]
          []
      else none
    else
      k (Ex.exit (2 : Nat))
        [X.sl (Ty.int IntKind.u8) b (some nl) false, X.d (Ty.int IntKind.i64) j, X.d (Ty.int IntKind.u64) n,
          X.d (Ty.int IntKind.i64) i]
        []) := by kernel_rfl
theorem tRefTake (A : Ar) (b : List Int) (nl : Bool) : bodyX (Cx A (Ovi4 A) (L9 A)) 100 Try.f37 [.sl (.int .u8) b (some nl) false] [] =
    (bif
        A.se
          (decide (List.length b ≤ (100000000 : Nat)) &&
            decide
              ((0 : Int) ≤ (0 : Int) ∧
                (0 : Int) ≤ (↑(List.length b) : Int))) then
      bif
          decide (A.se ((0 : Int) + (↑(kOf (List.drop (Int.toNat (0 : Int)) b)) : Int)) ≥ (↑(List.length b) : Int)) ==
            false then
        bif decide (A.se ((0 : Int) + (↑(kOf (List.drop (Int.toNat (0 : Int)) b)) : Int)) > (9 : Int)) then
          some
            (X.tup
                [X.d (Ty.int IntKind.u64) (0 : Int), X.sl (Ty.int IntKind.u8) [] (some true) false,
                  X.d (Ty.int IntKind.i64) (130 : Int)],
              [])
        else
          bif
              A.se
                (bytesB b &&
                  (decide (List.length b ≤ (100000000 : Nat)) &&
                    (isU64 (0 : Int) &&
                      decide
                        ((-1 : Int) ≤
                            A.se ((0 : Int) + (↑(kOf (List.drop (Int.toNat (0 : Int)) b)) : Int)) ∧
                          A.se ((0 : Int) + (↑(kOf (List.drop (Int.toNat (0 : Int)) b)) : Int)) <
                            (↑(List.length b) : Int))))) then
            bif
                A.se
                  (isU64
                    (A.se
                      (digs (0 : Int)
                        (List.take
                          (Int.toNat
                            (A.se ((0 : Int) + (↑(kOf (List.drop (Int.toNat (0 : Int)) b)) : Int)) +
                              (1 : Int)))
                          b)))) then
              bif
                  decide
                    ((0 : Int) ≤
                        A.wrap IntKind.i64
                          (A.se ((0 : Int) + (↑(kOf (List.drop (Int.toNat (0 : Int)) b)) : Int)) + (1 : Int)) ∧
                      A.wrap IntKind.i64
                          (A.se ((0 : Int) + (↑(kOf (List.drop (Int.toNat (0 : Int)) b)) : Int)) + (1 : Int)) ≤
                        (↑(List.length b) : Int)) then
                bif
                    !A.seq
                        (strOf
                          (A.se
                            (vb
                              (Int.toNat
                                (A.se
                                  (digs (0 : Int)
                                    (List.take
                                      (Int.toNat
                                        (A.se ((0 : Int) + (↑(kOf (List.drop (Int.toNat (0 : Int)) b)) : Int)) +
                                          (1 : Int)))
                                      b)))))))
                        (strOf
                          (List.take
                            (Int.toNat
                              (A.wrap IntKind.i64
                                (A.se ((0 : Int) + (↑(kOf (List.drop (Int.toNat (0 : Int)) b)) : Int)) + (1 : Int))))
                            b)) then
                  some
                    (X.tup
                        [X.d (Ty.int IntKind.u64) (0 : Int), X.sl (Ty.int IntKind.u8) [] (some true) false,
                          X.d (Ty.int IntKind.i64) (130 : Int)],
                      [])
                else
                  bif
                      decide
                        ((0 : Int) ≤
                            A.wrap IntKind.i64
                              (A.se ((0 : Int) + (↑(kOf (List.drop (Int.toNat (0 : Int)) b)) : Int)) + (1 : Int)) ∧
                          A.wrap IntKind.i64
                              (A.se ((0 : Int) + (↑(kOf (List.drop (Int.toNat (0 : Int)) b)) : Int)) + (1 : Int)) ≤
                            (↑(List.length b) : Int)) then
                    some
                      (X.tup
                          [X.d (Ty.int IntKind.u64)
                              (A.se
                                (digs (0 : Int)
                                  (List.take
                                    (Int.toNat
                                      (A.se ((0 : Int) + (↑(kOf (List.drop (Int.toNat (0 : Int)) b)) : Int)) +
                                        (1 : Int)))
                                    b))),
                            X.sl (Ty.int IntKind.u8)
                              (List.drop
                                (Int.toNat
                                  (A.wrap IntKind.i64
                                    (A.se ((0 : Int) + (↑(kOf (List.drop (Int.toNat (0 : Int)) b)) : Int)) + (1 : Int))))
                                b)
                              (some nl) false,
                            X.d (Ty.int IntKind.i64) (0 : Int)],
                        [])
                  else none
              else none
            else none
          else none
      else
        some
          (X.tup
              [X.d (Ty.int IntKind.u64) (0 : Int), X.sl (Ty.int IntKind.u8) [] (some true) false,
                X.d (Ty.int IntKind.i64) (130 : Int)],
            [])
    else none) := by kernel_rfl
theorem lTake (A : Ar) (R : Type) (b : List Int) (nl : Bool) (z y n i : Int) (k : Ex → List X → Hp → Option R) : stepF (Cx A (Ovi4 A) (L8 A)) 100 (loopAt Try.f36 0) 52 [0, 2, 3, 4, 5, 9, 10, 11] [.sl (.int .u8) b (some nl) false, u64x z, .sl (.int .u8) [] (some true) true, i64x y, u64x n, .sl (.int .u8) b (some nl) false, i64x b.length, i64x i] [] k =
    (bif decide (i < (↑(List.length b) : Int)) then
      bif decide ((0 : Int) ≤ i ∧ i < (↑(List.length b) : Int)) then
        bif (i == (10 : Int)) == false then
          bif decide ((0 : Int) ≤ A.wrap IntKind.i64 ((7 : Int) * i)) then
            bif decide ((0 : Int) ≤ A.wrap IntKind.i64 ((7 : Int) * i)) then
              bif
                  Int.fdiv
                      (A.wrap IntKind.u64
                        (A.wrap IntKind.u64
                            (A.wrap IntKind.u8
                              (A.band (8 : Nat) (List.getD b (Int.toNat i) (0 : Int)) (127 : Int))) *
                          A.p2 (A.wrap IntKind.i64 ((7 : Int) * i)) (64 : Nat)))
                      (A.p2 (A.wrap IntKind.i64 ((7 : Int) * i)) (64 : Nat)) !=
                    A.wrap IntKind.u64
                      (A.wrap IntKind.u8
                        (A.band (8 : Nat) (List.getD b (Int.toNat i) (0 : Int)) (127 : Int))) then
                k (Ex.exit (0 : Nat))
                  [X.sl (Ty.int IntKind.u8) b (some nl) false, X.d (Ty.int IntKind.u64) z,
                    X.sl (Ty.int IntKind.u8) [] (some true) true, X.d (Ty.int IntKind.i64) y, X.d (Ty.int IntKind.u64) n,
                    X.sl (Ty.int IntKind.u8) b (some nl) false, X.d (Ty.int IntKind.i64) (↑(List.length b) : Int),
                    X.d (Ty.int IntKind.i64) i]
                  []
              else
                bif decide ((0 : Int) ≤ A.wrap IntKind.i64 ((7 : Int) * i)) then
                  bif decide (List.getD b (Int.toNat i) (0 : Int) < (128 : Int)) then
                    bif
                        A.se
                          (isU64
                            (A.wrap IntKind.u64
                              (A.bor (64 : Nat) n
                                (A.wrap IntKind.u64
                                  (A.wrap IntKind.u64
                                      (A.wrap IntKind.u8
                                        (A.band (8 : Nat) (List.getD b (Int.toNat i) (0 : Int))
                                          (127 : Int))) *
                                    A.p2 (A.wrap IntKind.i64 ((7 : Int) * i)) (64 : Nat)))))) then
                      bif
                          A.wrap IntKind.i64 (i + (1 : Int)) !=
                            A.se
                              (↑(List.length
                                    (vb
                                      (Int.toNat
                                        (A.wrap IntKind.u64
                                          (A.bor (64 : Nat) n
                                            (A.wrap IntKind.u64
                                              (A.wrap IntKind.u64
                                                  (A.wrap IntKind.u8
                                                    (A.band (8 : Nat)
                                                      (List.getD b (Int.toNat i) (0 : Int))
                                                      (127 : Int))) *
                                                A.p2 (A.wrap IntKind.i64 ((7 : Int) * i)) (64 : Nat)))))))) :
                                Int) then
                        k (Ex.exit (0 : Nat))
                          [X.sl (Ty.int IntKind.u8) b (some nl) false, X.d (Ty.int IntKind.u64) z,
                            X.sl (Ty.int IntKind.u8) [] (some true) true, X.d (Ty.int IntKind.i64) y,
                            X.d (Ty.int IntKind.u64)
                              (A.wrap IntKind.u64
                                (A.bor (64 : Nat) n
                                  (A.wrap IntKind.u64
                                    (A.wrap IntKind.u64
                                        (A.wrap IntKind.u8
                                          (A.band (8 : Nat) (List.getD b (Int.toNat i) (0 : Int))
                                            (127 : Int))) *
                                      A.p2 (A.wrap IntKind.i64 ((7 : Int) * i)) (64 : Nat))))),
                            X.sl (Ty.int IntKind.u8) b (some nl) false, X.d (Ty.int IntKind.i64) (↑(List.length b) : Int),
                            X.d (Ty.int IntKind.i64) i]
                          []
                      else
                        bif
                            decide
                              ((0 : Int) ≤ A.wrap IntKind.i64 (i + (1 : Int)) ∧
                                A.wrap IntKind.i64 (i + (1 : Int)) ≤ (↑(List.length b) : Int)) then
                          bif
                              A.se
                                (decide
                                    (List.length (List.drop (Int.toNat (A.wrap IntKind.i64 (i + (1 : Int)))) b) ≤
                                      (1000000000 : Nat)) &&
                                  nlB nl (List.drop (Int.toNat (A.wrap IntKind.i64 (i + (1 : Int)))) b)) then
                            k Ex.ret
                              [X.sl (Ty.int IntKind.u8) b (some nl) false,
                                X.d (Ty.int IntKind.u64)
                                  (A.wrap IntKind.u64
                                    (A.bor (64 : Nat) n
                                      (A.wrap IntKind.u64
                                        (A.wrap IntKind.u64
                                            (A.wrap IntKind.u8
                                              (A.band (8 : Nat) (List.getD b (Int.toNat i) (0 : Int))
                                                (127 : Int))) *
                                          A.p2 (A.wrap IntKind.i64 ((7 : Int) * i)) (64 : Nat))))),
                                X.sl (Ty.int IntKind.u8) (List.drop (Int.toNat (A.wrap IntKind.i64 (i + (1 : Int)))) b)
                                  (some nl) true,
                                X.d (Ty.int IntKind.i64) (0 : Int),
                                X.d (Ty.int IntKind.u64)
                                  (A.wrap IntKind.u64
                                    (A.bor (64 : Nat) n
                                      (A.wrap IntKind.u64
                                        (A.wrap IntKind.u64
                                            (A.wrap IntKind.u8
                                              (A.band (8 : Nat) (List.getD b (Int.toNat i) (0 : Int))
                                                (127 : Int))) *
                                          A.p2 (A.wrap IntKind.i64 ((7 : Int) * i)) (64 : Nat))))),
                                X.sl (Ty.int IntKind.u8) b (some nl) false,
                                X.d (Ty.int IntKind.i64) (↑(List.length b) : Int), X.d (Ty.int IntKind.i64) i]
                              []
                          else none
                        else none
                    else none
                  else
                    k Ex.normal
                      [X.sl (Ty.int IntKind.u8) b (some nl) false, X.d (Ty.int IntKind.u64) z,
                        X.sl (Ty.int IntKind.u8) [] (some true) true, X.d (Ty.int IntKind.i64) y,
                        X.d (Ty.int IntKind.u64)
                          (A.wrap IntKind.u64
                            (A.bor (64 : Nat) n
                              (A.wrap IntKind.u64
                                (A.wrap IntKind.u64
                                    (A.wrap IntKind.u8
                                      (A.band (8 : Nat) (List.getD b (Int.toNat i) (0 : Int))
                                        (127 : Int))) *
                                  A.p2 (A.wrap IntKind.i64 ((7 : Int) * i)) (64 : Nat))))),
                        X.sl (Ty.int IntKind.u8) b (some nl) false, X.d (Ty.int IntKind.i64) (↑(List.length b) : Int),
                        X.d (Ty.int IntKind.i64) (A.wrap IntKind.i64 (i + (1 : Int)))]
                      []
                else none
            else none
          else none
        else
          k (Ex.exit (0 : Nat))
            [X.sl (Ty.int IntKind.u8) b (some nl) false, X.d (Ty.int IntKind.u64) z,
              X.sl (Ty.int IntKind.u8) [] (some true) true, X.d (Ty.int IntKind.i64) y, X.d (Ty.int IntKind.u64) n,
              X.sl (Ty.int IntKind.u8) b (some nl) false, X.d (Ty.int IntKind.i64) (↑(List.length b) : Int),
              X.d (Ty.int IntKind.i64) i]
            []
      else none
    else
      k (Ex.exit (0 : Nat))
        [X.sl (Ty.int IntKind.u8) b (some nl) false, X.d (Ty.int IntKind.u64) z,
          X.sl (Ty.int IntKind.u8) [] (some true) true, X.d (Ty.int IntKind.i64) y, X.d (Ty.int IntKind.u64) n,
          X.sl (Ty.int IntKind.u8) b (some nl) false, X.d (Ty.int IntKind.i64) (↑(List.length b) : Int),
          X.d (Ty.int IntKind.i64) i]
        []) := by kernel_rfl
theorem tTake (A : Ar) (b : List Int) (nl : Bool) : bodyX (Cx A (Ovi4 A) (L8 A)) 100 Try.f36 [.sl (.int .u8) b (some nl) false] [] =
    (bif A.se (gTake b b nl nl (0 : Int) (↑(List.length b) : Int) (0 : Int)) then
      bif A.se (Option.isSome (tkRest (0 : Int) (0 : Int) (List.drop (Int.toNat (0 : Int)) b))) then
        some
          (X.tup
              [X.d (Ty.int IntKind.u64)
                  (A.se (Option.getD (tkRest (0 : Int) (0 : Int) (List.drop (Int.toNat (0 : Int)) b)) ((0 : Int), [])).fst),
                X.sl (Ty.int IntKind.u8)
                  (A.se (Option.getD (tkRest (0 : Int) (0 : Int) (List.drop (Int.toNat (0 : Int)) b)) ((0 : Int), [])).snd)
                  (some nl) false,
                X.d (Ty.int IntKind.i64) (0 : Int)],
            [])
      else
        some
          (X.tup
              [X.d (Ty.int IntKind.u64) (0 : Int), X.sl (Ty.int IntKind.u8) [] (some true) false,
                X.d (Ty.int IntKind.i64) (130 : Int)],
            [])
    else none) := by kernel_rfl

end Go.Proofs.Ytgickaihlebgmaa.V

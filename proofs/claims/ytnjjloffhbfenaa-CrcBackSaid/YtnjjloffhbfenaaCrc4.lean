/-
  Chapter 14: the functions' trees. By program; each equation is checked by the kernel.
  It speaks of the pinned program alone; no condition.
-/
import Derived.Test.YtnjjloffhbfenaaCrc3
namespace Go.Proofs.Ytnjjloffhbfenaa.V
open Go
set_option linter.unusedVariables false

theorem tTable (A : Ar) (O : OT) : bodyX (Cx A O (Ltab A)) 100 Try.f16 [] [] =
    (bif
        A.se
          (decide ((0 : Int) ≤ (0 : Int) ∧ (0 : Int) ≤ (256 : Int)) &&
            decide (List.length (List.replicate (256 : Nat) (0 : Int)) = (256 : Nat))) then
      some
        (X.d (Ty.arr (256 : Nat) (Ty.int IntKind.u32))
            (A.se
              (List.take (Int.toNat (0 : Int)) (List.replicate (256 : Nat) (0 : Int)) ++
                List.drop (Int.toNat (0 : Int)) crcTab)),
          [(Ty.arr (256 : Nat) (Ty.int IntKind.u32),
              X.d (Ty.arr (256 : Nat) (Ty.int IntKind.u32))
                (A.se
                  (List.take (Int.toNat (0 : Int)) (List.replicate (256 : Nat) (0 : Int)) ++
                    List.drop (Int.toNat (0 : Int)) crcTab)))])
    else none) := by kernel_rfl
theorem lTable (A : Ar) (O : OT) (R : Type) (l : List Int) (i : Int) (k : Ex → List X → Hp → Option R) : stepF (Cx A O (Ltab A)) 100 (loopAt Try.f16 0) 26 [0, 4] [.ptr 0 [], i64x i] [(.arr 256 (.int .u32), .d (.arr 256 (.int .u32)) l)] k =
    (bif decide (i < (256 : Int)) then
      bif
          A.se
            (isU32 (A.wrap IntKind.u32 i) &&
              decide ((0 : Int) ≤ (0 : Int) ∧ (0 : Int) ≤ (8 : Int))) then
        bif decide ((0 : Int) ≤ i ∧ i < (↑(256 : Nat) : Int)) then
          k Ex.normal [X.ptr (0 : Nat) [], X.d (Ty.int IntKind.i64) (A.wrap IntKind.i64 (i + (1 : Int)))]
            [(Ty.arr (256 : Nat) (Ty.int IntKind.u32),
                X.d (Ty.arr (256 : Nat) (Ty.int IntKind.u32))
                  (List.set l (Int.toNat i)
                    (A.se (↑(stps ((8 : Nat) - Int.toNat (0 : Int)) (Int.toNat (A.wrap IntKind.u32 i))) : Int))))]
        else none
      else none
    else
      k (Ex.exit (0 : Nat)) [X.ptr (0 : Nat) [], X.d (Ty.int IntKind.i64) i]
        [(Ty.arr (256 : Nat) (Ty.int IntKind.u32), X.d (Ty.arr (256 : Nat) (Ty.int IntKind.u32)) l)]) := by kernel_rfl
theorem lTable2 (A : Ar) (O : OT) (R : Type) (H : Hp) (i s j m : Int) (k : Ex → List X → Hp → Option R) : stepF (Cx A O (Ltab A)) 100 (loopAt Try.f16 1) 26 [0, 1, 2, 4, 9] [.ptr 0 [], i64x i, u32x s, i64x j, i64x m] H k =
    (bif decide (m < (8 : Int)) then
      bif A.wrap IntKind.u32 (A.band (32 : Nat) s (1 : Int)) == (1 : Int) then
        k Ex.normal
          [X.ptr (0 : Nat) [], X.d (Ty.int IntKind.i64) i,
            X.d (Ty.int IntKind.u32)
              (A.wrap IntKind.u32 (A.bxor (32 : Nat) (Int.fdiv s (A.p2 (1 : Int) (32 : Nat))) (3988292384 : Int))),
            X.d (Ty.int IntKind.i64) j, X.d (Ty.int IntKind.i64) (A.wrap IntKind.i64 (m + (1 : Int)))]
          H
      else
        k Ex.normal
          [X.ptr (0 : Nat) [], X.d (Ty.int IntKind.i64) i,
            X.d (Ty.int IntKind.u32) (Int.fdiv s (A.p2 (1 : Int) (32 : Nat))), X.d (Ty.int IntKind.i64) j,
            X.d (Ty.int IntKind.i64) (A.wrap IntKind.i64 (m + (1 : Int)))]
          H
    else
      k (Ex.exit (2 : Nat))
        [X.ptr (0 : Nat) [], X.d (Ty.int IntKind.i64) i, X.d (Ty.int IntKind.u32) s, X.d (Ty.int IntKind.i64) j,
          X.d (Ty.int IntKind.i64) m]
        H) := by kernel_rfl
theorem tSum (A : Ar) (b : List Int) (nl : Bool) : bodyX (Cx A (Otab A) (Lsum A)) 100 Try.f10 [u8s b (some nl) false] [] =
    (bif
        A.se
          (bytesB b &&
            (decide (crcTab = crcTab) &&
              (isU32 (4294967295 : Int) &&
                decide
                  (List.length b ≤ (100000 : Nat) ∧
                    (↑(List.length b) : Int) = (↑(List.length b) : Int) ∧
                      (0 : Int) ≤ (0 : Int) ∧ (0 : Int) ≤ (↑(List.length b) : Int))))) then
      some
        (X.d (Ty.int IntKind.u32)
            (A.wrap IntKind.u32
              (A.bxor (32 : Nat) (A.se (↑(crcS (Int.toNat (4294967295 : Int)) (List.drop (Int.toNat (0 : Int)) b)) : Int))
                (4294967295 : Int))),
          [(Ty.arr (256 : Nat) (Ty.int IntKind.u32), X.d (Ty.arr (256 : Nat) (Ty.int IntKind.u32)) crcTab)])
    else none) := by kernel_rfl
theorem lSum (A : Ar) (R : Type) (b : List Int) (nl : Bool) (s i : Int) (t : List Int) (k : Ex → List X → Hp → Option R) : stepF (Cx A (Otab A) (Lsum A)) 100 (loopAt Try.f10 0) 26 [3, 4, 8, 9, 10] [.ptr 0 [], u32x s, u8s b (some nl) false, i64x (b.length : Int), i64x i] [(.arr 256 (.int .u32), .d (.arr 256 (.int .u32)) t)] k =
    (bif decide (i < (↑(List.length b) : Int)) then
      bif decide ((0 : Int) ≤ i ∧ i < (↑(List.length b) : Int)) then
        bif
            decide
              ((0 : Int) ≤
                  A.wrap IntKind.u8
                    (A.bxor (8 : Nat) (A.wrap IntKind.u8 s) (List.getD b (Int.toNat i) (0 : Int))) ∧
                A.wrap IntKind.u8
                    (A.bxor (8 : Nat) (A.wrap IntKind.u8 s) (List.getD b (Int.toNat i) (0 : Int))) <
                  (↑(256 : Nat) : Int)) then
          k Ex.normal
            [X.ptr (0 : Nat) [],
              X.d (Ty.int IntKind.u32)
                (A.wrap IntKind.u32
                  (A.bxor (32 : Nat)
                    (List.getD t
                      (Int.toNat
                        (A.wrap IntKind.u8
                          (A.bxor (8 : Nat) (A.wrap IntKind.u8 s)
                            (List.getD b (Int.toNat i) (0 : Int)))))
                      (0 : Int))
                    (Int.fdiv s (A.p2 (8 : Int) (32 : Nat))))),
              X.sl (Ty.int IntKind.u8) b (some nl) false, X.d (Ty.int IntKind.i64) (↑(List.length b) : Int),
              X.d (Ty.int IntKind.i64) (A.wrap IntKind.i64 (i + (1 : Int)))]
            [(Ty.arr (256 : Nat) (Ty.int IntKind.u32), X.d (Ty.arr (256 : Nat) (Ty.int IntKind.u32)) t)]
        else none
      else none
    else
      k (Ex.exit (0 : Nat))
        [X.ptr (0 : Nat) [], X.d (Ty.int IntKind.u32) s, X.sl (Ty.int IntKind.u8) b (some nl) false,
          X.d (Ty.int IntKind.i64) (↑(List.length b) : Int), X.d (Ty.int IntKind.i64) i]
        [(Ty.arr (256 : Nat) (Ty.int IntKind.u32), X.d (Ty.arr (256 : Nat) (Ty.int IntKind.u32)) t)]) := by kernel_rfl
theorem tRefSum (A : Ar) (b : List Int) (nl : Bool) : bodyX (Cx A (Otab A) (Lref A)) 100 Try.f11 [u8s b (some nl) false] [] =
    (bif
        A.se
          (bytesB b &&
            (isU32 (4294967295 : Int) &&
              decide
                (List.length b ≤ (100000 : Nat) ∧
                  (0 : Int) ≤ (0 : Int) ∧
                    (0 : Int) ≤ (↑(List.length b) : Int)))) then
      some
        (X.d (Ty.int IntKind.u32)
            (A.wrap IntKind.u32
              (A.bxor (32 : Nat) (A.se (↑(crcS (Int.toNat (4294967295 : Int)) (List.drop (Int.toNat (0 : Int)) b)) : Int))
                (4294967295 : Int))),
          [])
    else none) := by kernel_rfl
theorem lRef (A : Ar) (R : Type) (b : List Int) (nl : Bool) (s i : Int) (k : Ex → List X → Hp → Option R) : stepF (Cx A (Otab A) (Lref A)) 100 (loopAt Try.f11 0) 33 [0, 3, 4] [u8s b (some nl) false, u32x s, i64x i] [] k =
    (bif decide (i < (↑(List.length b) : Int)) then
      bif decide ((0 : Int) ≤ i ∧ i < (↑(List.length b) : Int)) then
        bif
            A.se
              (isU32
                  (A.wrap IntKind.u32
                    (A.bxor (32 : Nat) s (A.wrap IntKind.u32 (List.getD b (Int.toNat i) (0 : Int))))) &&
                decide ((0 : Int) ≤ (0 : Int) ∧ (0 : Int) ≤ (8 : Int))) then
          k Ex.normal
            [X.sl (Ty.int IntKind.u8) b (some nl) false,
              X.d (Ty.int IntKind.u32)
                (A.se
                  (↑(stps ((8 : Nat) - Int.toNat (0 : Int))
                        (Int.toNat
                          (A.wrap IntKind.u32
                            (A.bxor (32 : Nat) s
                              (A.wrap IntKind.u32 (List.getD b (Int.toNat i) (0 : Int))))))) :
                    Int)),
              X.d (Ty.int IntKind.i64) (A.wrap IntKind.i64 (i + (1 : Int)))]
            []
        else none
      else none
    else
      k (Ex.exit (0 : Nat))
        [X.sl (Ty.int IntKind.u8) b (some nl) false, X.d (Ty.int IntKind.u32) s, X.d (Ty.int IntKind.i64) i] []) := by kernel_rfl
theorem lRef2 (A : Ar) (R : Type) (b : List Int) (nl : Bool) (s i m : Int) (k : Ex → List X → Hp → Option R) : stepF (Cx A (Otab A) (Lref A)) 100 (loopAt Try.f11 1) 33 [0, 3, 4, 5] [u8s b (some nl) false, u32x s, i64x i, i64x m] [] k =
    (bif decide (m < (8 : Int)) then
      bif Int.tmod s (2 : Int) == (1 : Int) then
        k Ex.normal
          [X.sl (Ty.int IntKind.u8) b (some nl) false,
            X.d (Ty.int IntKind.u32)
              (A.wrap IntKind.u32 (A.bxor (32 : Nat) (A.wrap IntKind.u32 (Int.tdiv s (2 : Int))) (3988292384 : Int))),
            X.d (Ty.int IntKind.i64) i, X.d (Ty.int IntKind.i64) (A.wrap IntKind.i64 (m + (1 : Int)))]
          []
      else
        k Ex.normal
          [X.sl (Ty.int IntKind.u8) b (some nl) false, X.d (Ty.int IntKind.u32) (A.wrap IntKind.u32 (Int.tdiv s (2 : Int))),
            X.d (Ty.int IntKind.i64) i, X.d (Ty.int IntKind.i64) (A.wrap IntKind.i64 (m + (1 : Int)))]
          []
    else
      k (Ex.exit (2 : Nat))
        [X.sl (Ty.int IntKind.u8) b (some nl) false, X.d (Ty.int IntKind.u32) s, X.d (Ty.int IntKind.i64) i,
          X.d (Ty.int IntKind.i64) m]
        []) := by kernel_rfl
theorem tSeal (A : Ar) (b : List Int) (nl : Bool) : bodyX (Cx A (Osum A) (Lseal A)) 100 Try.f12 [u8s b (some nl) false] [] =
    (bif A.se (decide (List.length b ≤ (1000000 : Nat)) && nlB nl b) then
      bif A.se (decide (List.length b ≤ (100000 : Nat)) && bytesB b) then
        bif
            A.se
              (isU32 (A.se (↑(sumB b) : Int)) &&
                (decide (List.length b ≤ (1000000 : Nat)) &&
                  decide
                    ((0 : Int) ≤ (0 : Int) ∧ (0 : Int) ≤ (4 : Int)))) then
          some
            (X.sl (Ty.int IntKind.u8)
                (A.se (b ++ leN ((4 : Nat) - Int.toNat (0 : Int)) (Int.toNat (A.se (↑(sumB b) : Int)))))
                (some (A.se (nl && decide ((0 : Int) = (4 : Int))))) false,
              [])
        else none
      else none
    else none) := by kernel_rfl
theorem lSeal (A : Ar) (R : Type) (b : List Int) (nl : Bool) (s i : Int) (k : Ex → List X → Hp → Option R) : stepF (Cx A (Osum A) (Lseal A)) 100 (loopAt Try.f12 0) 20 [3, 4, 9] [u8s b (some nl) true, u32x s, i64x i] [] k =
    (bif decide (i < (4 : Int)) then
      bif decide ((List.length b + List.length [A.wrap IntKind.u8 s]) * (1 : Nat) ≤ (140737488355328 : Nat)) then
        k Ex.normal
          [X.sl (Ty.int IntKind.u8) (b ++ [A.wrap IntKind.u8 s]) (some (nl && List.isEmpty [A.wrap IntKind.u8 s])) true,
            X.d (Ty.int IntKind.u32) (Int.fdiv s (A.p2 (8 : Int) (32 : Nat))),
            X.d (Ty.int IntKind.i64) (A.wrap IntKind.i64 (i + (1 : Int)))]
          []
      else none
    else
      k (Ex.exit (0 : Nat))
        [X.sl (Ty.int IntKind.u8) b (some nl) true, X.d (Ty.int IntKind.u32) s, X.d (Ty.int IntKind.i64) i] []) := by kernel_rfl
theorem tRefSeal (A : Ar) (b : List Int) (nl : Bool) : bodyX (Cx A (Osum A) noL) 100 Try.f13 [u8s b (some nl) false] [] =
    (bif A.se (decide (List.length b ≤ (100000 : Nat)) && bytesB b) then
      bif decide (((0 : Nat) + List.length b) * (1 : Nat) ≤ (140737488355328 : Nat)) then
        bif
            decide
              ((List.length ([] ++ b) +
                    List.length
                      [A.wrap IntKind.u8 (A.se (↑(sumB b) : Int)),
                        A.wrap IntKind.u8 (A.wrap IntKind.u32 (Int.tdiv (A.se (↑(sumB b) : Int)) (256 : Int))),
                        A.wrap IntKind.u8 (A.wrap IntKind.u32 (Int.tdiv (A.se (↑(sumB b) : Int)) (65536 : Int))),
                        A.wrap IntKind.u8 (A.wrap IntKind.u32 (Int.tdiv (A.se (↑(sumB b) : Int)) (16777216 : Int)))]) *
                  (1 : Nat) ≤
                (140737488355328 : Nat)) then
          some
            (X.sl (Ty.int IntKind.u8)
                ([] ++ b ++
                  [A.wrap IntKind.u8 (A.se (↑(sumB b) : Int)),
                    A.wrap IntKind.u8 (A.wrap IntKind.u32 (Int.tdiv (A.se (↑(sumB b) : Int)) (256 : Int))),
                    A.wrap IntKind.u8 (A.wrap IntKind.u32 (Int.tdiv (A.se (↑(sumB b) : Int)) (65536 : Int))),
                    A.wrap IntKind.u8 (A.wrap IntKind.u32 (Int.tdiv (A.se (↑(sumB b) : Int)) (16777216 : Int)))])
                (some
                  (false && List.isEmpty b &&
                    List.isEmpty
                      [A.wrap IntKind.u8 (A.se (↑(sumB b) : Int)),
                        A.wrap IntKind.u8 (A.wrap IntKind.u32 (Int.tdiv (A.se (↑(sumB b) : Int)) (256 : Int))),
                        A.wrap IntKind.u8 (A.wrap IntKind.u32 (Int.tdiv (A.se (↑(sumB b) : Int)) (65536 : Int))),
                        A.wrap IntKind.u8 (A.wrap IntKind.u32 (Int.tdiv (A.se (↑(sumB b) : Int)) (16777216 : Int)))]))
                true,
              [])
        else none
      else none
    else none) := by kernel_rfl
theorem tOpen (A : Ar) (b : List Int) (nl : Bool) : bodyX (Cx A (Oseal A) noL) 100 Try.f8 [u8s b (some nl) false] [] =
    (bif decide (A.wrap IntKind.i64 ((↑(List.length b) : Int) - (4 : Int)) < (0 : Int)) == false then
      bif
          decide
            ((0 : Int) ≤ A.wrap IntKind.i64 ((↑(List.length b) : Int) - (4 : Int)) ∧
              A.wrap IntKind.i64 ((↑(List.length b) : Int) - (4 : Int)) ≤ (↑(List.length b) : Int)) then
        bif
            A.se
              (decide
                  (List.length (List.take (Int.toNat (A.wrap IntKind.i64 ((↑(List.length b) : Int) - (4 : Int)))) b) ≤
                    (100000 : Nat)) &&
                (bytesB (List.take (Int.toNat (A.wrap IntKind.i64 ((↑(List.length b) : Int) - (4 : Int)))) b) &&
                  nlB nl (List.take (Int.toNat (A.wrap IntKind.i64 ((↑(List.length b) : Int) - (4 : Int)))) b))) then
          bif
              A.se
                (decide
                  (List.length
                      (A.se (sealB (List.take (Int.toNat (A.wrap IntKind.i64 ((↑(List.length b) : Int) - (4 : Int)))) b))) ≤
                    (1000000 : Nat))) then
            bif
                !A.se
                    (decide
                      (A.se (sealB (List.take (Int.toNat (A.wrap IntKind.i64 ((↑(List.length b) : Int) - (4 : Int)))) b)) =
                        b)) then
              some (X.tup [X.sl (Ty.int IntKind.u8) [] (some true) false, X.d (Ty.int IntKind.i64) (140 : Int)], [])
            else
              bif
                  decide
                    ((0 : Int) ≤ A.wrap IntKind.i64 ((↑(List.length b) : Int) - (4 : Int)) ∧
                      A.wrap IntKind.i64 ((↑(List.length b) : Int) - (4 : Int)) ≤ (↑(List.length b) : Int)) then
                bif
                    A.se
                      (decide
                          (List.length
                              (List.take (Int.toNat (A.wrap IntKind.i64 ((↑(List.length b) : Int) - (4 : Int)))) b) ≤
                            (1000000 : Nat)) &&
                        nlB nl (List.take (Int.toNat (A.wrap IntKind.i64 ((↑(List.length b) : Int) - (4 : Int)))) b)) then
                  some
                    (X.tup
                        [X.sl (Ty.int IntKind.u8)
                            (List.take (Int.toNat (A.wrap IntKind.i64 ((↑(List.length b) : Int) - (4 : Int)))) b) (some nl)
                            false,
                          X.d (Ty.int IntKind.i64) (0 : Int)],
                      [])
                else none
              else none
          else none
        else none
      else none
    else some (X.tup [X.sl (Ty.int IntKind.u8) [] (some true) false, X.d (Ty.int IntKind.i64) (140 : Int)], [])) := by kernel_rfl
theorem tRefOpen (A : Ar) (b : List Int) (nl : Bool) : bodyX (Cx A (Oseal A) noL) 100 Try.f9 [u8s b (some nl) false] [] =
    (bif decide ((↑(List.length b) : Int) < (4 : Int)) == false then
      bif
          decide
            ((0 : Int) ≤ A.wrap IntKind.i64 ((↑(List.length b) : Int) - (4 : Int)) ∧
              A.wrap IntKind.i64 ((↑(List.length b) : Int) - (4 : Int)) ≤ (↑(List.length b) : Int)) then
        bif
            A.se
              (decide
                  (List.length (List.take (Int.toNat (A.wrap IntKind.i64 ((↑(List.length b) : Int) - (4 : Int)))) b) ≤
                    (100000 : Nat)) &&
                (bytesB (List.take (Int.toNat (A.wrap IntKind.i64 ((↑(List.length b) : Int) - (4 : Int)))) b) &&
                  nlB nl (List.take (Int.toNat (A.wrap IntKind.i64 ((↑(List.length b) : Int) - (4 : Int)))) b))) then
          bif
              !A.seq
                  (strOf
                    (A.se (sealB (List.take (Int.toNat (A.wrap IntKind.i64 ((↑(List.length b) : Int) - (4 : Int)))) b))))
                  (strOf b) then
            some (X.tup [X.sl (Ty.int IntKind.u8) [] (some true) false, X.d (Ty.int IntKind.i64) (140 : Int)], [])
          else
            bif
                decide
                  ((0 : Int) ≤ A.wrap IntKind.i64 ((↑(List.length b) : Int) - (4 : Int)) ∧
                    A.wrap IntKind.i64 ((↑(List.length b) : Int) - (4 : Int)) ≤ (↑(List.length b) : Int)) then
              some
                (X.tup
                    [X.sl (Ty.int IntKind.u8)
                        (List.take (Int.toNat (A.wrap IntKind.i64 ((↑(List.length b) : Int) - (4 : Int)))) b) (some nl)
                        false,
                      X.d (Ty.int IntKind.i64) (0 : Int)],
                  [])
            else none
        else none
      else none
    else some (X.tup [X.sl (Ty.int IntKind.u8) [] (some true) false, X.d (Ty.int IntKind.i64) (140 : Int)], [])) := by kernel_rfl
theorem tAwake (A : Ar) : bodyX (Cx A (Oopen A) noL) 100 Try.f7 [] [] =
    (bif
        A.se
          (decide (List.length [(97 : Int), (98 : Int)] ≤ (100000 : Nat)) &&
            (bytesB [(97 : Int), (98 : Int)] && nlB false [(97 : Int), (98 : Int)])) then
      bif
          A.se
            (decide (List.length (A.se (sealB [(97 : Int), (98 : Int)])) ≤ (100000 : Nat)) &&
              (bytesB (A.se (sealB [(97 : Int), (98 : Int)])) && nlB false (A.se (sealB [(97 : Int), (98 : Int)])))) then
        bif
            A.se
              (decide (List.length [(97 : Int), (98 : Int), (99 : Int), (100 : Int), (101 : Int)] ≤ (100000 : Nat)) &&
                (bytesB [(97 : Int), (98 : Int), (99 : Int), (100 : Int), (101 : Int)] &&
                  nlB false [(97 : Int), (98 : Int), (99 : Int), (100 : Int), (101 : Int)])) then
          bif A.se (decide ((0 : Nat) ≤ (100000 : Nat)) && (bytesB [] && nlB true [])) then
            bif
                A.se
                  (decide
                      (List.length
                          [(49 : Int), (50 : Int), (51 : Int), (52 : Int), (53 : Int), (54 : Int), (55 : Int), (56 : Int),
                            (57 : Int)] ≤
                        (100000 : Nat)) &&
                    bytesB
                      [(49 : Int), (50 : Int), (51 : Int), (52 : Int), (53 : Int), (54 : Int), (55 : Int), (56 : Int),
                        (57 : Int)]) then
              bif
                  (A.se
                        (↑(sumB
                              [(49 : Int), (50 : Int), (51 : Int), (52 : Int), (53 : Int), (54 : Int), (55 : Int),
                                (56 : Int), (57 : Int)]) :
                          Int) ==
                      (3421780262 : Int)) ==
                    true then
                bif A.se (decide ((0 : Nat) ≤ (100000 : Nat)) && bytesB []) then
                  bif (A.se (↑(sumB []) : Int) == (0 : Int)) == true then
                    bif
                        A.seq (strOf (A.se (opR (A.se (sealB [(97 : Int), (98 : Int)])))))
                            { data := #[(97 : UInt8), (98 : UInt8)] } ==
                          true then
                      bif (A.se (opE (A.se (sealB [(97 : Int), (98 : Int)]))) == (0 : Int)) == true then
                        bif
                            (A.se (opE [(97 : Int), (98 : Int), (99 : Int), (100 : Int), (101 : Int)]) == (140 : Int)) ==
                              true then
                          bif A.se (opE []) == (140 : Int) then some (X.d Ty.bool true, [])
                          else some (X.d Ty.bool false, [])
                        else some (X.d Ty.bool false, [])
                      else some (X.d Ty.bool false, [])
                    else some (X.d Ty.bool false, [])
                  else some (X.d Ty.bool false, [])
                else none
              else some (X.d Ty.bool false, [])
            else none
          else none
        else none
      else none
    else none) := by kernel_rfl
end Go.Proofs.Ytnjjloffhbfenaa.V

/-
  Chapter 23: the functions' trees. By program; each equation is checked by the kernel.
  It speaks of the pinned program alone; no condition.
-/
import Derived.Test.YtgickaihlebgmaaSc3
namespace Go.Proofs.Ytgickaihlebgmaa.V
open Go
set_option linter.unusedVariables false

theorem tWrite (A : Ar) (l : List Cm) (nl : Option Bool) : bodyX (Cx A (Osc3 A) (Lw A)) 100 Try.f10 [cms l nl false] [] =
    (bif A.se (decide (List.length l ≤ (140737488355328 : Nat))) then
      bif A.se !List.all l checkC then
        some (X.tup [X.sl (Ty.int IntKind.u8) [] (some true) false, X.d (Ty.int IntKind.i64) (230 : Int)], [])
      else
        bif
            A.se
              (List.all l wfB && List.all l checkC &&
                (decide
                    ((↑(List.length l) : Int) = (↑(List.length l) : Int) ∧
                      (0 : Int) ≤ (0 : Int) ∧
                        (0 : Int) ≤ (↑(List.length l) : Int) ∧
                          (0 : Nat) + List.length (encs (List.drop (Int.toNat (0 : Int)) l)) ≤ (10000000 : Nat) ∧
                            List.length l ≤ (10000000 : Nat)) &&
                  nlB true [])) then
          some
            (X.tup
                [X.sl (Ty.int IntKind.u8) (A.se ([] ++ encs (List.drop (Int.toNat (0 : Int)) l)))
                    (some (A.se (true && List.isEmpty (List.drop (Int.toNat (0 : Int)) l)))) false,
                  X.d (Ty.int IntKind.i64) (0 : Int)],
              [(bytT,
                  X.agg
                    [X.sl (Ty.int IntKind.u8) (A.se ([] ++ encs (List.drop (Int.toNat (0 : Int)) l)))
                        (some (A.se (true && List.isEmpty (List.drop (Int.toNat (0 : Int)) l)))) true,
                      X.d Ty.bool false])])
        else none
    else none) := by kernel_rfl
theorem lWrite (A : Ar) (R : Type) (l : List Cm) (nl : Option Bool) (n i : Int) (b : List Int) (nb ok : Bool) (k : Ex → List X → Hp → Option R) : stepF (Cx A (Osc3 A) (Lw A)) 100 (loopAt Try.f10 0) 80 [4, 5, 6, 19, 20, 21] [.ptr 0 [], .fn 20 [.ptr 0 []] [], .fn 21 [.ptr 0 []] [], cms l nl false, i64x n, i64x i] [(bytT, .agg [u8s b (some nb) true, boolx ok])] k =
    (bif decide (i < n) then
      bif decide ((0 : Int) ≤ i ∧ i < (↑(List.length l) : Int)) then
        bif
            decide
              ((List.length b + List.length [A.wrap IntKind.u8 (List.getD l (Int.toNat i) (Ty.zero cmdT)).fst]) *
                  (1 : Nat) ≤
                (140737488355328 : Nat)) then
          bif A.se (decide ((List.getD l (Int.toNat i) (Ty.zero cmdT)).fst = (1 : Int))) then
            bif
                A.se
                  (decide
                      ((↑(List.length
                                (List.take (Int.toNat (2 : Int))
                                  [(List.getD l (Int.toNat i) (Ty.zero cmdT)).snd.fst,
                                    (List.getD l (Int.toNat i) (Ty.zero cmdT)).snd.snd.fst])) :
                            Int) =
                          (↑(List.length
                                (List.take (Int.toNat (2 : Int))
                                  [(List.getD l (Int.toNat i) (Ty.zero cmdT)).snd.fst,
                                    (List.getD l (Int.toNat i) (Ty.zero cmdT)).snd.snd.fst])) :
                            Int) ∧
                        (0 : Int) ≤ (0 : Int) ∧
                          (0 : Int) ≤
                              (↑(List.length
                                    (List.take (Int.toNat (2 : Int))
                                      [(List.getD l (Int.toNat i) (Ty.zero cmdT)).snd.fst,
                                        (List.getD l (Int.toNat i) (Ty.zero cmdT)).snd.snd.fst])) :
                                Int) ∧
                            (↑(List.length
                                      (List.take (Int.toNat (2 : Int))
                                        [(List.getD l (Int.toNat i) (Ty.zero cmdT)).snd.fst,
                                          (List.getD l (Int.toNat i) (Ty.zero cmdT)).snd.snd.fst])) :
                                  Int) ≤
                                (100 : Int) ∧
                              List.length (b ++ [A.wrap IntKind.u8 (List.getD l (Int.toNat i) (Ty.zero cmdT)).fst]) +
                                  List.length
                                    (txts
                                      (List.drop (Int.toNat (0 : Int))
                                        (List.take (Int.toNat (2 : Int))
                                          [(List.getD l (Int.toNat i) (Ty.zero cmdT)).snd.fst,
                                            (List.getD l (Int.toNat i) (Ty.zero cmdT)).snd.snd.fst]))) ≤
                                (10000000 : Nat)) &&
                    nlB (nb && List.isEmpty [A.wrap IntKind.u8 (List.getD l (Int.toNat i) (Ty.zero cmdT)).fst])
                      (b ++ [A.wrap IntKind.u8 (List.getD l (Int.toNat i) (Ty.zero cmdT)).fst])) then
              bif
                  A.se
                    (List.all
                        (List.take (Int.toNat (0 : Int))
                          [A.wrap IntKind.u64 (List.getD l (Int.toNat i) (Ty.zero cmdT)).snd.snd.snd.fst,
                            (List.getD l (Int.toNat i) (Ty.zero cmdT)).snd.snd.snd.snd.fst,
                            A.wrap IntKind.u64 (List.getD l (Int.toNat i) (Ty.zero cmdT)).snd.snd.snd.snd.snd.fst])
                        isU64 &&
                      (decide
                          ((↑(List.length
                                    (List.take (Int.toNat (0 : Int))
                                      [A.wrap IntKind.u64 (List.getD l (Int.toNat i) (Ty.zero cmdT)).snd.snd.snd.fst,
                                        (List.getD l (Int.toNat i) (Ty.zero cmdT)).snd.snd.snd.snd.fst,
                                        A.wrap IntKind.u64
                                          (List.getD l (Int.toNat i) (Ty.zero cmdT)).snd.snd.snd.snd.snd.fst])) :
                                Int) =
                              (↑(List.length
                                    (List.take (Int.toNat (0 : Int))
                                      [A.wrap IntKind.u64 (List.getD l (Int.toNat i) (Ty.zero cmdT)).snd.snd.snd.fst,
                                        (List.getD l (Int.toNat i) (Ty.zero cmdT)).snd.snd.snd.snd.fst,
                                        A.wrap IntKind.u64
                                          (List.getD l (Int.toNat i) (Ty.zero cmdT)).snd.snd.snd.snd.snd.fst])) :
                                Int) ∧
                            (0 : Int) ≤ (0 : Int) ∧
                              (0 : Int) ≤
                                  (↑(List.length
                                        (List.take (Int.toNat (0 : Int))
                                          [A.wrap IntKind.u64 (List.getD l (Int.toNat i) (Ty.zero cmdT)).snd.snd.snd.fst,
                                            (List.getD l (Int.toNat i) (Ty.zero cmdT)).snd.snd.snd.snd.fst,
                                            A.wrap IntKind.u64
                                              (List.getD l (Int.toNat i) (Ty.zero cmdT)).snd.snd.snd.snd.snd.fst])) :
                                    Int) ∧
                                (↑(List.length
                                          (List.take (Int.toNat (0 : Int))
                                            [A.wrap IntKind.u64 (List.getD l (Int.toNat i) (Ty.zero cmdT)).snd.snd.snd.fst,
                                              (List.getD l (Int.toNat i) (Ty.zero cmdT)).snd.snd.snd.snd.fst,
                                              A.wrap IntKind.u64
                                                (List.getD l (Int.toNat i) (Ty.zero cmdT)).snd.snd.snd.snd.snd.fst])) :
                                      Int) ≤
                                    (100 : Int) ∧
                                  List.length
                                        (A.se
                                          (b ++ [A.wrap IntKind.u8 (List.getD l (Int.toNat i) (Ty.zero cmdT)).fst] ++
                                            txts
                                              (List.drop (Int.toNat (0 : Int))
                                                (List.take (Int.toNat (2 : Int))
                                                  [(List.getD l (Int.toNat i) (Ty.zero cmdT)).snd.fst,
                                                    (List.getD l (Int.toNat i) (Ty.zero cmdT)).snd.snd.fst])))) +
                                      List.length
                                        (nums
                                          (List.drop (Int.toNat (0 : Int))
                                            (List.take (Int.toNat (0 : Int))
                                              [A.wrap IntKind.u64
                                                  (List.getD l (Int.toNat i) (Ty.zero cmdT)).snd.snd.snd.fst,
                                                (List.getD l (Int.toNat i) (Ty.zero cmdT)).snd.snd.snd.snd.fst,
                                                A.wrap IntKind.u64
                                                  (List.getD l (Int.toNat i) (Ty.zero cmdT)).snd.snd.snd.snd.snd.fst]))) ≤
                                    (10000000 : Nat)) &&
                        nlB
                          (A.se
                            (nb && List.isEmpty [A.wrap IntKind.u8 (List.getD l (Int.toNat i) (Ty.zero cmdT)).fst] &&
                              List.isEmpty
                                (List.drop (Int.toNat (0 : Int))
                                  (List.take (Int.toNat (2 : Int))
                                    [(List.getD l (Int.toNat i) (Ty.zero cmdT)).snd.fst,
                                      (List.getD l (Int.toNat i) (Ty.zero cmdT)).snd.snd.fst]))))
                          (A.se
                            (b ++ [A.wrap IntKind.u8 (List.getD l (Int.toNat i) (Ty.zero cmdT)).fst] ++
                              txts
                                (List.drop (Int.toNat (0 : Int))
                                  (List.take (Int.toNat (2 : Int))
                                    [(List.getD l (Int.toNat i) (Ty.zero cmdT)).snd.fst,
                                      (List.getD l (Int.toNat i) (Ty.zero cmdT)).snd.snd.fst])))))) then
                k Ex.normal
                  [X.ptr (0 : Nat) [], X.fn (20 : Nat) [X.ptr (0 : Nat) []] [], X.fn (21 : Nat) [X.ptr (0 : Nat) []] [],
                    X.sl cmdT l nl false, X.d (Ty.int IntKind.i64) n,
                    X.d (Ty.int IntKind.i64) (A.wrap IntKind.i64 (i + (1 : Int)))]
                  [(bytT,
                      X.agg
                        [X.sl (Ty.int IntKind.u8)
                            (A.se
                              (A.se
                                  (b ++ [A.wrap IntKind.u8 (List.getD l (Int.toNat i) (Ty.zero cmdT)).fst] ++
                                    txts
                                      (List.drop (Int.toNat (0 : Int))
                                        (List.take (Int.toNat (2 : Int))
                                          [(List.getD l (Int.toNat i) (Ty.zero cmdT)).snd.fst,
                                            (List.getD l (Int.toNat i) (Ty.zero cmdT)).snd.snd.fst]))) ++
                                nums
                                  (List.drop (Int.toNat (0 : Int))
                                    (List.take (Int.toNat (0 : Int))
                                      [A.wrap IntKind.u64 (List.getD l (Int.toNat i) (Ty.zero cmdT)).snd.snd.snd.fst,
                                        (List.getD l (Int.toNat i) (Ty.zero cmdT)).snd.snd.snd.snd.fst,
                                        A.wrap IntKind.u64
                                          (List.getD l (Int.toNat i) (Ty.zero cmdT)).snd.snd.snd.snd.snd.fst]))))
                            (some
                              (A.se
                                (A.se
                                    (nb &&
                                        List.isEmpty [A.wrap IntKind.u8 (List.getD l (Int.toNat i) (Ty.zero cmdT)).fst] &&
                                      List.isEmpty
                                        (List.drop (Int.toNat (0 : Int))
                                          (List.take (Int.toNat (2 : Int))
                                            [(List.getD l (Int.toNat i) (Ty.zero cmdT)).snd.fst,
                                              (List.getD l (Int.toNat i) (Ty.zero cmdT)).snd.snd.fst]))) &&
                                  List.isEmpty
                                    (List.drop (Int.toNat (0 : Int))
                                      (List.take (Int.toNat (0 : Int))
                                        [A.wrap IntKind.u64 (List.getD l (Int.toNat i) (Ty.zero cmdT)).snd.snd.snd.fst,
                                          (List.getD l (Int.toNat i) (Ty.zero cmdT)).snd.snd.snd.snd.fst,
                                          A.wrap IntKind.u64
                                            (List.getD l (Int.toNat i) (Ty.zero cmdT)).snd.snd.snd.snd.snd.fst])))))
                            true,
                          X.d Ty.bool ok]),
                    (Ty.struct
                        (Ty.prod (Ty.int IntKind.i64)
                          (Ty.prod (Ty.slice (Ty.int IntKind.u8))
                            (Ty.prod (Ty.slice (Ty.int IntKind.u8))
                              (Ty.prod (Ty.int IntKind.i64)
                                (Ty.prod (Ty.int IntKind.u64) (Ty.prod (Ty.int IntKind.i64) Ty.unit)))))),
                      X.d
                        (Ty.struct
                          (Ty.prod (Ty.int IntKind.i64)
                            (Ty.prod (Ty.slice (Ty.int IntKind.u8))
                              (Ty.prod (Ty.slice (Ty.int IntKind.u8))
                                (Ty.prod (Ty.int IntKind.i64)
                                  (Ty.prod (Ty.int IntKind.u64) (Ty.prod (Ty.int IntKind.i64) Ty.unit)))))))
                        (Option.rec ((fun _ => Ty.zero cmdT) ()) (fun val => (fun val => (fun x => x) val) val)
                          l[Int.toNat i]?)),
                    (Ty.struct (Ty.prod (Ty.int IntKind.i64) (Ty.prod (Ty.int IntKind.i64) Ty.unit)),
                      X.d shT ((2 : Int), (0 : Int), ()))]
              else none
            else none
          else
            bif A.se (decide ((List.getD l (Int.toNat i) (Ty.zero cmdT)).fst = (5 : Int))) then
              bif
                  A.se
                    (decide
                        ((↑(List.length
                                  (List.take (Int.toNat (1 : Int))
                                    [(List.getD l (Int.toNat i) (Ty.zero cmdT)).snd.fst,
                                      (List.getD l (Int.toNat i) (Ty.zero cmdT)).snd.snd.fst])) :
                              Int) =
                            (↑(List.length
                                  (List.take (Int.toNat (1 : Int))
                                    [(List.getD l (Int.toNat i) (Ty.zero cmdT)).snd.fst,
                                      (List.getD l (Int.toNat i) (Ty.zero cmdT)).snd.snd.fst])) :
                              Int) ∧
                          (0 : Int) ≤ (0 : Int) ∧
                            (0 : Int) ≤
                                (↑(List.length
                                      (List.take (Int.toNat (1 : Int))
                                        [(List.getD l (Int.toNat i) (Ty.zero cmdT)).snd.fst,
                                          (List.getD l (Int.toNat i) (Ty.zero cmdT)).snd.snd.fst])) :
                                  Int) ∧
                              (↑(List.length
                                        (List.take (Int.toNat (1 : Int))
                                          [(List.getD l (Int.toNat i) (Ty.zero cmdT)).snd.fst,
                                            (List.getD l (Int.toNat i) (Ty.zero cmdT)).snd.snd.fst])) :
                                    Int) ≤
                                  (100 : Int) ∧
                                List.length (b ++ [A.wrap IntKind.u8 (List.getD l (Int.toNat i) (Ty.zero cmdT)).fst]) +
                                    List.length
                                      (txts
                                        (List.drop (Int.toNat (0 : Int))
                                          (List.take (Int.toNat (1 : Int))
                                            [(List.getD l (Int.toNat i) (Ty.zero cmdT)).snd.fst,
                                              (List.getD l (Int.toNat i) (Ty.zero cmdT)).snd.snd.fst]))) ≤
                                  (10000000 : Nat)) &&
                      nlB (nb && List.isEmpty [A.wrap IntKind.u8 (List.getD l (Int.toNat i) (Ty.zero cmdT)).fst])
                        (b ++ [A.wrap IntKind.u8 (List.getD l (Int.toNat i) (Ty.zero cmdT)).fst])) then
                bif
                    A.se
                      (List.all
                          (List.take (Int.toNat (3 : Int))
                            [A.wrap IntKind.u64 (List.getD l (Int.toNat i) (Ty.zero cmdT)).snd.snd.snd.fst,
                              (List.getD l (Int.toNat i) (Ty.zero cmdT)).snd.snd.snd.snd.fst,
                              A.wrap IntKind.u64 (List.getD l (Int.toNat i) (Ty.zero cmdT)).snd.snd.snd.snd.snd.fst])
                          isU64 &&
                        (decide
                            ((↑(List.length
                                      (List.take (Int.toNat (3 : Int))
                                        [A.wrap IntKind.u64 (List.getD l (Int.toNat i) (Ty.zero cmdT)).snd.snd.snd.fst,
                                          (List.getD l (Int.toNat i) (Ty.zero cmdT)).snd.snd.snd.snd.fst,
                                          A.wrap IntKind.u64
                                            (List.getD l (Int.toNat i) (Ty.zero cmdT)).snd.snd.snd.snd.snd.fst])) :
                                  Int) =
                                (↑(List.length
                                      (List.take (Int.toNat (3 : Int))
                                        [A.wrap IntKind.u64 (List.getD l (Int.toNat i) (Ty.zero cmdT)).snd.snd.snd.fst,
                                          (List.getD l (Int.toNat i) (Ty.zero cmdT)).snd.snd.snd.snd.fst,
                                          A.wrap IntKind.u64
                                            (List.getD l (Int.toNat i) (Ty.zero cmdT)).snd.snd.snd.snd.snd.fst])) :
                                  Int) ∧
                              (0 : Int) ≤ (0 : Int) ∧
                                (0 : Int) ≤
                                    (↑(List.length
                                          (List.take (Int.toNat (3 : Int))
                                            [A.wrap IntKind.u64 (List.getD l (Int.toNat i) (Ty.zero cmdT)).snd.snd.snd.fst,
                                              (List.getD l (Int.toNat i) (Ty.zero cmdT)).snd.snd.snd.snd.fst,
                                              A.wrap IntKind.u64
                                                (List.getD l (Int.toNat i) (Ty.zero cmdT)).snd.snd.snd.snd.snd.fst])) :
                                      Int) ∧
                                  (↑(List.length
                                            (List.take (Int.toNat (3 : Int))
                                              [A.wrap IntKind.u64
                                                  (List.getD l (Int.toNat i) (Ty.zero cmdT)).snd.snd.snd.fst,
                                                (List.getD l (Int.toNat i) (Ty.zero cmdT)).snd.snd.snd.snd.fst,
                                                A.wrap IntKind.u64
                                                  (List.getD l (Int.toNat i) (Ty.zero cmdT)).snd.snd.snd.snd.snd.fst])) :
                                        Int) ≤
                                      (100 : Int) ∧
                                    List.length
                                          (A.se
                                            (b ++ [A.wrap IntKind.u8 (List.getD l (Int.toNat i) (Ty.zero cmdT)).fst] ++
                                              txts
                                                (List.drop (Int.toNat (0 : Int))
                                                  (List.take (Int.toNat (1 : Int))
                                                    [(List.getD l (Int.toNat i) (Ty.zero cmdT)).snd.fst,
                                                      (List.getD l (Int.toNat i) (Ty.zero cmdT)).snd.snd.fst])))) +
                                        List.length
                                          (nums
                                            (List.drop (Int.toNat (0 : Int))
                                              (List.take (Int.toNat (3 : Int))
                                                [A.wrap IntKind.u64
                                                    (List.getD l (Int.toNat i) (Ty.zero cmdT)).snd.snd.snd.fst,
                                                  (List.getD l (Int.toNat i) (Ty.zero cmdT)).snd.snd.snd.snd.fst,
                                                  A.wrap IntKind.u64
                                                    (List.getD l (Int.toNat i) (Ty.zero cmdT)).snd.snd.snd.snd.snd.fst]))) ≤
                                      (10000000 : Nat)) &&
                          nlB
                            (A.se
                              (nb && List.isEmpty [A.wrap IntKind.u8 (List.getD l (Int.toNat i) (Ty.zero cmdT)).fst] &&
                                List.isEmpty
                                  (List.drop (Int.toNat (0 : Int))
                                    (List.take (Int.toNat (1 : Int))
                                      [(List.getD l (Int.toNat i) (Ty.zero cmdT)).snd.fst,
                                        (List.getD l (Int.toNat i) (Ty.zero cmdT)).snd.snd.fst]))))
                            (A.se
                              (b ++ [A.wrap IntKind.u8 (List.getD l (Int.toNat i) (Ty.zero cmdT)).fst] ++
                                txts
                                  (List.drop (Int.toNat (0 : Int))
                                    (List.take (Int.toNat (1 : Int))
                                      [(List.getD l (Int.toNat i) (Ty.zero cmdT)).snd.fst,
                                        (List.getD l (Int.toNat i) (Ty.zero cmdT)).snd.snd.fst])))))) then
                  k Ex.normal
                    [X.ptr (0 : Nat) [], X.fn (20 : Nat) [X.ptr (0 : Nat) []] [], X.fn (21 : Nat) [X.ptr (0 : Nat) []] [],
                      X.sl cmdT l nl false, X.d (Ty.int IntKind.i64) n,
                      X.d (Ty.int IntKind.i64) (A.wrap IntKind.i64 (i + (1 : Int)))]
                    [(bytT,
                        X.agg
                          [X.sl (Ty.int IntKind.u8)
                              (A.se
                                (A.se
                                    (b ++ [A.wrap IntKind.u8 (List.getD l (Int.toNat i) (Ty.zero cmdT)).fst] ++
                                      txts
                                        (List.drop (Int.toNat (0 : Int))
                                          (List.take (Int.toNat (1 : Int))
                                            [(List.getD l (Int.toNat i) (Ty.zero cmdT)).snd.fst,
                                              (List.getD l (Int.toNat i) (Ty.zero cmdT)).snd.snd.fst]))) ++
                                  nums
                                    (List.drop (Int.toNat (0 : Int))
                                      (List.take (Int.toNat (3 : Int))
                                        [A.wrap IntKind.u64 (List.getD l (Int.toNat i) (Ty.zero cmdT)).snd.snd.snd.fst,
                                          (List.getD l (Int.toNat i) (Ty.zero cmdT)).snd.snd.snd.snd.fst,
                                          A.wrap IntKind.u64
                                            (List.getD l (Int.toNat i) (Ty.zero cmdT)).snd.snd.snd.snd.snd.fst]))))
                              (some
                                (A.se
                                  (A.se
                                      (nb &&
                                          List.isEmpty [A.wrap IntKind.u8 (List.getD l (Int.toNat i) (Ty.zero cmdT)).fst] &&
                                        List.isEmpty
                                          (List.drop (Int.toNat (0 : Int))
                                            (List.take (Int.toNat (1 : Int))
                                              [(List.getD l (Int.toNat i) (Ty.zero cmdT)).snd.fst,
                                                (List.getD l (Int.toNat i) (Ty.zero cmdT)).snd.snd.fst]))) &&
                                    List.isEmpty
                                      (List.drop (Int.toNat (0 : Int))
                                        (List.take (Int.toNat (3 : Int))
                                          [A.wrap IntKind.u64 (List.getD l (Int.toNat i) (Ty.zero cmdT)).snd.snd.snd.fst,
                                            (List.getD l (Int.toNat i) (Ty.zero cmdT)).snd.snd.snd.snd.fst,
                                            A.wrap IntKind.u64
                                              (List.getD l (Int.toNat i) (Ty.zero cmdT)).snd.snd.snd.snd.snd.fst])))))
                              true,
                            X.d Ty.bool ok]),
                      (Ty.struct
                          (Ty.prod (Ty.int IntKind.i64)
                            (Ty.prod (Ty.slice (Ty.int IntKind.u8))
                              (Ty.prod (Ty.slice (Ty.int IntKind.u8))
                                (Ty.prod (Ty.int IntKind.i64)
                                  (Ty.prod (Ty.int IntKind.u64) (Ty.prod (Ty.int IntKind.i64) Ty.unit)))))),
                        X.d
                          (Ty.struct
                            (Ty.prod (Ty.int IntKind.i64)
                              (Ty.prod (Ty.slice (Ty.int IntKind.u8))
                                (Ty.prod (Ty.slice (Ty.int IntKind.u8))
                                  (Ty.prod (Ty.int IntKind.i64)
                                    (Ty.prod (Ty.int IntKind.u64) (Ty.prod (Ty.int IntKind.i64) Ty.unit)))))))
                          (Option.rec ((fun _ => Ty.zero cmdT) ()) (fun val => (fun val => (fun x => x) val) val)
                            l[Int.toNat i]?)),
                      (Ty.struct (Ty.prod (Ty.int IntKind.i64) (Ty.prod (Ty.int IntKind.i64) Ty.unit)),
                        X.d shT ((1 : Int), (3 : Int), ()))]
                else none
              else none
            else
              bif
                  A.se
                    (decide
                      ((List.getD l (Int.toNat i) (Ty.zero cmdT)).fst = (2 : Int) ∨
                        (List.getD l (Int.toNat i) (Ty.zero cmdT)).fst = (4 : Int))) then
                bif
                    A.se
                      (decide
                          ((↑(List.length
                                    (List.take (Int.toNat (1 : Int))
                                      [(List.getD l (Int.toNat i) (Ty.zero cmdT)).snd.fst,
                                        (List.getD l (Int.toNat i) (Ty.zero cmdT)).snd.snd.fst])) :
                                Int) =
                              (↑(List.length
                                    (List.take (Int.toNat (1 : Int))
                                      [(List.getD l (Int.toNat i) (Ty.zero cmdT)).snd.fst,
                                        (List.getD l (Int.toNat i) (Ty.zero cmdT)).snd.snd.fst])) :
                                Int) ∧
                            (0 : Int) ≤ (0 : Int) ∧
                              (0 : Int) ≤
                                  (↑(List.length
                                        (List.take (Int.toNat (1 : Int))
                                          [(List.getD l (Int.toNat i) (Ty.zero cmdT)).snd.fst,
                                            (List.getD l (Int.toNat i) (Ty.zero cmdT)).snd.snd.fst])) :
                                    Int) ∧
                                (↑(List.length
                                          (List.take (Int.toNat (1 : Int))
                                            [(List.getD l (Int.toNat i) (Ty.zero cmdT)).snd.fst,
                                              (List.getD l (Int.toNat i) (Ty.zero cmdT)).snd.snd.fst])) :
                                      Int) ≤
                                    (100 : Int) ∧
                                  List.length (b ++ [A.wrap IntKind.u8 (List.getD l (Int.toNat i) (Ty.zero cmdT)).fst]) +
                                      List.length
                                        (txts
                                          (List.drop (Int.toNat (0 : Int))
                                            (List.take (Int.toNat (1 : Int))
                                              [(List.getD l (Int.toNat i) (Ty.zero cmdT)).snd.fst,
                                                (List.getD l (Int.toNat i) (Ty.zero cmdT)).snd.snd.fst]))) ≤
                                    (10000000 : Nat)) &&
                        nlB (nb && List.isEmpty [A.wrap IntKind.u8 (List.getD l (Int.toNat i) (Ty.zero cmdT)).fst])
                          (b ++ [A.wrap IntKind.u8 (List.getD l (Int.toNat i) (Ty.zero cmdT)).fst])) then
                  bif
                      A.se
                        (List.all
                            (List.take (Int.toNat (0 : Int))
                              [A.wrap IntKind.u64 (List.getD l (Int.toNat i) (Ty.zero cmdT)).snd.snd.snd.fst,
                                (List.getD l (Int.toNat i) (Ty.zero cmdT)).snd.snd.snd.snd.fst,
                                A.wrap IntKind.u64 (List.getD l (Int.toNat i) (Ty.zero cmdT)).snd.snd.snd.snd.snd.fst])
                            isU64 &&
                          (decide
                              ((↑(List.length
                                        (List.take (Int.toNat (0 : Int))
                                          [A.wrap IntKind.u64 (List.getD l (Int.toNat i) (Ty.zero cmdT)).snd.snd.snd.fst,
                                            (List.getD l (Int.toNat i) (Ty.zero cmdT)).snd.snd.snd.snd.fst,
                                            A.wrap IntKind.u64
                                              (List.getD l (Int.toNat i) (Ty.zero cmdT)).snd.snd.snd.snd.snd.fst])) :
                                    Int) =
                                  (↑(List.length
                                        (List.take (Int.toNat (0 : Int))
                                          [A.wrap IntKind.u64 (List.getD l (Int.toNat i) (Ty.zero cmdT)).snd.snd.snd.fst,
                                            (List.getD l (Int.toNat i) (Ty.zero cmdT)).snd.snd.snd.snd.fst,
                                            A.wrap IntKind.u64
                                              (List.getD l (Int.toNat i) (Ty.zero cmdT)).snd.snd.snd.snd.snd.fst])) :
                                    Int) ∧
                                (0 : Int) ≤ (0 : Int) ∧
                                  (0 : Int) ≤
                                      (↑(List.length
                                            (List.take (Int.toNat (0 : Int))
                                              [A.wrap IntKind.u64
                                                  (List.getD l (Int.toNat i) (Ty.zero cmdT)).snd.snd.snd.fst,
                                                (List.getD l (Int.toNat i) (Ty.zero cmdT)).snd.snd.snd.snd.fst,
                                                A.wrap IntKind.u64
                                                  (List.getD l (Int.toNat i) (Ty.zero cmdT)).snd.snd.snd.snd.snd.fst])) :
                                        Int) ∧
                                    (↑(List.length
                                              (List.take (Int.toNat (0 : Int))
                                                [A.wrap IntKind.u64
                                                    (List.getD l (Int.toNat i) (Ty.zero cmdT)).snd.snd.snd.fst,
                                                  (List.getD l (Int.toNat i) (Ty.zero cmdT)).snd.snd.snd.snd.fst,
                                                  A.wrap IntKind.u64
                                                    (List.getD l (Int.toNat i) (Ty.zero cmdT)).snd.snd.snd.snd.snd.fst])) :
                                          Int) ≤
                                        (100 : Int) ∧
                                      List.length
                                            (A.se
                                              (b ++ [A.wrap IntKind.u8 (List.getD l (Int.toNat i) (Ty.zero cmdT)).fst] ++
                                                txts
                                                  (List.drop (Int.toNat (0 : Int))
                                                    (List.take (Int.toNat (1 : Int))
                                                      [(List.getD l (Int.toNat i) (Ty.zero cmdT)).snd.fst,
                                                        (List.getD l (Int.toNat i) (Ty.zero cmdT)).snd.snd.fst])))) +
                                          List.length
                                            (nums
                                              (List.drop (Int.toNat (0 : Int))
                                                (List.take (Int.toNat (0 : Int))
                                                  [A.wrap IntKind.u64
                                                      (List.getD l (Int.toNat i) (Ty.zero cmdT)).snd.snd.snd.fst,
                                                    (List.getD l (Int.toNat i) (Ty.zero cmdT)).snd.snd.snd.snd.fst,
                                                    A.wrap IntKind.u64
                                                      (List.getD l (Int.toNat i)
                                                                    (Ty.zero cmdT)).snd.snd.snd.snd.snd.fst]))) ≤
                                        (10000000 : Nat)) &&
                            nlB
                              (A.se
                                (nb && List.isEmpty [A.wrap IntKind.u8 (List.getD l (Int.toNat i) (Ty.zero cmdT)).fst] &&
                                  List.isEmpty
                                    (List.drop (Int.toNat (0 : Int))
                                      (List.take (Int.toNat (1 : Int))
                                        [(List.getD l (Int.toNat i) (Ty.zero cmdT)).snd.fst,
                                          (List.getD l (Int.toNat i) (Ty.zero cmdT)).snd.snd.fst]))))
                              (A.se
                                (b ++ [A.wrap IntKind.u8 (List.getD l (Int.toNat i) (Ty.zero cmdT)).fst] ++
                                  txts
                                    (List.drop (Int.toNat (0 : Int))
                                      (List.take (Int.toNat (1 : Int))
                                        [(List.getD l (Int.toNat i) (Ty.zero cmdT)).snd.fst,
                                          (List.getD l (Int.toNat i) (Ty.zero cmdT)).snd.snd.fst])))))) then
                    k Ex.normal
                      [X.ptr (0 : Nat) [], X.fn (20 : Nat) [X.ptr (0 : Nat) []] [], X.fn (21 : Nat) [X.ptr (0 : Nat) []] [],
                        X.sl cmdT l nl false, X.d (Ty.int IntKind.i64) n,
                        X.d (Ty.int IntKind.i64) (A.wrap IntKind.i64 (i + (1 : Int)))]
                      [(bytT,
                          X.agg
                            [X.sl (Ty.int IntKind.u8)
                                (A.se
                                  (A.se
                                      (b ++ [A.wrap IntKind.u8 (List.getD l (Int.toNat i) (Ty.zero cmdT)).fst] ++
                                        txts
                                          (List.drop (Int.toNat (0 : Int))
                                            (List.take (Int.toNat (1 : Int))
                                              [(List.getD l (Int.toNat i) (Ty.zero cmdT)).snd.fst,
                                                (List.getD l (Int.toNat i) (Ty.zero cmdT)).snd.snd.fst]))) ++
                                    nums
                                      (List.drop (Int.toNat (0 : Int))
                                        (List.take (Int.toNat (0 : Int))
                                          [A.wrap IntKind.u64 (List.getD l (Int.toNat i) (Ty.zero cmdT)).snd.snd.snd.fst,
                                            (List.getD l (Int.toNat i) (Ty.zero cmdT)).snd.snd.snd.snd.fst,
                                            A.wrap IntKind.u64
                                              (List.getD l (Int.toNat i) (Ty.zero cmdT)).snd.snd.snd.snd.snd.fst]))))
                                (some
                                  (A.se
                                    (A.se
                                        (nb &&
                                            List.isEmpty
                                              [A.wrap IntKind.u8 (List.getD l (Int.toNat i) (Ty.zero cmdT)).fst] &&
                                          List.isEmpty
                                            (List.drop (Int.toNat (0 : Int))
                                              (List.take (Int.toNat (1 : Int))
                                                [(List.getD l (Int.toNat i) (Ty.zero cmdT)).snd.fst,
                                                  (List.getD l (Int.toNat i) (Ty.zero cmdT)).snd.snd.fst]))) &&
                                      List.isEmpty
                                        (List.drop (Int.toNat (0 : Int))
                                          (List.take (Int.toNat (0 : Int))
                                            [A.wrap IntKind.u64 (List.getD l (Int.toNat i) (Ty.zero cmdT)).snd.snd.snd.fst,
                                              (List.getD l (Int.toNat i) (Ty.zero cmdT)).snd.snd.snd.snd.fst,
                                              A.wrap IntKind.u64
                                                (List.getD l (Int.toNat i) (Ty.zero cmdT)).snd.snd.snd.snd.snd.fst])))))
                                true,
                              X.d Ty.bool ok]),
                        (Ty.struct
                            (Ty.prod (Ty.int IntKind.i64)
                              (Ty.prod (Ty.slice (Ty.int IntKind.u8))
                                (Ty.prod (Ty.slice (Ty.int IntKind.u8))
                                  (Ty.prod (Ty.int IntKind.i64)
                                    (Ty.prod (Ty.int IntKind.u64) (Ty.prod (Ty.int IntKind.i64) Ty.unit)))))),
                          X.d
                            (Ty.struct
                              (Ty.prod (Ty.int IntKind.i64)
                                (Ty.prod (Ty.slice (Ty.int IntKind.u8))
                                  (Ty.prod (Ty.slice (Ty.int IntKind.u8))
                                    (Ty.prod (Ty.int IntKind.i64)
                                      (Ty.prod (Ty.int IntKind.u64) (Ty.prod (Ty.int IntKind.i64) Ty.unit)))))))
                            (Option.rec ((fun _ => Ty.zero cmdT) ()) (fun val => (fun val => (fun x => x) val) val)
                              l[Int.toNat i]?)),
                        (Ty.struct (Ty.prod (Ty.int IntKind.i64) (Ty.prod (Ty.int IntKind.i64) Ty.unit)),
                          X.d shT ((1 : Int), (0 : Int), ()))]
                  else none
                else none
              else
                bif A.se (decide ((List.getD l (Int.toNat i) (Ty.zero cmdT)).fst = (3 : Int))) then
                  bif
                      A.se
                        (decide
                            ((↑(List.length
                                      (List.take (Int.toNat (0 : Int))
                                        [(List.getD l (Int.toNat i) (Ty.zero cmdT)).snd.fst,
                                          (List.getD l (Int.toNat i) (Ty.zero cmdT)).snd.snd.fst])) :
                                  Int) =
                                (↑(List.length
                                      (List.take (Int.toNat (0 : Int))
                                        [(List.getD l (Int.toNat i) (Ty.zero cmdT)).snd.fst,
                                          (List.getD l (Int.toNat i) (Ty.zero cmdT)).snd.snd.fst])) :
                                  Int) ∧
                              (0 : Int) ≤ (0 : Int) ∧
                                (0 : Int) ≤
                                    (↑(List.length
                                          (List.take (Int.toNat (0 : Int))
                                            [(List.getD l (Int.toNat i) (Ty.zero cmdT)).snd.fst,
                                              (List.getD l (Int.toNat i) (Ty.zero cmdT)).snd.snd.fst])) :
                                      Int) ∧
                                  (↑(List.length
                                            (List.take (Int.toNat (0 : Int))
                                              [(List.getD l (Int.toNat i) (Ty.zero cmdT)).snd.fst,
                                                (List.getD l (Int.toNat i) (Ty.zero cmdT)).snd.snd.fst])) :
                                        Int) ≤
                                      (100 : Int) ∧
                                    List.length (b ++ [A.wrap IntKind.u8 (List.getD l (Int.toNat i) (Ty.zero cmdT)).fst]) +
                                        List.length
                                          (txts
                                            (List.drop (Int.toNat (0 : Int))
                                              (List.take (Int.toNat (0 : Int))
                                                [(List.getD l (Int.toNat i) (Ty.zero cmdT)).snd.fst,
                                                  (List.getD l (Int.toNat i) (Ty.zero cmdT)).snd.snd.fst]))) ≤
                                      (10000000 : Nat)) &&
                          nlB (nb && List.isEmpty [A.wrap IntKind.u8 (List.getD l (Int.toNat i) (Ty.zero cmdT)).fst])
                            (b ++ [A.wrap IntKind.u8 (List.getD l (Int.toNat i) (Ty.zero cmdT)).fst])) then
                    bif
                        A.se
                          (List.all
                              (List.take (Int.toNat (0 : Int))
                                [A.wrap IntKind.u64 (List.getD l (Int.toNat i) (Ty.zero cmdT)).snd.snd.snd.fst,
                                  (List.getD l (Int.toNat i) (Ty.zero cmdT)).snd.snd.snd.snd.fst,
                                  A.wrap IntKind.u64 (List.getD l (Int.toNat i) (Ty.zero cmdT)).snd.snd.snd.snd.snd.fst])
                              isU64 &&
                            (decide
                                ((↑(List.length
                                          (List.take (Int.toNat (0 : Int))
                                            [A.wrap IntKind.u64 (List.getD l (Int.toNat i) (Ty.zero cmdT)).snd.snd.snd.fst,
                                              (List.getD l (Int.toNat i) (Ty.zero cmdT)).snd.snd.snd.snd.fst,
                                              A.wrap IntKind.u64
                                                (List.getD l (Int.toNat i) (Ty.zero cmdT)).snd.snd.snd.snd.snd.fst])) :
                                      Int) =
                                    (↑(List.length
                                          (List.take (Int.toNat (0 : Int))
                                            [A.wrap IntKind.u64 (List.getD l (Int.toNat i) (Ty.zero cmdT)).snd.snd.snd.fst,
                                              (List.getD l (Int.toNat i) (Ty.zero cmdT)).snd.snd.snd.snd.fst,
                                              A.wrap IntKind.u64
                                                (List.getD l (Int.toNat i) (Ty.zero cmdT)).snd.snd.snd.snd.snd.fst])) :
                                      Int) ∧
                                  (0 : Int) ≤ (0 : Int) ∧
                                    (0 : Int) ≤
                                        (↑(List.length
                                              (List.take (Int.toNat (0 : Int))
                                                [A.wrap IntKind.u64
                                                    (List.getD l (Int.toNat i) (Ty.zero cmdT)).snd.snd.snd.fst,
                                                  (List.getD l (Int.toNat i) (Ty.zero cmdT)).snd.snd.snd.snd.fst,
                                                  A.wrap IntKind.u64
                                                    (List.getD l (Int.toNat i) (Ty.zero cmdT)).snd.snd.snd.snd.snd.fst])) :
                                          Int) ∧
                                      (↑(List.length
                                                (List.take (Int.toNat (0 : Int))
                                                  [A.wrap IntKind.u64
                                                      (List.getD l (Int.toNat i) (Ty.zero cmdT)).snd.snd.snd.fst,
                                                    (List.getD l (Int.toNat i) (Ty.zero cmdT)).snd.snd.snd.snd.fst,
                                                    A.wrap IntKind.u64
                                                      (List.getD l (Int.toNat i)
                                                                    (Ty.zero cmdT)).snd.snd.snd.snd.snd.fst])) :
                                            Int) ≤
                                          (100 : Int) ∧
                                        List.length
                                              (A.se
                                                (b ++ [A.wrap IntKind.u8 (List.getD l (Int.toNat i) (Ty.zero cmdT)).fst] ++
                                                  txts
                                                    (List.drop (Int.toNat (0 : Int))
                                                      (List.take (Int.toNat (0 : Int))
                                                        [(List.getD l (Int.toNat i) (Ty.zero cmdT)).snd.fst,
                                                          (List.getD l (Int.toNat i) (Ty.zero cmdT)).snd.snd.fst])))) +
                                            List.length
                                              (nums
                                                (List.drop (Int.toNat (0 : Int))
                                                  (List.take (Int.toNat (0 : Int))
                                                    [A.wrap IntKind.u64
                                                        (List.getD l (Int.toNat i) (Ty.zero cmdT)).snd.snd.snd.fst,
                                                      (List.getD l (Int.toNat i) (Ty.zero cmdT)).snd.snd.snd.snd.fst,
                                                      A.wrap IntKind.u64
                                                        (List.getD l (Int.toNat i)
                                                                      (Ty.zero cmdT)).snd.snd.snd.snd.snd.fst]))) ≤
                                          (10000000 : Nat)) &&
                              nlB
                                (A.se
                                  (nb && List.isEmpty [A.wrap IntKind.u8 (List.getD l (Int.toNat i) (Ty.zero cmdT)).fst] &&
                                    List.isEmpty
                                      (List.drop (Int.toNat (0 : Int))
                                        (List.take (Int.toNat (0 : Int))
                                          [(List.getD l (Int.toNat i) (Ty.zero cmdT)).snd.fst,
                                            (List.getD l (Int.toNat i) (Ty.zero cmdT)).snd.snd.fst]))))
                                (A.se
                                  (b ++ [A.wrap IntKind.u8 (List.getD l (Int.toNat i) (Ty.zero cmdT)).fst] ++
                                    txts
                                      (List.drop (Int.toNat (0 : Int))
                                        (List.take (Int.toNat (0 : Int))
                                          [(List.getD l (Int.toNat i) (Ty.zero cmdT)).snd.fst,
                                            (List.getD l (Int.toNat i) (Ty.zero cmdT)).snd.snd.fst])))))) then
                      k Ex.normal
                        [X.ptr (0 : Nat) [], X.fn (20 : Nat) [X.ptr (0 : Nat) []] [],
                          X.fn (21 : Nat) [X.ptr (0 : Nat) []] [], X.sl cmdT l nl false, X.d (Ty.int IntKind.i64) n,
                          X.d (Ty.int IntKind.i64) (A.wrap IntKind.i64 (i + (1 : Int)))]
                        [(bytT,
                            X.agg
                              [X.sl (Ty.int IntKind.u8)
                                  (A.se
                                    (A.se
                                        (b ++ [A.wrap IntKind.u8 (List.getD l (Int.toNat i) (Ty.zero cmdT)).fst] ++
                                          txts
                                            (List.drop (Int.toNat (0 : Int))
                                              (List.take (Int.toNat (0 : Int))
                                                [(List.getD l (Int.toNat i) (Ty.zero cmdT)).snd.fst,
                                                  (List.getD l (Int.toNat i) (Ty.zero cmdT)).snd.snd.fst]))) ++
                                      nums
                                        (List.drop (Int.toNat (0 : Int))
                                          (List.take (Int.toNat (0 : Int))
                                            [A.wrap IntKind.u64 (List.getD l (Int.toNat i) (Ty.zero cmdT)).snd.snd.snd.fst,
                                              (List.getD l (Int.toNat i) (Ty.zero cmdT)).snd.snd.snd.snd.fst,
                                              A.wrap IntKind.u64
                                                (List.getD l (Int.toNat i) (Ty.zero cmdT)).snd.snd.snd.snd.snd.fst]))))
                                  (some
                                    (A.se
                                      (A.se
                                          (nb &&
                                              List.isEmpty
                                                [A.wrap IntKind.u8 (List.getD l (Int.toNat i) (Ty.zero cmdT)).fst] &&
                                            List.isEmpty
                                              (List.drop (Int.toNat (0 : Int))
                                                (List.take (Int.toNat (0 : Int))
                                                  [(List.getD l (Int.toNat i) (Ty.zero cmdT)).snd.fst,
                                                    (List.getD l (Int.toNat i) (Ty.zero cmdT)).snd.snd.fst]))) &&
                                        List.isEmpty
                                          (List.drop (Int.toNat (0 : Int))
                                            (List.take (Int.toNat (0 : Int))
                                              [A.wrap IntKind.u64
                                                  (List.getD l (Int.toNat i) (Ty.zero cmdT)).snd.snd.snd.fst,
                                                (List.getD l (Int.toNat i) (Ty.zero cmdT)).snd.snd.snd.snd.fst,
                                                A.wrap IntKind.u64
                                                  (List.getD l (Int.toNat i) (Ty.zero cmdT)).snd.snd.snd.snd.snd.fst])))))
                                  true,
                                X.d Ty.bool ok]),
                          (Ty.struct
                              (Ty.prod (Ty.int IntKind.i64)
                                (Ty.prod (Ty.slice (Ty.int IntKind.u8))
                                  (Ty.prod (Ty.slice (Ty.int IntKind.u8))
                                    (Ty.prod (Ty.int IntKind.i64)
                                      (Ty.prod (Ty.int IntKind.u64) (Ty.prod (Ty.int IntKind.i64) Ty.unit)))))),
                            X.d
                              (Ty.struct
                                (Ty.prod (Ty.int IntKind.i64)
                                  (Ty.prod (Ty.slice (Ty.int IntKind.u8))
                                    (Ty.prod (Ty.slice (Ty.int IntKind.u8))
                                      (Ty.prod (Ty.int IntKind.i64)
                                        (Ty.prod (Ty.int IntKind.u64) (Ty.prod (Ty.int IntKind.i64) Ty.unit)))))))
                              (Option.rec ((fun _ => Ty.zero cmdT) ()) (fun val => (fun val => (fun x => x) val) val)
                                l[Int.toNat i]?)),
                          (Ty.struct (Ty.prod (Ty.int IntKind.i64) (Ty.prod (Ty.int IntKind.i64) Ty.unit)),
                            X.d shT ((0 : Int), (0 : Int), ()))]
                    else none
                  else none
                else
                  bif
                      A.se
                        (decide
                            ((↑(List.length
                                      (List.take (Int.toNat (0 : Int))
                                        [(List.getD l (Int.toNat i) (Ty.zero cmdT)).snd.fst,
                                          (List.getD l (Int.toNat i) (Ty.zero cmdT)).snd.snd.fst])) :
                                  Int) =
                                (↑(List.length
                                      (List.take (Int.toNat (0 : Int))
                                        [(List.getD l (Int.toNat i) (Ty.zero cmdT)).snd.fst,
                                          (List.getD l (Int.toNat i) (Ty.zero cmdT)).snd.snd.fst])) :
                                  Int) ∧
                              (0 : Int) ≤ (0 : Int) ∧
                                (0 : Int) ≤
                                    (↑(List.length
                                          (List.take (Int.toNat (0 : Int))
                                            [(List.getD l (Int.toNat i) (Ty.zero cmdT)).snd.fst,
                                              (List.getD l (Int.toNat i) (Ty.zero cmdT)).snd.snd.fst])) :
                                      Int) ∧
                                  (↑(List.length
                                            (List.take (Int.toNat (0 : Int))
                                              [(List.getD l (Int.toNat i) (Ty.zero cmdT)).snd.fst,
                                                (List.getD l (Int.toNat i) (Ty.zero cmdT)).snd.snd.fst])) :
                                        Int) ≤
                                      (100 : Int) ∧
                                    List.length (b ++ [A.wrap IntKind.u8 (List.getD l (Int.toNat i) (Ty.zero cmdT)).fst]) +
                                        List.length
                                          (txts
                                            (List.drop (Int.toNat (0 : Int))
                                              (List.take (Int.toNat (0 : Int))
                                                [(List.getD l (Int.toNat i) (Ty.zero cmdT)).snd.fst,
                                                  (List.getD l (Int.toNat i) (Ty.zero cmdT)).snd.snd.fst]))) ≤
                                      (10000000 : Nat)) &&
                          nlB (nb && List.isEmpty [A.wrap IntKind.u8 (List.getD l (Int.toNat i) (Ty.zero cmdT)).fst])
                            (b ++ [A.wrap IntKind.u8 (List.getD l (Int.toNat i) (Ty.zero cmdT)).fst])) then
                    bif
                        A.se
                          (List.all
                              (List.take (Int.toNat (0 : Int))
                                [A.wrap IntKind.u64 (List.getD l (Int.toNat i) (Ty.zero cmdT)).snd.snd.snd.fst,
                                  (List.getD l (Int.toNat i) (Ty.zero cmdT)).snd.snd.snd.snd.fst,
                                  A.wrap IntKind.u64 (List.getD l (Int.toNat i) (Ty.zero cmdT)).snd.snd.snd.snd.snd.fst])
                              isU64 &&
                            (decide
                                ((↑(List.length
                                          (List.take (Int.toNat (0 : Int))
                                            [A.wrap IntKind.u64 (List.getD l (Int.toNat i) (Ty.zero cmdT)).snd.snd.snd.fst,
                                              (List.getD l (Int.toNat i) (Ty.zero cmdT)).snd.snd.snd.snd.fst,
                                              A.wrap IntKind.u64
                                                (List.getD l (Int.toNat i) (Ty.zero cmdT)).snd.snd.snd.snd.snd.fst])) :
                                      Int) =
                                    (↑(List.length
                                          (List.take (Int.toNat (0 : Int))
                                            [A.wrap IntKind.u64 (List.getD l (Int.toNat i) (Ty.zero cmdT)).snd.snd.snd.fst,
                                              (List.getD l (Int.toNat i) (Ty.zero cmdT)).snd.snd.snd.snd.fst,
                                              A.wrap IntKind.u64
                                                (List.getD l (Int.toNat i) (Ty.zero cmdT)).snd.snd.snd.snd.snd.fst])) :
                                      Int) ∧
                                  (0 : Int) ≤ (0 : Int) ∧
                                    (0 : Int) ≤
                                        (↑(List.length
                                              (List.take (Int.toNat (0 : Int))
                                                [A.wrap IntKind.u64
                                                    (List.getD l (Int.toNat i) (Ty.zero cmdT)).snd.snd.snd.fst,
                                                  (List.getD l (Int.toNat i) (Ty.zero cmdT)).snd.snd.snd.snd.fst,
                                                  A.wrap IntKind.u64
                                                    (List.getD l (Int.toNat i) (Ty.zero cmdT)).snd.snd.snd.snd.snd.fst])) :
                                          Int) ∧
                                      (↑(List.length
                                                (List.take (Int.toNat (0 : Int))
                                                  [A.wrap IntKind.u64
                                                      (List.getD l (Int.toNat i) (Ty.zero cmdT)).snd.snd.snd.fst,
                                                    (List.getD l (Int.toNat i) (Ty.zero cmdT)).snd.snd.snd.snd.fst,
                                                    A.wrap IntKind.u64
                                                      (List.getD l (Int.toNat i)
                                                                    (Ty.zero cmdT)).snd.snd.snd.snd.snd.fst])) :
                                            Int) ≤
                                          (100 : Int) ∧
                                        List.length
                                              (A.se
                                                (b ++ [A.wrap IntKind.u8 (List.getD l (Int.toNat i) (Ty.zero cmdT)).fst] ++
                                                  txts
                                                    (List.drop (Int.toNat (0 : Int))
                                                      (List.take (Int.toNat (0 : Int))
                                                        [(List.getD l (Int.toNat i) (Ty.zero cmdT)).snd.fst,
                                                          (List.getD l (Int.toNat i) (Ty.zero cmdT)).snd.snd.fst])))) +
                                            List.length
                                              (nums
                                                (List.drop (Int.toNat (0 : Int))
                                                  (List.take (Int.toNat (0 : Int))
                                                    [A.wrap IntKind.u64
                                                        (List.getD l (Int.toNat i) (Ty.zero cmdT)).snd.snd.snd.fst,
                                                      (List.getD l (Int.toNat i) (Ty.zero cmdT)).snd.snd.snd.snd.fst,
                                                      A.wrap IntKind.u64
                                                        (List.getD l (Int.toNat i)
                                                                      (Ty.zero cmdT)).snd.snd.snd.snd.snd.fst]))) ≤
                                          (10000000 : Nat)) &&
                              nlB
                                (A.se
                                  (nb && List.isEmpty [A.wrap IntKind.u8 (List.getD l (Int.toNat i) (Ty.zero cmdT)).fst] &&
                                    List.isEmpty
                                      (List.drop (Int.toNat (0 : Int))
                                        (List.take (Int.toNat (0 : Int))
                                          [(List.getD l (Int.toNat i) (Ty.zero cmdT)).snd.fst,
                                            (List.getD l (Int.toNat i) (Ty.zero cmdT)).snd.snd.fst]))))
                                (A.se
                                  (b ++ [A.wrap IntKind.u8 (List.getD l (Int.toNat i) (Ty.zero cmdT)).fst] ++
                                    txts
                                      (List.drop (Int.toNat (0 : Int))
                                        (List.take (Int.toNat (0 : Int))
                                          [(List.getD l (Int.toNat i) (Ty.zero cmdT)).snd.fst,
                                            (List.getD l (Int.toNat i) (Ty.zero cmdT)).snd.snd.fst])))))) then
                      k Ex.normal
                        [X.ptr (0 : Nat) [], X.fn (20 : Nat) [X.ptr (0 : Nat) []] [],
                          X.fn (21 : Nat) [X.ptr (0 : Nat) []] [], X.sl cmdT l nl false, X.d (Ty.int IntKind.i64) n,
                          X.d (Ty.int IntKind.i64) (A.wrap IntKind.i64 (i + (1 : Int)))]
                        [(bytT,
                            X.agg
                              [X.sl (Ty.int IntKind.u8)
                                  (A.se
                                    (A.se
                                        (b ++ [A.wrap IntKind.u8 (List.getD l (Int.toNat i) (Ty.zero cmdT)).fst] ++
                                          txts
                                            (List.drop (Int.toNat (0 : Int))
                                              (List.take (Int.toNat (0 : Int))
                                                [(List.getD l (Int.toNat i) (Ty.zero cmdT)).snd.fst,
                                                  (List.getD l (Int.toNat i) (Ty.zero cmdT)).snd.snd.fst]))) ++
                                      nums
                                        (List.drop (Int.toNat (0 : Int))
                                          (List.take (Int.toNat (0 : Int))
                                            [A.wrap IntKind.u64 (List.getD l (Int.toNat i) (Ty.zero cmdT)).snd.snd.snd.fst,
                                              (List.getD l (Int.toNat i) (Ty.zero cmdT)).snd.snd.snd.snd.fst,
                                              A.wrap IntKind.u64
                                                (List.getD l (Int.toNat i) (Ty.zero cmdT)).snd.snd.snd.snd.snd.fst]))))
                                  (some
                                    (A.se
                                      (A.se
                                          (nb &&
                                              List.isEmpty
                                                [A.wrap IntKind.u8 (List.getD l (Int.toNat i) (Ty.zero cmdT)).fst] &&
                                            List.isEmpty
                                              (List.drop (Int.toNat (0 : Int))
                                                (List.take (Int.toNat (0 : Int))
                                                  [(List.getD l (Int.toNat i) (Ty.zero cmdT)).snd.fst,
                                                    (List.getD l (Int.toNat i) (Ty.zero cmdT)).snd.snd.fst]))) &&
                                        List.isEmpty
                                          (List.drop (Int.toNat (0 : Int))
                                            (List.take (Int.toNat (0 : Int))
                                              [A.wrap IntKind.u64
                                                  (List.getD l (Int.toNat i) (Ty.zero cmdT)).snd.snd.snd.fst,
                                                (List.getD l (Int.toNat i) (Ty.zero cmdT)).snd.snd.snd.snd.fst,
                                                A.wrap IntKind.u64
                                                  (List.getD l (Int.toNat i) (Ty.zero cmdT)).snd.snd.snd.snd.snd.fst])))))
                                  true,
                                X.d Ty.bool ok]),
                          (Ty.struct
                              (Ty.prod (Ty.int IntKind.i64)
                                (Ty.prod (Ty.slice (Ty.int IntKind.u8))
                                  (Ty.prod (Ty.slice (Ty.int IntKind.u8))
                                    (Ty.prod (Ty.int IntKind.i64)
                                      (Ty.prod (Ty.int IntKind.u64) (Ty.prod (Ty.int IntKind.i64) Ty.unit)))))),
                            X.d
                              (Ty.struct
                                (Ty.prod (Ty.int IntKind.i64)
                                  (Ty.prod (Ty.slice (Ty.int IntKind.u8))
                                    (Ty.prod (Ty.slice (Ty.int IntKind.u8))
                                      (Ty.prod (Ty.int IntKind.i64)
                                        (Ty.prod (Ty.int IntKind.u64) (Ty.prod (Ty.int IntKind.i64) Ty.unit)))))))
                              (Option.rec ((fun _ => Ty.zero cmdT) ()) (fun val => (fun val => (fun x => x) val) val)
                                l[Int.toNat i]?)),
                          (Ty.struct (Ty.prod (Ty.int IntKind.i64) (Ty.prod (Ty.int IntKind.i64) Ty.unit)),
                            X.d shT ((0 : Int), (0 : Int), ()))]
                    else none
                  else none
        else none
      else none
    else
      k (Ex.exit (0 : Nat))
        [X.ptr (0 : Nat) [], X.fn (20 : Nat) [X.ptr (0 : Nat) []] [], X.fn (21 : Nat) [X.ptr (0 : Nat) []] [],
          X.sl cmdT l nl false, X.d (Ty.int IntKind.i64) n, X.d (Ty.int IntKind.i64) i]
        [(bytT, X.agg [X.sl (Ty.int IntKind.u8) b (some nb) true, X.d Ty.bool ok])]) := by kernel_rfl
theorem lWrite2 (A : Ar) (R : Type) (l : List Cm) (nl : Option Bool) (n i : Int) (ts : List (List Int)) (nts : Option Bool) (m j : Int) (b : List Int) (nb ok : Bool) (e1 e2 : Ty × X) (k : Ex → List X → Hp → Option R) : stepF (Cx A (Osc3 A) (Lw A)) 100 (loopAt Try.f10 1) 80 [4, 5, 6, 8, 9, 19, 20, 21, 46, 47, 48] [.ptr 0 [], .fn 20 [.ptr 0 []] [], .fn 21 [.ptr 0 []] [], .ptr 1 [], .ptr 2 [], cms l nl false, i64x n, i64x i, .sl (.slice (.int .u8)) ts nts false, i64x m, i64x j] [(bytT, .agg [u8s b (some nb) true, boolx ok]), e1, e2] k =
    (bif decide (j < m) then
      bif decide ((0 : Int) ≤ j ∧ j < (↑(List.length ts) : Int)) then
        bif
            A.se
              (decide
                  (List.length b ≤ (20000000 : Nat) ∧
                    List.length (List.getD ts (Int.toNat j) (Ty.zero (Ty.slice (Ty.int IntKind.u8)))) ≤ (20000000 : Nat)) &&
                nlB nb b) then
          k Ex.normal
            [X.ptr (0 : Nat) [], X.fn (20 : Nat) [X.ptr (0 : Nat) []] [], X.fn (21 : Nat) [X.ptr (0 : Nat) []] [],
              X.ptr (1 : Nat) [], X.ptr (2 : Nat) [], X.sl cmdT l nl false, X.d (Ty.int IntKind.i64) n,
              X.d (Ty.int IntKind.i64) i, X.sl (Ty.slice (Ty.int IntKind.u8)) ts nts false, X.d (Ty.int IntKind.i64) m,
              X.d (Ty.int IntKind.i64) (A.wrap IntKind.i64 (j + (1 : Int)))]
            [(bytT,
                X.agg
                  [X.sl (Ty.int IntKind.u8)
                      (A.se (b ++ txt (List.getD ts (Int.toNat j) (Ty.zero (Ty.slice (Ty.int IntKind.u8)))))) (some false)
                      true,
                    X.d Ty.bool ok]),
              e1, e2]
        else none
      else none
    else
      k (Ex.exit (2 : Nat))
        [X.ptr (0 : Nat) [], X.fn (20 : Nat) [X.ptr (0 : Nat) []] [], X.fn (21 : Nat) [X.ptr (0 : Nat) []] [],
          X.ptr (1 : Nat) [], X.ptr (2 : Nat) [], X.sl cmdT l nl false, X.d (Ty.int IntKind.i64) n,
          X.d (Ty.int IntKind.i64) i, X.sl (Ty.slice (Ty.int IntKind.u8)) ts nts false, X.d (Ty.int IntKind.i64) m,
          X.d (Ty.int IntKind.i64) j]
        [(bytT, X.agg [X.sl (Ty.int IntKind.u8) b (some nb) true, X.d Ty.bool ok]), e1, e2]) := by kernel_rfl
theorem lWrite3 (A : Ar) (R : Type) (l : List Cm) (nl : Option Bool) (n i : Int) (ts : List Int) (nts : Option Bool) (m j : Int) (b : List Int) (nb ok : Bool) (e1 e2 : Ty × X) (k : Ex → List X → Hp → Option R) : stepF (Cx A (Osc3 A) (Lw A)) 100 (loopAt Try.f10 2) 80 [4, 5, 6, 19, 20, 21, 67, 68, 69] [.ptr 0 [], .fn 20 [.ptr 0 []] [], .fn 21 [.ptr 0 []] [], cms l nl false, i64x n, i64x i, .sl (.int .u64) ts nts false, i64x m, i64x j] [(bytT, .agg [u8s b (some nb) true, boolx ok]), e1, e2] k =
    (bif decide (j < m) then
      bif decide ((0 : Int) ≤ j ∧ j < (↑(List.length ts) : Int)) then
        bif
            A.se
              (decide (List.length b ≤ (20000000 : Nat)) &&
                (isU64 (List.getD ts (Int.toNat j) (0 : Int)) && nlB nb b)) then
          k Ex.normal
            [X.ptr (0 : Nat) [], X.fn (20 : Nat) [X.ptr (0 : Nat) []] [], X.fn (21 : Nat) [X.ptr (0 : Nat) []] [],
              X.sl cmdT l nl false, X.d (Ty.int IntKind.i64) n, X.d (Ty.int IntKind.i64) i,
              X.sl (Ty.int IntKind.u64) ts nts false, X.d (Ty.int IntKind.i64) m,
              X.d (Ty.int IntKind.i64) (A.wrap IntKind.i64 (j + (1 : Int)))]
            [(bytT,
                X.agg
                  [X.sl (Ty.int IntKind.u8)
                      (A.se (b ++ vb (Int.toNat (List.getD ts (Int.toNat j) (0 : Int))))) (some false)
                      true,
                    X.d Ty.bool ok]),
              e1, e2]
        else none
      else none
    else
      k (Ex.exit (4 : Nat))
        [X.ptr (0 : Nat) [], X.fn (20 : Nat) [X.ptr (0 : Nat) []] [], X.fn (21 : Nat) [X.ptr (0 : Nat) []] [],
          X.sl cmdT l nl false, X.d (Ty.int IntKind.i64) n, X.d (Ty.int IntKind.i64) i,
          X.sl (Ty.int IntKind.u64) ts nts false, X.d (Ty.int IntKind.i64) m, X.d (Ty.int IntKind.i64) j]
        [(bytT, X.agg [X.sl (Ty.int IntKind.u8) b (some nb) true, X.d Ty.bool ok]), e1, e2]) := by kernel_rfl
theorem tNext (A : Ar) (b : List Int) (ok : Bool) (c : Cm) : bodyX (Cx A (Osc5 A) (Lnx A)) 100 Try.f25 [.ptr 0 []] [(rdT, .d rdT ((b, ok, ()), c, ()))] =
    (bif decide ((0 : Int) ≤ (0 : Int) ∧ (0 : Int) < (↑(List.length b) : Int)) then
      bif
          A.se
            (decide
              (A.wrap IntKind.i64 (List.getD b (Int.toNat (0 : Int)) (0 : Int)) =
                (1 : Int))) then
        bif decide ((0 : Int) ≤ (1 : Int) ∧ (1 : Int) ≤ (↑(List.length b) : Int)) then
          bif
              A.se
                (decide (List.length (List.drop (Int.toNat (1 : Int)) b) ≤ (10000000 : Nat)) &&
                  bytesB (List.drop (Int.toNat (1 : Int)) b)) then
            some
              (X.tup [],
                [(rdT,
                    X.d rdT
                      ((A.se
                            (ttS (ttS (List.drop (Int.toNat (1 : Int)) b) true).snd.fst
                                  (ttS (List.drop (Int.toNat (1 : Int)) b) true).snd.snd).snd.fst,
                          A.se
                            (ttS (ttS (List.drop (Int.toNat (1 : Int)) b) true).snd.fst
                                  (ttS (List.drop (Int.toNat (1 : Int)) b) true).snd.snd).snd.snd,
                          ()),
                        (A.wrap IntKind.i64 (List.getD b (Int.toNat (0 : Int)) (0 : Int)),
                          A.se (ttS (List.drop (Int.toNat (1 : Int)) b) true).fst,
                          A.se
                            (ttS (ttS (List.drop (Int.toNat (1 : Int)) b) true).snd.fst
                                (ttS (List.drop (Int.toNat (1 : Int)) b) true).snd.snd).fst,
                          (0 : Int), (0 : Int), (0 : Int), ()),
                        ())),
                  (Ty.struct (Ty.prod (Ty.int IntKind.i64) (Ty.prod (Ty.int IntKind.i64) Ty.unit)),
                    X.d shT ((2 : Int), (0 : Int), ()))])
          else none
        else none
      else
        bif
            A.se
              (decide
                (A.wrap IntKind.i64 (List.getD b (Int.toNat (0 : Int)) (0 : Int)) =
                  (5 : Int))) then
          bif decide ((0 : Int) ≤ (1 : Int) ∧ (1 : Int) ≤ (↑(List.length b) : Int)) then
            bif
                A.se
                  (decide (List.length (List.drop (Int.toNat (1 : Int)) b) ≤ (10000000 : Nat)) &&
                    bytesB (List.drop (Int.toNat (1 : Int)) b)) then
              bif
                  A.se
                    (decide
                        (List.length (A.se (ttS (List.drop (Int.toNat (1 : Int)) b) true).snd.fst) ≤ (10000000 : Nat)) &&
                      (bytesB (A.se (ttS (List.drop (Int.toNat (1 : Int)) b) true).snd.fst) &&
                        isU64 (9223372036854775807 : Int))) then
                bif
                    A.se
                      (decide
                          (List.length
                              (A.se
                                (tkS (Int.toNat (9223372036854775807 : Int))
                                      (A.se (ttS (List.drop (Int.toNat (1 : Int)) b) true).snd.fst)
                                      (A.se (ttS (List.drop (Int.toNat (1 : Int)) b) true).snd.snd)).snd.fst) ≤
                            (10000000 : Nat)) &&
                        (bytesB
                            (A.se
                              (tkS (Int.toNat (9223372036854775807 : Int))
                                    (A.se (ttS (List.drop (Int.toNat (1 : Int)) b) true).snd.fst)
                                    (A.se (ttS (List.drop (Int.toNat (1 : Int)) b) true).snd.snd)).snd.fst) &&
                          isU64 (18446744073709551615 : Int))) then
                  bif
                      A.se
                        (decide
                            (List.length
                                (A.se
                                  (tkS (Int.toNat (18446744073709551615 : Int))
                                        (A.se
                                          (tkS (Int.toNat (9223372036854775807 : Int))
                                                (A.se (ttS (List.drop (Int.toNat (1 : Int)) b) true).snd.fst)
                                                (A.se (ttS (List.drop (Int.toNat (1 : Int)) b) true).snd.snd)).snd.fst)
                                        (A.se
                                          (tkS (Int.toNat (9223372036854775807 : Int))
                                                (A.se (ttS (List.drop (Int.toNat (1 : Int)) b) true).snd.fst)
                                                (A.se
                                                  (ttS (List.drop (Int.toNat (1 : Int)) b)
                                                        true).snd.snd)).snd.snd)).snd.fst) ≤
                              (10000000 : Nat)) &&
                          (bytesB
                              (A.se
                                (tkS (Int.toNat (18446744073709551615 : Int))
                                      (A.se
                                        (tkS (Int.toNat (9223372036854775807 : Int))
                                              (A.se (ttS (List.drop (Int.toNat (1 : Int)) b) true).snd.fst)
                                              (A.se (ttS (List.drop (Int.toNat (1 : Int)) b) true).snd.snd)).snd.fst)
                                      (A.se
                                        (tkS (Int.toNat (9223372036854775807 : Int))
                                              (A.se (ttS (List.drop (Int.toNat (1 : Int)) b) true).snd.fst)
                                              (A.se
                                                (ttS (List.drop (Int.toNat (1 : Int)) b)
                                                      true).snd.snd)).snd.snd)).snd.fst) &&
                            isU64 (9223372036854775807 : Int))) then
                    some
                      (X.tup [],
                        [(rdT,
                            X.agg
                              [X.d bytT
                                  (A.se
                                      (tkS (Int.toNat (9223372036854775807 : Int))
                                            (A.se
                                              (tkS (Int.toNat (18446744073709551615 : Int))
                                                    (A.se
                                                      (tkS (Int.toNat (9223372036854775807 : Int))
                                                            (A.se (ttS (List.drop (Int.toNat (1 : Int)) b) true).snd.fst)
                                                            (A.se
                                                              (ttS (List.drop (Int.toNat (1 : Int)) b)
                                                                    true).snd.snd)).snd.fst)
                                                    (A.se
                                                      (tkS (Int.toNat (9223372036854775807 : Int))
                                                            (A.se (ttS (List.drop (Int.toNat (1 : Int)) b) true).snd.fst)
                                                            (A.se
                                                              (ttS (List.drop (Int.toNat (1 : Int)) b)
                                                                    true).snd.snd)).snd.snd)).snd.fst)
                                            (A.se
                                              (tkS (Int.toNat (18446744073709551615 : Int))
                                                    (A.se
                                                      (tkS (Int.toNat (9223372036854775807 : Int))
                                                            (A.se (ttS (List.drop (Int.toNat (1 : Int)) b) true).snd.fst)
                                                            (A.se
                                                              (ttS (List.drop (Int.toNat (1 : Int)) b)
                                                                    true).snd.snd)).snd.fst)
                                                    (A.se
                                                      (tkS (Int.toNat (9223372036854775807 : Int))
                                                            (A.se (ttS (List.drop (Int.toNat (1 : Int)) b) true).snd.fst)
                                                            (A.se
                                                              (ttS (List.drop (Int.toNat (1 : Int)) b)
                                                                    true).snd.snd)).snd.snd)).snd.snd)).snd.fst,
                                    A.se
                                      (tkS (Int.toNat (9223372036854775807 : Int))
                                            (A.se
                                              (tkS (Int.toNat (18446744073709551615 : Int))
                                                    (A.se
                                                      (tkS (Int.toNat (9223372036854775807 : Int))
                                                            (A.se (ttS (List.drop (Int.toNat (1 : Int)) b) true).snd.fst)
                                                            (A.se
                                                              (ttS (List.drop (Int.toNat (1 : Int)) b)
                                                                    true).snd.snd)).snd.fst)
                                                    (A.se
                                                      (tkS (Int.toNat (9223372036854775807 : Int))
                                                            (A.se (ttS (List.drop (Int.toNat (1 : Int)) b) true).snd.fst)
                                                            (A.se
                                                              (ttS (List.drop (Int.toNat (1 : Int)) b)
                                                                    true).snd.snd)).snd.snd)).snd.fst)
                                            (A.se
                                              (tkS (Int.toNat (18446744073709551615 : Int))
                                                    (A.se
                                                      (tkS (Int.toNat (9223372036854775807 : Int))
                                                            (A.se (ttS (List.drop (Int.toNat (1 : Int)) b) true).snd.fst)
                                                            (A.se
                                                              (ttS (List.drop (Int.toNat (1 : Int)) b)
                                                                    true).snd.snd)).snd.fst)
                                                    (A.se
                                                      (tkS (Int.toNat (9223372036854775807 : Int))
                                                            (A.se (ttS (List.drop (Int.toNat (1 : Int)) b) true).snd.fst)
                                                            (A.se
                                                              (ttS (List.drop (Int.toNat (1 : Int)) b)
                                                                    true).snd.snd)).snd.snd)).snd.snd)).snd.snd,
                                    ()),
                                X.agg
                                  [X.d (Ty.int IntKind.i64)
                                      (A.wrap IntKind.i64
                                        (List.getD b (Int.toNat (0 : Int)) (0 : Int))),
                                    X.sl (Ty.int IntKind.u8) (A.se (ttS (List.drop (Int.toNat (1 : Int)) b) true).fst) none
                                      false,
                                    X.sl (Ty.int IntKind.u8) [] none false,
                                    X.d (Ty.int IntKind.i64)
                                      (A.wrap IntKind.i64
                                        (A.se
                                          (↑(tkS (Int.toNat (9223372036854775807 : Int))
                                                  (A.se (ttS (List.drop (Int.toNat (1 : Int)) b) true).snd.fst)
                                                  (A.se (ttS (List.drop (Int.toNat (1 : Int)) b) true).snd.snd)).fst :
                                            Int))),
                                    X.d (Ty.int IntKind.u64)
                                      (A.se
                                        (↑(tkS (Int.toNat (18446744073709551615 : Int))
                                                (A.se
                                                  (tkS (Int.toNat (9223372036854775807 : Int))
                                                        (A.se (ttS (List.drop (Int.toNat (1 : Int)) b) true).snd.fst)
                                                        (A.se
                                                          (ttS (List.drop (Int.toNat (1 : Int)) b) true).snd.snd)).snd.fst)
                                                (A.se
                                                  (tkS (Int.toNat (9223372036854775807 : Int))
                                                        (A.se (ttS (List.drop (Int.toNat (1 : Int)) b) true).snd.fst)
                                                        (A.se
                                                          (ttS (List.drop (Int.toNat (1 : Int)) b)
                                                                true).snd.snd)).snd.snd)).fst :
                                          Int)),
                                    X.d (Ty.int IntKind.i64)
                                      (A.wrap IntKind.i64
                                        (A.se
                                          (↑(tkS (Int.toNat (9223372036854775807 : Int))
                                                  (A.se
                                                    (tkS (Int.toNat (18446744073709551615 : Int))
                                                          (A.se
                                                            (tkS (Int.toNat (9223372036854775807 : Int))
                                                                  (A.se
                                                                    (ttS (List.drop (Int.toNat (1 : Int)) b) true).snd.fst)
                                                                  (A.se
                                                                    (ttS (List.drop (Int.toNat (1 : Int)) b)
                                                                          true).snd.snd)).snd.fst)
                                                          (A.se
                                                            (tkS (Int.toNat (9223372036854775807 : Int))
                                                                  (A.se
                                                                    (ttS (List.drop (Int.toNat (1 : Int)) b) true).snd.fst)
                                                                  (A.se
                                                                    (ttS (List.drop (Int.toNat (1 : Int)) b)
                                                                          true).snd.snd)).snd.snd)).snd.fst)
                                                  (A.se
                                                    (tkS (Int.toNat (18446744073709551615 : Int))
                                                          (A.se
                                                            (tkS (Int.toNat (9223372036854775807 : Int))
                                                                  (A.se
                                                                    (ttS (List.drop (Int.toNat (1 : Int)) b) true).snd.fst)
                                                                  (A.se
                                                                    (ttS (List.drop (Int.toNat (1 : Int)) b)
                                                                          true).snd.snd)).snd.fst)
                                                          (A.se
                                                            (tkS (Int.toNat (9223372036854775807 : Int))
                                                                  (A.se
                                                                    (ttS (List.drop (Int.toNat (1 : Int)) b) true).snd.fst)
                                                                  (A.se
                                                                    (ttS (List.drop (Int.toNat (1 : Int)) b)
                                                                          true).snd.snd)).snd.snd)).snd.snd)).fst :
                                            Int)))]]),
                          (Ty.struct (Ty.prod (Ty.int IntKind.i64) (Ty.prod (Ty.int IntKind.i64) Ty.unit)),
                            X.d shT ((1 : Int), (3 : Int), ()))])
                  else none
                else none
              else none
            else none
          else none
        else
          bif
              A.se
                (decide
                  (A.wrap IntKind.i64 (List.getD b (Int.toNat (0 : Int)) (0 : Int)) =
                      (2 : Int) ∨
                    A.wrap IntKind.i64 (List.getD b (Int.toNat (0 : Int)) (0 : Int)) =
                      (4 : Int))) then
            bif decide ((0 : Int) ≤ (1 : Int) ∧ (1 : Int) ≤ (↑(List.length b) : Int)) then
              bif
                  A.se
                    (decide (List.length (List.drop (Int.toNat (1 : Int)) b) ≤ (10000000 : Nat)) &&
                      bytesB (List.drop (Int.toNat (1 : Int)) b)) then
                some
                  (X.tup [],
                    [(rdT,
                        X.d rdT
                          ((A.se (ttS (List.drop (Int.toNat (1 : Int)) b) true).snd.fst,
                              A.se (ttS (List.drop (Int.toNat (1 : Int)) b) true).snd.snd, ()),
                            (A.wrap IntKind.i64 (List.getD b (Int.toNat (0 : Int)) (0 : Int)),
                              A.se (ttS (List.drop (Int.toNat (1 : Int)) b) true).fst, [], (0 : Int), (0 : Int), (0 : Int),
                              ()),
                            ())),
                      (Ty.struct (Ty.prod (Ty.int IntKind.i64) (Ty.prod (Ty.int IntKind.i64) Ty.unit)),
                        X.d shT ((1 : Int), (0 : Int), ()))])
              else none
            else none
          else
            bif
                A.se
                  (decide
                    (A.wrap IntKind.i64 (List.getD b (Int.toNat (0 : Int)) (0 : Int)) =
                      (3 : Int))) then
              bif decide ((0 : Int) ≤ (1 : Int) ∧ (1 : Int) ≤ (↑(List.length b) : Int)) then
                some
                  (X.tup [],
                    [(rdT,
                        X.d rdT
                          ((List.drop (Int.toNat (1 : Int)) b, true, ()),
                            (A.wrap IntKind.i64 (List.getD b (Int.toNat (0 : Int)) (0 : Int)), [], [],
                              (0 : Int), (0 : Int), (0 : Int), ()),
                            ())),
                      (Ty.struct (Ty.prod (Ty.int IntKind.i64) (Ty.prod (Ty.int IntKind.i64) Ty.unit)),
                        X.d shT ((0 : Int), (0 : Int), ()))])
              else none
            else
              bif decide ((0 : Int) ≤ (1 : Int) ∧ (1 : Int) ≤ (↑(List.length b) : Int)) then
                some
                  (X.tup [],
                    [(rdT,
                        X.d rdT
                          ((List.drop (Int.toNat (1 : Int)) b, false, ()),
                            (A.wrap IntKind.i64 (List.getD b (Int.toNat (0 : Int)) (0 : Int)), [], [],
                              (0 : Int), (0 : Int), (0 : Int), ()),
                            ())),
                      (Ty.struct (Ty.prod (Ty.int IntKind.i64) (Ty.prod (Ty.int IntKind.i64) Ty.unit)),
                        X.d shT ((0 : Int), (0 : Int), ()))])
              else none
    else none) := by kernel_rfl
theorem lNext0 (A : Ar) (R : Type) (b : List Int) (nl : Option Bool) (o ok : Bool) (c : Cm) (e : Ty × X) (k : Ex → List X → Hp → Option R) : stepF (Cx A (Osc5 A) (Lnx A)) 100 (loopAt Try.f25 0) 85 [0, 3, 51, 52, 53] [.ptr 0 [], .ptr 1 [], .lst [], i64x 0, i64x 0] [(rdT, .agg [.agg [.sl (.int .u8) b nl o, boolx ok], cmx c]), e] k =
    (k (Ex.exit (0 : Nat))
      [X.ptr (0 : Nat) [], X.ptr (1 : Nat) [], X.lst [], X.d (Ty.int IntKind.i64) (0 : Int),
        X.d (Ty.int IntKind.i64) (0 : Int)]
      [(rdT, X.agg [X.agg [X.sl (Ty.int IntKind.u8) b nl o, X.d Ty.bool ok], X.d cmdT c]), e]) := by kernel_rfl
theorem lNext1 (A : Ar) (R : Type) (b : List Int) (nl : Option Bool) (o ok : Bool) (c : Cm) (e : Ty × X) (k : Ex → List X → Hp → Option R) : stepF (Cx A (Osc5 A) (Lnx A)) 100 (loopAt Try.f25 0) 85 [0, 3, 51, 52, 53] [.ptr 0 [], .ptr 1 [], .lst [.ptr 0 [1, 1]], i64x 1, i64x 0] [(rdT, .agg [.agg [.sl (.int .u8) b nl o, boolx ok], cmx c]), e] k =
    (bif A.se (decide (List.length b ≤ (10000000 : Nat)) && bytesB b) then
      k Ex.normal
        [X.ptr (0 : Nat) [], X.ptr (1 : Nat) [], X.lst [X.ptr (0 : Nat) [(1 : Nat), (1 : Nat)]],
          X.d (Ty.int IntKind.i64) (1 : Int), X.d (Ty.int IntKind.i64) (A.wrap IntKind.i64 ((0 : Int) + (1 : Int)))]
        [(rdT,
            X.agg
              [X.d bytT (A.se (ttS b ok).snd.fst, A.se (ttS b ok).snd.snd, ()),
                X.agg
                  [X.d (Ty.int IntKind.i64) c.fst, X.sl (Ty.int IntKind.u8) (A.se (ttS b ok).fst) none false,
                    X.sl (Ty.int IntKind.u8) c.snd.snd.fst none false, X.d (Ty.int IntKind.i64) c.snd.snd.snd.fst,
                    X.d (Ty.int IntKind.u64) c.snd.snd.snd.snd.fst, X.d (Ty.int IntKind.i64) c.snd.snd.snd.snd.snd.fst]]),
          e]
    else none) := by kernel_rfl
theorem lNext1b (A : Ar) (R : Type) (b : List Int) (ok : Bool) (c : Cm) (e : Ty × X) (k : Ex → List X → Hp → Option R) : stepF (Cx A (Osc5 A) (Lnx A)) 100 (loopAt Try.f25 0) 85 [0, 3, 51, 52, 53] [.ptr 0 [], .ptr 1 [], .lst [.ptr 0 [1, 1]], i64x 1, i64x 1] [(rdT, .d rdT ((b, ok, ()), c, ())), e] k =
    (k (Ex.exit (0 : Nat))
      [X.ptr (0 : Nat) [], X.ptr (1 : Nat) [], X.lst [X.ptr (0 : Nat) [(1 : Nat), (1 : Nat)]],
        X.d (Ty.int IntKind.i64) (1 : Int), X.d (Ty.int IntKind.i64) (1 : Int)]
      [(rdT, X.d rdT ((b, ok, ()), c, ())), e]) := by kernel_rfl
theorem lNext2 (A : Ar) (R : Type) (b : List Int) (nl : Option Bool) (o ok : Bool) (c : Cm) (e : Ty × X) (k : Ex → List X → Hp → Option R) : stepF (Cx A (Osc5 A) (Lnx A)) 100 (loopAt Try.f25 0) 85 [0, 3, 51, 52, 53] [.ptr 0 [], .ptr 1 [], .lst [.ptr 0 [1, 1], .ptr 0 [1, 2]], i64x 2, i64x 0] [(rdT, .agg [.agg [.sl (.int .u8) b nl o, boolx ok], cmx c]), e] k =
    (bif A.se (decide (List.length b ≤ (10000000 : Nat)) && bytesB b) then
      k Ex.normal
        [X.ptr (0 : Nat) [], X.ptr (1 : Nat) [],
          X.lst [X.ptr (0 : Nat) [(1 : Nat), (1 : Nat)], X.ptr (0 : Nat) [(1 : Nat), (2 : Nat)]],
          X.d (Ty.int IntKind.i64) (2 : Int), X.d (Ty.int IntKind.i64) (A.wrap IntKind.i64 ((0 : Int) + (1 : Int)))]
        [(rdT,
            X.agg
              [X.d bytT (A.se (ttS b ok).snd.fst, A.se (ttS b ok).snd.snd, ()),
                X.agg
                  [X.d (Ty.int IntKind.i64) c.fst, X.sl (Ty.int IntKind.u8) (A.se (ttS b ok).fst) none false,
                    X.sl (Ty.int IntKind.u8) c.snd.snd.fst none false, X.d (Ty.int IntKind.i64) c.snd.snd.snd.fst,
                    X.d (Ty.int IntKind.u64) c.snd.snd.snd.snd.fst, X.d (Ty.int IntKind.i64) c.snd.snd.snd.snd.snd.fst]]),
          e]
    else none) := by kernel_rfl
theorem lNext2b (A : Ar) (R : Type) (b : List Int) (ok : Bool) (c : Cm) (e : Ty × X) (k : Ex → List X → Hp → Option R) : stepF (Cx A (Osc5 A) (Lnx A)) 100 (loopAt Try.f25 0) 85 [0, 3, 51, 52, 53] [.ptr 0 [], .ptr 1 [], .lst [.ptr 0 [1, 1], .ptr 0 [1, 2]], i64x 2, i64x 1] [(rdT, .d rdT ((b, ok, ()), c, ())), e] k =
    (bif A.se (decide (List.length b ≤ (10000000 : Nat)) && bytesB b) then
      k Ex.normal
        [X.ptr (0 : Nat) [], X.ptr (1 : Nat) [],
          X.lst [X.ptr (0 : Nat) [(1 : Nat), (1 : Nat)], X.ptr (0 : Nat) [(1 : Nat), (2 : Nat)]],
          X.d (Ty.int IntKind.i64) (2 : Int), X.d (Ty.int IntKind.i64) (A.wrap IntKind.i64 ((1 : Int) + (1 : Int)))]
        [(rdT,
            X.agg
              [X.d bytT (A.se (ttS b ok).snd.fst, A.se (ttS b ok).snd.snd, ()),
                X.agg
                  [X.d (Ty.int IntKind.i64) c.fst, X.sl (Ty.int IntKind.u8) c.snd.fst none false,
                    X.sl (Ty.int IntKind.u8) (A.se (ttS b ok).fst) none false, X.d (Ty.int IntKind.i64) c.snd.snd.snd.fst,
                    X.d (Ty.int IntKind.u64) c.snd.snd.snd.snd.fst, X.d (Ty.int IntKind.i64) c.snd.snd.snd.snd.snd.fst]]),
          e]
    else none) := by kernel_rfl
theorem lNext2c (A : Ar) (R : Type) (b : List Int) (ok : Bool) (c : Cm) (e : Ty × X) (k : Ex → List X → Hp → Option R) : stepF (Cx A (Osc5 A) (Lnx A)) 100 (loopAt Try.f25 0) 85 [0, 3, 51, 52, 53] [.ptr 0 [], .ptr 1 [], .lst [.ptr 0 [1, 1], .ptr 0 [1, 2]], i64x 2, i64x 2] [(rdT, .d rdT ((b, ok, ()), c, ())), e] k =
    (k (Ex.exit (0 : Nat))
      [X.ptr (0 : Nat) [], X.ptr (1 : Nat) [],
        X.lst [X.ptr (0 : Nat) [(1 : Nat), (1 : Nat)], X.ptr (0 : Nat) [(1 : Nat), (2 : Nat)]],
        X.d (Ty.int IntKind.i64) (2 : Int), X.d (Ty.int IntKind.i64) (2 : Int)]
      [(rdT, X.d rdT ((b, ok, ()), c, ())), e]) := by kernel_rfl
theorem tRead (A : Ar) (b : List Int) (nl : Bool) : bodyX (Cx A (Osc6 A) (Lrd A)) 100 Try.f12 [u8s b (some nl) false] [] =
    (bif A.se (decide (List.length b + (0 : Nat) ≤ (10000000 : Nat)) && bytesB b) then
      bif A.se (Option.isSome (readC b)) then
        some
          (X.tup
              [X.sl cmdT (A.se ([] ++ readR b)) (some (A.se (true && List.isEmpty (readR b)))) false,
                X.d (Ty.int IntKind.i64) (0 : Int)],
            [(rdT,
                X.d rdT
                  (A.9
                    (endS (List.length (b) + (1 : Nat))
                      ((b, false, ()), ((0 : Int), [], [], (0 : Int), (0 : Int), (0 : Int), ()), ()))))])
      else
        some
          (X.tup [X.sl cmdT [] (some true) false, X.d (Ty.int IntKind.i64) (230 : Int)],
            [(rdT,
                X.d rdT
                  (A.9
                    (endS (List.length (b) + (1 : Nat))
                      ((b, false, ()), ((0 : Int), [], [], (0 : Int), (0 : Int), (0 : Int), ()), ()))))])
    else none) := by kernel_rfl
theorem lRead (A : Ar) (R : Type) (l : List Cm) (nl : Bool) (b : List Int) (ok : Bool) (c : Cm) (k : Ex → List X → Hp → Option R) : stepF (Cx A (Osc6 A) (Lrd A)) 100 (loopAt Try.f12 0) 24 [2, 3, 4] [cms l (some nl) true, i64x 0, .ptr 0 []] [(rdT, .d rdT ((b, ok, ()), c, ()))] k =
    (bif decide ((↑(List.length b) : Int) > (0 : Int)) then
      bif A.se (decide (List.length b ≤ (10000000 : Nat) ∧ b ≠ []) && bytesB b) then
        bif !(A.se (nxS b)).fst.snd.fst then
          k Ex.ret
            [X.sl
                (Ty.struct
                  (Ty.prod (Ty.int IntKind.i64)
                    (Ty.prod (Ty.slice (Ty.int IntKind.u8))
                      (Ty.prod (Ty.slice (Ty.int IntKind.u8))
                        (Ty.prod (Ty.int IntKind.i64)
                          (Ty.prod (Ty.int IntKind.u64) (Ty.prod (Ty.int IntKind.i64) Ty.unit)))))))
                [] (some true) true,
              X.d (Ty.int IntKind.i64) (230 : Int), X.ptr (0 : Nat) []]
            [(rdT, X.d rdT (A.9 (nxS b)))]
        else
          bif decide ((List.length l + List.length [(A.se (nxS b)).snd.fst]) * (80 : Nat) ≤ (140737488355328 : Nat)) then
            k Ex.normal
              [X.sl cmdT (l ++ [(A.se (nxS b)).snd.fst]) (some (nl && List.isEmpty [(A.se (nxS b)).snd.fst])) true,
                X.d (Ty.int IntKind.i64) (0 : Int), X.ptr (0 : Nat) []]
              [(rdT, X.d rdT (A.9 (nxS b)))]
          else none
      else none
    else
      k (Ex.exit (0 : Nat)) [X.sl cmdT l (some nl) true, X.d (Ty.int IntKind.i64) (0 : Int), X.ptr (0 : Nat) []]
        [(rdT, X.d rdT ((b, ok, ()), c, ()))]) := by kernel_rfl
theorem tRread (A : Ar) (b : List Int) (nl : Bool) : bodyX (Cx A (Osc6 A) (Lrrd A)) 100 Try.f13 [u8s b (some nl) false] [] =
    (bif A.se (decide (List.length b + (0 : Nat) ≤ (10000000 : Nat)) && (bytesB b && nlO (some nl) b)) then
      bif A.se (Option.isSome (readC b)) then
        some
          (X.tup
              [X.sl cmdT (A.se ([] ++ readR b)) (some (A.se (true && List.isEmpty (readR b)))) false,
                X.d (Ty.int IntKind.i64) (0 : Int)],
            [])
      else some (X.tup [X.sl cmdT [] (some true) false, X.d (Ty.int IntKind.i64) (230 : Int)], [])
    else none) := by kernel_rfl
theorem lRread (A : Ar) (R : Type) (b : List Int) (nl : Option Bool) (l : List Cm) (no : Bool) (k : Ex → List X → Hp → Option R) : stepF (Cx A (Osc6 A) (Lrrd A)) 100 (loopAt Try.f13 0) 25 [0, 2, 3, 4] [.sl (.int .u8) b nl false, cms [] (some true) true, i64x 0, cms l (some no) true] [] k =
    (bif decide ((↑(List.length b) : Int) > (0 : Int)) then
      bif A.se (decide (List.length b ≤ (10000000 : Nat) ∧ b ≠ []) && (bytesB b && nlO nl b)) then
        bif A.se (Option.isSome (oneC b)) then
          bif
              decide
                ((List.length l +
                      List.length
                        [A.se (Option.getD (oneC b) (((0 : Int), [], [], (0 : Int), (0 : Int), (0 : Int), ()), [])).fst]) *
                    (80 : Nat) ≤
                  (140737488355328 : Nat)) then
            k Ex.normal
              [X.sl (Ty.int IntKind.u8)
                  (A.se (Option.getD (oneC b) (((0 : Int), [], [], (0 : Int), (0 : Int), (0 : Int), ()), [])).snd) none
                  false,
                X.sl cmdT [] (some true) true, X.d (Ty.int IntKind.i64) (0 : Int),
                X.sl cmdT
                  (l ++ [A.se (Option.getD (oneC b) (((0 : Int), [], [], (0 : Int), (0 : Int), (0 : Int), ()), [])).fst])
                  (some
                    (no &&
                      List.isEmpty
                        [A.se (Option.getD (oneC b) (((0 : Int), [], [], (0 : Int), (0 : Int), (0 : Int), ()), [])).fst]))
                  true]
              [(Ty.struct
                    (Ty.prod (Ty.int IntKind.i64)
                      (Ty.prod (Ty.slice (Ty.int IntKind.u8))
                        (Ty.prod (Ty.slice (Ty.int IntKind.u8))
                          (Ty.prod (Ty.int IntKind.i64)
                            (Ty.prod (Ty.int IntKind.u64) (Ty.prod (Ty.int IntKind.i64) Ty.unit)))))),
                  X.d cmdT (A.9 (Option.getD (oneC b) (((0 : Int), [], [], (0 : Int), (0 : Int), (0 : Int), ()), [])).fst))]
          else none
        else
          k Ex.ret
            [X.sl (Ty.int IntKind.u8) b nl false,
              X.sl
                (Ty.struct
                  (Ty.prod (Ty.int IntKind.i64)
                    (Ty.prod (Ty.slice (Ty.int IntKind.u8))
                      (Ty.prod (Ty.slice (Ty.int IntKind.u8))
                        (Ty.prod (Ty.int IntKind.i64)
                          (Ty.prod (Ty.int IntKind.u64) (Ty.prod (Ty.int IntKind.i64) Ty.unit)))))))
                [] (some true) true,
              X.d (Ty.int IntKind.i64) (230 : Int), X.sl cmdT l (some no) true]
            [(Ty.struct
                  (Ty.prod (Ty.int IntKind.i64)
                    (Ty.prod (Ty.slice (Ty.int IntKind.u8))
                      (Ty.prod (Ty.slice (Ty.int IntKind.u8))
                        (Ty.prod (Ty.int IntKind.i64)
                          (Ty.prod (Ty.int IntKind.u64) (Ty.prod (Ty.int IntKind.i64) Ty.unit)))))),
                X.d cmdT (A.9 (failC b)))]
      else none
    else
      k (Ex.exit (0 : Nat))
        [X.sl (Ty.int IntKind.u8) b nl false, X.sl cmdT [] (some true) true, X.d (Ty.int IntKind.i64) (0 : Int),
          X.sl cmdT l (some no) true]
        []) := by kernel_rfl
theorem tAwake (A : Ar) : bodyX (Cx A (Osc7 A) noL) 100 Try.f8 [] [] =
    (bif
        A.se
          (wl
            [((4 : Int), [(97 : Int), (98 : Int)], [], (0 : Int), (0 : Int), (0 : Int), ()),
              ((3 : Int), [], [], (0 : Int), (0 : Int), (0 : Int), ()),
              ((5 : Int), [], [], (1 : Int), (128 : Int), (2 : Int), ())]) then
      bif
          A.se
            (decide
                (List.length
                    (A.se
                      (writeB
                        [((4 : Int), [(97 : Int), (98 : Int)], [], (0 : Int), (0 : Int), (0 : Int), ()),
                          ((3 : Int), [], [], (0 : Int), (0 : Int), (0 : Int), ()),
                          ((5 : Int), [], [], (1 : Int), (128 : Int), (2 : Int), ())])) ≤
                  (10000000 : Nat)) &&
              (bytesB
                  (A.se
                    (writeB
                      [((4 : Int), [(97 : Int), (98 : Int)], [], (0 : Int), (0 : Int), (0 : Int), ()),
                        ((3 : Int), [], [], (0 : Int), (0 : Int), (0 : Int), ()),
                        ((5 : Int), [], [], (1 : Int), (128 : Int), (2 : Int), ())])) &&
                nlB
                  (A.se
                    (List.isEmpty
                      (writeB
                        [((4 : Int), [(97 : Int), (98 : Int)], ([] : List Int), (0 : Int), (0 : Int), (0 : Int), ()),
                          ((3 : Int), [], ([] : List Int), (0 : Int), (0 : Int), (0 : Int), ()),
                          ((5 : Int), [], ([] : List Int), (1 : Int), (128 : Int), (2 : Int), ())])))
                  (A.se
                    (writeB
                      [((4 : Int), [(97 : Int), (98 : Int)], ([] : List Int), (0 : Int), (0 : Int), (0 : Int), ()),
                        ((3 : Int), [], ([] : List Int), (0 : Int), (0 : Int), (0 : Int), ()),
                        ((5 : Int), [], ([] : List Int), (1 : Int), (128 : Int), (2 : Int), ())])))) then
        bif A.se (wl [((3 : Int), [], ([] : List Int), (1 : Int), (0 : Int), (0 : Int), ())]) then
          bif
              A.se
                (decide (List.length [(2 : Int), (1 : Int)] ≤ (10000000 : Nat)) &&
                  (bytesB [(2 : Int), (1 : Int)] && nlB false [(2 : Int), (1 : Int)])) then
            bif
                A.seq
                    (strOf
                      (A.se
                        (writeB
                          [((4 : Int), [(97 : Int), (98 : Int)], ([] : List Int), (0 : Int), (0 : Int), (0 : Int), ()),
                            ((3 : Int), [], ([] : List Int), (0 : Int), (0 : Int), (0 : Int), ()),
                            ((5 : Int), [], ([] : List Int), (1 : Int), (128 : Int), (2 : Int), ())])))
                    {
                      data :=
                        #[(4 : UInt8), (2 : UInt8), (97 : UInt8), (98 : UInt8), (3 : UInt8), (5 : UInt8), (0 : UInt8),
                          (1 : UInt8), (128 : UInt8), (1 : UInt8), (2 : UInt8)] } ==
                  true then
              bif
                  (A.se
                        (writeE
                          [((4 : Int), [(97 : Int), (98 : Int)], ([] : List Int), (0 : Int), (0 : Int), (0 : Int), ()),
                            ((3 : Int), [], ([] : List Int), (0 : Int), (0 : Int), (0 : Int), ()),
                            ((5 : Int), [], ([] : List Int), (1 : Int), (128 : Int), (2 : Int), ())]) ==
                      (0 : Int)) ==
                    true then
                bif
                    (A.se
                          (readE
                            (A.se
                              (writeB
                                [((4 : Int), [(97 : Int), (98 : Int)], ([] : List Int), (0 : Int), (0 : Int), (0 : Int), ()),
                                  ((3 : Int), [], ([] : List Int), (0 : Int), (0 : Int), (0 : Int), ()),
                                  ((5 : Int), [], ([] : List Int), (1 : Int), (128 : Int), (2 : Int), ())]))) ==
                        (0 : Int)) ==
                      true then
                  bif
                      A.se
                        (decide
                            (List.length
                                [((4 : Int), [(97 : Int), (98 : Int)], ([] : List Int), (0 : Int), (0 : Int), (0 : Int), ()),
                                  ((3 : Int), [], ([] : List Int), (0 : Int), (0 : Int), (0 : Int), ()),
                                  ((5 : Int), [], ([] : List Int), (1 : Int), (128 : Int), (2 : Int), ())] ≤
                              (1000000000 : Nat)) &&
                          (List.all
                              [((4 : Int), [(97 : Int), (98 : Int)], ([] : List Int), (0 : Int), (0 : Int), (0 : Int), ()),
                                ((3 : Int), [], ([] : List Int), (0 : Int), (0 : Int), (0 : Int), ()),
                                ((5 : Int), [], ([] : List Int), (1 : Int), (128 : Int), (2 : Int), ())]
                              wfB &&
                            List.all
                              (A.se
                                (readR
                                  (A.se
                                    (writeB
                                      [((4 : Int), [(97 : Int), (98 : Int)], ([] : List Int), (0 : Int), (0 : Int), (0 : Int), ()),
                                        ((3 : Int), [], ([] : List Int), (0 : Int), (0 : Int), (0 : Int), ()),
                                        ((5 : Int), [], ([] : List Int), (1 : Int), (128 : Int), (2 : Int), ())]))))
                              wfB)) then
                    bif
                        A.se
                            (eqCs
                              [((4 : Int), [(97 : Int), (98 : Int)], ([] : List Int), (0 : Int), (0 : Int), (0 : Int), ()),
                                ((3 : Int), [], ([] : List Int), (0 : Int), (0 : Int), (0 : Int), ()),
                                ((5 : Int), [], ([] : List Int), (1 : Int), (128 : Int), (2 : Int), ())]
                              (A.se
                                (readR
                                  (A.se
                                    (writeB
                                      [((4 : Int), [(97 : Int), (98 : Int)], ([] : List Int), (0 : Int), (0 : Int), (0 : Int), ()),
                                        ((3 : Int), [], ([] : List Int), (0 : Int), (0 : Int), (0 : Int), ()),
                                        ((5 : Int), [], ([] : List Int), (1 : Int), (128 : Int), (2 : Int), ())]))))) ==
                          true then
                      bif
                          (A.se (writeE [((3 : Int), [], ([] : List Int), (1 : Int), (0 : Int), (0 : Int), ())]) == (230 : Int)) ==
                            true then
                        bif (A.se (readE [(2 : Int), (1 : Int)]) == (230 : Int)) == true then
                          bif A.se (checkC ((1 : Int), [], ([] : List Int), (0 : Int), (0 : Int), (0 : Int), ())) == true then
                            bif !A.se (checkC ((0 : Int), [], ([] : List Int), (0 : Int), (0 : Int), (0 : Int), ())) then
                              some (X.d Ty.bool true, [])
                            else some (X.d Ty.bool false, [])
                          else some (X.d Ty.bool false, [])
                        else some (X.d Ty.bool false, [])
                      else some (X.d Ty.bool false, [])
                    else some (X.d Ty.bool false, [])
                  else none
                else some (X.d Ty.bool false, [])
              else some (X.d Ty.bool false, [])
            else some (X.d Ty.bool false, [])
          else none
        else none
      else none
    else none) := by kernel_rfl
end Go.Proofs.Ytgickaihlebgmaa.V

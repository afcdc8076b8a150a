/-
  Chapter 03, order: the trees of the functions that sort and find. By program; each equation is checked by the kernel.
  It speaks of the pinned program alone; no condition.
-/
import Derived.Test.YtanbekjefbebaaaOr10
namespace Go.Proofs.Ytanbekjefbebaaa.V
open Go
set_option linter.unusedVariables false

theorem tRso (A : Ar) (l : List (List Int)) (nl : Option Bool) : bodyX (Cx A (Or5 A) (Lrso A)) 100 Try.f13 [.sl wT l nl false] [] =
    (bif
        A.se
          (decide
              (List.length l ≤ (1000 : Nat) ∧
                (↑(0 : Nat) : Int) ≤ (0 : Int) ∧
                  (0 : Int) ≤ (0 : Int) ∧
                    (0 : Int) ≤ (↑(List.length l) : Int) ∧ true = true) &&
            (shortB l && shortB [])) then
      some
        (X.sl (Ty.slice (Ty.int IntKind.i64)) (A.se (List.foldl insL [] (List.drop (Int.toNat (0 : Int)) l)))
            (some (A.se (List.isEmpty (List.foldl insL [] (List.drop (Int.toNat (0 : Int)) l))))) false,
          [])
    else none) := by kernel_rfl
theorem lRso (A : Ar) (R : Type) (l : List (List Int)) (nl : Option Bool) (out : List (List Int)) (no : Bool) (i : Int) (k : Ex → List X → Hp → Option R) : stepF (Cx A (Or5 A) (Lrso A)) 100 (loopAt Try.f13 0) 44 [0, 3, 4] [.sl wT l nl false, .sl wT out (some no) true, i64x i] [] k =
    (bif decide (i < (↑(List.length l) : Int)) then
      bif decide ((0 : Int) ≤ i ∧ i < (↑(List.length l) : Int)) then
        bif
            A.se
              (decide
                  (List.length out ≤ (1000000 : Nat) ∧
                    List.length (List.getD l (Int.toNat i) (Ty.zero wT)) ≤ (1000000 : Nat)) &&
                shortB out) then
          bif !A.se (decide (List.getD l (Int.toNat i) (Ty.zero wT) ∈ out)) then
            bif
                decide
                  ((0 : Int) ≤ A.se (↑(cntL out (List.getD l (Int.toNat i) (Ty.zero wT))) : Int) ∧
                    A.se (↑(cntL out (List.getD l (Int.toNat i) (Ty.zero wT))) : Int) ≤ (↑(List.length out) : Int)) then
              bif
                  decide
                    (((0 : Nat) +
                          List.length
                            (List.drop (Int.toNat (A.se (↑(cntL out (List.getD l (Int.toNat i) (Ty.zero wT))) : Int)))
                              out)) *
                        (24 : Nat) ≤
                      (140737488355328 : Nat)) then
                bif
                    decide
                      ((0 : Int) ≤
                          A.se (↑(cntL out (List.getD l (Int.toNat i) (Ty.zero wT))) : Int) ∧
                        A.se (↑(cntL out (List.getD l (Int.toNat i) (Ty.zero wT))) : Int) ≤ (↑(List.length out) : Int)) then
                  bif
                      decide
                        (((0 : Nat) +
                              List.length
                                (List.take (Int.toNat (A.se (↑(cntL out (List.getD l (Int.toNat i) (Ty.zero wT))) : Int)))
                                  out)) *
                            (24 : Nat) ≤
                          (140737488355328 : Nat)) then
                    bif decide ((0 : Int) ≤ i ∧ i < (↑(List.length l) : Int)) then
                      bif
                          decide
                            ((List.length
                                    ([] ++
                                      List.take
                                        (Int.toNat (A.se (↑(cntL out (List.getD l (Int.toNat i) (Ty.zero wT))) : Int)))
                                        out) +
                                  List.length [List.getD l (Int.toNat i) (Ty.zero wT)]) *
                                (24 : Nat) ≤
                              (140737488355328 : Nat)) then
                        bif
                            decide
                              ((List.length
                                      ([] ++
                                          List.take
                                            (Int.toNat (A.se (↑(cntL out (List.getD l (Int.toNat i) (Ty.zero wT))) : Int)))
                                            out ++
                                        [List.getD l (Int.toNat i) (Ty.zero wT)]) +
                                    List.length
                                      ([] ++
                                        List.drop
                                          (Int.toNat (A.se (↑(cntL out (List.getD l (Int.toNat i) (Ty.zero wT))) : Int)))
                                          out)) *
                                  (24 : Nat) ≤
                                (140737488355328 : Nat)) then
                          k Ex.normal
                            [X.sl wT l nl false,
                              X.sl (Ty.slice (Ty.int IntKind.i64))
                                ([] ++
                                      List.take
                                        (Int.toNat (A.se (↑(cntL out (List.getD l (Int.toNat i) (Ty.zero wT))) : Int)))
                                        out ++
                                    [List.getD l (Int.toNat i) (Ty.zero wT)] ++
                                  ([] ++
                                    List.drop
                                      (Int.toNat (A.se (↑(cntL out (List.getD l (Int.toNat i) (Ty.zero wT))) : Int))) out))
                                (some
                                  (false &&
                                        List.isEmpty
                                          (List.take
                                            (Int.toNat (A.se (↑(cntL out (List.getD l (Int.toNat i) (Ty.zero wT))) : Int)))
                                            out) &&
                                      List.isEmpty [List.getD l (Int.toNat i) (Ty.zero wT)] &&
                                    List.isEmpty
                                      ([] ++
                                        List.drop
                                          (Int.toNat (A.se (↑(cntL out (List.getD l (Int.toNat i) (Ty.zero wT))) : Int)))
                                          out)))
                                true,
                              X.d (Ty.int IntKind.i64) (A.wrap IntKind.i64 (i + (1 : Int)))]
                            []
                        else none
                      else none
                    else none
                  else none
                else none
              else none
            else none
          else
            k Ex.normal
              [X.sl wT l nl false, X.sl wT out (some no) true,
                X.d (Ty.int IntKind.i64) (A.wrap IntKind.i64 (i + (1 : Int)))]
              []
        else none
      else none
    else k (Ex.exit (0 : Nat)) [X.sl wT l nl false, X.sl wT out (some no) true, X.d (Ty.int IntKind.i64) i] []) := by kernel_rfl
theorem tWclo (A : Ar) (O : OT) (w : List Int) (nl : Bool) : bodyX (Cx A O noL) 100 Try.f21 [i64s w (some nl) false] [] =
    (bif nl then some (X.sl (Ty.int IntKind.i64) [] (some true) true, [])
    else
      bif decide (((0 : Nat) + List.length w) * (8 : Nat) ≤ (140737488355328 : Nat)) then
        some (X.sl (Ty.int IntKind.i64) ([] ++ w) (some (false && List.isEmpty w)) true, [])
      else none) := by kernel_rfl
theorem tCl26 (A : Ar) (a : List Int) (na : Option Bool) (b : List Int) (nb : Option Bool) : bodyX (Cx A (Or4 A) noL) 100 Try.f26 [i64s a na false, i64s b nb false] [] =
    (bif A.se (decide (List.length a ≤ (1000000 : Nat))) then some (X.d Ty.bool (A.se (decide (a = b))), []) else none) := by kernel_rfl
theorem tCl29 (A : Ar) (l : List (List Int)) (nl : Option Bool) (w : List Int) (nw : Option Bool) (i : Int) : bodyX (Cx A (Or4 A) noL) 100 Try.f29 [i64x i, .ptr 0 [], .ptr 1 []] [(.slice wT, .sl wT l nl false), (wT, i64s w nw false)] =
    (bif decide ((0 : Int) ≤ i ∧ i < (↑(List.length l) : Int)) then
      bif
          A.se
            (decide
              (List.length (List.getD l (Int.toNat i) (Ty.zero wT)) ≤ (1000000 : Nat) ∧
                List.length w ≤ (1000000 : Nat))) then
        some
          (X.d Ty.bool !A.se (ltL (List.getD l (Int.toNat i) (Ty.zero wT)) w),
            [(Ty.slice wT, X.sl wT l nl false), (wT, X.sl (Ty.int IntKind.i64) w nw false)])
      else none
    else none) := by kernel_rfl
theorem tSea (A : Ar) (l : List (List Int)) (nl : Option Bool) (w : List Int) (nw : Option Bool) (n : Int) : bodyX (Cx A (Or5 A) (Lsea A)) 100 Try.f28 [i64x n, .fn 29 [] [.ptr 0 [], .ptr 1 []]] [(.slice wT, .sl wT l nl false), (wT, i64s w nw false)] =
    (bif
        A.se
          (decide
              ((29 : Nat) = (29 : Nat) ∧
                (0 : Int) ≤ (0 : Int) ∧
                  (0 : Int) ≤ (↑(cntL l w) : Int) ∧
                    (↑(cntL l w) : Int) ≤ n ∧
                      n ≤ (↑(List.length l) : Int) ∧
                        List.length l ≤ (1000000 : Nat) ∧ List.length w ≤ (1000000 : Nat)) &&
            (shortB l && risesB l)) then
      some
        (X.d (Ty.int IntKind.i64) (A.se (↑(cntL l w) : Int)),
          [(Ty.slice (Ty.slice (Ty.int IntKind.i64)), X.sl (Ty.slice (Ty.int IntKind.i64)) l nl false),
            (Ty.slice (Ty.int IntKind.i64), X.sl (Ty.int IntKind.i64) w nw false)])
    else none) := by kernel_rfl
theorem lSea (A : Ar) (R : Type) (l : List (List Int)) (nl : Option Bool) (w : List Int) (nw : Option Bool) (i j : Int) (k : Ex → List X → Hp → Option R) : stepF (Cx A (Or5 A) (Lsea A)) 100 (loopAt Try.f28 0) 26 [1, 5, 6] [.fn 29 [] [.ptr 0 [], .ptr 1 []], i64x i, i64x j] [(.slice wT, .sl wT l nl false), (wT, i64s w nw false)] k =
    (bif decide (i < j) then
      bif
          A.se
            (decide
                ((0 : Int) ≤
                    A.wrap IntKind.i64
                      (Int.fdiv (A.wrap IntKind.u64 (A.wrap IntKind.i64 (i + j))) (A.p2 (1 : Int) (64 : Nat))) ∧
                  A.wrap IntKind.i64
                        (Int.fdiv (A.wrap IntKind.u64 (A.wrap IntKind.i64 (i + j))) (A.p2 (1 : Int) (64 : Nat))) <
                      (↑(List.length l) : Int) ∧
                    List.length w ≤ (1000000 : Nat)) &&
              shortB l) then
        bif
            !A.se
                !ltL
                    (List.getD l
                      (Int.toNat
                        (A.wrap IntKind.i64
                          (Int.fdiv (A.wrap IntKind.u64 (A.wrap IntKind.i64 (i + j))) (A.p2 (1 : Int) (64 : Nat)))))
                      [])
                    w then
          k Ex.normal
            [X.fn (29 : Nat) [] [X.ptr (0 : Nat) [], X.ptr (1 : Nat) []],
              X.d (Ty.int IntKind.i64)
                (A.wrap IntKind.i64
                  (A.wrap IntKind.i64
                      (Int.fdiv (A.wrap IntKind.u64 (A.wrap IntKind.i64 (i + j))) (A.p2 (1 : Int) (64 : Nat))) +
                    (1 : Int))),
              X.d (Ty.int IntKind.i64) j]
            [(Ty.slice (Ty.slice (Ty.int IntKind.i64)), X.sl (Ty.slice (Ty.int IntKind.i64)) l nl false),
              (Ty.slice (Ty.int IntKind.i64), X.sl (Ty.int IntKind.i64) w nw false)]
        else
          k Ex.normal
            [X.fn (29 : Nat) [] [X.ptr (0 : Nat) [], X.ptr (1 : Nat) []], X.d (Ty.int IntKind.i64) i,
              X.d (Ty.int IntKind.i64)
                (A.wrap IntKind.i64
                  (Int.fdiv (A.wrap IntKind.u64 (A.wrap IntKind.i64 (i + j))) (A.p2 (1 : Int) (64 : Nat))))]
            [(Ty.slice (Ty.slice (Ty.int IntKind.i64)), X.sl (Ty.slice (Ty.int IntKind.i64)) l nl false),
              (Ty.slice (Ty.int IntKind.i64), X.sl (Ty.int IntKind.i64) w nw false)]
      else none
    else
      k (Ex.exit (0 : Nat))
        [X.fn (29 : Nat) [] [X.ptr (0 : Nat) [], X.ptr (1 : Nat) []], X.d (Ty.int IntKind.i64) i,
          X.d (Ty.int IntKind.i64) j]
        [(Ty.slice wT, X.sl wT l nl false), (wT, X.sl (Ty.int IntKind.i64) w nw false)]) := by kernel_rfl
theorem tFind (A : Ar) (l : List (List Int)) (nl : Option Bool) (w : List Int) (nw : Option Bool) : bodyX (Cx A (Or6 A) noL) 100 Try.f12 [.sl wT l nl false, i64s w nw false] [] =
    (bif
        A.se
          (decide
              ((29 : Nat) = (29 : Nat) ∧
                (↑(List.length l) : Int) = (↑(List.length l) : Int) ∧
                  List.length l ≤ (1000000 : Nat) ∧ List.length w ≤ (1000000 : Nat)) &&
            (shortB l && risesB l)) then
      bif decide (A.se (↑(cntL l w) : Int) < (↑(List.length l) : Int)) == true then
        bif decide ((0 : Int) ≤ A.se (↑(cntL l w) : Int) ∧ A.se (↑(cntL l w) : Int) < (↑(List.length l) : Int)) then
          bif
              A.se
                (decide
                  (List.length
                      (List.getD l (Int.toNat (A.se (↑(cntL l w) : Int))) (Ty.zero (Ty.slice (Ty.int IntKind.i64)))) ≤
                    (1000000 : Nat))) then
            some
              (X.tup
                  [X.d (Ty.int IntKind.i64) (A.se (↑(cntL l w) : Int)),
                    X.d Ty.bool
                      (A.se
                        (decide
                          (List.getD l (Int.toNat (A.se (↑(cntL l w) : Int))) (Ty.zero (Ty.slice (Ty.int IntKind.i64))) =
                            w)))],
                [(Ty.slice (Ty.slice (Ty.int IntKind.i64)), X.sl (Ty.slice (Ty.int IntKind.i64)) l nl false),
                  (Ty.slice (Ty.int IntKind.i64), X.sl (Ty.int IntKind.i64) w nw false)])
          else none
        else none
      else
        some
          (X.tup [X.d (Ty.int IntKind.i64) (A.se (↑(cntL l w) : Int)), X.d Ty.bool false],
            [(Ty.slice (Ty.slice (Ty.int IntKind.i64)), X.sl (Ty.slice (Ty.int IntKind.i64)) l nl false),
              (Ty.slice (Ty.int IntKind.i64), X.sl (Ty.int IntKind.i64) w nw false)])
    else none) := by kernel_rfl
theorem tCf (A : Ar) (n : Nat) (l : List (List Int)) : bodyX (CxM A (Or5 A) (Lcf A) (fun _ => 0)) 100 Try.f25 [.mref wT 0 [] 0 n, .fn 26 [] []] [(.arr n wT, .d (.arr n wT) l)] =
    (bif decide ((↑n : Int) < (2 : Int)) then some (X.mref wT (0 : Nat) [] (0 : Nat) n, [(Ty.arr n wT, X.d (Ty.arr n wT) l)])
    else
      bif
          A.se
            (decide
                ((26 : Nat) = (26 : Nat) ∧
                  n = n ∧
                    n = n ∧
                      List.length l = n ∧
                        n ≤ (1000000 : Nat) ∧
                          (1 : Int) ≤ (1 : Int) ∧
                            (1 : Int) ≤ (↑n : Int) ∧
                              compL (List.take (Int.toNat (1 : Int)) l) = List.take (Int.toNat (1 : Int)) l) &&
              shortB l) then
        bif A.se (decide (compL l = l)) then
          some
            (X.mref (Ty.slice (Ty.int IntKind.i64)) (0 : Nat) [] (0 : Nat) n,
              [(Ty.arr n (Ty.slice (Ty.int IntKind.i64)), X.d (Ty.arr n (Ty.slice (Ty.int IntKind.i64))) l)])
        else
          some
            (X.mref (Ty.slice (Ty.int IntKind.i64)) (0 : Nat) [] (0 : Nat) (A.se (List.length (compL l))),
              [(Ty.arr n (Ty.slice (Ty.int IntKind.i64)),
                  X.d (Ty.arr n (Ty.slice (Ty.int IntKind.i64)))
                    (A.se (compL l ++ List.replicate (List.length l - List.length (compL l)) [])))])
      else none) := by kernel_rfl
theorem tCf0 (A : Ar) (f : Nat) (nl : Option Bool) (H : Hp) : bodyX (CxM A (Or5 A) (Lcf A) (fun _ => 0)) 100 Try.f25 [.sl wT [] nl false, .fn f [] []] H =
    (some (X.sl wT [] nl false, H)) := by kernel_rfl
theorem lCfo (A : Ar) (R : Type) (n : Nat) (l : List (List Int)) (i : Int) (k : Ex → List X → Hp → Option R) : stepF (CxM A (Or5 A) (Lcf A) (fun _ => 0)) 100 (loopAt Try.f25 0) 66 [0, 1, 4, 5] [.mref wT 0 [] 0 n, .fn 26 [] [], .sl wT [] (some true) true, i64x i] [(.arr n wT, .d (.arr n wT) l)] k =
    (bif decide (i < (↑n : Int)) then
      bif decide ((0 : Int) ≤ i ∧ i < (↑n : Int)) then
        bif decide ((0 : Int) ≤ A.wrap IntKind.i64 (i - (1 : Int)) ∧ A.wrap IntKind.i64 (i - (1 : Int)) < (↑n : Int)) then
          bif A.se (decide (List.length (List.getD l ((0 : Nat) + Int.toNat i) (Ty.zero wT)) ≤ (1000000 : Nat))) then
            bif
                A.se
                  (decide
                    (List.getD l ((0 : Nat) + Int.toNat i) (Ty.zero wT) =
                      List.getD l ((0 : Nat) + Int.toNat (A.wrap IntKind.i64 (i - (1 : Int)))) (Ty.zero wT))) then
              bif decide ((0 : Int) ≤ i ∧ i ≤ (↑n : Int)) then
                bif
                    A.se
                      (decide
                          ((26 : Nat) = (26 : Nat) ∧
                            n = n ∧
                              n = n ∧
                                List.length l = n ∧
                                  n ≤ (1000000 : Nat) ∧
                                    (0 : Nat) + Int.toNat i + (n - Int.toNat i) = n ∧
                                      (0 : Int) ≤ i ∧
                                        (1 : Int) ≤ (1 : Int) ∧
                                          i ≤
                                              (↑((0 : Nat) + Int.toNat i) : Int) + (1 : Int) -
                                                (1 : Int) ∧
                                            (1 : Int) ≤ (↑(n - Int.toNat i) : Int)) &&
                        shortB l) then
                  bif
                      decide
                        ((0 : Int) ≤
                            A.se
                              (i +
                                (↑(List.length
                                      (compG (List.getD l ((0 : Nat) + Int.toNat i + Int.toNat (1 : Int) - (1 : Nat)) [])
                                        (List.drop ((0 : Nat) + Int.toNat i + Int.toNat (1 : Int)) l))) :
                                  Int)) ∧
                          A.se
                              (i +
                                (↑(List.length
                                      (compG (List.getD l ((0 : Nat) + Int.toNat i + Int.toNat (1 : Int) - (1 : Nat)) [])
                                        (List.drop ((0 : Nat) + Int.toNat i + Int.toNat (1 : Int)) l))) :
                                  Int)) ≤
                            (↑n : Int)) then
                    bif
                        decide
                          ((0 : Int) ≤
                              A.se
                                (i +
                                  (↑(List.length
                                        (compG (List.getD l ((0 : Nat) + Int.toNat i + Int.toNat (1 : Int) - (1 : Nat)) [])
                                          (List.drop ((0 : Nat) + Int.toNat i + Int.toNat (1 : Int)) l))) :
                                    Int)) ∧
                            A.se
                                (i +
                                  (↑(List.length
                                        (compG (List.getD l ((0 : Nat) + Int.toNat i + Int.toNat (1 : Int) - (1 : Nat)) [])
                                          (List.drop ((0 : Nat) + Int.toNat i + Int.toNat (1 : Int)) l))) :
                                    Int)) ≤
                              (↑n : Int)) then
                      k Ex.ret
                        [X.mref (Ty.slice (Ty.int IntKind.i64)) (0 : Nat) [] (0 : Nat) n, X.dead,
                          X.mref (Ty.slice (Ty.int IntKind.i64)) (0 : Nat) [] (0 : Nat)
                            (Int.toNat
                              (A.se
                                (i +
                                  (↑(List.length
                                        (compG (List.getD l ((0 : Nat) + Int.toNat i + Int.toNat (1 : Int) - (1 : Nat)) [])
                                          (List.drop ((0 : Nat) + Int.toNat i + Int.toNat (1 : Int)) l))) :
                                    Int)))),
                          X.d (Ty.int IntKind.i64)
                            (A.se
                              (i +
                                (↑(List.length
                                      (compG (List.getD l ((0 : Nat) + Int.toNat i + Int.toNat (1 : Int) - (1 : Nat)) [])
                                        (List.drop ((0 : Nat) + Int.toNat i + Int.toNat (1 : Int)) l))) :
                                  Int)))]
                        [(Ty.arr n (Ty.slice (Ty.int IntKind.i64)),
                            X.d (Ty.arr n (Ty.slice (Ty.int IntKind.i64)))
                              (List.take
                                    ((0 : Nat) +
                                      Int.toNat
                                        (A.se
                                          (i +
                                            (↑(List.length
                                                  (compG
                                                    (List.getD l ((0 : Nat) + Int.toNat i + Int.toNat (1 : Int) - (1 : Nat))
                                                      [])
                                                    (List.drop ((0 : Nat) + Int.toNat i + Int.toNat (1 : Int)) l))) :
                                              Int))))
                                    (A.se
                                      (List.take (Int.toNat i) l ++
                                          compG (List.getD l ((0 : Nat) + Int.toNat i + Int.toNat (1 : Int) - (1 : Nat)) [])
                                            (List.drop ((0 : Nat) + Int.toNat i + Int.toNat (1 : Int)) l) ++
                                        List.drop
                                          (Int.toNat i +
                                            List.length
                                              (compG
                                                (List.getD l ((0 : Nat) + Int.toNat i + Int.toNat (1 : Int) - (1 : Nat)) [])
                                                (List.drop ((0 : Nat) + Int.toNat i + Int.toNat (1 : Int)) l)))
                                          l)) ++
                                  List.replicate
                                    (n -
                                      Int.toNat
                                        (A.se
                                          (i +
                                            (↑(List.length
                                                  (compG
                                                    (List.getD l ((0 : Nat) + Int.toNat i + Int.toNat (1 : Int) - (1 : Nat))
                                                      [])
                                                    (List.drop ((0 : Nat) + Int.toNat i + Int.toNat (1 : Int)) l))) :
                                              Int))))
                                    [] ++
                                List.drop
                                  ((0 : Nat) +
                                      Int.toNat
                                        (A.se
                                          (i +
                                            (↑(List.length
                                                  (compG
                                                    (List.getD l ((0 : Nat) + Int.toNat i + Int.toNat (1 : Int) - (1 : Nat))
                                                      [])
                                                    (List.drop ((0 : Nat) + Int.toNat i + Int.toNat (1 : Int)) l))) :
                                              Int))) +
                                    (n -
                                      Int.toNat
                                        (A.se
                                          (i +
                                            (↑(List.length
                                                  (compG
                                                    (List.getD l ((0 : Nat) + Int.toNat i + Int.toNat (1 : Int) - (1 : Nat))
                                                      [])
                                                    (List.drop ((0 : Nat) + Int.toNat i + Int.toNat (1 : Int)) l))) :
                                              Int)))))
                                  (A.se
                                    (List.take (Int.toNat i) l ++
                                        compG (List.getD l ((0 : Nat) + Int.toNat i + Int.toNat (1 : Int) - (1 : Nat)) [])
                                          (List.drop ((0 : Nat) + Int.toNat i + Int.toNat (1 : Int)) l) ++
                                      List.drop
                                        (Int.toNat i +
                                          List.length
                                            (compG
                                              (List.getD l ((0 : Nat) + Int.toNat i + Int.toNat (1 : Int) - (1 : Nat)) [])
                                              (List.drop ((0 : Nat) + Int.toNat i + Int.toNat (1 : Int)) l)))
                                        l))))]
                    else none
                  else none
                else none
              else none
            else
              k Ex.normal
                [X.mref wT (0 : Nat) [] (0 : Nat) n, X.fn (26 : Nat) [] [], X.sl wT [] (some true) true,
                  X.d (Ty.int IntKind.i64) (A.wrap IntKind.i64 (i + (1 : Int)))]
                [(Ty.arr n wT, X.d (Ty.arr n wT) l)]
          else none
        else none
      else none
    else
      k (Ex.exit (0 : Nat))
        [X.mref wT (0 : Nat) [] (0 : Nat) n, X.fn (26 : Nat) [] [], X.sl wT [] (some true) true, X.d (Ty.int IntKind.i64) i]
        [(Ty.arr n wT, X.d (Ty.arr n wT) l)]) := by kernel_rfl
theorem lCfi (A : Ar) (R : Type) (n : Nat) (l : List (List Int)) (off len : Nat) (i j : Int) (k : Ex → List X → Hp → Option R) : stepF (CxM A (Or5 A) (Lcf A) (fun _ => 0)) 100 (loopAt Try.f25 1) 66 [0, 1, 5, 6, 7] [.mref wT 0 [] 0 n, .fn 26 [] [], i64x i, .mref wT 0 [] off len, i64x j] [(.arr n wT, .d (.arr n wT) l)] k =
    (bif decide (j < (↑len : Int)) then
      bif decide ((0 : Int) ≤ j ∧ j < (↑len : Int)) then
        bif decide ((0 : Int) ≤ A.wrap IntKind.i64 (j - (1 : Int)) ∧ A.wrap IntKind.i64 (j - (1 : Int)) < (↑len : Int)) then
          bif A.se (decide (List.length (List.getD l (off + Int.toNat j) (Ty.zero wT)) ≤ (1000000 : Nat))) then
            bif
                !A.se
                    (decide
                      (List.getD l (off + Int.toNat j) (Ty.zero wT) =
                        List.getD l (off + Int.toNat (A.wrap IntKind.i64 (j - (1 : Int)))) (Ty.zero wT))) then
              bif decide ((0 : Int) ≤ j ∧ j < (↑len : Int)) then
                bif decide ((0 : Int) ≤ i ∧ i < (↑n : Int)) then
                  k Ex.normal
                    [X.mref wT (0 : Nat) [] (0 : Nat) n, X.fn (26 : Nat) [] [],
                      X.d (Ty.int IntKind.i64) (A.wrap IntKind.i64 (i + (1 : Int))), X.mref wT (0 : Nat) [] off len,
                      X.d (Ty.int IntKind.i64) (A.wrap IntKind.i64 (j + (1 : Int)))]
                    [(Ty.arr n wT,
                        X.d (Ty.arr n wT)
                          (List.set l ((0 : Nat) + Int.toNat i) (List.getD l (off + Int.toNat j) (Ty.zero wT))))]
                else none
              else none
            else
              k Ex.normal
                [X.mref wT (0 : Nat) [] (0 : Nat) n, X.fn (26 : Nat) [] [], X.d (Ty.int IntKind.i64) i,
                  X.mref wT (0 : Nat) [] off len, X.d (Ty.int IntKind.i64) (A.wrap IntKind.i64 (j + (1 : Int)))]
                [(Ty.arr n wT, X.d (Ty.arr n wT) l)]
          else none
        else none
      else none
    else
      k (Ex.exit (2 : Nat))
        [X.mref wT (0 : Nat) [] (0 : Nat) n, X.fn (26 : Nat) [] [], X.d (Ty.int IntKind.i64) i,
          X.mref wT (0 : Nat) [] off len, X.d (Ty.int IntKind.i64) j]
        [(Ty.arr n wT, X.d (Ty.arr n wT) l)]) := by kernel_rfl
theorem tSort (A : Ar) (l : List (List Int)) (nl : Option Bool) : bodyX (CxM A (Or6 A) (Lsrt A) Msrt) 100 Try.f11 [.sl wT l nl false] [] =
    (bif
        decide
          ((0 : Int) ≤ (↑(List.length l) : Int) ∧
            (↑(List.length l) : Int) * (↑(24 : Nat) : Int) ≤
                (140737488355328 : Int) ∧
              (↑(List.length l) : Int) ≤ (9223372036854775807 : Int)) then
      bif
          A.se
            (decide
                ((↑(List.length l) : Int) = (↑(List.length l) : Int) ∧
                  List.length l ≤ (1000 : Nat) ∧
                    (0 : Int) ≤ (0 : Int) ∧
                      (0 : Int) ≤ (↑(List.length l) : Int) ∧ [] = List.take (Int.toNat (0 : Int)) l) &&
              shortB l) then
        bif List.isEmpty (A.se l) then some (X.sl (Ty.slice (Ty.int IntKind.i64)) [] none false, [])
        else
          bif
              A.se
                (decide
                    ((23 : Nat) = (23 : Nat) ∧
                      List.length (A.se l) = List.length (A.se l) ∧
                        List.length (A.se l) = List.length (A.se l) ∧ List.length (A.se l) ≤ (1000000 : Nat)) &&
                  List.all (A.se l) fun x => decide (List.length x ≤ (1000000 : Nat))) then
            bif
                A.se
                  (decide
                      ((26 : Nat) = (26 : Nat) ∧
                        List.length (A.se l) = List.length (A.se l) ∧
                          List.length (A.se l) = List.length (A.se l) ∧
                            List.length (A.se (srtL (A.se l))) = List.length (A.se l) ∧
                              List.length (A.se l) ≤ (1000000 : Nat)) &&
                    shortB (A.se (srtL (A.se l)))) then
              some
                (X.sl (Ty.slice (Ty.int IntKind.i64))
                    (List.take (A.se (List.length (compL (A.se (srtL (A.se l))))))
                      (List.drop (0 : Nat)
                        (A.se
                          (compL (A.se (srtL (A.se l))) ++
                            List.replicate (List.length (A.se (srtL (A.se l))) - List.length (compL (A.se (srtL (A.se l)))))
                              []))))
                    (some false) false,
                  [(Ty.arr (List.length (A.se l)) (Ty.slice (Ty.int IntKind.i64)), X.dead)])
            else none
          else none
      else none
    else none) := by kernel_rfl
theorem lSort (A : Ar) (R : Type) (out : List (List Int)) (l : List (List Int)) (nl : Option Bool) (n i : Int) (k : Ex → List X → Hp → Option R) : stepF (CxM A (Or6 A) (Lsrt A) Msrt) 100 (loopAt Try.f11 0) 25 [3, 9, 10, 11] [.ps wT out, .sl wT l nl false, i64x n, i64x i] [] k =
    (bif decide (i < n) then
      bif decide ((0 : Int) ≤ i ∧ i < (↑(List.length l) : Int)) then
        bif A.se (decide (List.length (List.getD l (Int.toNat i) (Ty.zero wT)) ≤ (1000000 : Nat))) then
          bif
              decide
                ((List.length out + List.length [List.getD l (Int.toNat i) (Ty.zero wT)]) * (24 : Nat) ≤
                  (140737488355328 : Nat)) then
            k Ex.normal
              [X.ps wT (out ++ [List.getD l (Int.toNat i) (Ty.zero wT)]), X.sl wT l nl false, X.d (Ty.int IntKind.i64) n,
                X.d (Ty.int IntKind.i64) (A.wrap IntKind.i64 (i + (1 : Int)))]
              []
          else none
        else none
      else none
    else k (Ex.exit (0 : Nat)) [X.ps wT out, X.sl wT l nl false, X.d (Ty.int IntKind.i64) n, X.d (Ty.int IntKind.i64) i] []) := by kernel_rfl

end Go.Proofs.Ytanbekjefbebaaa.V

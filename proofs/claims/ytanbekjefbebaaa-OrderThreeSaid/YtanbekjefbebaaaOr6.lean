/-
  Chapter 03, order: the trees of the functions that only look. By program; each equation is checked by the kernel.
  It speaks of the pinned program alone; no condition.
-/
import Derived.Test.YtanbekjefbebaaaOr5
namespace Go.Proofs.Ytanbekjefbebaaa.V
open Go
set_option linter.unusedVariables false

theorem tWeq (A : Ar) (O : OT) (a : List Int) (na : Option Bool) (b : List Int) (nb : Option Bool) : bodyX (Cx A O (Lweq A)) 100 Try.f27 [i64s a na false, i64s b nb false] [] =
    (bif (↑(List.length a) : Int) != (↑(List.length b) : Int) then some (X.d Ty.bool false, [])
    else
      bif
          A.se
            (decide
              (List.length a ≤ (1000000 : Nat) ∧
                List.length b = List.length a ∧
                  (↑(List.length a) : Int) = (↑(List.length a) : Int) ∧
                    (0 : Int) ≤ (0 : Int) ∧ (0 : Int) ≤ (↑(List.length a) : Int))) then
        bif A.se (decide (List.drop (Int.toNat (0 : Int)) a = List.drop (Int.toNat (0 : Int)) b)) then
          some (X.d Ty.bool true, [])
        else some (X.d Ty.bool false, [])
      else none) := by kernel_rfl
theorem lWeq (A : Ar) (O : OT) (R : Type) (a : List Int) (na : Option Bool) (b : List Int) (nb : Option Bool) (z : Bool) (l i : Int) (k : Ex → List X → Hp → Option R) : stepF (Cx A O (Lweq A)) 100 (loopAt Try.f27 0) 26 [0, 1, 4, 12, 13] [i64s a na false, i64s b nb false, boolx z, i64x l, i64x i] [] k =
    (bif decide (i < l) then
      bif decide ((0 : Int) ≤ i ∧ i < (↑(List.length a) : Int)) then
        bif decide ((0 : Int) ≤ i ∧ i < (↑(List.length b) : Int)) then
          bif
              List.getD a (Int.toNat i) (0 : Int) !=
                List.getD b (Int.toNat i) (0 : Int) then
            k Ex.ret
              [X.sl (Ty.int IntKind.i64) a na false, X.sl (Ty.int IntKind.i64) b nb false, X.d Ty.bool false,
                X.d (Ty.int IntKind.i64) l, X.d (Ty.int IntKind.i64) i]
              []
          else
            k Ex.normal
              [X.sl (Ty.int IntKind.i64) a na false, X.sl (Ty.int IntKind.i64) b nb false, X.d Ty.bool z,
                X.d (Ty.int IntKind.i64) l, X.d (Ty.int IntKind.i64) (A.wrap IntKind.i64 (i + (1 : Int)))]
              []
        else none
      else none
    else
      k (Ex.exit (0 : Nat))
        [X.sl (Ty.int IntKind.i64) a na false, X.sl (Ty.int IntKind.i64) b nb false, X.d Ty.bool z,
          X.d (Ty.int IntKind.i64) l, X.d (Ty.int IntKind.i64) i]
        []) := by kernel_rfl
theorem tWsa (A : Ar) (O : OT) (a : List Int) (na : Option Bool) (b : List Int) (nb : Option Bool) : bodyX (Cx A O (Lwsa A)) 100 Try.f20 [i64s a na false, i64s b nb false] [] =
    (bif (↑(List.length a) : Int) != (↑(List.length b) : Int) then some (X.d Ty.bool false, [])
    else
      bif
          A.se
            (decide
              (List.length a ≤ (1000000 : Nat) ∧
                List.length b = List.length a ∧
                  (0 : Int) ≤ (0 : Int) ∧
                    (0 : Int) ≤ (↑(List.length a) : Int))) then
        bif A.se (decide (List.drop (Int.toNat (0 : Int)) a = List.drop (Int.toNat (0 : Int)) b)) then
          some (X.d Ty.bool true, [])
        else some (X.d Ty.bool false, [])
      else none) := by kernel_rfl
theorem lWsa (A : Ar) (O : OT) (R : Type) (a : List Int) (na : Option Bool) (b : List Int) (nb : Option Bool) (z : Bool) (i : Int) (k : Ex → List X → Hp → Option R) : stepF (Cx A O (Lwsa A)) 100 (loopAt Try.f20 0) 26 [0, 1, 4, 5] [i64s a na false, i64s b nb false, boolx z, i64x i] [] k =
    (bif decide (i < (↑(List.length a) : Int)) then
      bif decide ((0 : Int) ≤ i ∧ i < (↑(List.length a) : Int)) then
        bif decide ((0 : Int) ≤ i ∧ i < (↑(List.length b) : Int)) then
          bif
              List.getD a (Int.toNat i) (0 : Int) !=
                List.getD b (Int.toNat i) (0 : Int) then
            k Ex.ret
              [X.sl (Ty.int IntKind.i64) a na false, X.sl (Ty.int IntKind.i64) b nb false, X.d Ty.bool false,
                X.d (Ty.int IntKind.i64) i]
              []
          else
            k Ex.normal
              [X.sl (Ty.int IntKind.i64) a na false, X.sl (Ty.int IntKind.i64) b nb false, X.d Ty.bool z,
                X.d (Ty.int IntKind.i64) (A.wrap IntKind.i64 (i + (1 : Int)))]
              []
        else none
      else none
    else
      k (Ex.exit (0 : Nat))
        [X.sl (Ty.int IntKind.i64) a na false, X.sl (Ty.int IntKind.i64) b nb false, X.d Ty.bool z,
          X.d (Ty.int IntKind.i64) i]
        []) := by kernel_rfl
theorem tFst (A : Ar) (O : OT) (a : List Int) (na : Option Bool) (b : List Int) (nb : Option Bool) : bodyX (Cx A O (Lfst A)) 100 Try.f30 [i64s a na false, i64s b nb false] [] =
    (bif
        A.se
          (decide
            (List.length a ≤ (1000000 : Nat) ∧
              List.length b ≤ (1000000 : Nat) ∧
                (if (↑(List.length b) : Int) < (↑(List.length a) : Int) then (↑(List.length b) : Int)
                    else (↑(List.length a) : Int)) ≤
                    (↑(List.length a) : Int) ∧
                  (if (↑(List.length b) : Int) < (↑(List.length a) : Int) then (↑(List.length b) : Int)
                      else (↑(List.length a) : Int)) ≤
                      (↑(List.length b) : Int) ∧
                    ((if (↑(List.length b) : Int) < (↑(List.length a) : Int) then (↑(List.length b) : Int)
                          else (↑(List.length a) : Int)) =
                          (↑(List.length a) : Int) ∨
                        (if (↑(List.length b) : Int) < (↑(List.length a) : Int) then (↑(List.length b) : Int)
                          else (↑(List.length a) : Int)) =
                          (↑(List.length b) : Int)) ∧
                      (0 : Int) ≤ (0 : Int) ∧
                        (0 : Int) ≤
                          if (↑(List.length b) : Int) < (↑(List.length a) : Int) then (↑(List.length b) : Int)
                          else (↑(List.length a) : Int))) then
      bif
          A.se
            (decide
              ((0 : Int) +
                  (↑(comL (List.drop (Int.toNat (0 : Int)) a) (List.drop (Int.toNat (0 : Int)) b)) :
                    Int) =
                if (↑(List.length b) : Int) < (↑(List.length a) : Int) then (↑(List.length b) : Int)
                else (↑(List.length a) : Int))) then
        some
          (X.d (Ty.int IntKind.i64)
              (if (↑(List.length b) : Int) < (↑(List.length a) : Int) then (↑(List.length b) : Int)
              else (↑(List.length a) : Int)),
            [])
      else
        some
          (X.d (Ty.int IntKind.i64)
              (A.se ((0 : Int) + (↑(comL (List.drop (Int.toNat (0 : Int)) a) (List.drop (Int.toNat (0 : Int)) b)) : Int))),
            [])
    else none) := by kernel_rfl
theorem lFst (A : Ar) (O : OT) (R : Type) (a : List Int) (na : Option Bool) (b : List Int) (nb : Option Bool) (z l i : Int) (k : Ex → List X → Hp → Option R) : stepF (Cx A O (Lfst A)) 100 (loopAt Try.f30 0) 30 [0, 1, 4, 10, 11] [i64s a na false, i64s b nb false, i64x z, i64x l, i64x i] [] k =
    (bif decide (i < l) then
      bif decide ((0 : Int) ≤ i ∧ i < (↑(List.length a) : Int)) then
        bif decide ((0 : Int) ≤ i ∧ i < (↑(List.length b) : Int)) then
          bif
              List.getD a (Int.toNat i) (0 : Int) !=
                List.getD b (Int.toNat i) (0 : Int) then
            k Ex.ret
              [X.sl (Ty.int IntKind.i64) a na false, X.sl (Ty.int IntKind.i64) b nb false, X.d (Ty.int IntKind.i64) i,
                X.d (Ty.int IntKind.i64) l, X.d (Ty.int IntKind.i64) i]
              []
          else
            k Ex.normal
              [X.sl (Ty.int IntKind.i64) a na false, X.sl (Ty.int IntKind.i64) b nb false, X.d (Ty.int IntKind.i64) z,
                X.d (Ty.int IntKind.i64) l, X.d (Ty.int IntKind.i64) (A.wrap IntKind.i64 (i + (1 : Int)))]
              []
        else none
      else none
    else
      k (Ex.exit (0 : Nat))
        [X.sl (Ty.int IntKind.i64) a na false, X.sl (Ty.int IntKind.i64) b nb false, X.d (Ty.int IntKind.i64) z,
          X.d (Ty.int IntKind.i64) l, X.d (Ty.int IntKind.i64) i]
        []) := by kernel_rfl
theorem tRco (A : Ar) (O : OT) (a : List Int) (na : Option Bool) (b : List Int) (nb : Option Bool) : bodyX (Cx A O (Lrco A)) 100 Try.f19 [i64s a na false, i64s b nb false] [] =
    (bif
        A.se
          (decide
            (List.length a ≤ (1000000 : Nat) ∧
              List.length b ≤ (1000000 : Nat) ∧
                (0 : Int) ≤ (0 : Int) ∧
                  (0 : Int) ≤ (↑(List.length a) : Int) ∧
                    (0 : Int) ≤ (↑(List.length b) : Int))) then
      some
        (X.d (Ty.int IntKind.i64)
            (A.se ((0 : Int) + (↑(comL (List.drop (Int.toNat (0 : Int)) a) (List.drop (Int.toNat (0 : Int)) b)) : Int))),
          [])
    else none) := by kernel_rfl
theorem lRco (A : Ar) (O : OT) (R : Type) (a : List Int) (na : Option Bool) (b : List Int) (nb : Option Bool) (i : Int) (k : Ex → List X → Hp → Option R) : stepF (Cx A O (Lrco A)) 100 (loopAt Try.f19 0) 30 [0, 1, 5] [i64s a na false, i64s b nb false, i64x i] [] k =
    (bif decide (i < (↑(List.length a) : Int)) == true then
      bif decide (i < (↑(List.length b) : Int)) == true then
        bif decide ((0 : Int) ≤ i ∧ i < (↑(List.length a) : Int)) then
          bif decide ((0 : Int) ≤ i ∧ i < (↑(List.length b) : Int)) then
            bif
                List.getD a (Int.toNat i) (0 : Int) ==
                  List.getD b (Int.toNat i) (0 : Int) then
              k Ex.normal
                [X.sl (Ty.int IntKind.i64) a na false, X.sl (Ty.int IntKind.i64) b nb false,
                  X.d (Ty.int IntKind.i64) (A.wrap IntKind.i64 (i + (1 : Int)))]
                []
            else
              k (Ex.exit (0 : Nat))
                [X.sl (Ty.int IntKind.i64) a na false, X.sl (Ty.int IntKind.i64) b nb false, X.d (Ty.int IntKind.i64) i] []
          else none
        else none
      else
        k (Ex.exit (0 : Nat))
          [X.sl (Ty.int IntKind.i64) a na false, X.sl (Ty.int IntKind.i64) b nb false, X.d (Ty.int IntKind.i64) i] []
    else
      k (Ex.exit (0 : Nat))
        [X.sl (Ty.int IntKind.i64) a na false, X.sl (Ty.int IntKind.i64) b nb false, X.d (Ty.int IntKind.i64) i] []) := by kernel_rfl
theorem tCom (A : Ar) (a : List Int) (na : Option Bool) (b : List Int) (nb : Option Bool) : bodyX (Cx A (Or2 A) noL) 100 Try.f18 [i64s a na false, i64s b nb false] [] =
    (bif A.se (decide (List.length a ≤ (1000000 : Nat) ∧ List.length b ≤ (1000000 : Nat))) then
      some (X.d (Ty.int IntKind.i64) (A.se (↑(comL a b) : Int)), [])
    else none) := by kernel_rfl
theorem tLess (A : Ar) (a : List Int) (na : Option Bool) (b : List Int) (nb : Option Bool) : bodyX (Cx A (Or2 A) noL) 100 Try.f16 [i64s a na false, i64s b nb false] [] =
    (bif A.se (decide (List.length a ≤ (1000000 : Nat) ∧ List.length b ≤ (1000000 : Nat))) then
      some (X.d Ty.bool (decide (A.se (cmpL a b) < (0 : Int))), [])
    else none) := by kernel_rfl
theorem tRless (A : Ar) (a : List Int) (na : Option Bool) (b : List Int) (nb : Option Bool) : bodyX (Cx A (Or2 A) noL) 100 Try.f17 [i64s a na false, i64s b nb false] [] =
    (bif A.se (decide (List.length a ≤ (1000000 : Nat) ∧ List.length b ≤ (1000000 : Nat))) then
      bif A.se (↑(comL a b) : Int) == (↑(List.length b) : Int) then some (X.d Ty.bool false, [])
      else
        bif (A.se (↑(comL a b) : Int) == (↑(List.length a) : Int)) == false then
          bif decide ((0 : Int) ≤ A.se (↑(comL a b) : Int) ∧ A.se (↑(comL a b) : Int) < (↑(List.length a) : Int)) then
            bif decide ((0 : Int) ≤ A.se (↑(comL a b) : Int) ∧ A.se (↑(comL a b) : Int) < (↑(List.length b) : Int)) then
              some
                (X.d Ty.bool
                    (decide
                      (List.getD a (Int.toNat (A.se (↑(comL a b) : Int))) (0 : Int) <
                        List.getD b (Int.toNat (A.se (↑(comL a b) : Int))) (0 : Int))),
                  [])
            else none
          else none
        else some (X.d Ty.bool true, [])
    else none) := by kernel_rfl
theorem tRfi (A : Ar) (l : List (List Int)) (nl : Option Bool) (w : List Int) (nw : Option Bool) : bodyX (Cx A (Or3 A) (Lrfi A)) 100 Try.f14 [.sl wT l nl false, i64s w nw false] [] =
    (bif
        A.se
          (decide
              (List.length l ≤ (1000000 : Nat) ∧
                List.length w ≤ (1000000 : Nat) ∧
                  (0 : Int) ≤ (0 : Int) ∧
                    (0 : Int) ≤ (↑(List.length l) : Int) ∧
                      (0 : Int) ≤ (0 : Int) ∧ (0 : Int) ≤ (0 : Int)) &&
            shortB l) then
      some
        (X.tup
            [X.d (Ty.int IntKind.i64) (A.se ((0 : Int) + (↑(cntL (List.drop (Int.toNat (0 : Int)) l) w) : Int))),
              X.d Ty.bool (A.se (false || decide (w ∈ List.drop (Int.toNat (0 : Int)) l)))],
          [])
    else none) := by kernel_rfl
theorem lRfi (A : Ar) (R : Type) (l : List (List Int)) (nl : Option Bool) (w : List Int) (nw : Option Bool) (n : Int) (h : Bool) (i : Int) (k : Ex → List X → Hp → Option R) : stepF (Cx A (Or3 A) (Lrfi A)) 100 (loopAt Try.f14 0) 34 [0, 1, 6, 7, 8] [.sl wT l nl false, i64s w nw false, i64x n, boolx h, i64x i] [] k =
    (bif decide (i < (↑(List.length l) : Int)) then
      bif decide ((0 : Int) ≤ i ∧ i < (↑(List.length l) : Int)) then
        bif
            A.se
              (decide
                (List.length (List.getD l (Int.toNat i) (Ty.zero wT)) ≤ (1000000 : Nat) ∧
                  List.length w ≤ (1000000 : Nat))) then
          bif A.se (ltL (List.getD l (Int.toNat i) (Ty.zero wT)) w) then
            bif h == false then
              bif decide ((0 : Int) ≤ i ∧ i < (↑(List.length l) : Int)) then
                bif A.se (decide (List.length (List.getD l (Int.toNat i) (Ty.zero wT)) ≤ (1000000 : Nat))) then
                  k Ex.normal
                    [X.sl wT l nl false, X.sl (Ty.int IntKind.i64) w nw false,
                      X.d (Ty.int IntKind.i64) (A.wrap IntKind.i64 (n + (1 : Int))),
                      X.d Ty.bool (A.se (decide (List.getD l (Int.toNat i) (Ty.zero wT) = w))),
                      X.d (Ty.int IntKind.i64) (A.wrap IntKind.i64 (i + (1 : Int)))]
                    []
                else none
              else none
            else
              k Ex.normal
                [X.sl wT l nl false, X.sl (Ty.int IntKind.i64) w nw false,
                  X.d (Ty.int IntKind.i64) (A.wrap IntKind.i64 (n + (1 : Int))), X.d Ty.bool true,
                  X.d (Ty.int IntKind.i64) (A.wrap IntKind.i64 (i + (1 : Int)))]
                []
          else
            bif h == false then
              bif decide ((0 : Int) ≤ i ∧ i < (↑(List.length l) : Int)) then
                bif A.se (decide (List.length (List.getD l (Int.toNat i) (Ty.zero wT)) ≤ (1000000 : Nat))) then
                  k Ex.normal
                    [X.sl wT l nl false, X.sl (Ty.int IntKind.i64) w nw false, X.d (Ty.int IntKind.i64) n,
                      X.d Ty.bool (A.se (decide (List.getD l (Int.toNat i) (Ty.zero wT) = w))),
                      X.d (Ty.int IntKind.i64) (A.wrap IntKind.i64 (i + (1 : Int)))]
                    []
                else none
              else none
            else
              k Ex.normal
                [X.sl wT l nl false, X.sl (Ty.int IntKind.i64) w nw false, X.d (Ty.int IntKind.i64) n, X.d Ty.bool true,
                  X.d (Ty.int IntKind.i64) (A.wrap IntKind.i64 (i + (1 : Int)))]
                []
        else none
      else none
    else
      k (Ex.exit (0 : Nat))
        [X.sl wT l nl false, X.sl (Ty.int IntKind.i64) w nw false, X.d (Ty.int IntKind.i64) n, X.d Ty.bool h,
          X.d (Ty.int IntKind.i64) i]
        []) := by kernel_rfl
theorem tWss (A : Ar) (a : List (List Int)) (na : Option Bool) (b : List (List Int)) (nb : Option Bool) : bodyX (Cx A (Or3 A) (Lwss A)) 100 Try.f15 [.sl wT a na false, .sl wT b nb false] [] =
    (bif (↑(List.length a) : Int) != (↑(List.length b) : Int) then some (X.d Ty.bool false, [])
    else
      bif
          A.se
            (decide
                (List.length a ≤ (1000000 : Nat) ∧
                  List.length b = List.length a ∧
                    (0 : Int) ≤ (0 : Int) ∧
                      (0 : Int) ≤ (↑(List.length a) : Int)) &&
              shortB a) then
        bif A.se (decide (List.drop (Int.toNat (0 : Int)) a = List.drop (Int.toNat (0 : Int)) b)) then
          some (X.d Ty.bool true, [])
        else some (X.d Ty.bool false, [])
      else none) := by kernel_rfl
theorem lWss (A : Ar) (R : Type) (a : List (List Int)) (na : Option Bool) (b : List (List Int)) (nb : Option Bool) (z : Bool) (i : Int) (k : Ex → List X → Hp → Option R) : stepF (Cx A (Or3 A) (Lwss A)) 100 (loopAt Try.f15 0) 27 [0, 1, 4, 5] [.sl wT a na false, .sl wT b nb false, boolx z, i64x i] [] k =
    (bif decide (i < (↑(List.length a) : Int)) then
      bif decide ((0 : Int) ≤ i ∧ i < (↑(List.length a) : Int)) then
        bif decide ((0 : Int) ≤ i ∧ i < (↑(List.length b) : Int)) then
          bif A.se (decide (List.length (List.getD a (Int.toNat i) (Ty.zero wT)) ≤ (1000000 : Nat))) then
            bif !A.se (decide (List.getD a (Int.toNat i) (Ty.zero wT) = List.getD b (Int.toNat i) (Ty.zero wT))) then
              k Ex.ret [X.sl wT a na false, X.sl wT b nb false, X.d Ty.bool false, X.d (Ty.int IntKind.i64) i] []
            else
              k Ex.normal
                [X.sl wT a na false, X.sl wT b nb false, X.d Ty.bool z,
                  X.d (Ty.int IntKind.i64) (A.wrap IntKind.i64 (i + (1 : Int)))]
                []
          else none
        else none
      else none
    else k (Ex.exit (0 : Nat)) [X.sl wT a na false, X.sl wT b nb false, X.d Ty.bool z, X.d (Ty.int IntKind.i64) i] []) := by kernel_rfl
theorem tFew (A : Ar) (O : OT) (l : List (List Int)) (nl : Option Bool) (m : Int) : bodyX (Cx A O (Lfew A)) 100 Try.f10 [.sl wT l nl false, i64x m] [] =
    (bif
        A.se
          (decide
            (List.length l ≤ (9000000000000000000 : Nat) ∧
              (0 : Int) ≤ (0 : Int) ∧
                (0 : Int) ≤ (↑(List.length l) : Int))) then
      bif A.se (List.all (List.drop (Int.toNat (0 : Int)) l) fun x => decide (List.length x ≤ (100 : Nat))) then
        some (X.d Ty.bool (decide ((↑(List.length l) : Int) ≤ m)), [])
      else some (X.d Ty.bool false, [])
    else none) := by kernel_rfl
theorem lFew (A : Ar) (O : OT) (R : Type) (l : List (List Int)) (nl : Option Bool) (m : Int) (z : Bool) (i : Int) (k : Ex → List X → Hp → Option R) : stepF (Cx A O (Lfew A)) 100 (loopAt Try.f10 0) 22 [0, 1, 4, 5] [.sl wT l nl false, i64x m, boolx z, i64x i] [] k =
    (bif decide (i < (↑(List.length l) : Int)) then
      bif decide ((0 : Int) ≤ i ∧ i < (↑(List.length l) : Int)) then
        bif decide ((↑(List.length (List.getD l (Int.toNat i) (Ty.zero wT))) : Int) > (100 : Int)) then
          k Ex.ret [X.sl wT l nl false, X.d (Ty.int IntKind.i64) m, X.d Ty.bool false, X.d (Ty.int IntKind.i64) i] []
        else
          k Ex.normal
            [X.sl wT l nl false, X.d (Ty.int IntKind.i64) m, X.d Ty.bool z,
              X.d (Ty.int IntKind.i64) (A.wrap IntKind.i64 (i + (1 : Int)))]
            []
      else none
    else
      k (Ex.exit (0 : Nat)) [X.sl wT l nl false, X.d (Ty.int IntKind.i64) m, X.d Ty.bool z, X.d (Ty.int IntKind.i64) i] []) := by kernel_rfl

end Go.Proofs.Ytanbekjefbebaaa.V

/-
  Chapter 03, order: the statements' trees. By program; each equation is checked by the kernel.
  It speaks of the pinned program alone; no condition.
-/
import Derived.Test.YtanbekjefbebaaaOr16
namespace Go.Proofs.Ytanbekjefbebaaa.V
open Go
set_option linter.unusedVariables false

def awakeF : List X → Tr X
  | [] => .give (boolx true)
  | _ => .no
def Or8 (A : Ar) : OT := Oadd (Or7 A) 9 (.pure awakeF)

theorem tAwake (A : Ar) : bodyX (Cx A (Or7 A) noL) 100 Try.f9 [] [] =
    (bif
        A.se
          (decide (List.length [[(98 : Int)], [(97 : Int)], [(97 : Int), (98 : Int)], [(97 : Int)]] ≤ (1000 : Nat)) &&
            shortB [[(98 : Int)], [(97 : Int)], [(97 : Int), (98 : Int)], [(97 : Int)]]) then
      bif
          A.se
            (decide
                (List.length (A.se (setL [[(98 : Int)], [(97 : Int)], [(97 : Int), (98 : Int)], [(97 : Int)]])) ≤
                    (1000000 : Nat) ∧
                  List.length [(98 : Int)] ≤ (1000000 : Nat)) &&
              (shortB (A.se (setL [[(98 : Int)], [(97 : Int)], [(97 : Int), (98 : Int)], [(97 : Int)]])) &&
                risesB (A.se (setL [[(98 : Int)], [(97 : Int)], [(97 : Int), (98 : Int)], [(97 : Int)]])))) then
        bif
            A.se
              (decide
                  (List.length (A.se (setL [[(98 : Int)], [(97 : Int)], [(97 : Int), (98 : Int)], [(97 : Int)]])) ≤
                      (1000000 : Nat) ∧
                    List.length [(97 : Int), (97 : Int)] ≤ (1000000 : Nat)) &&
                (shortB (A.se (setL [[(98 : Int)], [(97 : Int)], [(97 : Int), (98 : Int)], [(97 : Int)]])) &&
                  risesB (A.se (setL [[(98 : Int)], [(97 : Int)], [(97 : Int), (98 : Int)], [(97 : Int)]])))) then
          bif
              A.se
                (decide
                  (List.length [(97 : Int)] ≤ (1000000 : Nat) ∧
                    List.length [(97 : Int), (98 : Int)] ≤ (1000000 : Nat))) then
            bif A.se (ltL [(97 : Int)] [(97 : Int), (98 : Int)]) == true then
              bif
                  A.se
                    (decide
                      (List.length [(97 : Int), (98 : Int)] ≤ (1000000 : Nat) ∧
                        List.length [(98 : Int)] ≤ (1000000 : Nat))) then
                bif A.se (ltL [(97 : Int), (98 : Int)] [(98 : Int)]) == true then
                  bif
                      A.se
                        (decide
                          (List.length [(97 : Int)] ≤ (1000000 : Nat) ∧ List.length [(97 : Int)] ≤ (1000000 : Nat))) then
                    bif (!A.se (ltL [(97 : Int)] [(97 : Int)])) == true then
                      bif
                          A.se
                            (decide
                                (List.length
                                    (A.se (setL [[(98 : Int)], [(97 : Int)], [(97 : Int), (98 : Int)], [(97 : Int)]])) ≤
                                  (1000000 : Nat)) &&
                              shortB
                                (A.se (setL [[(98 : Int)], [(97 : Int)], [(97 : Int), (98 : Int)], [(97 : Int)]]))) then
                        bif
                            A.se
                                (decide
                                  (A.se (setL [[(98 : Int)], [(97 : Int)], [(97 : Int), (98 : Int)], [(97 : Int)]]) =
                                    [[(97 : Int)], [(97 : Int), (98 : Int)], [(98 : Int)]])) ==
                              true then
                          bif
                              (A.se
                                    (↑(cntL
                                          (A.se (setL [[(98 : Int)], [(97 : Int)], [(97 : Int), (98 : Int)], [(97 : Int)]]))
                                          [(98 : Int)]) :
                                      Int) ==
                                  (2 : Int)) ==
                                true then
                            bif
                                A.se
                                    (decide
                                      ([(98 : Int)] ∈
                                        A.se
                                          (setL [[(98 : Int)], [(97 : Int)], [(97 : Int), (98 : Int)], [(97 : Int)]]))) ==
                                  true then
                              bif
                                  (A.se
                                        (↑(cntL
                                              (A.se
                                                (setL [[(98 : Int)], [(97 : Int)], [(97 : Int), (98 : Int)], [(97 : Int)]]))
                                              [(97 : Int), (97 : Int)]) :
                                          Int) ==
                                      (1 : Int)) ==
                                    true then
                                bif
                                    (!A.se
                                          (decide
                                            ([(97 : Int), (97 : Int)] ∈
                                              A.se
                                                (setL
                                                  [[(98 : Int)], [(97 : Int)], [(97 : Int), (98 : Int)],
                                                    [(97 : Int)]])))) ==
                                      true then
                                  bif
                                      A.se
                                        (decide
                                          (List.length [(97 : Int)] ≤ (1000000 : Nat) ∧
                                            List.length [(97 : Int), (98 : Int)] ≤ (1000000 : Nat))) then
                                    some
                                      (X.d Ty.bool
                                          (A.se (↑(comL [(97 : Int)] [(97 : Int), (98 : Int)]) : Int) == (1 : Int)),
                                        [])
                                  else none
                                else some (X.d Ty.bool false, [])
                              else some (X.d Ty.bool false, [])
                            else some (X.d Ty.bool false, [])
                          else some (X.d Ty.bool false, [])
                        else some (X.d Ty.bool false, [])
                      else none
                    else some (X.d Ty.bool false, [])
                  else none
                else some (X.d Ty.bool false, [])
              else none
            else some (X.d Ty.bool false, [])
          else none
        else none
      else none
    else none) := by kernel_rfl
theorem tTells (A : Ar) (l : List (List Int)) (nl : Bool) (a : List Int) (na : Bool) (b : List Int) (nb : Bool) : bodyX (Cx A (Or8 A) noL) 100 Try.f3 [.sl wT l (some nl) false, i64s a (some na) false, i64s b (some nb) false] [] =
    (bif A.se (decide (List.length l ≤ (9000000000000000000 : Nat))) then
      bif (!A.se (fewB l (200 : Int))) == false then
        bif decide ((↑(List.length a) : Int) > (100 : Int)) == false then
          bif decide ((↑(List.length b) : Int) > (100 : Int)) then some (X.d Ty.bool true, [])
          else
            bif A.se (decide (List.length l ≤ (1000 : Nat)) && shortB l) then
              bif A.se (decide (List.length l ≤ (1000 : Nat)) && shortB l) then
                bif
                    A.se
                      (decide (List.length (A.se (setL l)) ≤ (1000000 : Nat) ∧ List.length a ≤ (1000000 : Nat)) &&
                        (shortB (A.se (setL l)) && risesB (A.se (setL l)))) then
                  bif A.se (decide (List.length l ≤ (1000 : Nat)) && shortB l) then
                    bif
                        A.se
                          (decide (List.length (A.se (setL l)) ≤ (1000000 : Nat) ∧ List.length a ≤ (1000000 : Nat)) &&
                            shortB (A.se (setL l))) then
                      bif A.se (decide (List.length l ≤ (1000 : Nat)) && shortB l) then
                        bif A.se (decide (List.length (A.se (setL l)) ≤ (1000000 : Nat)) && shortB (A.se (setL l))) then
                          bif A.se (decide (A.se (setL l) = A.se (setL l))) == true then
                            bif
                                (A.se (↑(cntL (A.se (setL l)) a) : Int) == A.se (↑(cntL (A.se (setL l)) a) : Int)) ==
                                  true then
                              bif (A.se (decide (a ∈ A.se (setL l))) == A.se (decide (a ∈ A.se (setL l)))) == true then
                                bif A.se (decide (List.length a ≤ (1000000 : Nat) ∧ List.length b ≤ (1000000 : Nat))) then
                                  bif A.se (decide (List.length a ≤ (1000000 : Nat) ∧ List.length b ≤ (1000000 : Nat))) then
                                    bif (A.se (ltL a b) == A.se (ltL a b)) == true then
                                      bif
                                          A.se
                                            (decide
                                              (List.length a ≤ (1000000 : Nat) ∧ List.length b ≤ (1000000 : Nat))) then
                                        bif
                                            A.se
                                              (decide
                                                (List.length a ≤ (1000000 : Nat) ∧ List.length b ≤ (1000000 : Nat))) then
                                          some (X.d Ty.bool (A.se (↑(comL a b) : Int) == A.se (↑(comL a b) : Int)), [])
                                        else none
                                      else none
                                    else some (X.d Ty.bool false, [])
                                  else none
                                else none
                              else some (X.d Ty.bool false, [])
                            else some (X.d Ty.bool false, [])
                          else some (X.d Ty.bool false, [])
                        else none
                      else none
                    else none
                  else none
                else none
              else none
            else none
        else some (X.d Ty.bool true, [])
      else some (X.d Ty.bool true, [])
    else none) := by kernel_rfl
theorem tBegins (A : Ar) (u : List Int) (nu : Bool) (a : List Int) (na : Bool) (b : List Int) (nb : Bool) : bodyX (Cx A (Or8 A) noL) 100 Try.f6 [i64s u (some nu) false, i64s a (some na) false, i64s b (some nb) false] [] =
    (bif decide ((↑(List.length u) : Int) > (100 : Int)) == false then
      bif decide ((↑(List.length a) : Int) > (100 : Int)) == false then
        bif decide ((↑(List.length b) : Int) > (100 : Int)) then some (X.d Ty.bool true, [])
        else
          bif decide (((0 : Nat) + List.length u) * (8 : Nat) ≤ (140737488355328 : Nat)) then
            bif decide ((List.length ([] ++ u) + List.length a) * (8 : Nat) ≤ (140737488355328 : Nat)) then
              bif decide (((0 : Nat) + List.length u) * (8 : Nat) ≤ (140737488355328 : Nat)) then
                bif decide ((List.length ([] ++ u) + List.length b) * (8 : Nat) ≤ (140737488355328 : Nat)) then
                  bif
                      A.se
                        (decide
                          (List.length ([] ++ u ++ a) ≤ (1000000 : Nat) ∧
                            List.length ([] ++ u ++ b) ≤ (1000000 : Nat))) then
                    bif A.se (decide (List.length a ≤ (1000000 : Nat) ∧ List.length b ≤ (1000000 : Nat))) then
                      bif (A.se (ltL ([] ++ u ++ a) ([] ++ u ++ b)) == A.se (ltL a b)) == true then
                        bif
                            A.se
                              (decide
                                (List.length ([] ++ u ++ a) ≤ (1000000 : Nat) ∧
                                  List.length ([] ++ u ++ b) ≤ (1000000 : Nat))) then
                          bif A.se (decide (List.length a ≤ (1000000 : Nat) ∧ List.length b ≤ (1000000 : Nat))) then
                            some
                              (X.d Ty.bool
                                  (A.se (↑(comL ([] ++ u ++ a) ([] ++ u ++ b)) : Int) ==
                                    A.wrap IntKind.i64 ((↑(List.length u) : Int) + A.se (↑(comL a b) : Int))),
                                [])
                          else none
                        else none
                      else some (X.d Ty.bool false, [])
                    else none
                  else none
                else none
              else none
            else none
          else none
      else some (X.d Ty.bool true, [])
    else some (X.d Ty.bool true, [])) := by kernel_rfl
theorem tCommons (A : Ar) (a : List Int) (na : Bool) (b : List Int) (nb : Bool) (c : List Int) (nc : Bool) : bodyX (Cx A (Or8 A) noL) 100 Try.f7 [i64s a (some na) false, i64s b (some nb) false, i64s c (some nc) false] [] =
    (bif decide ((↑(List.length a) : Int) > (100 : Int)) == false then
      bif decide ((↑(List.length b) : Int) > (100 : Int)) == false then
        bif decide ((↑(List.length c) : Int) > (100 : Int)) then some (X.d Ty.bool true, [])
        else
          bif A.se (decide (List.length a ≤ (1000000 : Nat) ∧ List.length b ≤ (1000000 : Nat))) then
            bif A.se (decide (List.length b ≤ (1000000 : Nat) ∧ List.length c ≤ (1000000 : Nat))) then
              bif A.se (decide (List.length a ≤ (1000000 : Nat) ∧ List.length c ≤ (1000000 : Nat))) then
                bif
                    decide
                        (A.se (↑(comL a c) : Int) ≥
                          if A.se (↑(comL b c) : Int) < A.se (↑(comL a b) : Int) then A.se (↑(comL b c) : Int)
                          else A.se (↑(comL a b) : Int)) ==
                      true then
                  bif
                      decide
                          (A.se (↑(comL a b) : Int) ≥
                            if A.se (↑(comL a c) : Int) < A.se (↑(comL b c) : Int) then A.se (↑(comL a c) : Int)
                            else A.se (↑(comL b c) : Int)) ==
                        true then
                    some
                      (X.d Ty.bool
                          (decide
                            (A.se (↑(comL b c) : Int) ≥
                              if A.se (↑(comL a c) : Int) < A.se (↑(comL a b) : Int) then A.se (↑(comL a c) : Int)
                              else A.se (↑(comL a b) : Int))),
                        [])
                  else some (X.d Ty.bool false, [])
                else some (X.d Ty.bool false, [])
              else none
            else none
          else none
      else some (X.d Ty.bool true, [])
    else some (X.d Ty.bool true, [])) := by kernel_rfl
theorem tPuts (A : Ar) (l : List (List Int)) (nl : Bool) (w : List Int) (nw : Bool) : bodyX (Cx A (Or8 A) noL) 100 Try.f8 [.sl wT l (some nl) false, i64s w (some nw) false] [] =
    (bif A.se (decide (List.length l ≤ (9000000000000000000 : Nat))) then
      bif (!A.se (fewB l (200 : Int))) == false then
        bif decide ((↑(List.length w) : Int) > (100 : Int)) then some (X.d Ty.bool true, [])
        else
          bif A.se (decide (List.length l ≤ (1000 : Nat)) && shortB l) then
            bif decide (((0 : Nat) + List.length l) * (24 : Nat) ≤ (140737488355328 : Nat)) then
              bif decide ((List.length ([] ++ l) + List.length [w]) * (24 : Nat) ≤ (140737488355328 : Nat)) then
                bif A.se (decide (List.length ([] ++ l ++ [w]) ≤ (1000 : Nat)) && shortB ([] ++ l ++ [w])) then
                  bif
                      A.se
                        (decide (List.length (A.se (setL l)) ≤ (1000000 : Nat) ∧ List.length w ≤ (1000000 : Nat)) &&
                          (shortB (A.se (setL l)) && risesB (A.se (setL l)))) then
                    bif A.se (decide (w ∈ A.se (setL l))) then
                      bif
                          A.se
                            (decide (List.length (A.se (setL ([] ++ l ++ [w]))) ≤ (1000000 : Nat)) &&
                              shortB (A.se (setL ([] ++ l ++ [w])))) then
                        some (X.d Ty.bool (A.se (decide (A.se (setL ([] ++ l ++ [w])) = A.se (setL l)))), [])
                      else none
                    else
                      bif decide (A.se (↑(cntL (A.se (setL l)) w) : Int) < (0 : Int)) == false then
                        bif decide (A.se (↑(cntL (A.se (setL l)) w) : Int) > (↑(List.length (A.se (setL l))) : Int)) then
                          some (X.d Ty.bool false, [])
                        else
                          bif
                              decide
                                ((0 : Int) ≤ A.se (↑(cntL (A.se (setL l)) w) : Int) ∧
                                  A.se (↑(cntL (A.se (setL l)) w) : Int) ≤ (↑(List.length (A.se (setL l))) : Int)) then
                            bif
                                decide
                                  (((0 : Nat) +
                                        List.length
                                          (List.take (Int.toNat (A.se (↑(cntL (A.se (setL l)) w) : Int)))
                                            (A.se (setL l)))) *
                                      (24 : Nat) ≤
                                    (140737488355328 : Nat)) then
                              bif
                                  decide
                                    ((List.length
                                            ([] ++
                                              List.take (Int.toNat (A.se (↑(cntL (A.se (setL l)) w) : Int)))
                                                (A.se (setL l))) +
                                          List.length [w]) *
                                        (24 : Nat) ≤
                                      (140737488355328 : Nat)) then
                                bif
                                    decide
                                      ((0 : Int) ≤ A.se (↑(cntL (A.se (setL l)) w) : Int) ∧
                                        A.se (↑(cntL (A.se (setL l)) w) : Int) ≤
                                          (↑(List.length (A.se (setL l))) : Int)) then
                                  bif
                                      decide
                                        ((List.length
                                                ([] ++
                                                    List.take (Int.toNat (A.se (↑(cntL (A.se (setL l)) w) : Int)))
                                                      (A.se (setL l)) ++
                                                  [w]) +
                                              List.length
                                                (List.drop (Int.toNat (A.se (↑(cntL (A.se (setL l)) w) : Int)))
                                                  (A.se (setL l)))) *
                                            (24 : Nat) ≤
                                          (140737488355328 : Nat)) then
                                    bif
                                        A.se
                                          (decide (List.length (A.se (setL ([] ++ l ++ [w]))) ≤ (1000000 : Nat)) &&
                                            shortB (A.se (setL ([] ++ l ++ [w])))) then
                                      some
                                        (X.d Ty.bool
                                            (A.se
                                              (decide
                                                (A.se (setL ([] ++ l ++ [w])) =
                                                  [] ++
                                                        List.take (Int.toNat (A.se (↑(cntL (A.se (setL l)) w) : Int)))
                                                          (A.se (setL l)) ++
                                                      [w] ++
                                                    List.drop (Int.toNat (A.se (↑(cntL (A.se (setL l)) w) : Int)))
                                                      (A.se (setL l))))),
                                          [])
                                    else none
                                  else none
                                else none
                              else none
                            else none
                          else none
                      else some (X.d Ty.bool false, [])
                  else none
                else none
              else none
            else none
          else none
      else some (X.d Ty.bool true, [])
    else none) := by kernel_rfl

end Go.Proofs.Ytanbekjefbebaaa.V

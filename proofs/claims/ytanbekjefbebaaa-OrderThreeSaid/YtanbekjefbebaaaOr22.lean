/-
  Chapter 03, order: the trees of OrderThree; two of its regions are told by what they come to. By program; each equation is checked by the kernel.
  It speaks of the pinned program alone; no condition.
-/
import Derived.Test.YtanbekjefbebaaaTJ
namespace Go.Proofs.Ytanbekjefbebaaa.V
open Go
set_option linter.unusedVariables false

def JfarF (A : Ar) : List X → Hp → Tr (List X × Hp)
  | [.sl (.int .i64) a na false, .sl (.int .i64) b nb false, .sl (.int .i64) c nc false, .d .bool up, .d .bool s, .d .bool o, .undef], [] =>
    .test (A.se (decide (List.length a ≤ 1000 ∧ List.length b ≤ 1000 ∧ List.length c ≤ 1000)))
      (.give ([i64s a na false, i64s b nb false, .dead, boolx up, boolx s, boolx o, boolx true], [])) .no
  | _, _ => .no
def JalF (A : Ar) : List X → Hp → Tr (List X × Hp)
  | [.sl (.int .i64) a na false, .sl (.int .i64) b nb false, .d .bool up, .d .bool s, .d .bool o, .d .bool f, .sl (.int .i64) m nm true, .d (.int .i64) k, .dead], [] =>
    .test (A.se (decide (List.length a ≤ 1000 ∧ List.length b ≤ 1000 ∧ k = (comL a b : Int))))
      (.give ([i64s a na false, i64s b nb false, boolx up, boolx s, boolx o, boolx f, i64s m nm true, i64x k, boolx true], [])) .no
  | _, _ => .no
def Jthree (A : Ar) : Jt := fun i => match i with
  | 6 => some (138, [0, 1, 2, 7, 8, 9, 10], JfarF A)
  | 9 => some (138, [0, 1, 7, 8, 9, 10, 11, 12, 13], JalF A)
  | _ => none
def noM : Nat → Nat := fun _ => 0

theorem jFar (A : Ar) (R : Type) (a : List Int) (na : Option Bool) (b : List Int) (nb : Option Bool) (c : List Int) (nc : Option Bool) (up s o : Bool) (k : Ex → List X → Hp → Option R) : stepF (CxM A (Or8 A) noL noM) 1 (.region (rgAt Try.f4 6).1 (rgAt Try.f4 6).2.1 (rgAt Try.f4 6).2.2) 138 [0, 1, 2, 7, 8, 9, 10] [i64s a na false, i64s b nb false, i64s c nc false, boolx up, boolx s, boolx o, .undef] [] k =
    (bif A.se (decide (List.length a ≤ (1000000 : Nat) ∧ List.length b ≤ (1000000 : Nat))) then
      bif (!A.se (ltL a b)) == false then
        bif A.se (decide (List.length b ≤ (1000000 : Nat) ∧ List.length c ≤ (1000000 : Nat))) then
          bif (!A.se (ltL b c)) == false then
            bif A.se (decide (List.length a ≤ (1000000 : Nat) ∧ List.length c ≤ (1000000 : Nat))) then
              k Ex.normal
                [X.sl (Ty.int IntKind.i64) a na false, X.sl (Ty.int IntKind.i64) b nb false,
                  X.sl (Ty.int IntKind.i64) c nc false, X.d Ty.bool up, X.d Ty.bool s, X.d Ty.bool o,
                  X.d Ty.bool (A.se (ltL a c))]
                []
            else none
          else
            k Ex.normal
              [X.sl (Ty.int IntKind.i64) a na false, X.sl (Ty.int IntKind.i64) b nb false,
                X.sl (Ty.int IntKind.i64) c nc false, X.d Ty.bool up, X.d Ty.bool s, X.d Ty.bool o, X.d Ty.bool true]
              []
        else none
      else
        k Ex.normal
          [X.sl (Ty.int IntKind.i64) a na false, X.sl (Ty.int IntKind.i64) b nb false, X.sl (Ty.int IntKind.i64) c nc false,
            X.d Ty.bool up, X.d Ty.bool s, X.d Ty.bool o, X.d Ty.bool true]
          []
    else none) := by kernel_rfl
theorem jAl (A : Ar) (R : Type) (a : List Int) (na : Option Bool) (b : List Int) (nb : Option Bool) (up s o f : Bool) (m : List Int) (nm : Option Bool) (q : Int) (k : Ex → List X → Hp → Option R) : stepF (CxM A (Or8 A) noL noM) 1 (.region (rgAt Try.f4 9).1 (rgAt Try.f4 9).2.1 (rgAt Try.f4 9).2.2) 138 [0, 1, 7, 8, 9, 10, 11, 12, 13] [i64s a na false, i64s b nb false, boolx up, boolx s, boolx o, boolx f, i64s m nm true, i64x q, .dead] [] k =
    (bif decide (q ≤ (↑(List.length a) : Int)) == true then
      bif decide (q ≤ (↑(List.length b) : Int)) == true then
        bif A.se (decide (List.length b ≤ (1000000 : Nat) ∧ List.length a ≤ (1000000 : Nat))) then
          bif (q == A.se (↑(comL b a) : Int)) == true then
            bif decide (q < (↑(List.length a) : Int)) == true then
              bif decide (q < (↑(List.length b) : Int)) == false then
                k Ex.normal
                  [X.sl (Ty.int IntKind.i64) a na false, X.sl (Ty.int IntKind.i64) b nb false, X.d Ty.bool up,
                    X.d Ty.bool s, X.d Ty.bool o, X.d Ty.bool f, X.sl (Ty.int IntKind.i64) m nm true,
                    X.d (Ty.int IntKind.i64) q,
                    X.d Ty.bool
                      (q ==
                        if (↑(List.length b) : Int) < (↑(List.length a) : Int) then (↑(List.length b) : Int)
                        else (↑(List.length a) : Int))]
                  []
              else
                k Ex.normal
                  [X.sl (Ty.int IntKind.i64) a na false, X.sl (Ty.int IntKind.i64) b nb false, X.d Ty.bool up,
                    X.d Ty.bool s, X.d Ty.bool o, X.d Ty.bool f, X.sl (Ty.int IntKind.i64) m nm true,
                    X.d (Ty.int IntKind.i64) q, X.d Ty.bool true]
                  []
            else
              k Ex.normal
                [X.sl (Ty.int IntKind.i64) a na false, X.sl (Ty.int IntKind.i64) b nb false, X.d Ty.bool up, X.d Ty.bool s,
                  X.d Ty.bool o, X.d Ty.bool f, X.sl (Ty.int IntKind.i64) m nm true, X.d (Ty.int IntKind.i64) q,
                  X.d Ty.bool
                    (q ==
                      if (↑(List.length b) : Int) < (↑(List.length a) : Int) then (↑(List.length b) : Int)
                      else (↑(List.length a) : Int))]
                []
          else
            k Ex.normal
              [X.sl (Ty.int IntKind.i64) a na false, X.sl (Ty.int IntKind.i64) b nb false, X.d Ty.bool up, X.d Ty.bool s,
                X.d Ty.bool o, X.d Ty.bool f, X.sl (Ty.int IntKind.i64) m nm true, X.d (Ty.int IntKind.i64) q,
                X.d Ty.bool false]
              []
        else none
      else
        k Ex.normal
          [X.sl (Ty.int IntKind.i64) a na false, X.sl (Ty.int IntKind.i64) b nb false, X.d Ty.bool up, X.d Ty.bool s,
            X.d Ty.bool o, X.d Ty.bool f, X.sl (Ty.int IntKind.i64) m nm true, X.d (Ty.int IntKind.i64) q,
            X.d Ty.bool false]
          []
    else
      k Ex.normal
        [X.sl (Ty.int IntKind.i64) a na false, X.sl (Ty.int IntKind.i64) b nb false, X.d Ty.bool up, X.d Ty.bool s,
          X.d Ty.bool o, X.d Ty.bool f, X.sl (Ty.int IntKind.i64) m nm true, X.d (Ty.int IntKind.i64) q, X.d Ty.bool false]
        []) := by kernel_rfl
theorem tThree (A : Ar) (a : List Int) (na : Bool) (b : List Int) (nb : Bool) (c : List Int) (nc : Bool) : bodyX (CxJ A (Or8 A) noL noM (Jthree A)) 100 Try.f4 [i64s a (some na) false, i64s b (some nb) false, i64s c (some nc) false] [] =
    (bif decide ((↑(List.length a) : Int) > (100 : Int)) == false then
      bif decide ((↑(List.length b) : Int) > (100 : Int)) == false then
        bif decide ((↑(List.length c) : Int) > (100 : Int)) then some (X.d Ty.bool true, [])
        else
          bif A.se (decide (List.length a ≤ (1000000 : Nat))) then
            bif A.se (decide (List.length a ≤ (1000000 : Nat) ∧ List.length b ≤ (1000000 : Nat))) then
              bif A.se (decide (List.length b ≤ (1000000 : Nat) ∧ List.length a ≤ (1000000 : Nat))) then
                bif
                    A.se
                      (decide
                        (List.length a ≤ (1000 : Nat) ∧ List.length b ≤ (1000 : Nat) ∧ List.length c ≤ (1000 : Nat))) then
                  bif decide (((0 : Nat) + List.length a) * (8 : Nat) ≤ (140737488355328 : Nat)) then
                    bif
                        decide
                          ((List.length ([] ++ a) + List.length [(5 : Int)]) * (8 : Nat) ≤ (140737488355328 : Nat)) then
                      bif A.se (decide (List.length a ≤ (1000000 : Nat) ∧ List.length b ≤ (1000000 : Nat))) then
                        bif
                            A.se
                              (decide
                                (List.length a ≤ (1000 : Nat) ∧
                                  List.length b ≤ (1000 : Nat) ∧ A.se (↑(comL a b) : Int) = (↑(comL a b) : Int))) then
                          bif ((!A.se (ltL a b) == A.se (ltL b a)) == !A.se (decide (a = b))) == true then
                            bif
                                A.se
                                  (decide
                                    (List.length a ≤ (1000000 : Nat) ∧
                                      List.length ([] ++ a ++ [(5 : Int)]) ≤ (1000000 : Nat))) then
                              bif A.se (ltL a ([] ++ a ++ [(5 : Int)])) == true then
                                bif A.se (decide (List.length a ≤ (1000000 : Nat) ∧ List.length a ≤ (1000000 : Nat))) then
                                  bif (!A.se (ltL a a)) == true then
                                    bif (A.se (↑(comL a b) : Int) == (↑(List.length a) : Int)) == true then
                                      some
                                        (X.d Ty.bool
                                            (A.se (decide (a = b)) ==
                                              (A.se (↑(comL a b) : Int) == (↑(List.length b) : Int))),
                                          [])
                                    else some (X.d Ty.bool (A.se (decide (a = b)) == false), [])
                                  else some (X.d Ty.bool false, [])
                                else none
                              else some (X.d Ty.bool false, [])
                            else none
                          else some (X.d Ty.bool false, [])
                        else none
                      else none
                    else none
                  else none
                else none
              else none
            else none
          else none
      else some (X.d Ty.bool true, [])
    else some (X.d Ty.bool true, [])) := by kernel_rfl

end Go.Proofs.Ytanbekjefbebaaa.V

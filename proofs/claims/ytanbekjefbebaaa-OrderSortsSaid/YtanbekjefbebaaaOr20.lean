/-
  Chapter 03, order: what the loops of OrderSorts tell; its trees. By program; each equation is checked by the kernel.
  It speaks of the pinned program alone; no condition.
-/
import Derived.Test.YtanbekjefbebaaaOr19
namespace Go.Proofs.Ytanbekjefbebaaa.V
open Go
set_option linter.unusedVariables false

/-- The words from a place on, around. -/
def turnL (l : List (List Int)) (f i : Nat) : List (List Int) := (List.range i).map fun j => l.getD ((j + f) % l.length) []

def LosaF (A : Ar) : List X → Hp → Tr (Ex × List X × Hp)
  | [.sl (.slice (.int .i64)) l nl false, .d (.int .u8) f, .d .bool z, .d .bool up, .sl (.slice (.int .i64)) s ns false, .sl (.slice (.int .i64)) t (some nt) true, .d (.int .i64) i], [] =>
    .test (A.se (decide (List.length l ≤ 200 ∧ 0 ≤ i ∧ i ≤ List.length l ∧ 0 ≤ f ∧ f < 256 ∧ s = setL l ∧ t = turnL l f.toNat i.toNat ∧ nt = t.isEmpty) && shortB l))
      (.give (.exit 0, [.sl (.slice (.int .i64)) l nl false, .dead, .d .bool z, .d .bool up, .sl (.slice (.int .i64)) s ns false, .sl (.slice (.int .i64)) (A.se (turnL l f.toNat (List.length l))) (some (A.se l.isEmpty)) true, .dead], [])) .no
  | _, _ => .no
def LoscF (A : Ar) : List X → Hp → Tr (Ex × List X × Hp)
  | [.sl (.slice (.int .i64)) l nl false, .d .bool z, .d .bool up, .sl (.slice (.int .i64)) s ns false, .sl (.slice (.int .i64)) t nt true, .d (.int .i64) i, .d (.int .i64) n, .d .bool is, .d .bool h, .d (.int .i64) k], [] =>
    .test (A.se (decide (List.length l ≤ 200 ∧ 0 ≤ k ∧ k ≤ List.length l ∧ 0 ≤ i ∧ i < List.length s) && shortB l))
      (.give (.exit 4, [.sl (.slice (.int .i64)) l nl false, .d .bool z, .d .bool up, .sl (.slice (.int .i64)) s ns false, .sl (.slice (.int .i64)) t nt true, .d (.int .i64) i, .d (.int .i64) n, .d .bool is, boolx (A.se (h || decide (s.getD i.toNat [] ∈ l.drop k.toNat))), .dead], [])) .no
  | _, _ => .no
def LosbF (A : Ar) : List X → Hp → Tr (Ex × List X × Hp)
  | [.sl (.slice (.int .i64)) l nl false, .d .bool z, .d .bool up, .sl (.slice (.int .i64)) s ns false, .sl (.slice (.int .i64)) t nt true, .d (.int .i64) i], [] =>
    .test (A.se (decide (List.length l ≤ 200 ∧ 0 ≤ i ∧ i ≤ List.length s ∧ s = setL l) && shortB l))
      (.give (.exit 2, [.sl (.slice (.int .i64)) l nl false, .dead, .d .bool up, .sl (.slice (.int .i64)) s ns false, .sl (.slice (.int .i64)) t nt true, .dead], [])) .no
  | _, _ => .no
def Los (A : Ar) : Lp := fun k => match k with
  | 7 => some (134, [0, 1, 4, 5, 6, 7, 8], LosaF A)
  | 14 => some (134, [0, 4, 5, 6, 7, 11], LosbF A)
  | 19 => some (134, [0, 4, 5, 6, 7, 11, 12, 13, 14, 15], LoscF A)
  | _ => none

theorem lOsa (A : Ar) (R : Type) (l : List (List Int)) (nl : Option Bool) (f : Int) (z up : Bool) (s : List (List Int)) (ns : Option Bool) (t : List (List Int)) (nt : Bool) (i : Int) (k : Ex → List X → Hp → Option R) : stepF (Cx A (Or8 A) (Los A)) 100 (loopAt Try.f5 0) 134 [0, 1, 4, 5, 6, 7, 8] [.sl wT l nl false, u8x f, boolx z, boolx up, .sl wT s ns false, .sl wT t (some nt) true, i64x i] [] k =
    (bif decide (i < (↑(List.length l) : Int)) then
      bif decide ((↑(List.length l) : Int) = (0 : Int)) then none
      else
        bif
            decide
              ((0 : Int) ≤ Int.tmod (A.wrap IntKind.i64 (i + A.wrap IntKind.i64 f)) (↑(List.length l) : Int) ∧
                Int.tmod (A.wrap IntKind.i64 (i + A.wrap IntKind.i64 f)) (↑(List.length l) : Int) <
                  (↑(List.length l) : Int)) then
          bif
              decide
                ((List.length t +
                      List.length
                        [List.getD l
                            (Int.toNat (Int.tmod (A.wrap IntKind.i64 (i + A.wrap IntKind.i64 f)) (↑(List.length l) : Int)))
                            (Ty.zero wT)]) *
                    (24 : Nat) ≤
                  (140737488355328 : Nat)) then
            bif decide ((0 : Int) ≤ i ∧ i < (↑(List.length l) : Int)) then
              bif
                  A.se
                    (decide
                        (List.length s ≤ (1000000 : Nat) ∧
                          List.length (List.getD l (Int.toNat i) (Ty.zero wT)) ≤ (1000000 : Nat)) &&
                      (shortB s && risesB s)) then
                bif !A.se (decide (List.getD l (Int.toNat i) (Ty.zero wT) ∈ s)) then
                  k Ex.ret
                    [X.sl wT l nl false, X.d (Ty.int IntKind.u8) f, X.d Ty.bool false, X.d Ty.bool up, X.sl wT s ns false,
                      X.sl wT
                        (t ++
                          [List.getD l
                              (Int.toNat
                                (Int.tmod (A.wrap IntKind.i64 (i + A.wrap IntKind.i64 f)) (↑(List.length l) : Int)))
                              (Ty.zero wT)])
                        (some
                          (nt &&
                            List.isEmpty
                              [List.getD l
                                  (Int.toNat
                                    (Int.tmod (A.wrap IntKind.i64 (i + A.wrap IntKind.i64 f)) (↑(List.length l) : Int)))
                                  (Ty.zero wT)]))
                        true,
                      X.d (Ty.int IntKind.i64) i]
                    []
                else
                  k Ex.normal
                    [X.sl wT l nl false, X.d (Ty.int IntKind.u8) f, X.d Ty.bool z, X.d Ty.bool up, X.sl wT s ns false,
                      X.sl wT
                        (t ++
                          [List.getD l
                              (Int.toNat
                                (Int.tmod (A.wrap IntKind.i64 (i + A.wrap IntKind.i64 f)) (↑(List.length l) : Int)))
                              (Ty.zero wT)])
                        (some
                          (nt &&
                            List.isEmpty
                              [List.getD l
                                  (Int.toNat
                                    (Int.tmod (A.wrap IntKind.i64 (i + A.wrap IntKind.i64 f)) (↑(List.length l) : Int)))
                                  (Ty.zero wT)]))
                        true,
                      X.d (Ty.int IntKind.i64) (A.wrap IntKind.i64 (i + (1 : Int)))]
                    []
              else none
            else none
          else none
        else none
    else
      k (Ex.exit (0 : Nat))
        [X.sl wT l nl false, X.d (Ty.int IntKind.u8) f, X.d Ty.bool z, X.d Ty.bool up, X.sl wT s ns false,
          X.sl wT t (some nt) true, X.d (Ty.int IntKind.i64) i]
        []) := by kernel_rfl
theorem lOsb (A : Ar) (R : Type) (l : List (List Int)) (nl : Option Bool) (z up : Bool) (s : List (List Int)) (ns : Option Bool) (t : List (List Int)) (nt : Option Bool) (i : Int) (k : Ex → List X → Hp → Option R) : stepF (Cx A (Or8 A) (Los A)) 100 (loopAt Try.f5 1) 134 [0, 4, 5, 6, 7, 11] [.sl wT l nl false, boolx z, boolx up, .sl wT s ns false, .sl wT t nt true, i64x i] [] k =
    (bif decide (i < (↑(List.length s) : Int)) then
      bif decide ((0 : Int) ≤ i ∧ i < (↑(List.length s) : Int)) then
        bif
            A.se
              (decide
                  (List.length s ≤ (1000000 : Nat) ∧
                    List.length (List.getD s (Int.toNat i) (Ty.zero wT)) ≤ (1000000 : Nat)) &&
                (shortB s && risesB s)) then
          bif
              A.se
                (decide
                    (List.length l ≤ (200 : Nat) ∧
                      (0 : Int) ≤ (0 : Int) ∧
                        (0 : Int) ≤ (↑(List.length l) : Int) ∧
                          (0 : Int) ≤ i ∧ i < (↑(List.length s) : Int)) &&
                  shortB l) then
            bif (!A.se (decide (List.getD s (Int.toNat i) (Ty.zero wT) ∈ s))) == false then
              bif (A.se (↑(cntL s (List.getD s (Int.toNat i) (Ty.zero wT))) : Int) != i) == false then
                bif
                    (!A.se (false || decide (List.getD s (Int.toNat i) [] ∈ List.drop (Int.toNat (0 : Int)) l))) ==
                      false then
                  bif decide (i > (0 : Int)) == true then
                    bif
                        decide
                          ((0 : Int) ≤ A.wrap IntKind.i64 (i - (1 : Int)) ∧
                            A.wrap IntKind.i64 (i - (1 : Int)) < (↑(List.length s) : Int)) then
                      bif decide ((0 : Int) ≤ i ∧ i < (↑(List.length s) : Int)) then
                        bif
                            A.se
                              (decide
                                (List.length
                                      (List.getD s (Int.toNat (A.wrap IntKind.i64 (i - (1 : Int))))
                                        (Ty.zero (Ty.slice (Ty.int IntKind.i64)))) ≤
                                    (1000000 : Nat) ∧
                                  List.length (List.getD s (Int.toNat i) (Ty.zero (Ty.slice (Ty.int IntKind.i64)))) ≤
                                    (1000000 : Nat))) then
                          bif
                              !A.se
                                  (ltL
                                    (List.getD s (Int.toNat (A.wrap IntKind.i64 (i - (1 : Int))))
                                      (Ty.zero (Ty.slice (Ty.int IntKind.i64))))
                                    (List.getD s (Int.toNat i) (Ty.zero (Ty.slice (Ty.int IntKind.i64))))) then
                            k Ex.ret
                              [X.sl (Ty.slice (Ty.int IntKind.i64)) l nl false, X.d Ty.bool false, X.d Ty.bool up,
                                X.sl (Ty.slice (Ty.int IntKind.i64)) s ns false,
                                X.sl (Ty.slice (Ty.int IntKind.i64)) t nt true, X.d (Ty.int IntKind.i64) i]
                              []
                          else
                            k Ex.normal
                              [X.sl (Ty.slice (Ty.int IntKind.i64)) l nl false, X.d Ty.bool z, X.d Ty.bool up,
                                X.sl (Ty.slice (Ty.int IntKind.i64)) s ns false,
                                X.sl (Ty.slice (Ty.int IntKind.i64)) t nt true,
                                X.d (Ty.int IntKind.i64) (A.wrap IntKind.i64 (i + (1 : Int)))]
                              []
                        else none
                      else none
                    else none
                  else
                    k Ex.normal
                      [X.sl (Ty.slice (Ty.int IntKind.i64)) l nl false, X.d Ty.bool z, X.d Ty.bool up,
                        X.sl (Ty.slice (Ty.int IntKind.i64)) s ns false, X.sl (Ty.slice (Ty.int IntKind.i64)) t nt true,
                        X.d (Ty.int IntKind.i64) (A.wrap IntKind.i64 (i + (1 : Int)))]
                      []
                else
                  k Ex.ret
                    [X.sl (Ty.slice (Ty.int IntKind.i64)) l nl false, X.d Ty.bool false, X.d Ty.bool up,
                      X.sl (Ty.slice (Ty.int IntKind.i64)) s ns false, X.sl (Ty.slice (Ty.int IntKind.i64)) t nt true,
                      X.d (Ty.int IntKind.i64) i]
                    []
              else
                k Ex.ret
                  [X.sl (Ty.slice (Ty.int IntKind.i64)) l nl false, X.d Ty.bool false, X.d Ty.bool up,
                    X.sl (Ty.slice (Ty.int IntKind.i64)) s ns false, X.sl (Ty.slice (Ty.int IntKind.i64)) t nt true,
                    X.d (Ty.int IntKind.i64) i]
                  []
            else
              k Ex.ret
                [X.sl (Ty.slice (Ty.int IntKind.i64)) l nl false, X.d Ty.bool false, X.d Ty.bool up,
                  X.sl (Ty.slice (Ty.int IntKind.i64)) s ns false, X.sl (Ty.slice (Ty.int IntKind.i64)) t nt true,
                  X.d (Ty.int IntKind.i64) i]
                []
          else none
        else none
      else none
    else
      k (Ex.exit (2 : Nat))
        [X.sl wT l nl false, X.d Ty.bool z, X.d Ty.bool up, X.sl wT s ns false, X.sl wT t nt true,
          X.d (Ty.int IntKind.i64) i]
        []) := by kernel_rfl
theorem lOsc (A : Ar) (R : Type) (l : List (List Int)) (nl : Option Bool) (z up : Bool) (s : List (List Int)) (ns : Option Bool) (t : List (List Int)) (nt : Option Bool) (i n : Int) (is h : Bool) (j : Int) (k : Ex → List X → Hp → Option R) : stepF (Cx A (Or8 A) (Los A)) 100 (loopAt Try.f5 2) 134 [0, 4, 5, 6, 7, 11, 12, 13, 14, 15] [.sl wT l nl false, boolx z, boolx up, .sl wT s ns false, .sl wT t nt true, i64x i, i64x n, boolx is, boolx h, i64x j] [] k =
    (bif decide (j < (↑(List.length l) : Int)) then
      bif h == false then
        bif decide ((0 : Int) ≤ j ∧ j < (↑(List.length l) : Int)) then
          bif decide ((0 : Int) ≤ i ∧ i < (↑(List.length s) : Int)) then
            bif A.se (decide (List.length (List.getD l (Int.toNat j) (Ty.zero wT)) ≤ (1000000 : Nat))) then
              k Ex.normal
                [X.sl wT l nl false, X.d Ty.bool z, X.d Ty.bool up, X.sl wT s ns false, X.sl wT t nt true,
                  X.d (Ty.int IntKind.i64) i, X.d (Ty.int IntKind.i64) n, X.d Ty.bool is,
                  X.d Ty.bool
                    (A.se (decide (List.getD l (Int.toNat j) (Ty.zero wT) = List.getD s (Int.toNat i) (Ty.zero wT)))),
                  X.d (Ty.int IntKind.i64) (A.wrap IntKind.i64 (j + (1 : Int)))]
                []
            else none
          else none
        else none
      else
        k Ex.normal
          [X.sl wT l nl false, X.d Ty.bool z, X.d Ty.bool up, X.sl wT s ns false, X.sl wT t nt true,
            X.d (Ty.int IntKind.i64) i, X.d (Ty.int IntKind.i64) n, X.d Ty.bool is, X.d Ty.bool true,
            X.d (Ty.int IntKind.i64) (A.wrap IntKind.i64 (j + (1 : Int)))]
          []
    else
      k (Ex.exit (4 : Nat))
        [X.sl wT l nl false, X.d Ty.bool z, X.d Ty.bool up, X.sl wT s ns false, X.sl wT t nt true,
          X.d (Ty.int IntKind.i64) i, X.d (Ty.int IntKind.i64) n, X.d Ty.bool is, X.d Ty.bool h, X.d (Ty.int IntKind.i64) j]
        []) := by kernel_rfl
theorem tOs (A : Ar) (l : List (List Int)) (nl : Bool) (f : Int) : bodyX (Cx A (Or8 A) (Los A)) 100 Try.f5 [.sl wT l (some nl) false, u8x f] [] =
    (bif A.se (decide (List.length l ≤ (9000000000000000000 : Nat))) then
      bif !A.se (fewB l (200 : Int)) then some (X.d Ty.bool true, [])
      else
        bif A.se (decide (List.length l ≤ (1000 : Nat)) && shortB l) then
          bif
              A.se
                (decide
                    (List.length l ≤ (200 : Nat) ∧
                      (0 : Int) ≤ (0 : Int) ∧
                        (0 : Int) ≤ (↑(List.length l) : Int) ∧
                          (0 : Int) ≤ f ∧
                            f < (256 : Int) ∧
                              A.se (setL l) = setL l ∧ [] = turnL l (Int.toNat f) (Int.toNat (0 : Int)) ∧ true = true) &&
                  shortB l) then
            bif
                A.se
                  (decide
                      (List.length l ≤ (200 : Nat) ∧
                        (0 : Int) ≤ (0 : Int) ∧
                          (0 : Int) ≤ (↑(List.length (A.se (setL l))) : Int) ∧
                            A.se (setL l) = setL l) &&
                    shortB l) then
              bif A.se (decide (List.length (A.se (setL l)) ≤ (1000 : Nat)) && shortB (A.se (setL l))) then
                bif
                    A.se
                      (decide (List.length (A.se (setL (A.se (setL l)))) ≤ (1000000 : Nat)) &&
                        shortB (A.se (setL (A.se (setL l))))) then
                  bif A.se (decide (A.se (setL (A.se (setL l))) = A.se (setL l))) == true then
                    bif
                        A.se
                          (decide (List.length (A.se (turnL l (Int.toNat f) (List.length l))) ≤ (1000 : Nat)) &&
                            shortB (A.se (turnL l (Int.toNat f) (List.length l)))) then
                      bif
                          A.se
                            (decide
                                (List.length (A.se (setL (A.se (turnL l (Int.toNat f) (List.length l))))) ≤
                                  (1000000 : Nat)) &&
                              shortB (A.se (setL (A.se (turnL l (Int.toNat f) (List.length l)))))) then
                        bif
                            A.se (decide (A.se (setL (A.se (turnL l (Int.toNat f) (List.length l)))) = A.se (setL l))) ==
                              true then
                          some
                            (X.d Ty.bool (decide ((↑(List.length (A.se (setL l))) : Int) ≤ (↑(List.length l) : Int))), [])
                        else some (X.d Ty.bool false, [])
                      else none
                    else none
                  else some (X.d Ty.bool false, [])
                else none
              else none
            else none
          else none
        else none
    else none) := by kernel_rfl

end Go.Proofs.Ytanbekjefbebaaa.V

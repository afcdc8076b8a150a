/-
  Chapter 09, word lists: the trees of WordsHas; some of its regions are told. By program; each equation is checked by the kernel.
  It speaks of the pinned program alone; no condition.
-/
import Derived.Test.YtaefpopjlmhmoaaDoorWo5
namespace Go.Proofs.YtaefpopjlmhmoaaDoor.V
open Go
set_option linter.unusedVariables false

def noM8 : Nat → Nat := fun _ => 0
/-- A line of one word, that is there. -/
def lineIn (l : List (List Int)) (q : List Int) : Bool := L.bareB q || (decide ((L.fieldsL q).length = 1) && (U.rdE ((L.fieldsL q).getD 0 []) == 0 && decide (U.rdL ((L.fieldsL q).getD 0 []) ∈ l)))
def fullN (ls : List (List Int)) : Nat := (ls.filter fun q => !(L.bareB q)).length
def errB (ls : List (List Int)) (t : Int) : Bool := decide (0 ≤ t ∧ t < ls.length) && (okL ls && !(L.bareB (ls.getD t.toNat [])))
def endB (l : List (List Int)) (t n : Int) : Bool := decide ((l.length : Int) ≤ n) && ((n == 0 || decide ((l.length : Int) > 0)) && t == -1)

def LhaF (A : Ar) : List X → Hp → Tr (Ex × List X × Hp)
  | [.d .bool z, .d .bool up, .sl (.slice (.int .i64)) l nl false, .d (.int .i64) t, .sl (.slice (.int .u8)) ls ns false, .d (.int .i64) n, .d (.int .i64) i], [] =>
    .test (A.se (decide (0 ≤ i ∧ i ≤ List.length ls ∧ List.length ls ≤ 1000000 ∧ List.length l ≤ 1000 ∧ 0 ≤ n ∧ n ≤ i) && (okL ls && (short20 l && (R.risesB l && List.all (List.drop i.toNat ls) (lineIn l))))))
      (.give (.exit 0, [boolx z, boolx up, .sl (.slice (.int .i64)) l nl false, i64x t, .dead, i64x (A.se (n + fullN (List.drop i.toNat ls))), .dead], [])) .no
  | _, _ => .no
def LhbF (A : Ar) : List X → Hp → Tr (Ex × List X × Hp)
  | [.d .bool z, .d .bool up, .sl (.slice (.int .i64)) l nl false, .d (.int .i64) t, .d (.int .i64) n, .d (.int .i64) i], [] =>
    .test (A.se (decide (0 ≤ i ∧ i ≤ List.length l ∧ List.length l ≤ 1000) && (List.all l fitB && R.risesB l)))
      (.give (.exit 2, [boolx z, boolx up, .sl (.slice (.int .i64)) l nl false, i64x t, i64x n, .dead], [])) .no
  | _, _ => .no
def Lha (A : Ar) : Lp := fun k => match k with
  | 10 => some (146, [2, 3, 4, 5, 7, 8, 9], LhaF A)
  | 22 => some (146, [2, 3, 4, 5, 8, 15], LhbF A)
  | _ => none
def JerrF (A : Ar) : List X → Hp → Tr (List X × Hp)
  | [.d .bool false, .d .bool true, .d (.int .i64) t, .sl (.slice (.int .u8)) ls ns false], [] =>
    .test (A.se (errB ls t)) (.give ([boolx true, .dead, .dead, .dead], [])) .no
  | _, _ => .no
def JendF (A : Ar) : List X → Hp → Tr (List X × Hp)
  | [.d .bool z, .d .bool true, .sl (.slice (.int .i64)) l nl false, .d (.int .i64) t, .d (.int .i64) n], [] =>
    .test (A.se (endB l t n)) (.give ([boolx true, .dead, .dead, .dead, .dead], [])) .no
  | _, _ => .no
def Jha (A : Ar) : Jt := fun i => match i with
  | 7 => some (146, [2, 3, 5, 7], JerrF A)
  | 26 => some (146, [2, 3, 4, 5, 8], JendF A)
  | _ => none

theorem jErr (A : Ar) (R : Type) (t : Int) (ls : List (List Int)) (ns : Option Bool) (k : Ex → List X → Hp → Option R) : stepF (CxM A (Ow12 A) (Lha A) noM8) 1 (.region (rgAt Tryd.f5 7).1 (rgAt Tryd.f5 7).2.1 (rgAt Tryd.f5 7).2.2) 146 [2, 3, 5, 7] [boolx false, boolx true, i64x t, .sl L.sT ls ns false] [] k =
    (bif decide (t ≥ (0 : Int)) == true then
      bif decide (t < (↑(List.length ls) : Int)) == true then
        bif decide ((0 : Int) ≤ t ∧ t < (↑(List.length ls) : Int)) then
          bif L.Ok A (List.getD ls (Int.toNat t) (Ty.zero L.sT)) none then
            k Ex.normal
              [X.d Ty.bool !A.se (L.bareB (List.getD ls (Int.toNat t) (Ty.zero L.sT))), X.d Ty.bool true,
                X.d (Ty.int IntKind.i64) t, X.sl L.sT ls ns false]
              []
          else none
        else none
      else k Ex.normal [X.d Ty.bool false, X.d Ty.bool true, X.d (Ty.int IntKind.i64) t, X.sl L.sT ls ns false] []
    else k Ex.normal [X.d Ty.bool false, X.d Ty.bool true, X.d (Ty.int IntKind.i64) t, X.sl L.sT ls ns false] []) := by kernel_rfl
theorem jEnd (A : Ar) (R : Type) (z : Bool) (l : List (List Int)) (nl : Option Bool) (t n : Int) (k : Ex → List X → Hp → Option R) : stepF (CxM A (Ow12 A) (Lha A) noM8) 1 (.region (rgAt Tryd.f5 26).1 (rgAt Tryd.f5 26).2.1 (rgAt Tryd.f5 26).2.2) 146 [2, 3, 4, 5, 8] [boolx z, boolx true, .sl wTy l nl false, i64x t, i64x n] [] k =
    (bif decide ((↑(List.length l) : Int) ≤ n) == true then
      bif (n == (0 : Int)) == false then
        bif decide ((↑(List.length l) : Int) > (0 : Int)) == true then
          k Ex.normal
            [X.d Ty.bool (t == (-1 : Int)), X.d Ty.bool true, X.sl wTy l nl false, X.d (Ty.int IntKind.i64) t,
              X.d (Ty.int IntKind.i64) n]
            []
        else
          k Ex.normal
            [X.d Ty.bool false, X.d Ty.bool true, X.sl wTy l nl false, X.d (Ty.int IntKind.i64) t,
              X.d (Ty.int IntKind.i64) n]
            []
      else
        k Ex.normal
          [X.d Ty.bool (t == (-1 : Int)), X.d Ty.bool true, X.sl wTy l nl false, X.d (Ty.int IntKind.i64) t,
            X.d (Ty.int IntKind.i64) n]
          []
    else
      k Ex.normal
        [X.d Ty.bool false, X.d Ty.bool true, X.sl wTy l nl false, X.d (Ty.int IntKind.i64) t, X.d (Ty.int IntKind.i64) n]
        []) := by kernel_rfl
theorem lHa (A : Ar) (R : Type) (z up : Bool) (l : List (List Int)) (nl : Option Bool) (t : Int) (ls : List (List Int)) (ns : Option Bool) (n i : Int) (k : Ex → List X → Hp → Option R) : stepF (CxJ A (Ow12 A) (Lha A) noM8 (Jha A)) 100 (loopAt Tryd.f5 0) 146 [2, 3, 4, 5, 7, 8, 9] [boolx z, boolx up, .sl wTy l nl false, i64x t, .sl L.sT ls ns false, i64x n, i64x i] [] k =
    (bif decide (i < (↑(List.length ls) : Int)) then
      bif decide ((0 : Int) ≤ i ∧ i < (↑(List.length ls) : Int)) then
        bif L.Ok A (List.getD ls (Int.toNat i) (Ty.zero L.sT)) none then
          bif A.se (L.bareB (List.getD ls (Int.toNat i) (Ty.zero L.sT))) then
            k Ex.normal
              [X.d Ty.bool z, X.d Ty.bool up, X.sl wTy l nl false, X.d (Ty.int IntKind.i64) t, X.sl L.sT ls ns false,
                X.d (Ty.int IntKind.i64) n, X.d (Ty.int IntKind.i64) (A.wrap IntKind.i64 (i + (1 : Int)))]
              []
          else
            bif decide ((0 : Int) ≤ i ∧ i < (↑(List.length ls) : Int)) then
              bif L.Ok A (List.getD ls (Int.toNat i) (Ty.zero L.sT)) none then
                bif (↑(List.length (A.se (L.fieldsL (List.getD ls (Int.toNat i) (Ty.zero L.sT))))) : Int) != (1 : Int) then
                  k Ex.ret
                    [X.d Ty.bool false, X.d Ty.bool up, X.sl wTy l nl false, X.d (Ty.int IntKind.i64) t,
                      X.sl L.sT ls ns false, X.d (Ty.int IntKind.i64) n, X.d (Ty.int IntKind.i64) i]
                    []
                else
                  bif
                      decide
                        ((0 : Int) ≤ (0 : Int) ∧
                          (0 : Int) <
                            (↑(List.length (A.se (L.fieldsL (List.getD ls (Int.toNat i) (Ty.zero L.sT))))) : Int)) then
                    bif
                        A.se
                          (bytesB
                              (List.getD (A.se (L.fieldsL (List.getD ls (Int.toNat i) (Ty.zero L.sT))))
                                (Int.toNat (0 : Int)) (Ty.zero L.sT)) &&
                            decide
                              (List.length
                                  (List.getD (A.se (L.fieldsL (List.getD ls (Int.toNat i) (Ty.zero L.sT))))
                                    (Int.toNat (0 : Int)) (Ty.zero L.sT)) ≤
                                (1000000 : Nat))) then
                      bif
                          A.se
                            (decide
                                (List.length l ≤ (1000000 : Nat) ∧
                                  List.length
                                      (A.se
                                        (U.rdL
                                          (List.getD (A.se (L.fieldsL (List.getD ls (Int.toNat i) (Ty.zero L.sT))))
                                            (Int.toNat (0 : Int)) (Ty.zero L.sT)))) ≤
                                    (1000000 : Nat)) &&
                              (V.R.shortB l && V.R.risesB l)) then
                        bif
                            (A.se
                                  (U.rdE
                                    (List.getD (A.se (L.fieldsL (List.getD ls (Int.toNat i) (Ty.zero L.sT))))
                                      (Int.toNat (0 : Int)) (Ty.zero L.sT))) !=
                                (0 : Int)) ==
                              false then
                          bif
                              !A.se
                                  (decide
                                    (A.se
                                        (U.rdL
                                          (List.getD (A.se (L.fieldsL (List.getD ls (Int.toNat i) (Ty.zero L.sT))))
                                            (Int.toNat (0 : Int)) (Ty.zero L.sT))) ∈
                                      l)) then
                            k Ex.ret
                              [X.d Ty.bool false, X.d Ty.bool up, X.sl wTy l nl false, X.d (Ty.int IntKind.i64) t,
                                X.sl L.sT ls ns false, X.d (Ty.int IntKind.i64) n, X.d (Ty.int IntKind.i64) i]
                              []
                          else
                            k Ex.normal
                              [X.d Ty.bool z, X.d Ty.bool up, X.sl wTy l nl false, X.d (Ty.int IntKind.i64) t,
                                X.sl L.sT ls ns false, X.d (Ty.int IntKind.i64) (A.wrap IntKind.i64 (n + (1 : Int))),
                                X.d (Ty.int IntKind.i64) (A.wrap IntKind.i64 (i + (1 : Int)))]
                              []
                        else
                          k Ex.ret
                            [X.d Ty.bool false, X.d Ty.bool up, X.sl wTy l nl false, X.d (Ty.int IntKind.i64) t,
                              X.sl L.sT ls ns false, X.d (Ty.int IntKind.i64) n, X.d (Ty.int IntKind.i64) i]
                            []
                      else none
                    else none
                  else none
              else none
            else none
        else none
      else none
    else
      k (Ex.exit (0 : Nat))
        [X.d Ty.bool z, X.d Ty.bool up, X.sl wTy l nl false, X.d (Ty.int IntKind.i64) t, X.sl L.sT ls ns false,
          X.d (Ty.int IntKind.i64) n, X.d (Ty.int IntKind.i64) i]
        []) := by kernel_rfl
theorem lHb (A : Ar) (R : Type) (z up : Bool) (l : List (List Int)) (nl : Option Bool) (t n i : Int) (k : Ex → List X → Hp → Option R) : stepF (CxJ A (Ow12 A) (Lha A) noM8 (Jha A)) 100 (loopAt Tryd.f5 1) 146 [2, 3, 4, 5, 8, 15] [.d .bool z, boolx up, .sl wTy l nl false, i64x t, i64x n, i64x i] [] k =
    (bif decide (i < (↑(List.length l) : Int)) then
      bif decide ((0 : Int) ≤ i ∧ i < (↑(List.length l) : Int)) then
        bif A.se (decide (List.length (List.getD l (Int.toNat i) (Ty.zero wTy)) ≤ (1000000 : Nat))) then
          bif (!A.se (fitB (List.getD l (Int.toNat i) (Ty.zero wTy)))) == false then
            bif decide (i > (0 : Int)) == true then
              bif
                  decide
                    ((0 : Int) ≤ A.wrap IntKind.i64 (i - (1 : Int)) ∧
                      A.wrap IntKind.i64 (i - (1 : Int)) < (↑(List.length l) : Int)) then
                bif decide ((0 : Int) ≤ i ∧ i < (↑(List.length l) : Int)) then
                  bif
                      A.se
                        (decide
                          (List.length (List.getD l (Int.toNat (A.wrap IntKind.i64 (i - (1 : Int)))) (Ty.zero wTy)) ≤
                              (1000000 : Nat) ∧
                            List.length (List.getD l (Int.toNat i) (Ty.zero wTy)) ≤ (1000000 : Nat))) then
                    bif
                        (!A.se
                              (V.R.ltL (List.getD l (Int.toNat (A.wrap IntKind.i64 (i - (1 : Int)))) (Ty.zero wTy))
                                (List.getD l (Int.toNat i) (Ty.zero wTy)))) ==
                          false then
                      bif decide ((0 : Int) ≤ i ∧ i < (↑(List.length l) : Int)) then
                        bif A.se (decide (List.length (List.getD l (Int.toNat i) (Ty.zero wTy)) ≤ (1000000 : Nat))) then
                          bif A.se (decide (List.getD l (Int.toNat i) (Ty.zero wTy) = [])) then
                            k Ex.ret
                              [X.d Ty.bool false, X.d Ty.bool up, X.sl wTy l nl false, X.d (Ty.int IntKind.i64) t,
                                X.d (Ty.int IntKind.i64) n, X.d (Ty.int IntKind.i64) i]
                              []
                          else
                            k Ex.normal
                              [X.d Ty.bool z, X.d Ty.bool up, X.sl wTy l nl false, X.d (Ty.int IntKind.i64) t,
                                X.d (Ty.int IntKind.i64) n, X.d (Ty.int IntKind.i64) (A.wrap IntKind.i64 (i + (1 : Int)))]
                              []
                        else none
                      else none
                    else
                      k Ex.ret
                        [X.d Ty.bool false, X.d Ty.bool up, X.sl wTy l nl false, X.d (Ty.int IntKind.i64) t,
                          X.d (Ty.int IntKind.i64) n, X.d (Ty.int IntKind.i64) i]
                        []
                  else none
                else none
              else none
            else
              bif decide ((0 : Int) ≤ i ∧ i < (↑(List.length l) : Int)) then
                bif A.se (decide (List.length (List.getD l (Int.toNat i) (Ty.zero wTy)) ≤ (1000000 : Nat))) then
                  bif A.se (decide (List.getD l (Int.toNat i) (Ty.zero wTy) = [])) then
                    k Ex.ret
                      [X.d Ty.bool false, X.d Ty.bool up, X.sl wTy l nl false, X.d (Ty.int IntKind.i64) t,
                        X.d (Ty.int IntKind.i64) n, X.d (Ty.int IntKind.i64) i]
                      []
                  else
                    k Ex.normal
                      [X.d Ty.bool z, X.d Ty.bool up, X.sl wTy l nl false, X.d (Ty.int IntKind.i64) t,
                        X.d (Ty.int IntKind.i64) n, X.d (Ty.int IntKind.i64) (A.wrap IntKind.i64 (i + (1 : Int)))]
                      []
                else none
              else none
          else
            k Ex.ret
              [X.d Ty.bool false, X.d Ty.bool up, X.sl wTy l nl false, X.d (Ty.int IntKind.i64) t,
                X.d (Ty.int IntKind.i64) n, X.d (Ty.int IntKind.i64) i]
              []
        else none
      else none
    else
      k (Ex.exit (2 : Nat))
        [X.d Ty.bool z, X.d Ty.bool up, X.sl wTy l nl false, X.d (Ty.int IntKind.i64) t, X.d (Ty.int IntKind.i64) n,
          X.d (Ty.int IntKind.i64) i]
        []) := by kernel_rfl
theorem tHas (A : Ar) (b : List Int) (nb : Bool) : bodyX (CxJ A (Ow12 A) (Lha A) noM8 (Jha A)) 100 Tryd.f5 [u8s b (some nb) false] [] =
    (bif decide ((↑(List.length b) : Int) > (3000 : Int)) then some (X.d Ty.bool true, [])
    else
      bif L.Ok A b (some nb) then
        bif L.Ok A b (some nb) then
          bif A.se (readW b).snd.snd != (0 : Int) then
            bif A.se (errB (A.se (L.splitL b)) (A.se (readW b).snd.fst)) then some (X.d Ty.bool true, []) else none
          else
            bif
                A.se
                  (decide
                      ((0 : Int) ≤ (0 : Int) ∧
                        (0 : Int) ≤ (↑(List.length (A.se (L.splitL b))) : Int) ∧
                          List.length (A.se (L.splitL b)) ≤ (1000000 : Nat) ∧
                            List.length (A.se (readW b).fst) ≤ (1000 : Nat) ∧
                              (0 : Int) ≤ (0 : Int) ∧ (0 : Int) ≤ (0 : Int)) &&
                    (okL (A.se (L.splitL b)) &&
                      (short20 (A.se (readW b).fst) &&
                        (R.risesB (A.se (readW b).fst) &&
                          List.all (List.drop (Int.toNat (0 : Int)) (A.se (L.splitL b)))
                            (lineIn (A.se (readW b).fst)))))) then
              bif
                  A.se
                    (decide
                        ((0 : Int) ≤ (0 : Int) ∧
                          (0 : Int) ≤ (↑(List.length (A.se (readW b).fst)) : Int) ∧
                            List.length (A.se (readW b).fst) ≤ (1000 : Nat)) &&
                      (List.all (A.se (readW b).fst) fitB && R.risesB (A.se (readW b).fst))) then
                bif
                    A.se
                      (endB (A.se (readW b).fst) (A.se (readW b).snd.fst)
                        (A.se ((0 : Int) + (↑(fullN (List.drop (Int.toNat (0 : Int)) (A.se (L.splitL b)))) : Int)))) then
                  some (X.d Ty.bool true, [])
                else none
              else none
            else none
        else none
      else none) := by kernel_rfl

end Go.Proofs.YtaefpopjlmhmoaaDoor.V

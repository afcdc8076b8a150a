/-
  Chapter 09, word lists: the trees of WordsCuts; some of its regions are told. By program; each equation is checked by the kernel.
  It speaks of the pinned program alone; no condition.
-/
import Derived.Test.YtaefpopjlmhmoaaDoorWo5
namespace Go.Proofs.YtaefpopjlmhmoaaDoor.V
open Go
set_option linter.unusedVariables false

def noM11 : Nat → Nat := fun _ => 0
def LcaF (A : Ar) : List X → Hp → Tr (Ex × List X × Hp)
  | [.sl (.int .u8) b nb false, .d .bool z, .d .bool up, .sl (.slice (.int .u8)) ls ns false, .d (.int .i64) m, .sl (.int .u8) out (some x) true, .d (.int .i64) i], [] =>
    .test (A.se (decide (0 ≤ i ∧ i ≤ m ∧ m ≤ List.length ls ∧ List.length ls ≤ 50001 ∧ (List.length out : Int) ≤ 50001 * i) && (okL ls && x == List.isEmpty out)))
      (.give (.exit 0, [u8s b nb false, boolx z, boolx up, .dead, i64x m, u8s (A.se (out ++ L.joinE (List.take (m - i).toNat (List.drop i.toNat ls)))) (some (A.se (List.isEmpty (out ++ L.joinE (List.take (m - i).toNat (List.drop i.toNat ls)))))) true, .dead], [])) .no
  | _, _ => .no
def LcbF (A : Ar) : List X → Hp → Tr (Ex × List X × Hp)
  | [.d .bool z, .d .bool up, .sl (.slice (.int .i64)) x nx false, .d (.int .i64) e, .sl (.slice (.int .i64)) y ny false, .d (.int .i64) t, .d (.int .i64) f, .d (.int .i64) m], [] =>
    .test (A.se (decide (0 ≤ m ∧ m ≤ List.length y ∧ List.length y ≤ 1000 ∧ List.length x ≤ 1000) && (short20 x && (R.risesB x && (short20 y && (!(e == 0) || List.all y fun w => decide (w ∈ x)))))))
      (.give (.exit 2, [boolx z, boolx up, .dead, .dead, .dead, i64x t, i64x f, .dead], [])) .no
  | _, _ => .no
def Lca (A : Ar) : Lp := fun k => match k with
  | 8 => some (105, [0, 4, 5, 6, 7, 8, 9], LcaF A)
  | 16 => some (105, [4, 5, 10, 12, 13, 14, 15, 16], LcbF A)
  | _ => none

theorem lCa (A : Ar) (R : Type) (b : List Int) (nb : Option Bool) (z up : Bool) (ls : List (List Int)) (ns : Option Bool) (m : Int) (out : List Int) (x : Bool) (i : Int) (k : Ex → List X → Hp → Option R) : stepF (Cx A (Ow12 A) (Lca A)) 100 (loopAt Tryd.f7 0) 105 [0, 4, 5, 6, 7, 8, 9] [u8s b nb false, boolx z, boolx up, .sl L.sT ls ns false, i64x m, u8s out (some x) true, i64x i] [] k =
    (bif decide (i < m) then
      bif decide ((0 : Int) ≤ i ∧ i < (↑(List.length ls) : Int)) then
        bif
            decide
              ((List.length out + List.length (List.getD ls (Int.toNat i) (Ty.zero L.sT))) * (1 : Nat) ≤
                (140737488355328 : Nat)) then
          bif
              decide
                ((List.length (out ++ List.getD ls (Int.toNat i) (Ty.zero L.sT)) + List.length [(10 : Int)]) * (1 : Nat) ≤
                  (140737488355328 : Nat)) then
            k Ex.normal
              [X.sl (Ty.int IntKind.u8) b nb false, X.d Ty.bool z, X.d Ty.bool up, X.sl L.sT ls ns false,
                X.d (Ty.int IntKind.i64) m,
                X.sl (Ty.int IntKind.u8) (out ++ List.getD ls (Int.toNat i) (Ty.zero L.sT) ++ [(10 : Int)])
                  (some (x && List.isEmpty (List.getD ls (Int.toNat i) (Ty.zero L.sT)) && List.isEmpty [(10 : Int)])) true,
                X.d (Ty.int IntKind.i64) (A.wrap IntKind.i64 (i + (1 : Int)))]
              []
          else none
        else none
      else none
    else
      k (Ex.exit (0 : Nat))
        [X.sl (Ty.int IntKind.u8) b nb false, X.d Ty.bool z, X.d Ty.bool up, X.sl L.sT ls ns false,
          X.d (Ty.int IntKind.i64) m, X.sl (Ty.int IntKind.u8) out (some x) true, X.d (Ty.int IntKind.i64) i]
        []) := by kernel_rfl
theorem lCb (A : Ar) (R : Type) (z up : Bool) (x : List (List Int)) (nx : Option Bool) (e : Int) (y : List (List Int)) (ny : Option Bool) (t f m : Int) (k : Ex → List X → Hp → Option R) : stepF (Cx A (Ow12 A) (Lca A)) 100 (loopAt Tryd.f7 1) 105 [4, 5, 10, 12, 13, 14, 15, 16] [boolx z, boolx up, .sl wTy x nx false, i64x e, .sl wTy y ny false, i64x t, i64x f, i64x m] [] k =
    (bif decide (m < (↑(List.length y) : Int)) == true then
      bif e == (0 : Int) then
        bif decide ((0 : Int) ≤ m ∧ m < (↑(List.length y) : Int)) then
          bif
              A.se
                (decide
                    (List.length x ≤ (1000000 : Nat) ∧
                      List.length (List.getD y (Int.toNat m) (Ty.zero wTy)) ≤ (1000000 : Nat)) &&
                  (V.R.shortB x && V.R.risesB x)) then
            bif !A.se (decide (List.getD y (Int.toNat m) (Ty.zero wTy) ∈ x)) then
              k Ex.ret
                [X.d Ty.bool false, X.d Ty.bool up, X.sl wTy x nx false, X.d (Ty.int IntKind.i64) e, X.sl wTy y ny false,
                  X.d (Ty.int IntKind.i64) t, X.d (Ty.int IntKind.i64) f, X.d (Ty.int IntKind.i64) m]
                []
            else
              k Ex.normal
                [X.d Ty.bool z, X.d Ty.bool up, X.sl wTy x nx false, X.d (Ty.int IntKind.i64) e, X.sl wTy y ny false,
                  X.d (Ty.int IntKind.i64) t, X.d (Ty.int IntKind.i64) f,
                  X.d (Ty.int IntKind.i64) (A.wrap IntKind.i64 (m + (1 : Int)))]
                []
          else none
        else none
      else
        k (Ex.exit (2 : Nat))
          [X.d Ty.bool z, X.d Ty.bool up, X.sl wTy x nx false, X.d (Ty.int IntKind.i64) e, X.sl wTy y ny false,
            X.d (Ty.int IntKind.i64) t, X.d (Ty.int IntKind.i64) f, X.d (Ty.int IntKind.i64) m]
          []
    else
      k (Ex.exit (2 : Nat))
        [X.d Ty.bool z, X.d Ty.bool up, X.sl wTy x nx false, X.d (Ty.int IntKind.i64) e, X.sl wTy y ny false,
          X.d (Ty.int IntKind.i64) t, X.d (Ty.int IntKind.i64) f, X.d (Ty.int IntKind.i64) m]
        []) := by kernel_rfl
theorem tCuts (A : Ar) (b : List Int) (nb : Bool) (n : Int) : bodyX (Cx A (Ow12 A) (Lca A)) 100 Tryd.f7 [u8s b (some nb) false, u16x n] [] =
    (bif decide ((↑(List.length b) : Int) > (2000 : Int)) then some (X.d Ty.bool true, [])
    else
      bif L.Ok A b (some nb) then
        bif
            decide
              (A.wrap IntKind.i64 ((↑(List.length (A.se (L.splitL b))) : Int) + (1 : Int)) =
                (0 : Int)) then
          none
        else
          bif
              A.se
                (decide
                    ((0 : Int) ≤ (0 : Int) ∧
                      (0 : Int) ≤
                          Int.tmod (A.wrap IntKind.i64 n)
                            (A.wrap IntKind.i64 ((↑(List.length (A.se (L.splitL b))) : Int) + (1 : Int))) ∧
                        Int.tmod (A.wrap IntKind.i64 n)
                              (A.wrap IntKind.i64 ((↑(List.length (A.se (L.splitL b))) : Int) + (1 : Int))) ≤
                            (↑(List.length (A.se (L.splitL b))) : Int) ∧
                          List.length (A.se (L.splitL b)) ≤ (50001 : Nat) ∧
                            (↑(0 : Nat) : Int) ≤ (50001 : Int) * (0 : Int)) &&
                  (okL (A.se (L.splitL b)) && true == true)) then
            bif L.Ok A b (some nb) then
              bif
                  L.Ok A
                    (A.se
                      ([] ++
                        L.joinE
                          (List.take
                            (Int.toNat
                              (Int.tmod (A.wrap IntKind.i64 n)
                                  (A.wrap IntKind.i64 ((↑(List.length (A.se (L.splitL b))) : Int) + (1 : Int))) -
                                (0 : Int)))
                            (List.drop (Int.toNat (0 : Int)) (A.se (L.splitL b))))))
                    (some
                      (A.se
                        (List.isEmpty
                          ([] ++
                            L.joinE
                              (List.take
                                (Int.toNat
                                  (Int.tmod (A.wrap IntKind.i64 n)
                                      (A.wrap IntKind.i64 ((↑(List.length (A.se (L.splitL b))) : Int) + (1 : Int))) -
                                    (0 : Int)))
                                (List.drop (Int.toNat (0 : Int)) (A.se (L.splitL b)))))))) then
                bif (A.se (readW b).snd.snd != (0 : Int)) == true then
                  bif
                      decide
                        (A.se (readW b).snd.fst <
                          Int.tmod (A.wrap IntKind.i64 n)
                            (A.wrap IntKind.i64 ((↑(List.length (A.se (L.splitL b))) : Int) + (1 : Int)))) then
                    bif
                        (A.se
                              (readW
                                    (A.se
                                      ([] ++
                                        L.joinE
                                          (List.take
                                            (Int.toNat
                                              (Int.tmod (A.wrap IntKind.i64 n)
                                                  (A.wrap IntKind.i64
                                                    ((↑(List.length (A.se (L.splitL b))) : Int) + (1 : Int))) -
                                                (0 : Int)))
                                            (List.drop (Int.toNat (0 : Int)) (A.se (L.splitL b))))))).snd.snd ==
                            A.se (readW b).snd.snd) ==
                          true then
                      some
                        (X.d Ty.bool
                            (A.se
                                (readW
                                      (A.se
                                        ([] ++
                                          L.joinE
                                            (List.take
                                              (Int.toNat
                                                (Int.tmod (A.wrap IntKind.i64 n)
                                                    (A.wrap IntKind.i64
                                                      ((↑(List.length (A.se (L.splitL b))) : Int) + (1 : Int))) -
                                                  (0 : Int)))
                                              (List.drop (Int.toNat (0 : Int)) (A.se (L.splitL b))))))).snd.fst ==
                              A.se (readW b).snd.fst),
                          [])
                    else some (X.d Ty.bool false, [])
                  else
                    bif
                        A.se
                          (decide
                              ((0 : Int) ≤ (0 : Int) ∧
                                (0 : Int) ≤
                                    (↑(List.length
                                          (A.se
                                            (readW
                                                (A.se
                                                  ([] ++
                                                    L.joinE
                                                      (List.take
                                                        (Int.toNat
                                                          (Int.tmod (A.wrap IntKind.i64 n)
                                                              (A.wrap IntKind.i64
                                                                ((↑(List.length (A.se (L.splitL b))) : Int) + (1 : Int))) -
                                                            (0 : Int)))
                                                        (List.drop (Int.toNat (0 : Int)) (A.se (L.splitL b))))))).fst)) :
                                      Int) ∧
                                  List.length
                                        (A.se
                                          (readW
                                              (A.se
                                                ([] ++
                                                  L.joinE
                                                    (List.take
                                                      (Int.toNat
                                                        (Int.tmod (A.wrap IntKind.i64 n)
                                                            (A.wrap IntKind.i64
                                                              ((↑(List.length (A.se (L.splitL b))) : Int) + (1 : Int))) -
                                                          (0 : Int)))
                                                      (List.drop (Int.toNat (0 : Int)) (A.se (L.splitL b))))))).fst) ≤
                                      (1000 : Nat) ∧
                                    List.length (A.se (readW b).fst) ≤ (1000 : Nat)) &&
                            (short20 (A.se (readW b).fst) &&
                              (R.risesB (A.se (readW b).fst) &&
                                (short20
                                    (A.se
                                      (readW
                                          (A.se
                                            ([] ++
                                              L.joinE
                                                (List.take
                                                  (Int.toNat
                                                    (Int.tmod (A.wrap IntKind.i64 n)
                                                        (A.wrap IntKind.i64
                                                          ((↑(List.length (A.se (L.splitL b))) : Int) + (1 : Int))) -
                                                      (0 : Int)))
                                                  (List.drop (Int.toNat (0 : Int)) (A.se (L.splitL b))))))).fst) &&
                                  (!A.se (readW b).snd.snd == (0 : Int) ||
                                    List.all
                                      (A.se
                                        (readW
                                            (A.se
                                              ([] ++
                                                L.joinE
                                                  (List.take
                                                    (Int.toNat
                                                      (Int.tmod (A.wrap IntKind.i64 n)
                                                          (A.wrap IntKind.i64
                                                            ((↑(List.length (A.se (L.splitL b))) : Int) + (1 : Int))) -
                                                        (0 : Int)))
                                                    (List.drop (Int.toNat (0 : Int)) (A.se (L.splitL b))))))).fst)
                                      fun w => decide (w ∈ A.se (readW b).fst)))))) then
                      bif
                          (A.se
                                (readW
                                      (A.se
                                        ([] ++
                                          L.joinE
                                            (List.take
                                              (Int.toNat
                                                (Int.tmod (A.wrap IntKind.i64 n)
                                                    (A.wrap IntKind.i64
                                                      ((↑(List.length (A.se (L.splitL b))) : Int) + (1 : Int))) -
                                                  (0 : Int)))
                                              (List.drop (Int.toNat (0 : Int)) (A.se (L.splitL b))))))).snd.snd ==
                              (0 : Int)) ==
                            true then
                        some
                          (X.d Ty.bool
                              (A.se
                                  (readW
                                        (A.se
                                          ([] ++
                                            L.joinE
                                              (List.take
                                                (Int.toNat
                                                  (Int.tmod (A.wrap IntKind.i64 n)
                                                      (A.wrap IntKind.i64
                                                        ((↑(List.length (A.se (L.splitL b))) : Int) + (1 : Int))) -
                                                    (0 : Int)))
                                                (List.drop (Int.toNat (0 : Int)) (A.se (L.splitL b))))))).snd.fst ==
                                (-1 : Int)),
                            [])
                      else some (X.d Ty.bool false, [])
                    else none
                else
                  bif
                      A.se
                        (decide
                            ((0 : Int) ≤ (0 : Int) ∧
                              (0 : Int) ≤
                                  (↑(List.length
                                        (A.se
                                          (readW
                                              (A.se
                                                ([] ++
                                                  L.joinE
                                                    (List.take
                                                      (Int.toNat
                                                        (Int.tmod (A.wrap IntKind.i64 n)
                                                            (A.wrap IntKind.i64
                                                              ((↑(List.length (A.se (L.splitL b))) : Int) + (1 : Int))) -
                                                          (0 : Int)))
                                                      (List.drop (Int.toNat (0 : Int)) (A.se (L.splitL b))))))).fst)) :
                                    Int) ∧
                                List.length
                                      (A.se
                                        (readW
                                            (A.se
                                              ([] ++
                                                L.joinE
                                                  (List.take
                                                    (Int.toNat
                                                      (Int.tmod (A.wrap IntKind.i64 n)
                                                          (A.wrap IntKind.i64
                                                            ((↑(List.length (A.se (L.splitL b))) : Int) + (1 : Int))) -
                                                        (0 : Int)))
                                                    (List.drop (Int.toNat (0 : Int)) (A.se (L.splitL b))))))).fst) ≤
                                    (1000 : Nat) ∧
                                  List.length (A.se (readW b).fst) ≤ (1000 : Nat)) &&
                          (short20 (A.se (readW b).fst) &&
                            (R.risesB (A.se (readW b).fst) &&
                              (short20
                                  (A.se
                                    (readW
                                        (A.se
                                          ([] ++
                                            L.joinE
                                              (List.take
                                                (Int.toNat
                                                  (Int.tmod (A.wrap IntKind.i64 n)
                                                      (A.wrap IntKind.i64
                                                        ((↑(List.length (A.se (L.splitL b))) : Int) + (1 : Int))) -
                                                    (0 : Int)))
                                                (List.drop (Int.toNat (0 : Int)) (A.se (L.splitL b))))))).fst) &&
                                (!A.se (readW b).snd.snd == (0 : Int) ||
                                  List.all
                                    (A.se
                                      (readW
                                          (A.se
                                            ([] ++
                                              L.joinE
                                                (List.take
                                                  (Int.toNat
                                                    (Int.tmod (A.wrap IntKind.i64 n)
                                                        (A.wrap IntKind.i64
                                                          ((↑(List.length (A.se (L.splitL b))) : Int) + (1 : Int))) -
                                                      (0 : Int)))
                                                  (List.drop (Int.toNat (0 : Int)) (A.se (L.splitL b))))))).fst)
                                    fun w => decide (w ∈ A.se (readW b).fst)))))) then
                    bif
                        (A.se
                              (readW
                                    (A.se
                                      ([] ++
                                        L.joinE
                                          (List.take
                                            (Int.toNat
                                              (Int.tmod (A.wrap IntKind.i64 n)
                                                  (A.wrap IntKind.i64
                                                    ((↑(List.length (A.se (L.splitL b))) : Int) + (1 : Int))) -
                                                (0 : Int)))
                                            (List.drop (Int.toNat (0 : Int)) (A.se (L.splitL b))))))).snd.snd ==
                            (0 : Int)) ==
                          true then
                      some
                        (X.d Ty.bool
                            (A.se
                                (readW
                                      (A.se
                                        ([] ++
                                          L.joinE
                                            (List.take
                                              (Int.toNat
                                                (Int.tmod (A.wrap IntKind.i64 n)
                                                    (A.wrap IntKind.i64
                                                      ((↑(List.length (A.se (L.splitL b))) : Int) + (1 : Int))) -
                                                  (0 : Int)))
                                              (List.drop (Int.toNat (0 : Int)) (A.se (L.splitL b))))))).snd.fst ==
                              (-1 : Int)),
                          [])
                    else some (X.d Ty.bool false, [])
                  else none
              else none
            else none
          else none
      else none) := by kernel_rfl

end Go.Proofs.YtaefpopjlmhmoaaDoor.V

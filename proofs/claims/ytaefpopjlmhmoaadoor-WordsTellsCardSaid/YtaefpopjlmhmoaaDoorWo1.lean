/-
  Chapter 09, word lists: what the small functions tell; their trees. By program; each equation is checked by the kernel.
  It speaks of the pinned program alone; no condition.
-/
import Derived.Test.YtaefpopjlmhmoaaDoorUt14
import Derived.Test.YtaefpopjlmhmoaaDoorLi10
import Derived.Test.YtaefpopjlmhmoaaDoorOr16
import Derived.Test.YtaefpopjlmhmoaaDoorIns2
namespace Go.Proofs.YtaefpopjlmhmoaaDoor.V
open Go
set_option linter.unusedVariables false

/-- A sign that no word has. -/
def wrongB (n : Int) : Bool := !(U.goodN n) || (n == 32 || (n == 9 || n == 10))
def fitB (w : List Int) : Bool := decide (1 ≤ w.length ∧ w.length ≤ 20) && (!(w.getD 0 0 == 35) && !(w.any wrongB))
def badB (w : List Int) : Bool := !(fitB w)
/-- The first place at which it is so; else -1. -/
def idxG {α : Type} (p : α → Bool) : List α → Int
  | [] => -1
  | x :: l => bif p x then 0 else bif idxG p l == -1 then -1 else idxG p l + 1
/-- Up to this place none is less than the one ahead. -/
def srtdTo (l : List (List Int)) : Nat → Bool
  | 0 => true
  | k + 1 => !(R.ltL (l.getD (k + 1) []) (l.getD k [])) && srtdTo l k
def sortB (l : List (List Int)) : Bool := srtdTo l (l.length - 1)
def joinW (l : List (List Int)) : List Int := (l.map fun w => U.putL w ++ [10]).flatten
def writeW (l : List (List Int)) : List Int × Int :=
  if l.length > 300 then ([], 81) else bif l.any badB || (decide ((R.setL l).length ≠ l.length) || !(sortB l)) then ([], 90) else (joinW l, 0)

def fit1F (A : Ar) : List X → Tr X
  | [.d (.int .i64) n] => .give (boolx (A.se (wrongB n)))
  | _ => .no
def idxWF (A : Ar) : List X → Tr X
  | [.sl (.int .i64) w nl false, .fn 40 [] []] => .test (A.se (decide (w.length ≤ 1000000))) (.give (i64x (A.se (idxG wrongB w)))) .no
  | _ => .no
def LidxWF (A : Ar) : List X → Hp → Tr (Ex × List X × Hp)
  | [.sl (.int .i64) w nl false, .fn 40 [] [], .d (.int .i64) z, .d (.int .i64) l, .d (.int .i64) i], [] =>
    .test (A.se (decide (w.length ≤ 1000000 ∧ l = w.length ∧ 0 ≤ i ∧ i ≤ l)))
      (.test (A.se (decide (idxG wrongB (w.drop i.toNat) < 0))) (.give (.exit 0, [.dead, .dead, .dead, .dead, .dead], []))
        (.give (.ret, [.dead, .dead, i64x (A.se (i + idxG wrongB (w.drop i.toNat))), .dead, .dead], []))) .no
  | _, _ => .no
def LidxW (A : Ar) : Lp := fun k => match k with
  | 2 => some (19, [0, 1, 4, 7, 8], LidxWF A)
  | _ => none
def ctF (A : Ar) : List X → Tr X
  | [.sl (.int .i64) w nl false, .fn 40 [] []] => .test (A.se (decide (w.length ≤ 1000000))) (.give (boolx (A.se (w.any wrongB)))) .no
  | _ => .no
def fitF (A : Ar) : List X → Tr X
  | [.sl (.int .i64) w nl false] => .test (A.se (decide (w.length ≤ 1000000))) (.give (boolx (A.se (fitB w)))) .no
  | _ => .no
def wr1F (A : Ar) : List X → Tr X
  | [.sl (.int .i64) w nl false] => .test (A.se (decide (w.length ≤ 1000000))) (.give (boolx (A.se (badB w)))) .no
  | _ => .no
def idxWWF (A : Ar) : List X → Tr X
  | [.sl (.slice (.int .i64)) l nl false, .fn 32 [] []] => .test (A.se (decide (List.length l ≤ 1000000) && R.shortB l)) (.give (i64x (A.se (idxG badB l)))) .no
  | _ => .no
def LidxWWF (A : Ar) : List X → Hp → Tr (Ex × List X × Hp)
  | [.sl (.slice (.int .i64)) w nl false, .fn 32 [] [], .d (.int .i64) z, .d (.int .i64) l, .d (.int .i64) i], [] =>
    .test (A.se (decide (List.length w ≤ 1000000 ∧ l = List.length w ∧ 0 ≤ i ∧ i ≤ l) && R.shortB w))
      (.test (A.se (decide (idxG badB (w.drop i.toNat) < 0))) (.give (.exit 0, [.dead, .dead, .dead, .dead, .dead], []))
        (.give (.ret, [.dead, .dead, i64x (A.se (i + idxG badB (w.drop i.toNat))), .dead, .dead], []))) .no
  | _, _ => .no
def LidxWW (A : Ar) : Lp := fun k => match k with
  | 2 => some (19, [0, 1, 4, 7, 8], LidxWWF A)
  | _ => none
def ctWF (A : Ar) : List X → Tr X
  | [.sl (.slice (.int .i64)) l nl false, .fn 32 [] []] => .test (A.se (decide (List.length l ≤ 1000000) && R.shortB l)) (.give (boolx (A.se (List.any l badB)))) .no
  | _ => .no
def wr2F (A : Ar) : List X → Tr X
  | [.sl (.int .i64) a na false, .sl (.int .i64) b nb false] => .test (A.se (decide (List.length a ≤ 1000000 ∧ List.length b ≤ 1000000))) (.give (i64x (A.se (R.cmpL a b)))) .no
  | _ => .no
def isSF (A : Ar) : List X → Tr X
  | [.sl (.slice (.int .i64)) l nl false, .fn 35 [] []] => .test (A.se (decide (List.length l ≤ 1000000) && R.shortB l)) (.give (boolx (A.se (sortB l)))) .no
  | _ => .no
def LisSF (A : Ar) : List X → Hp → Tr (Ex × List X × Hp)
  | [.sl (.slice (.int .i64)) l nl false, .fn 35 [] [], .d .bool z, .d (.int .i64) i], [] =>
    .test (A.se (decide (List.length l ≤ 1000000 ∧ -1 ≤ i ∧ i < List.length l) && R.shortB l))
      (.test (A.se (srtdTo l i.toNat)) (.give (.exit 0, [.dead, .dead, .dead, .dead], [])) (.give (.ret, [.dead, .dead, boolx false, .dead], []))) .no
  | _, _ => .no
def LisS (A : Ar) : Lp := fun k => match k with
  | 2 => some (25, [0, 1, 4, 5], LisSF A)
  | _ => none
def writeF (A : Ar) : List X → Tr X
  | [.sl (.slice (.int .i64)) l nl false] => .test (A.se (decide (List.length l ≤ 1000) && R.shortB l)) (.give (.tup [u8s (A.se (writeW l).1) (some (A.se (writeW l).1.isEmpty)) false, i64x (A.se (writeW l).2)])) .no
  | _ => .no
def LwrF (A : Ar) : List X → Hp → Tr (Ex × List X × Hp)
  | [.sl (.int .u8) out (some x) true, .sl (.slice (.int .i64)) l nl false, .d (.int .i64) n, .d (.int .i64) i], [] =>
    .test (A.se (decide (n = List.length l ∧ 0 ≤ i ∧ i ≤ n ∧ n ≤ 1000 ∧ (List.length out : Int) ≤ 100 * i) && ((x == List.isEmpty out) && List.all l fitB)))
      (.give (.exit 0, [u8s (A.se (out ++ joinW (List.drop i.toNat l))) (some (A.se (List.isEmpty (out ++ joinW (List.drop i.toNat l))))) true, .dead, .dead, .dead], [])) .no
  | _, _ => .no
def Lwr (A : Ar) : Lp := fun k => match k with
  | 7 => some (46, [2, 28, 29, 30], LwrF A)
  | _ => none
def fieldsX (f : List (List Int)) : Bool := decide (f.length = 1)
def wordW (b : List Int) : List Int × Int × Unit :=
  if (L.fieldsL b).length = 1 then (U.rdL ((L.fieldsL b).getD 0 []), if (U.rdL ((L.fieldsL b).getD 0 [])).length > 20 then 90 else U.rdE ((L.fieldsL b).getD 0 []), ()) else ([], 71, ())
def wordF (A : Ar) : List X → Tr X
  | [.sl (.int .u8) b nl false] => .test (L.Ok A b nl) (.give (.d (.struct (.prod (.slice (.int .i64)) (.prod (.int .i64) .unit))) (A.se (wordW b)))) .no
  | _ => .no

def noOw : OT := fun _ => none
def Ow1 (A : Ar) : OT := Oadd (Oadd (Oadd (Oadd noOw 41 (.pure (U.goodF A))) 37 (.pure (U.uputF A))) 20 (.pure (U.ureadF A))) 19 (.pure (L.fieldsF A))
def Ow2 (A : Ar) : OT := Oadd (Oadd (Oadd (Oadd (Ow1 A) 17 (.pure (L.splitF A))) 18 (.pure (L.bareF A))) 24 (.pure (R.sortF A))) 21 (.pure (R.findF A))
def Ow3 (A : Ar) : OT := Oadd (Oadd (Oadd (Ow2 A) 36 (.pure (R.cmpF A))) 26 (.own (insF A))) 40 (.pure (fit1F A))
def Ow4 (A : Ar) : OT := Oadd (Oadd (Ow3 A) 67 (.pure (idxWF A))) 35 (.pure (wr2F A))
def Ow5 (A : Ar) : OT := Oadd (Oadd (Ow4 A) 42 (.pure (ctF A))) 34 (.pure (isSF A))
def Ow6 (A : Ar) : OT := Oadd (Ow5 A) 15 (.pure (fitF A))
def Ow7 (A : Ar) : OT := Oadd (Ow6 A) 32 (.pure (wr1F A))
def Ow8 (A : Ar) : OT := Oadd (Ow7 A) 62 (.pure (idxWWF A))
def Ow9 (A : Ar) : OT := Oadd (Oadd (Ow8 A) 33 (.pure (ctWF A))) 25 (.pure (wordF A))

theorem tFit1 (A : Ar) (n : Int) : bodyX (Cx A (Ow2 A) noL) 100 Tryd.f40 [i64x n] [] =
    (bif (!A.se (U.goodN n)) == false then
      bif (n == (32 : Int)) == false then
        bif (n == (9 : Int)) == false then some (X.d Ty.bool (n == (10 : Int)), []) else some (X.d Ty.bool true, [])
      else some (X.d Ty.bool true, [])
    else some (X.d Ty.bool true, [])) := by kernel_rfl
theorem tIdxW (A : Ar) (w : List Int) (nl : Option Bool) : bodyX (Cx A (Ow3 A) (LidxW A)) 100 Tryd.f67 [i64s w nl false, .fn 40 [] []] [] =
    (bif
        A.se
          (decide
            (List.length w ≤ (1000000 : Nat) ∧
              (↑(List.length w) : Int) = (↑(List.length w) : Int) ∧
                (0 : Int) ≤ (0 : Int) ∧ (0 : Int) ≤ (↑(List.length w) : Int))) then
      bif A.se (decide (idxG wrongB (List.drop (Int.toNat (0 : Int)) w) < (0 : Int))) then
        some (X.d (Ty.int IntKind.i64) (-1 : Int), [])
      else some (X.d (Ty.int IntKind.i64) (A.se ((0 : Int) + idxG wrongB (List.drop (Int.toNat (0 : Int)) w))), [])
    else none) := by kernel_rfl
theorem lIdxW (A : Ar) (R : Type) (w : List Int) (nl : Option Bool) (z l i : Int) (k : Ex → List X → Hp → Option R) : stepF (Cx A (Ow3 A) (LidxW A)) 100 (loopAt Tryd.f67 0) 19 [0, 1, 4, 7, 8] [i64s w nl false, .fn 40 [] [], i64x z, i64x l, i64x i] [] k =
    (bif decide (i < l) then
      bif decide ((0 : Int) ≤ i ∧ i < (↑(List.length w) : Int)) then
        bif A.se (wrongB (List.getD w (Int.toNat i) (0 : Int))) then
          k Ex.ret
            [X.sl (Ty.int IntKind.i64) w nl false, X.fn (40 : Nat) [] [], X.d (Ty.int IntKind.i64) i,
              X.d (Ty.int IntKind.i64) l, X.d (Ty.int IntKind.i64) i]
            []
        else
          k Ex.normal
            [X.sl (Ty.int IntKind.i64) w nl false, X.fn (40 : Nat) [] [], X.d (Ty.int IntKind.i64) z,
              X.d (Ty.int IntKind.i64) l, X.d (Ty.int IntKind.i64) (A.wrap IntKind.i64 (i + (1 : Int)))]
            []
      else none
    else
      k (Ex.exit (0 : Nat))
        [X.sl (Ty.int IntKind.i64) w nl false, X.fn (40 : Nat) [] [], X.d (Ty.int IntKind.i64) z,
          X.d (Ty.int IntKind.i64) l, X.d (Ty.int IntKind.i64) i]
        []) := by kernel_rfl
theorem tCt (A : Ar) (w : List Int) (nl : Option Bool) : bodyX (Cx A (Ow4 A) noL) 100 Tryd.f42 [i64s w nl false, .fn 40 [] []] [] =
    (bif A.se (decide (List.length w ≤ (1000000 : Nat))) then
      some (X.d Ty.bool (decide (A.se (idxG wrongB w) ≥ (0 : Int))), [])
    else none) := by kernel_rfl
theorem tFit (A : Ar) (w : List Int) (nl : Option Bool) : bodyX (Cx A (Ow5 A) noL) 100 Tryd.f15 [i64s w nl false] [] =
    (bif decide ((↑(List.length w) : Int) > (0 : Int)) == true then
      bif decide ((↑(List.length w) : Int) ≤ (20 : Int)) == true then
        bif decide ((0 : Int) ≤ (0 : Int) ∧ (0 : Int) < (↑(List.length w) : Int)) then
          bif (List.getD w (Int.toNat (0 : Int)) (0 : Int) != (35 : Int)) == true then
            bif A.se (decide (List.length w ≤ (1000000 : Nat))) then some (X.d Ty.bool !A.se (List.any w wrongB), [])
            else none
          else some (X.d Ty.bool false, [])
        else none
      else some (X.d Ty.bool false, [])
    else some (X.d Ty.bool false, [])) := by kernel_rfl
theorem tWr1 (A : Ar) (w : List Int) (nl : Option Bool) : bodyX (Cx A (Ow6 A) noL) 100 Tryd.f32 [i64s w nl false] [] =
    (bif A.se (decide (List.length w ≤ (1000000 : Nat))) then some (X.d Ty.bool !A.se (fitB w), []) else none) := by kernel_rfl
theorem tIdxWW (A : Ar) (w : List (List Int)) (nl : Option Bool) : bodyX (Cx A (Ow7 A) (LidxWW A)) 100 Tryd.f62 [.sl wTy w nl false, .fn 32 [] []] [] =
    (bif
        A.se
          (decide
              (List.length w ≤ (1000000 : Nat) ∧
                (↑(List.length w) : Int) = (↑(List.length w) : Int) ∧
                  (0 : Int) ≤ (0 : Int) ∧ (0 : Int) ≤ (↑(List.length w) : Int)) &&
            R.shortB w) then
      bif A.se (decide (idxG badB (List.drop (Int.toNat (0 : Int)) w) < (0 : Int))) then
        some (X.d (Ty.int IntKind.i64) (-1 : Int), [])
      else some (X.d (Ty.int IntKind.i64) (A.se ((0 : Int) + idxG badB (List.drop (Int.toNat (0 : Int)) w))), [])
    else none) := by kernel_rfl
theorem lIdxWW (A : Ar) (R : Type) (w : List (List Int)) (nl : Option Bool) (z l i : Int) (k : Ex → List X → Hp → Option R) : stepF (Cx A (Ow7 A) (LidxWW A)) 100 (loopAt Tryd.f62 0) 19 [0, 1, 4, 7, 8] [.sl wTy w nl false, .fn 32 [] [], i64x z, i64x l, i64x i] [] k =
    (bif decide (i < l) then
      bif decide ((0 : Int) ≤ i ∧ i < (↑(List.length w) : Int)) then
        bif A.se (decide (List.length (List.getD w (Int.toNat i) (Ty.zero wTy)) ≤ (1000000 : Nat))) then
          bif A.se (badB (List.getD w (Int.toNat i) (Ty.zero wTy))) then
            k Ex.ret
              [X.sl wTy w nl false, X.fn (32 : Nat) [] [], X.d (Ty.int IntKind.i64) i, X.d (Ty.int IntKind.i64) l,
                X.d (Ty.int IntKind.i64) i]
              []
          else
            k Ex.normal
              [X.sl wTy w nl false, X.fn (32 : Nat) [] [], X.d (Ty.int IntKind.i64) z, X.d (Ty.int IntKind.i64) l,
                X.d (Ty.int IntKind.i64) (A.wrap IntKind.i64 (i + (1 : Int)))]
              []
        else none
      else none
    else
      k (Ex.exit (0 : Nat))
        [X.sl wTy w nl false, X.fn (32 : Nat) [] [], X.d (Ty.int IntKind.i64) z, X.d (Ty.int IntKind.i64) l,
          X.d (Ty.int IntKind.i64) i]
        []) := by kernel_rfl
theorem tCtW (A : Ar) (w : List (List Int)) (nl : Option Bool) : bodyX (Cx A (Ow8 A) noL) 100 Tryd.f33 [.sl wTy w nl false, .fn 32 [] []] [] =
    (bif A.se (decide (List.length w ≤ (1000000 : Nat)) && R.shortB w) then
      some (X.d Ty.bool (decide (A.se (idxG badB w) ≥ (0 : Int))), [])
    else none) := by kernel_rfl
theorem tWr2 (A : Ar) (a : List Int) (na : Option Bool) (b : List Int) (nb : Option Bool) : bodyX (Cx A (Ow3 A) noL) 100 Tryd.f35 [i64s a na false, i64s b nb false] [] =
    (bif A.se (decide (List.length a ≤ (1000000 : Nat) ∧ List.length b ≤ (1000000 : Nat))) then
      some (X.d (Ty.int IntKind.i64) (A.se (R.cmpL a b)), [])
    else none) := by kernel_rfl
theorem tIsS (A : Ar) (l : List (List Int)) (nl : Option Bool) : bodyX (Cx A (Ow4 A) (LisS A)) 100 Tryd.f34 [.sl wTy l nl false, .fn 35 [] []] [] =
    (bif
        A.se
          (decide
              (List.length l ≤ (1000000 : Nat) ∧
                (-1 : Int) ≤ A.wrap IntKind.i64 ((↑(List.length l) : Int) - (1 : Int)) ∧
                  A.wrap IntKind.i64 ((↑(List.length l) : Int) - (1 : Int)) <
                    (↑(List.length l) : Int)) &&
            R.shortB l) then
      bif A.se (srtdTo l (Int.toNat (A.wrap IntKind.i64 ((↑(List.length l) : Int) - (1 : Int))))) then
        some (X.d Ty.bool true, [])
      else some (X.d Ty.bool false, [])
    else none) := by kernel_rfl
theorem lIsS (A : Ar) (R : Type) (l : List (List Int)) (nl : Option Bool) (z : Bool) (i : Int) (k : Ex → List X → Hp → Option R) : stepF (Cx A (Ow4 A) (LisS A)) 100 (loopAt Tryd.f34 0) 25 [0, 1, 4, 5] [.sl wTy l nl false, .fn 35 [] [], boolx z, i64x i] [] k =
    (bif decide (i > (0 : Int)) then
      bif decide ((0 : Int) ≤ i ∧ i < (↑(List.length l) : Int)) then
        bif
            decide
              ((0 : Int) ≤ A.wrap IntKind.i64 (i - (1 : Int)) ∧
                A.wrap IntKind.i64 (i - (1 : Int)) < (↑(List.length l) : Int)) then
          bif
              A.se
                (decide
                  (List.length (List.getD l (Int.toNat i) (Ty.zero wTy)) ≤ (1000000 : Nat) ∧
                    List.length (List.getD l (Int.toNat (A.wrap IntKind.i64 (i - (1 : Int)))) (Ty.zero wTy)) ≤
                      (1000000 : Nat))) then
            bif
                decide
                  (A.se
                      (V.R.cmpL (List.getD l (Int.toNat i) (Ty.zero wTy))
                        (List.getD l (Int.toNat (A.wrap IntKind.i64 (i - (1 : Int)))) (Ty.zero wTy))) <
                    (0 : Int)) then
              k Ex.ret [X.sl wTy l nl false, X.fn (35 : Nat) [] [], X.d Ty.bool false, X.d (Ty.int IntKind.i64) i] []
            else
              k Ex.normal
                [X.sl wTy l nl false, X.fn (35 : Nat) [] [], X.d Ty.bool z,
                  X.d (Ty.int IntKind.i64) (A.wrap IntKind.i64 (i - (1 : Int)))]
                []
          else none
        else none
      else none
    else k (Ex.exit (0 : Nat)) [X.sl wTy l nl false, X.fn (35 : Nat) [] [], X.d Ty.bool z, X.d (Ty.int IntKind.i64) i] []) := by kernel_rfl
theorem tWr (A : Ar) (l : List (List Int)) (nl : Option Bool) : bodyX (Cx A (Ow9 A) (Lwr A)) 100 Tryd.f12 [.sl wTy l nl false] [] =
    (bif decide ((↑(List.length l) : Int) > (300 : Int)) then
      some (X.tup [X.sl (Ty.int IntKind.u8) [] (some true) false, X.d (Ty.int IntKind.i64) (81 : Int)], [])
    else
      bif A.se (decide (List.length l ≤ (1000000 : Nat)) && R.shortB l) then
        bif A.se (List.any l badB) == false then
          bif A.se (decide (List.length l ≤ (1000 : Nat)) && R.shortB l) then
            bif ((↑(List.length (A.se (R.setL l))) : Int) != (↑(List.length l) : Int)) == false then
              bif A.se (decide (List.length l ≤ (1000000 : Nat)) && R.shortB l) then
                bif !A.se (sortB l) then
                  some (X.tup [X.sl (Ty.int IntKind.u8) [] (some true) false, X.d (Ty.int IntKind.i64) (90 : Int)], [])
                else
                  bif
                      A.se
                        (decide
                            ((↑(List.length l) : Int) = (↑(List.length l) : Int) ∧
                              (0 : Int) ≤ (0 : Int) ∧
                                (0 : Int) ≤ (↑(List.length l) : Int) ∧
                                  (↑(List.length l) : Int) ≤ (1000 : Int) ∧
                                    (↑(0 : Nat) : Int) ≤ (100 : Int) * (0 : Int)) &&
                          (true == true && List.all l fitB)) then
                    some
                      (X.tup
                          [X.sl (Ty.int IntKind.u8) (A.se ([] ++ joinW (List.drop (Int.toNat (0 : Int)) l)))
                              (some (A.se (List.isEmpty ([] ++ joinW (List.drop (Int.toNat (0 : Int)) l))))) false,
                            X.d (Ty.int IntKind.i64) (0 : Int)],
                        [])
                  else none
              else none
            else some (X.tup [X.sl (Ty.int IntKind.u8) [] (some true) false, X.d (Ty.int IntKind.i64) (90 : Int)], [])
          else none
        else some (X.tup [X.sl (Ty.int IntKind.u8) [] (some true) false, X.d (Ty.int IntKind.i64) (90 : Int)], [])
      else none) := by kernel_rfl
theorem lWr (A : Ar) (R : Type) (out : List Int) (x : Bool) (l : List (List Int)) (nl : Option Bool) (n i : Int) (k : Ex → List X → Hp → Option R) : stepF (Cx A (Ow9 A) (Lwr A)) 100 (loopAt Tryd.f12 0) 46 [2, 28, 29, 30] [u8s out (some x) true, .sl wTy l nl false, i64x n, i64x i] [] k =
    (bif decide (i < n) then
      bif decide ((0 : Int) ≤ i ∧ i < (↑(List.length l) : Int)) then
        bif A.se (decide (List.length (List.getD l (Int.toNat i) (Ty.zero wTy)) ≤ (17592186044416 : Nat))) then
          bif
              decide
                ((List.length out + List.length (A.se (U.putL (List.getD l (Int.toNat i) (Ty.zero wTy))))) * (1 : Nat) ≤
                  (140737488355328 : Nat)) then
            bif
                decide
                  ((List.length (out ++ A.se (U.putL (List.getD l (Int.toNat i) (Ty.zero wTy)))) +
                        List.length [(10 : Int)]) *
                      (1 : Nat) ≤
                    (140737488355328 : Nat)) then
              k Ex.normal
                [X.sl (Ty.int IntKind.u8) (out ++ A.se (U.putL (List.getD l (Int.toNat i) (Ty.zero wTy))) ++ [(10 : Int)])
                    (some
                      (x && List.isEmpty (A.se (U.putL (List.getD l (Int.toNat i) (Ty.zero wTy)))) &&
                        List.isEmpty [(10 : Int)]))
                    true,
                  X.sl wTy l nl false, X.d (Ty.int IntKind.i64) n,
                  X.d (Ty.int IntKind.i64) (A.wrap IntKind.i64 (i + (1 : Int)))]
                []
            else none
          else none
        else none
      else none
    else
      k (Ex.exit (0 : Nat))
        [X.sl (Ty.int IntKind.u8) out (some x) true, X.sl wTy l nl false, X.d (Ty.int IntKind.i64) n,
          X.d (Ty.int IntKind.i64) i]
        []) := by kernel_rfl
theorem tWord (A : Ar) (b : List Int) (nl : Option Bool) : bodyX (Cx A (Ow2 A) noL) 100 Tryd.f25 [u8s b nl false] [] =
    (bif L.Ok A b nl then
      bif (↑(List.length (A.se (L.fieldsL b))) : Int) != (1 : Int) then
        some
          (X.d (Ty.struct (Ty.prod (Ty.slice (Ty.int IntKind.i64)) (Ty.prod (Ty.int IntKind.i64) Ty.unit)))
              ([], (71 : Int), ()),
            [(Ty.struct (Ty.prod (Ty.slice (Ty.int IntKind.i64)) (Ty.prod (Ty.int IntKind.i64) Ty.unit)),
                X.d (Ty.struct (Ty.prod (Ty.slice (Ty.int IntKind.i64)) (Ty.prod (Ty.int IntKind.i64) Ty.unit)))
                  ([], (71 : Int), ()))])
      else
        bif decide ((0 : Int) ≤ (0 : Int) ∧ (0 : Int) < (↑(List.length (A.se (L.fieldsL b))) : Int)) then
          bif
              A.se
                (bytesB (List.getD (A.se (L.fieldsL b)) (Int.toNat (0 : Int)) (Ty.zero L.sT)) &&
                  decide
                    (List.length (List.getD (A.se (L.fieldsL b)) (Int.toNat (0 : Int)) (Ty.zero L.sT)) ≤
                      (1000000 : Nat))) then
            bif
                decide
                  ((↑(List.length (A.se (U.rdL (List.getD (A.se (L.fieldsL b)) (Int.toNat (0 : Int)) (Ty.zero L.sT))))) :
                      Int) >
                    (20 : Int)) then
              some
                (X.d (Ty.struct (Ty.prod (Ty.slice (Ty.int IntKind.i64)) (Ty.prod (Ty.int IntKind.i64) Ty.unit)))
                    (A.se (U.rdL (List.getD (A.se (L.fieldsL b)) (Int.toNat (0 : Int)) (Ty.zero L.sT))), (90 : Int), ()),
                  [(Ty.struct (Ty.prod (Ty.slice (Ty.int IntKind.i64)) (Ty.prod (Ty.int IntKind.i64) Ty.unit)),
                      X.d (Ty.struct (Ty.prod (Ty.slice (Ty.int IntKind.i64)) (Ty.prod (Ty.int IntKind.i64) Ty.unit)))
                        (A.se (U.rdL (List.getD (A.se (L.fieldsL b)) (Int.toNat (0 : Int)) (Ty.zero L.sT))), (90 : Int),
                          ()))])
            else
              some
                (X.d (Ty.struct (Ty.prod (Ty.slice (Ty.int IntKind.i64)) (Ty.prod (Ty.int IntKind.i64) Ty.unit)))
                    (A.se (U.rdL (List.getD (A.se (L.fieldsL b)) (Int.toNat (0 : Int)) (Ty.zero L.sT))),
                      A.se (U.rdE (List.getD (A.se (L.fieldsL b)) (Int.toNat (0 : Int)) (Ty.zero L.sT))), ()),
                  [(Ty.struct (Ty.prod (Ty.slice (Ty.int IntKind.i64)) (Ty.prod (Ty.int IntKind.i64) Ty.unit)),
                      X.d (Ty.struct (Ty.prod (Ty.slice (Ty.int IntKind.i64)) (Ty.prod (Ty.int IntKind.i64) Ty.unit)))
                        (A.se (U.rdL (List.getD (A.se (L.fieldsL b)) (Int.toNat (0 : Int)) (Ty.zero L.sT))),
                          A.se (U.rdE (List.getD (A.se (L.fieldsL b)) (Int.toNat (0 : Int)) (Ty.zero L.sT))), ()))])
          else none
        else none
    else none) := by kernel_rfl

end Go.Proofs.YtaefpopjlmhmoaaDoor.V

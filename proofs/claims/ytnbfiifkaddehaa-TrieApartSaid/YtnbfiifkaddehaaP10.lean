/-
  Chapter 09, word lists: what is needed of it.
  It speaks of whatever program; no condition.
-/
import Derived.Test.YtnbfiifkaddehaaU10
import Derived.Test.YtnbfiifkaddehaaR10

/- Chapter 09, word lists: what the small functions tell; their trees. By program; each equation is checked by the kernel. -/
namespace Go.Proofs.Ytnbfiifkaddehaa.V

open Go

set_option linter.unusedVariables false

/-- A sign that no word has. -/
abbrev wTy : Ty := .slice (.int .i64)

def wrongB (n : Int) : Bool := !(U.goodN n) || (n == 32 || (n == 9 || n == 10))

def fitB (w : List Int) : Bool := decide (1 ≤ w.length ∧ w.length ≤ 20) && (!(w.getD 0 0 == 35) && !(w.any wrongB))

def badB (w : List Int) : Bool := !(fitB w)

/-- The first place at which it is so; else -1. -/
def idxG {α : Type} (p : α → Bool) : List α → Int
  | [] => -1
  | x :: l => bif p x then 0 else bif idxG p l == -1 then -1 else idxG p l + 1

/-- Up to this place none is less than the one ahead. -/
def srtdTo (l : List (List Int)) : Nat → Bool
  | 0 => true
  | k + 1 => !(R.ltL (l.getD (k + 1) []) (l.getD k [])) && srtdTo l k

def sortB (l : List (List Int)) : Bool := srtdTo l (l.length - 1)

def joinW (l : List (List Int)) : List Int := (l.map fun w => U.putL w ++ [10]).flatten

def writeW (l : List (List Int)) : List Int × Int :=
  if l.length > 300 then ([], 81) else bif l.any badB || (decide ((R.setL l).length ≠ l.length) || !(sortB l)) then ([], 90) else (joinW l, 0)

def fit1F (A : Ar) : List X → Tr X
  | [.d (.int .i64) n] => .give (boolx (A.se (wrongB n)))
  | _ => .no

def idxWF (A : Ar) : List X → Tr X
  | [.sl (.int .i64) w nl false, .fn 40 [] []] => .test (A.se (decide (w.length ≤ 1000000))) (.give (i64x (A.se (idxG wrongB w)))) .no
  | _ => .no

def LidxWF (A : Ar) : List X → Hp → Tr (Ex × List X × Hp)
  | [.sl (.int .i64) w nl false, .fn 40 [] [], .d (.int .i64) z, .d (.int .i64) l, .d (.int .i64) i], [] =>
    .test (A.se (decide (w.length ≤ 1000000 ∧ l = w.length ∧ 0 ≤ i ∧ i ≤ l)))
      (.test (A.se (decide (idxG wrongB (w.drop i.toNat) < 0))) (.give (.exit 0, [.dead, .dead, .dead, .dead, .dead], []))
        (.give (.ret, [.dead, .dead, i64x (A.se (i + idxG wrongB (w.drop i.toNat))), .dead, .dead], []))) .no
  | _, _ => .no

def LidxW (A : Ar) : Lp := fun k => match k with
  | 2 => some (19, [0, 1, 4, 7, 8], LidxWF A)
  | _ => none

def ctF (A : Ar) : List X → Tr X
  | [.sl (.int .i64) w nl false, .fn 40 [] []] => .test (A.se (decide (w.length ≤ 1000000))) (.give (boolx (A.se (w.any wrongB)))) .no
  | _ => .no

def fitF (A : Ar) : List X → Tr X
  | [.sl (.int .i64) w nl false] => .give (boolx (A.se (fitB w)))
  | _ => .no

def wr1F (A : Ar) : List X → Tr X
  | [.sl (.int .i64) w nl false] => .give (boolx (A.se (badB w)))
  | _ => .no

def idxWWF (A : Ar) : List X → Tr X
  | [.sl (.slice (.int .i64)) l nl false, .fn 33 [] []] => .test (A.se (decide (List.length l ≤ 1000000))) (.give (i64x (A.se (idxG badB l)))) .no
  | _ => .no

def LidxWWF (A : Ar) : List X → Hp → Tr (Ex × List X × Hp)
  | [.sl (.slice (.int .i64)) w nl false, .fn 33 [] [], .d (.int .i64) z, .d (.int .i64) l, .d (.int .i64) i], [] =>
    .test (A.se (decide (List.length w ≤ 1000000 ∧ l = List.length w ∧ 0 ≤ i ∧ i ≤ l)))
      (.test (A.se (decide (idxG badB (w.drop i.toNat) < 0))) (.give (.exit 0, [.dead, .dead, .dead, .dead, .dead], []))
        (.give (.ret, [.dead, .dead, i64x (A.se (i + idxG badB (w.drop i.toNat))), .dead, .dead], []))) .no
  | _, _ => .no

def LidxWW (A : Ar) : Lp := fun k => match k with
  | 2 => some (19, [0, 1, 4, 7, 8], LidxWWF A)
  | _ => none

def ctWF (A : Ar) : List X → Tr X
  | [.sl (.slice (.int .i64)) l nl false, .fn 33 [] []] => .test (A.se (decide (List.length l ≤ 1000000))) (.give (boolx (A.se (List.any l badB)))) .no
  | _ => .no

def wr2F (A : Ar) : List X → Tr X
  | [.sl (.int .i64) a na false, .sl (.int .i64) b nb false] => .test (A.se (decide (List.length a ≤ 1000000 ∧ List.length b ≤ 1000000))) (.give (i64x (A.se (R.cmpL a b)))) .no
  | _ => .no

def isSF (A : Ar) : List X → Tr X
  | [.sl (.slice (.int .i64)) l nl false, .fn 36 [] []] => .test (A.se (decide (List.length l ≤ 1000000) && R.shortB l)) (.give (boolx (A.se (sortB l)))) .no
  | _ => .no

def LisSF (A : Ar) : List X → Hp → Tr (Ex × List X × Hp)
  | [.sl (.slice (.int .i64)) l nl false, .fn 36 [] [], .d .bool z, .d (.int .i64) i], [] =>
    .test (A.se (decide (List.length l ≤ 1000000 ∧ -1 ≤ i ∧ i < List.length l) && R.shortB l))
      (.test (A.se (srtdTo l i.toNat)) (.give (.exit 0, [.dead, .dead, .dead, .dead], [])) (.give (.ret, [.dead, .dead, boolx false, .dead], []))) .no
  | _, _ => .no

def LisS (A : Ar) : Lp := fun k => match k with
  | 2 => some (25, [0, 1, 4, 5], LisSF A)
  | _ => none

def writeF (A : Ar) : List X → Tr X
  | [.sl (.slice (.int .i64)) l nl false] => .give (.tup [u8s (A.se (writeW l).1) (some (A.se (writeW l).1.isEmpty)) false, i64x (A.se (writeW l).2)])
  | _ => .no

def LwrF (A : Ar) : List X → Hp → Tr (Ex × List X × Hp)
  | [.sl (.int .u8) out (some x) true, .sl (.slice (.int .i64)) l nl false, .d (.int .i64) n, .d (.int .i64) i], [] =>
    .test (A.se (decide (n = List.length l ∧ 0 ≤ i ∧ i ≤ n ∧ n ≤ 1000 ∧ (List.length out : Int) ≤ 100 * i) && ((x == List.isEmpty out) && List.all l fitB)))
      (.give (.exit 0, [u8s (A.se (out ++ joinW (List.drop i.toNat l))) (some (A.se (List.isEmpty (out ++ joinW (List.drop i.toNat l))))) true, .dead, .dead, .dead], [])) .no
  | _, _ => .no

def Lwr (A : Ar) : Lp := fun k => match k with
  | 7 => some (46, [2, 28, 29, 30], LwrF A)
  | _ => none

def noOw : OT := fun _ => none

def Ow1 (A : Ar) : OT := ((Oadd (Oadd noOw 30 (.pure (U.goodF A))) 38 (.pure (U.uputF A))))

def Ow2 (A : Ar) : OT := (Oadd (((Ow1 A))) 21 (.pure (R.sortF A)))

def Ow3 (A : Ar) : OT := Oadd ((Oadd (Ow2 A) 37 (.pure (R.cmpF A)))) 40 (.pure (fit1F A))

def Ow4 (A : Ar) : OT := Oadd (Oadd (Ow3 A) 55 (.pure (idxWF A))) 36 (.pure (wr2F A))

def Ow5 (A : Ar) : OT := Oadd (Oadd (Ow4 A) 41 (.pure (ctF A))) 35 (.pure (isSF A))

def Ow6 (A : Ar) : OT := Oadd (Ow5 A) 20 (.pure (fitF A))

def Ow7 (A : Ar) : OT := Oadd (Ow6 A) 33 (.pure (wr1F A))

def Ow8 (A : Ar) : OT := Oadd (Ow7 A) 52 (.pure (idxWWF A))

def Ow9 (A : Ar) : OT := (Oadd (Ow8 A) 34 (.pure (ctWF A)))

theorem tFit1 (A : Ar) (n : Int) : bodyX (Cx A (Ow2 A) noL) 100 Try.f40 [i64x n] [] =
    (bif (!A.se (U.goodN n)) == false then
      bif (n == (32 : Int)) == false then
        bif (n == (9 : Int)) == false then some (X.d Ty.bool (n == (10 : Int)), []) else some (X.d Ty.bool true, [])
      else some (X.d Ty.bool true, [])
    else some (X.d Ty.bool true, [])) := by kernel_rfl

theorem tIdxW (A : Ar) (w : List Int) (nl : Option Bool) : bodyX (Cx A (Ow3 A) (LidxW A)) 100 Try.f55 [i64s w nl false, .fn 40 [] []] [] =
    (bif
        A.se
          (decide
            (List.length w ≤ (1000000 : Nat) ∧
              (↑(List.length w) : Int) = (↑(List.length w) : Int) ∧
                (0 : Int) ≤ (0 : Int) ∧ (0 : Int) ≤ (↑(List.length w) : Int))) then
      bif A.se (decide (idxG wrongB (List.drop (Int.toNat (0 : Int)) w) < (0 : Int))) then
        some (X.d (Ty.int IntKind.i64) (-1 : Int), [])
      else some (X.d (Ty.int IntKind.i64) (A.se ((0 : Int) + idxG wrongB (List.drop (Int.toNat (0 : Int)) w))), [])
    else none) := by kernel_rfl

theorem lIdxW (A : Ar) (R : Type) (w : List Int) (nl : Option Bool) (z l i : Int) (k : Ex → List X → Hp → Option R) : stepF (Cx A (Ow3 A) (LidxW A)) 100 (loopAt Try.f55 0) 19 [0, 1, 4, 7, 8] [i64s w nl false, .fn 40 [] [], i64x z, i64x l, i64x i] [] k =
    (bif decide (i < l) then
      bif decide ((0 : Int) ≤ i ∧ i < (↑(List.length w) : Int)) then
        bif A.se (wrongB (List.getD w (Int.toNat i) (0 : Int))) then
          k Ex.ret
            [X.sl (Ty.int IntKind.i64) w nl false, X.fn (40 : Nat) [] [], X.d (Ty.int IntKind.i64) i,
              X.d (Ty.int IntKind.i64) l, X.d (Ty.int IntKind.i64) i]
            []
        else
          k Ex.normal
            [X.sl (Ty.int IntKind.i64) w nl false, X.fn (40 : Nat) [] [], X.d (Ty.int IntKind.i64) z,
              X.d (Ty.int IntKind.i64) l, X.d (Ty.int IntKind.i64) (A.wrap IntKind.i64 (i + (1 : Int)))]
            []
      else none
    else
      k (Ex.exit (0 : Nat))
        [X.sl (Ty.int IntKind.i64) w nl false, X.fn (40 : Nat) [] [], X.d (Ty.int IntKind.i64) z,
          X.d (Ty.int IntKind.i64) l, X.d (Ty.int IntKind.i64) i]
        []) := by kernel_rfl

theorem tCt (A : Ar) (w : List Int) (nl : Option Bool) : bodyX (Cx A (Ow4 A) noL) 100 Try.f41 [i64s w nl false, .fn 40 [] []] [] =
    (bif A.se (decide (List.length w ≤ (1000000 : Nat))) then
      some (X.d Ty.bool (decide (A.se (idxG wrongB w) ≥ (0 : Int))), [])
    else none) := by kernel_rfl

theorem tFit (A : Ar) (w : List Int) (nl : Option Bool) : bodyX (Cx A (Ow5 A) noL) 100 Try.f20 [i64s w nl false] [] =
    (bif decide ((↑(List.length w) : Int) > (0 : Int)) == true then
      bif decide ((↑(List.length w) : Int) ≤ (20 : Int)) == true then
        bif decide ((0 : Int) ≤ (0 : Int) ∧ (0 : Int) < (↑(List.length w) : Int)) then
          bif (List.getD w (Int.toNat (0 : Int)) (0 : Int) != (35 : Int)) == true then
            bif A.se (decide (List.length w ≤ (1000000 : Nat))) then some (X.d Ty.bool !A.se (List.any w wrongB), [])
            else none
          else some (X.d Ty.bool false, [])
        else none
      else some (X.d Ty.bool false, [])
    else some (X.d Ty.bool false, [])) := by kernel_rfl

theorem tWr1 (A : Ar) (w : List Int) (nl : Option Bool) : bodyX (Cx A (Ow6 A) noL) 100 Try.f33 [i64s w nl false] [] =
    (some (X.d Ty.bool !A.se (fitB w), [])) := by kernel_rfl

theorem tIdxWW (A : Ar) (w : List (List Int)) (nl : Option Bool) : bodyX (Cx A (Ow7 A) (LidxWW A)) 100 Try.f52 [.sl wTy w nl false, .fn 33 [] []] [] =
    (bif
        A.se
          (decide
            (List.length w ≤ (1000000 : Nat) ∧
              (↑(List.length w) : Int) = (↑(List.length w) : Int) ∧
                (0 : Int) ≤ (0 : Int) ∧ (0 : Int) ≤ (↑(List.length w) : Int))) then
      bif A.se (decide (idxG badB (List.drop (Int.toNat (0 : Int)) w) < (0 : Int))) then
        some (X.d (Ty.int IntKind.i64) (-1 : Int), [])
      else some (X.d (Ty.int IntKind.i64) (A.se ((0 : Int) + idxG badB (List.drop (Int.toNat (0 : Int)) w))), [])
    else none) := by kernel_rfl

theorem lIdxWW (A : Ar) (R : Type) (w : List (List Int)) (nl : Option Bool) (z l i : Int) (k : Ex → List X → Hp → Option R) : stepF (Cx A (Ow7 A) (LidxWW A)) 100 (loopAt Try.f52 0) 19 [0, 1, 4, 7, 8] [.sl wTy w nl false, .fn 33 [] [], i64x z, i64x l, i64x i] [] k =
    (bif decide (i < l) then
      bif decide ((0 : Int) ≤ i ∧ i < (↑(List.length w) : Int)) then
        bif A.se (badB (List.getD w (Int.toNat i) (Ty.zero wTy))) then
          k Ex.ret
            [X.sl wTy w nl false, X.fn (33 : Nat) [] [], X.d (Ty.int IntKind.i64) i, X.d (Ty.int IntKind.i64) l,
              X.d (Ty.int IntKind.i64) i]
            []
        else
          k Ex.normal
            [X.sl wTy w nl false, X.fn (33 : Nat) [] [], X.d (Ty.int IntKind.i64) z, X.d (Ty.int IntKind.i64) l,
              X.d (Ty.int IntKind.i64) (A.wrap IntKind.i64 (i + (1 : Int)))]
            []
      else none
    else
      k (Ex.exit (0 : Nat))
        [X.sl wTy w nl false, X.fn (33 : Nat) [] [], X.d (Ty.int IntKind.i64) z, X.d (Ty.int IntKind.i64) l,
          X.d (Ty.int IntKind.i64) i]
        []) := by kernel_rfl

theorem tCtW (A : Ar) (w : List (List Int)) (nl : Option Bool) : bodyX (Cx A (Ow8 A) noL) 100 Try.f34 [.sl wTy w nl false, .fn 33 [] []] [] =
    (bif A.se (decide (List.length w ≤ (1000000 : Nat))) then
      some (X.d Ty.bool (decide (A.se (idxG badB w) ≥ (0 : Int))), [])
    else none) := by kernel_rfl

theorem tWr2 (A : Ar) (a : List Int) (na : Option Bool) (b : List Int) (nb : Option Bool) : bodyX (Cx A (Ow3 A) noL) 100 Try.f36 [i64s a na false, i64s b nb false] [] =
    (bif A.se (decide (List.length a ≤ (1000000 : Nat) ∧ List.length b ≤ (1000000 : Nat))) then
      some (X.d (Ty.int IntKind.i64) (A.se (R.cmpL a b)), [])
    else none) := by kernel_rfl

theorem tIsS (A : Ar) (l : List (List Int)) (nl : Option Bool) : bodyX (Cx A (Ow4 A) (LisS A)) 100 Try.f35 [.sl wTy l nl false, .fn 36 [] []] [] =
    (bif
        A.se
          (decide
              (List.length l ≤ (1000000 : Nat) ∧
                (-1 : Int) ≤ A.wrap IntKind.i64 ((↑(List.length l) : Int) - (1 : Int)) ∧
                  A.wrap IntKind.i64 ((↑(List.length l) : Int) - (1 : Int)) <
                    (↑(List.length l) : Int)) &&
            R.shortB l) then
      bif A.se (srtdTo l (Int.toNat (A.wrap IntKind.i64 ((↑(List.length l) : Int) - (1 : Int))))) then
        some (X.d Ty.bool true, [])
      else some (X.d Ty.bool false, [])
    else none) := by kernel_rfl

theorem lIsS (A : Ar) (R : Type) (l : List (List Int)) (nl : Option Bool) (z : Bool) (i : Int) (k : Ex → List X → Hp → Option R) : stepF (Cx A (Ow4 A) (LisS A)) 100 (loopAt Try.f35 0) 25 [0, 1, 4, 5] [.sl wTy l nl false, .fn 36 [] [], boolx z, i64x i] [] k =
    (bif decide (i > (0 : Int)) then
      bif decide ((0 : Int) ≤ i ∧ i < (↑(List.length l) : Int)) then
        bif
            decide
              ((0 : Int) ≤ A.wrap IntKind.i64 (i - (1 : Int)) ∧
                A.wrap IntKind.i64 (i - (1 : Int)) < (↑(List.length l) : Int)) then
          bif
              A.se
                (decide
                  (List.length (List.getD l (Int.toNat i) (Ty.zero wTy)) ≤ (1000000 : Nat) ∧
                    List.length (List.getD l (Int.toNat (A.wrap IntKind.i64 (i - (1 : Int)))) (Ty.zero wTy)) ≤
                      (1000000 : Nat))) then
            bif
                decide
                  (A.se
                      (V.R.cmpL (List.getD l (Int.toNat i) (Ty.zero wTy))
                        (List.getD l (Int.toNat (A.wrap IntKind.i64 (i - (1 : Int)))) (Ty.zero wTy))) <
                    (0 : Int)) then
              k Ex.ret [X.sl wTy l nl false, X.fn (36 : Nat) [] [], X.d Ty.bool false, X.d (Ty.int IntKind.i64) i] []
            else
              k Ex.normal
                [X.sl wTy l nl false, X.fn (36 : Nat) [] [], X.d Ty.bool z,
                  X.d (Ty.int IntKind.i64) (A.wrap IntKind.i64 (i - (1 : Int)))]
                []
          else none
        else none
      else none
    else k (Ex.exit (0 : Nat)) [X.sl wTy l nl false, X.fn (36 : Nat) [] [], X.d Ty.bool z, X.d (Ty.int IntKind.i64) i] []) := by kernel_rfl

theorem tWr (A : Ar) (l : List (List Int)) (nl : Option Bool) : bodyX (Cx A (Ow9 A) (Lwr A)) 100 Try.f17 [.sl wTy l nl false] [] =
    (bif decide ((↑(List.length l) : Int) > (300 : Int)) then
      some (X.tup [X.sl (Ty.int IntKind.u8) [] (some true) false, X.d (Ty.int IntKind.i64) (81 : Int)], [])
    else
      bif A.se (decide (List.length l ≤ (1000000 : Nat))) then
        bif A.se (List.any l badB) == false then
          bif A.se (decide (List.length l ≤ (1000 : Nat)) && R.shortB l) then
            bif ((↑(List.length (A.se (R.setL l))) : Int) != (↑(List.length l) : Int)) == false then
              bif A.se (decide (List.length l ≤ (1000000 : Nat)) && R.shortB l) then
                bif !A.se (sortB l) then
                  some (X.tup [X.sl (Ty.int IntKind.u8) [] (some true) false, X.d (Ty.int IntKind.i64) (90 : Int)], [])
                else
                  bif
                      A.se
                        (decide
                            ((↑(List.length l) : Int) = (↑(List.length l) : Int) ∧
                              (0 : Int) ≤ (0 : Int) ∧
                                (0 : Int) ≤ (↑(List.length l) : Int) ∧
                                  (↑(List.length l) : Int) ≤ (1000 : Int) ∧
                                    (↑(0 : Nat) : Int) ≤ (100 : Int) * (0 : Int)) &&
                          (true == true && List.all l fitB)) then
                    some
                      (X.tup
                          [X.sl (Ty.int IntKind.u8) (A.se ([] ++ joinW (List.drop (Int.toNat (0 : Int)) l)))
                              (some (A.se (List.isEmpty ([] ++ joinW (List.drop (Int.toNat (0 : Int)) l))))) false,
                            X.d (Ty.int IntKind.i64) (0 : Int)],
                        [])
                  else none
              else none
            else some (X.tup [X.sl (Ty.int IntKind.u8) [] (some true) false, X.d (Ty.int IntKind.i64) (90 : Int)], [])
          else none
        else some (X.tup [X.sl (Ty.int IntKind.u8) [] (some true) false, X.d (Ty.int IntKind.i64) (90 : Int)], [])
      else none) := by kernel_rfl

theorem lWr (A : Ar) (R : Type) (out : List Int) (x : Bool) (l : List (List Int)) (nl : Option Bool) (n i : Int) (k : Ex → List X → Hp → Option R) : stepF (Cx A (Ow9 A) (Lwr A)) 100 (loopAt Try.f17 0) 46 [2, 28, 29, 30] [u8s out (some x) true, .sl wTy l nl false, i64x n, i64x i] [] k =
    (bif decide (i < n) then
      bif decide ((0 : Int) ≤ i ∧ i < (↑(List.length l) : Int)) then
        bif A.se (decide (List.length (List.getD l (Int.toNat i) (Ty.zero wTy)) ≤ (17592186044416 : Nat))) then
          bif
              decide
                ((List.length out + List.length (A.se (U.putL (List.getD l (Int.toNat i) (Ty.zero wTy))))) * (1 : Nat) ≤
                  (140737488355328 : Nat)) then
            bif
                decide
                  ((List.length (out ++ A.se (U.putL (List.getD l (Int.toNat i) (Ty.zero wTy)))) +
                        List.length [(10 : Int)]) *
                      (1 : Nat) ≤
                    (140737488355328 : Nat)) then
              k Ex.normal
                [X.sl (Ty.int IntKind.u8) (out ++ A.se (U.putL (List.getD l (Int.toNat i) (Ty.zero wTy))) ++ [(10 : Int)])
                    (some
                      (x && List.isEmpty (A.se (U.putL (List.getD l (Int.toNat i) (Ty.zero wTy)))) &&
                        List.isEmpty [(10 : Int)]))
                    true,
                  X.sl wTy l nl false, X.d (Ty.int IntKind.i64) n,
                  X.d (Ty.int IntKind.i64) (A.wrap IntKind.i64 (i + (1 : Int)))]
                []
            else none
          else none
        else none
      else none
    else
      k (Ex.exit (0 : Nat))
        [X.sl (Ty.int IntKind.u8) out (some x) true, X.sl wTy l nl false, X.d (Ty.int IntKind.i64) n,
          X.d (Ty.int IntKind.i64) i]
        []) := by kernel_rfl

end Go.Proofs.Ytnbfiifkaddehaa.V

/- Chapter 09, word lists: the small functions do what they tell. -/
namespace Go.Proofs.Ytnbfiifkaddehaa.V

open Go

set_option linter.unusedVariables false

set_option linter.unusedSimpArgs false

theorem idxG_ge {α : Type} (p : α → Bool) : ∀ l : List α, -1 ≤ idxG p l
  | [] => by simp [idxG]
  | x :: l => by
    have := idxG_ge p l
    simp only [idxG]
    cases p x
    · cases h : (idxG p l == -1)
      · simp only [cond_false]; omega
      · simp
    · simp

theorem idxG_at {α : Type} {p : α → Bool} {x : α} (l : List α) (h : p x = true) : idxG p (x :: l) = 0 := by simp [idxG, h]

theorem idxG_on {α : Type} {p : α → Bool} {x : α} (l : List α) (h : p x = false) : idxG p (x :: l) = if idxG p l < 0 then -1 else idxG p l + 1 := by
  have := idxG_ge p l
  simp only [idxG, h, cond_false]
  by_cases h1 : idxG p l < 0
  · have : idxG p l = -1 := by omega
    simp [this]
  · have h2 : (idxG p l == -1) = false := by rw [beq_eq_false_iff_ne]; omega
    rw [h2, if_neg h1]; rfl

theorem idxG_any {α : Type} (p : α → Bool) : ∀ l : List α, decide (idxG p l ≥ 0) = l.any p
  | [] => by simp [idxG]
  | x :: l => by
    have ih := idxG_any p l
    cases h : p x with
    | true => rw [idxG_at l h]; simp [h]
    | false =>
      rw [idxG_on l h, List.any_cons, h, Bool.false_or, ← ih]
      by_cases h1 : idxG p l < 0
      · rw [if_pos h1]
        have h2 : ¬ idxG p l ≥ 0 := by omega
        simp [h2]
      · rw [if_neg h1]
        have h2 : idxG p l ≥ 0 := by omega
        have h3 : idxG p l + 1 ≥ 0 := by omega
        simp [h2, h3]

theorem ltL_dec (a b : List Int) : R.ltL a b = decide (R.cmpL a b < 0) := rfl

theorem ow1 : OOk (Ow1 Ar.real) := (((OOk.none.add U.good_ok).add U.uput_ok))

theorem ow2 : OOk (Ow2 Ar.real) := (((ow1)).add R.sort_ok)

theorem fit1_ok : OrcOk Try.prog 40 (.pure (fit1F Ar.real)) := by
  refine pureOk (Cx.ok ow2 noL) mixed 40 Try.f40 (by kernel_rfl) (by kernel_rfl) (by kernel_rfl) 100 0 (by kernel_rfl) (fun i h => by omega) fun args r h => ?_
  unfold fit1F at h
  split at h
  · rename_i n
    simp only [Tr.run, Option.some.injEq] at h
    subst h
    refine ⟨rfl, rfl, [], ?_⟩
    rw [tFit1]
    simp only [rw_se, wrongB]
    cases h1 : U.goodN n
    · rfl
    · rw [bt (c := (!true) == false) rfl]
      cases h2 : (n == 32)
      · rw [bt (c := false == false) rfl]
        cases h3 : (n == 9)
        · rw [bt (c := false == false) rfl]; rfl
        · rw [bf (c := true == false) rfl]; rfl
      · rw [bf (c := true == false) rfl]; rfl
  · cases h

theorem ow3 : OOk (Ow3 Ar.real) := ((ow2.add R.cmp_ok)).add fit1_ok

theorem loopIdxW (w : List Int) (nl : Option Bool) (z : Int) (hw : w.length ≤ 1000000) : ∀ (n i : Nat), w.length - i = n → i ≤ w.length →
    LoopTo (Cx Ar.real (Ow3 Ar.real) (LidxW Ar.real)) 100 (loopAt Try.f55 0) 19 [0, 1, 4, 7, 8] [i64s w nl false, .fn 40 [] [], i64x z, i64x (w.length : Int), i64x (i : Int)] []
      (bif decide (idxG wrongB (w.drop i) < 0) then (.exit 0, [.dead, .dead, .dead, .dead, .dead], []) else (.ret, [.dead, .dead, i64x ((i : Int) + idxG wrongB (w.drop i)), .dead, .dead], [])) := by
  intro n
  induction n with
  | zero =>
    intro i h1 h2
    rw [List.drop_eq_nil_iff.2 (by omega), bt (by simp [idxG])]
    refine LoopTo.left (by simp) fun k => ?_
    rw [lIdxW, bf (by rw [decide_eq_false_iff_not]; omega)]
    exact ⟨_, rfl, R.fd (R.fd (R.fd (R.fd (R.fd (Forget.same _)))))⟩
  | succ n ih =>
    intro i h1 h2
    have hi : i < w.length := by omega
    rw [R.dropG (0 : Int) hi]
    cases hp : wrongB (w.getD i 0) with
    | true =>
      rw [idxG_at _ hp, bf (by simp), Int.add_zero]
      refine LoopTo.left (by simp) fun k => ?_
      rw [lIdxW]
      simp only [Int.toNat_natCast, rw_se]
      rw [bt (by rw [decide_eq_true_eq]; omega), bt (by rw [decide_eq_true_eq]; omega), bt hp]
      exact ⟨_, rfl, R.fd (R.fd (R.fk (R.fd (R.fd (Forget.same _)))))⟩
    | false =>
      have hge := idxG_ge wrongB (w.drop (i + 1))
      have e : (bif decide (idxG wrongB (w.getD i 0 :: w.drop (i + 1)) < 0) then ((Ex.exit 0, [X.dead, .dead, .dead, .dead, .dead], []) : Ex × List X × Hp) else (.ret, [.dead, .dead, i64x ((i : Int) + idxG wrongB (w.getD i 0 :: w.drop (i + 1))), .dead, .dead], [])) =
          bif decide (idxG wrongB (w.drop (i + 1)) < 0) then (.exit 0, [.dead, .dead, .dead, .dead, .dead], []) else (.ret, [.dead, .dead, i64x (((i + 1 : Nat) : Int) + idxG wrongB (w.drop (i + 1))), .dead, .dead], []) := by
        rw [idxG_on _ hp]
        by_cases h : idxG wrongB (w.drop (i + 1)) < 0
        · rw [if_pos h, bt (by simp), bt (decide_eq_true h)]
        · rw [if_neg h, bf (by rw [decide_eq_false_iff_not]; omega), bf (decide_eq_false h), show (i : Int) + (idxG wrongB (w.drop (i + 1)) + 1) = ((i + 1 : Nat) : Int) + idxG wrongB (w.drop (i + 1)) by omega]
      rw [e]
      refine LoopTo.next (fun k => ?_) (ih (i + 1) (by omega) (by omega))
      rw [lIdxW]
      simp only [Int.toNat_natCast, rw_se, R.wi1 (show i ≤ 9000000000000000000 by omega)]
      rw [bt (by rw [decide_eq_true_eq]; omega), bt (by rw [decide_eq_true_eq]; omega), bf hp]

theorem idxW_ok : OrcOk Try.prog 55 (.pure (idxWF Ar.real)) := by
  refine pureOk (Cx.ok ow3 (LidxW Ar.real)) mixed 55 Try.f55 (by kernel_rfl) (by kernel_rfl) (by kernel_rfl) 100 1 (by kernel_rfl) (fun i h => ?_) fun args r h => ?_
  · obtain rfl : i = 0 := by omega
    refine Tells.mk (key := 2) (N := 19) (ks := [0, 1, 4, 7, 8]) (F := LidxWF Ar.real) (by kernel_rfl) rfl fun xs H r h => ?_
    unfold LidxWF at h
    split at h
    · rename_i w nl z l i
      obtain ⟨hg, rfl⟩ := R.Tr.two h
      simp only [rw_se, decide_eq_true_eq] at hg ⊢
      dsimp only [Ty.den] at hg
      obtain ⟨h1, h2, h3, h4⟩ := hg
      obtain ⟨m, rfl⟩ := Int.eq_ofNat_of_zero_le h3
      subst h2
      simp only [Int.toNat_natCast]
      exact loopIdxW w nl z h1 _ m rfl (by omega)
    · cases h
  · unfold idxWF at h
    split at h
    · rename_i w nl
      obtain ⟨hg, rfl⟩ := Tr.one h
      refine ⟨rfl, rfl, [], ?_⟩
      rw [tIdxW]
      simp only [rw_se, decide_eq_true_eq, show Int.toNat 0 = 0 from rfl, List.drop_zero] at hg ⊢
      rw [bt (by rw [decide_eq_true_eq]; exact ⟨hg, trivial, by omega, by omega⟩)]
      have hge := idxG_ge wrongB w
      by_cases he : idxG wrongB w < 0
      · rw [bt (decide_eq_true he), show idxG wrongB w = -1 by omega]
      · rw [bf (decide_eq_false he), Int.zero_add]
    · cases h

theorem wr2_ok : OrcOk Try.prog 36 (.pure (wr2F Ar.real)) := by
  refine pureOk (Cx.ok ow3 noL) mixed 36 Try.f36 (by kernel_rfl) (by kernel_rfl) (by kernel_rfl) 100 0 (by kernel_rfl) (fun i h => by omega) fun args r h => ?_
  unfold wr2F at h
  split at h
  · rename_i a na b nb
    obtain ⟨hg, rfl⟩ := Tr.one h
    refine ⟨rfl, rfl, [], ?_⟩
    rw [tWr2, bt hg]
  · cases h

theorem ow4 : OOk (Ow4 Ar.real) := (ow3.add idxW_ok).add wr2_ok

theorem ct_ok : OrcOk Try.prog 41 (.pure (ctF Ar.real)) := by
  refine pureOk (Cx.ok ow4 noL) mixed 41 Try.f41 (by kernel_rfl) (by kernel_rfl) (by kernel_rfl) 100 0 (by kernel_rfl) (fun i h => by omega) fun args r h => ?_
  unfold ctF at h
  split at h
  · rename_i w nl
    obtain ⟨hg, rfl⟩ := Tr.one h
    refine ⟨rfl, rfl, [], ?_⟩
    rw [tCt, bt hg]
    simp only [rw_se]
    rw [idxG_any]
  · cases h

theorem short_at {l : List (List Int)} (h : R.shortB l = true) {i : Nat} (hi : i < l.length) : (l.getD i (Ty.zero wTy)).length ≤ 1000 := by
  unfold R.shortB at h
  have := List.all_eq_true.1 h _ (R.memG (Ty.zero wTy) hi)
  simpa using this

theorem loopIsS (l : List (List Int)) (nl : Option Bool) (z : Bool) (hl : l.length ≤ 1000000) (hs : R.shortB l = true) : ∀ i : Nat, i < l.length →
    LoopTo (Cx Ar.real (Ow4 Ar.real) (LisS Ar.real)) 100 (loopAt Try.f35 0) 25 [0, 1, 4, 5] [.sl wTy l nl false, .fn 36 [] [], boolx z, i64x (i : Int)] []
      (bif srtdTo l i then (.exit 0, [.dead, .dead, .dead, .dead], []) else (.ret, [.dead, .dead, boolx false, .dead], [])) := by
  intro i
  induction i with
  | zero =>
    intro h2
    rw [bt (c := srtdTo l 0) rfl]
    refine LoopTo.left (by simp) fun k => ?_
    rw [lIsS, bf (by rw [decide_eq_false_iff_not]; omega)]
    exact ⟨_, rfl, R.fd (R.fd (R.fd (R.fd (Forget.same _))))⟩
  | succ i ih =>
    intro h2
    have hw : Ar.real.wrap .i64 (((i + 1 : Nat) : Int) - 1) = (i : Int) := by rw [rw_wrap, wi64 (by omega) (by omega)]; omega
    have e0 : ∀ j, l.getD j (Ty.zero wTy) = l.getD j [] := fun _ => rfl
    have ha := short_at hs h2
    have hb := short_at hs (show i < l.length by omega)
    have step : ∀ (k : Ex → List X → Hp → Option (Ex × List X × Hp)), stepF (Cx Ar.real (Ow4 Ar.real) (LisS Ar.real)) 100 (loopAt Try.f35 0) 25 [0, 1, 4, 5] [.sl wTy l nl false, .fn 36 [] [], boolx z, i64x ((i + 1 : Nat) : Int)] [] k =
        bif R.ltL (l.getD (i + 1) []) (l.getD i []) then k .ret [.sl wTy l nl false, .fn 36 [] [], boolx false, i64x ((i + 1 : Nat) : Int)] [] else k .normal [.sl wTy l nl false, .fn 36 [] [], boolx z, i64x (i : Int)] [] := by
      intro k
      rw [lIsS]
      simp only [hw, Int.toNat_natCast, rw_se]
      rw [bt (by rw [decide_eq_true_eq]; omega), bt (by rw [decide_eq_true_eq]; omega), bt (by rw [decide_eq_true_eq]; omega), bt (decide_eq_true ⟨Nat.le_trans ha (by omega), Nat.le_trans hb (by omega)⟩), ltL_dec]
      rfl
    cases hc : R.ltL (l.getD (i + 1) []) (l.getD i []) with
    | true =>
      have e : srtdTo l (i + 1) = false := by simp only [srtdTo, hc]; rfl
      rw [e, cond_false]
      refine LoopTo.left (by simp) fun k => ?_
      rw [step, bt hc]
      exact ⟨_, rfl, R.fd (R.fd (R.fk (R.fd (Forget.same _))))⟩
    | false =>
      have e : srtdTo l (i + 1) = srtdTo l i := by simp only [srtdTo, hc]; rfl
      rw [e]
      refine LoopTo.next (fun k => ?_) (ih (by omega))
      rw [step, bf hc]

theorem isS_ok : OrcOk Try.prog 35 (.pure (isSF Ar.real)) := by
  refine pureOk (Cx.ok ow4 (LisS Ar.real)) mixed 35 Try.f35 (by kernel_rfl) (by kernel_rfl) (by kernel_rfl) 100 1 (by kernel_rfl) (fun i h => ?_) fun args r h => ?_
  · obtain rfl : i = 0 := by omega
    refine Tells.mk (key := 2) (N := 25) (ks := [0, 1, 4, 5]) (F := LisSF Ar.real) (by kernel_rfl) rfl fun xs H r h => ?_
    unfold LisSF at h
    split at h
    · rename_i l nl z i
      obtain ⟨hg, rfl⟩ := R.Tr.two h
      simp only [rw_se, Bool.and_eq_true, decide_eq_true_eq] at hg ⊢
      dsimp only [Ty.den] at hg
      obtain ⟨⟨h1, h2, h3⟩, h4⟩ := hg
      by_cases hi : @LE.le Int _ 0 i
      · obtain ⟨m, rfl⟩ := Int.eq_ofNat_of_zero_le hi
        simp only [Int.toNat_natCast]
        exact loopIsS l nl z h1 h4 m (by omega)
      · have hi' : @LT.lt Int _ i 0 := Int.not_le.1 hi
        have h0 : Int.toNat i = 0 := Int.toNat_of_nonpos (Int.le_of_lt hi')
        rw [h0, bt (c := srtdTo l 0) rfl]
        refine LoopTo.left (by simp) fun k => ?_
        rw [lIsS, bf (by rw [decide_eq_false_iff_not]; exact fun h => Int.lt_irrefl _ (Int.lt_trans hi' h))]
        exact ⟨_, rfl, R.fd (R.fd (R.fd (R.fd (Forget.same _))))⟩
    · cases h
  · unfold isSF at h
    split at h
    · rename_i l nl
      obtain ⟨hg, rfl⟩ := Tr.one h
      refine ⟨rfl, rfl, [], ?_⟩
      rw [tIsS]
      simp only [rw_se, Bool.and_eq_true, decide_eq_true_eq] at hg ⊢
      have hw : Ar.real.wrap .i64 ((l.length : Int) - 1) = (l.length : Int) - 1 := by rw [rw_wrap, wi64 (by omega) (by omega)]
      have h0 : ((l.length : Int) - 1).toNat = l.length - 1 := by omega
      rw [hw, h0, bt (by rw [Bool.and_eq_true, decide_eq_true_eq]; exact ⟨⟨hg.1, by omega, by omega⟩, hg.2⟩)]
      unfold sortB
      cases srtdTo l (l.length - 1) <;> rfl
    · cases h

theorem ow5 : OOk (Ow5 Ar.real) := (ow4.add ct_ok).add isS_ok

theorem fit_ok : OrcOk Try.prog 20 (.pure (fitF Ar.real)) := by
  refine pureOk (Cx.ok ow5 noL) mixed 20 Try.f20 (by kernel_rfl) (by kernel_rfl) (by kernel_rfl) 100 0 (by kernel_rfl) (fun i h => by omega) fun args r h => ?_
  unfold fitF at h
  split at h
  · rename_i w nl
    simp only [Tr.run, Option.some.injEq] at h
    subst h
    refine ⟨rfl, rfl, [], ?_⟩
    rw [tFit]
    simp only [rw_se, decide_eq_true_eq, show Int.toNat 0 = 0 from rfl, fitB]
    by_cases h1 : 1 ≤ w.length
    · rw [bt (by rw [decide_eq_true (show (w.length : Int) > 0 by omega)]; rfl)]
      by_cases h2 : w.length ≤ 20
      · rw [bt (by rw [decide_eq_true (show (w.length : Int) ≤ 20 by omega)]; rfl), bt (by rw [decide_eq_true_eq]; omega), decide_eq_true (show 1 ≤ w.length ∧ w.length ≤ 20 from ⟨h1, h2⟩), Bool.true_and]
        cases h3 : (w.getD 0 0 == 35)
        · rw [bt (by rw [bne, h3]; rfl), bt (decide_eq_true (show w.length ≤ 1000000 by omega))]; rfl
        · rw [bf (by rw [bne, h3]; rfl)]; rfl
      · rw [bf (by rw [decide_eq_false (show ¬ (w.length : Int) ≤ 20 by omega)]; rfl), decide_eq_false (fun h => h2 h.2)]; rfl
    · rw [bf (by rw [decide_eq_false (show ¬ (w.length : Int) > 0 by omega)]; rfl), decide_eq_false (fun h => h1 h.1)]; rfl
  · cases h

theorem ow6 : OOk (Ow6 Ar.real) := ow5.add fit_ok

theorem wr1_ok : OrcOk Try.prog 33 (.pure (wr1F Ar.real)) := by
  refine pureOk (Cx.ok ow6 noL) mixed 33 Try.f33 (by kernel_rfl) (by kernel_rfl) (by kernel_rfl) 100 0 (by kernel_rfl) (fun i h => by omega) fun args r h => ?_
  unfold wr1F at h
  split at h
  · rename_i w nl
    simp only [Tr.run, Option.some.injEq] at h
    subst h
    refine ⟨rfl, rfl, [], ?_⟩
    rw [tWr1]
    rfl
  · cases h

theorem ow7 : OOk (Ow7 Ar.real) := ow6.add wr1_ok

theorem loopIdxWW (w : List (List Int)) (nl : Option Bool) (z : Int) (hw : w.length ≤ 1000000) : ∀ (n i : Nat), w.length - i = n → i ≤ w.length →
    LoopTo (Cx Ar.real (Ow7 Ar.real) (LidxWW Ar.real)) 100 (loopAt Try.f52 0) 19 [0, 1, 4, 7, 8] [.sl wTy w nl false, .fn 33 [] [], i64x z, i64x (w.length : Int), i64x (i : Int)] []
      (bif decide (idxG badB (w.drop i) < 0) then (.exit 0, [.dead, .dead, .dead, .dead, .dead], []) else (.ret, [.dead, .dead, i64x ((i : Int) + idxG badB (w.drop i)), .dead, .dead], [])) := by
  intro n
  induction n with
  | zero =>
    intro i h1 h2
    rw [List.drop_eq_nil_iff.2 (by omega), bt (by simp [idxG])]
    refine LoopTo.left (by simp) fun k => ?_
    rw [lIdxWW, bf (by rw [decide_eq_false_iff_not]; omega)]
    exact ⟨_, rfl, R.fd (R.fd (R.fd (R.fd (R.fd (Forget.same _)))))⟩
  | succ n ih =>
    intro i h1 h2
    have hi : i < w.length := by omega
    rw [R.dropG (Ty.zero wTy) hi]
    cases hp : badB (w.getD i (Ty.zero wTy)) with
    | true =>
      rw [idxG_at _ hp, bf (by simp), Int.add_zero]
      refine LoopTo.left (by simp) fun k => ?_
      rw [lIdxWW]
      simp only [Int.toNat_natCast, rw_se]
      rw [bt (by rw [decide_eq_true_eq]; omega), bt (by rw [decide_eq_true_eq]; omega), bt hp]
      exact ⟨_, rfl, R.fd (R.fd (R.fk (R.fd (R.fd (Forget.same _)))))⟩
    | false =>
      have hge := idxG_ge badB (w.drop (i + 1))
      have e : (bif decide (idxG badB (w.getD i (Ty.zero wTy) :: w.drop (i + 1)) < 0) then ((Ex.exit 0, [X.dead, .dead, .dead, .dead, .dead], []) : Ex × List X × Hp) else (.ret, [.dead, .dead, i64x ((i : Int) + idxG badB (w.getD i (Ty.zero wTy) :: w.drop (i + 1))), .dead, .dead], [])) =
          bif decide (idxG badB (w.drop (i + 1)) < 0) then (.exit 0, [.dead, .dead, .dead, .dead, .dead], []) else (.ret, [.dead, .dead, i64x (((i + 1 : Nat) : Int) + idxG badB (w.drop (i + 1))), .dead, .dead], []) := by
        rw [idxG_on _ hp]
        by_cases h : idxG badB (w.drop (i + 1)) < 0
        · rw [if_pos h, bt (by simp), bt (decide_eq_true h)]
        · rw [if_neg h, bf (by rw [decide_eq_false_iff_not]; omega), bf (decide_eq_false h), show (i : Int) + (idxG badB (w.drop (i + 1)) + 1) = ((i + 1 : Nat) : Int) + idxG badB (w.drop (i + 1)) by omega]
      rw [e]
      refine LoopTo.next (fun k => ?_) (ih (i + 1) (by omega) (by omega))
      rw [lIdxWW]
      simp only [Int.toNat_natCast, rw_se, R.wi1 (show i ≤ 9000000000000000000 by omega)]
      rw [bt (by rw [decide_eq_true_eq]; omega), bt (by rw [decide_eq_true_eq]; omega), bf hp]

theorem idxWW_ok : OrcOk Try.prog 52 (.pure (idxWWF Ar.real)) := by
  refine pureOk (Cx.ok ow7 (LidxWW Ar.real)) mixed 52 Try.f52 (by kernel_rfl) (by kernel_rfl) (by kernel_rfl) 100 1 (by kernel_rfl) (fun i h => ?_) fun args r h => ?_
  · obtain rfl : i = 0 := by omega
    refine Tells.mk (key := 2) (N := 19) (ks := [0, 1, 4, 7, 8]) (F := LidxWWF Ar.real) (by kernel_rfl) rfl fun xs H r h => ?_
    unfold LidxWWF at h
    split at h
    · rename_i w nl z l i
      obtain ⟨hg, rfl⟩ := R.Tr.two h
      simp only [rw_se, decide_eq_true_eq] at hg ⊢
      dsimp only [Ty.den] at hg
      obtain ⟨h1, h2, h3, h4⟩ := hg
      obtain ⟨m, rfl⟩ := Int.eq_ofNat_of_zero_le h3
      subst h2
      simp only [Int.toNat_natCast]
      exact loopIdxWW w nl z h1 _ m rfl (by omega)
    · cases h
  · unfold idxWWF at h
    split at h
    · rename_i w nl
      obtain ⟨hg, rfl⟩ := Tr.one h
      refine ⟨rfl, rfl, [], ?_⟩
      rw [tIdxWW]
      simp only [rw_se, decide_eq_true_eq, show Int.toNat 0 = 0 from rfl, List.drop_zero] at hg ⊢
      rw [bt (by rw [decide_eq_true_eq]; exact ⟨hg, trivial, by omega, by omega⟩)]
      have hge := idxG_ge badB w
      by_cases he : idxG badB w < 0
      · rw [bt (decide_eq_true he), show idxG badB w = -1 by omega]
      · rw [bf (decide_eq_false he), Int.zero_add]
    · cases h

theorem ow8 : OOk (Ow8 Ar.real) := ow7.add idxWW_ok

theorem ctW_ok : OrcOk Try.prog 34 (.pure (ctWF Ar.real)) := by
  refine pureOk (Cx.ok ow8 noL) mixed 34 Try.f34 (by kernel_rfl) (by kernel_rfl) (by kernel_rfl) 100 0 (by kernel_rfl) (fun i h => by omega) fun args r h => ?_
  unfold ctWF at h
  split at h
  · rename_i w nl
    obtain ⟨hg, rfl⟩ := Tr.one h
    refine ⟨rfl, rfl, [], ?_⟩
    rw [tCtW, bt hg]
    simp only [rw_se]
    rw [idxG_any]
  · cases h

theorem ow9 : OOk (Ow9 Ar.real) := (ow8.add ctW_ok)

theorem fitB_good {w : List Int} (h : fitB w = true) : w.all U.goodN = true ∧ 1 ≤ w.length ∧ w.length ≤ 20 ∧ w.getD 0 0 ≠ 35 ∧ ∀ n ∈ w, n ≠ 32 ∧ n ≠ 9 ∧ n ≠ 10 := by
  unfold fitB at h
  simp only [Bool.and_eq_true, decide_eq_true_eq, Bool.not_eq_true', beq_eq_false_iff_ne, List.any_eq_false] at h
  obtain ⟨⟨h1, h2⟩, h3, h4⟩ := h
  have h5 : ∀ n ∈ w, U.goodN n = true ∧ n ≠ 32 ∧ n ≠ 9 ∧ n ≠ 10 := fun n hn => by
    have := h4 n hn
    unfold wrongB at this
    simpa using this
  exact ⟨List.all_eq_true.2 fun n hn => (h5 n hn).1, h1, h2, h3, fun n hn => (h5 n hn).2⟩

theorem ups_len : ∀ l : List Int, (U.ups l).length ≤ 4 * l.length
  | [] => by simp [U.ups]
  | n :: l => by
    have := ups_len l
    rw [U.ups_cons, List.length_append, List.length_cons]
    have h : (U.ub n).length ≤ 4 := by rw [U.ub_len]; split <;> (try split) <;> (try split) <;> omega
    omega

theorem putL_len {w : List Int} (h : fitB w = true) : U.putL w = U.ups w ∧ (U.putL w).length ≤ 80 := by
  obtain ⟨h1, _, h2, _⟩ := fitB_good h
  have e : U.putL w = U.ups w := by unfold U.putL; rw [h1]; rfl
  have := ups_len w
  exact ⟨e, by rw [e]; omega⟩

theorem joinW_cons (w : List Int) (l : List (List Int)) : joinW (w :: l) = U.putL w ++ [10] ++ joinW l := by simp [joinW]

theorem loopWr (l : List (List Int)) (nl : Option Bool) (hl : l.length ≤ 1000) (hf : ∀ w ∈ l, fitB w = true) : ∀ (n i : Nat) (out : List Int), l.length - i = n → i ≤ l.length → out.length ≤ 100 * i →
    LoopTo (Cx Ar.real (Ow9 Ar.real) (Lwr Ar.real)) 100 (loopAt Try.f17 0) 46 [2, 28, 29, 30] [u8s out (some out.isEmpty) true, .sl wTy l nl false, i64x (l.length : Int), i64x (i : Int)] []
      (.exit 0, [u8s (out ++ joinW (l.drop i)) (some (out ++ joinW (l.drop i)).isEmpty) true, .dead, .dead, .dead], []) := by
  intro n
  induction n with
  | zero =>
    intro i out h1 h2 h3
    rw [List.drop_eq_nil_iff.2 (by omega), show joinW [] = [] from rfl, List.append_nil]
    refine LoopTo.left (by simp) fun k => ?_
    rw [lWr, bf (by rw [decide_eq_false_iff_not]; omega)]
    exact ⟨_, rfl, R.fk (R.fd (R.fd (R.fd (Forget.same _))))⟩
  | succ n ih =>
    intro i out h1 h2 h3
    have hi : i < l.length := by omega
    have hw := hf _ (R.memG (Ty.zero wTy) hi)
    obtain ⟨p1, p2⟩ := putL_len hw
    have p3 := (fitB_good hw).2.2.1
    have h := ih (i + 1) (out ++ U.putL (l.getD i (Ty.zero wTy)) ++ [10]) (by omega) (by omega) (by simp only [List.length_append, List.length_singleton]; omega)
    rw [R.dropG (Ty.zero wTy) hi, joinW_cons, show out ++ (U.putL (l.getD i (Ty.zero wTy)) ++ [10] ++ joinW (l.drop (i + 1))) = out ++ U.putL (l.getD i (Ty.zero wTy)) ++ [10] ++ joinW (l.drop (i + 1)) by simp]
    refine LoopTo.next (fun k => ?_) h
    rw [lWr]
    simp only [Int.toNat_natCast, rw_se, R.wi1 (show i ≤ 9000000000000000000 by omega)]
    rw [bt (by rw [decide_eq_true_eq]; omega), bt (by rw [decide_eq_true_eq]; omega), bt (decide_eq_true (Nat.le_trans p3 (by omega))), bt (by rw [decide_eq_true_eq]; omega), bt (by rw [decide_eq_true_eq, List.length_append, List.length_singleton]; omega)]
    have e1 : (out ++ U.putL (l.getD i (Ty.zero wTy)) ++ [(10 : Int)]).isEmpty = false := by simp
    rw [e1]
    simp only [List.isEmpty_cons, Bool.and_false]

theorem any_bad {l : List (List Int)} (h : l.any badB = false) : ∀ w ∈ l, fitB w = true := fun w hw => by
  have := List.any_eq_false.1 h w hw
  unfold badB at this
  simpa using this

theorem write_ok : OrcOk Try.prog 17 (.pure (writeF Ar.real)) := by
  refine pureOk (Cx.ok ow9 (Lwr Ar.real)) mixed 17 Try.f17 (by kernel_rfl) (by kernel_rfl) (by kernel_rfl) 100 1 (by kernel_rfl) (fun i h => ?_) fun args r h => ?_
  · obtain rfl : i = 0 := by omega
    refine Tells.mk (key := 7) (N := 46) (ks := [2, 28, 29, 30]) (F := LwrF Ar.real) (by kernel_rfl) rfl fun xs H r h => ?_
    unfold LwrF at h
    split at h
    · rename_i out x l nl n i
      obtain ⟨hg, rfl⟩ := Tr.one h
      simp only [rw_se, Bool.and_eq_true, decide_eq_true_eq, beq_iff_eq, List.all_eq_true] at hg ⊢
      dsimp only [Ty.den] at hg
      obtain ⟨⟨h1, h2, h3, h4, h5⟩, h6, h7⟩ := hg
      obtain ⟨m, rfl⟩ := Int.eq_ofNat_of_zero_le h2
      subst h1
      subst h6
      simp only [Int.toNat_natCast]
      exact loopWr l nl (by omega) h7 _ m out rfl (by omega) (by omega)
    · cases h
  · unfold writeF at h
    split at h
    · rename_i l nl
      simp only [Tr.run, Option.some.injEq] at h
      subst h
      refine ⟨rfl, rfl, [], ?_⟩
      rw [tWr]
      simp only [rw_se]
      unfold writeW
      by_cases g1 : l.length > 300
      · rw [bt (by rw [decide_eq_true_eq]; omega), if_pos g1]; rfl
      · rw [bf (by rw [decide_eq_false_iff_not]; omega), if_neg g1, bt (by rw [decide_eq_true_eq]; omega)]
        cases g2 : l.any badB with
        | true => rw [bf (c := true == false) rfl, Bool.true_or, cond_true]; rfl
        | false =>
          have h2 : R.shortB l = true := by
            unfold R.shortB
            rw [List.all_eq_true]
            intro w hw
            have := (fitB_good (any_bad g2 w hw)).2.2.1
            rw [decide_eq_true_eq]; omega
          have hq : ∀ n : Nat, 300 ≤ n → (decide (l.length ≤ n) && R.shortB l) = true := fun n hn => by rw [Bool.and_eq_true, decide_eq_true_eq]; exact ⟨by omega, h2⟩
          rw [bt (c := false == false) rfl, bt (hq _ (by omega)), Bool.false_or]
          by_cases g3 : (R.setL l).length = l.length
          · have e1 : (((R.setL l).length : Int) != (l.length : Int)) = false := by rw [bne_eq_false_iff_eq]; omega
            rw [bt (by rw [e1]; rfl), bt (hq _ (by omega)), decide_eq_false (show ¬ (R.setL l).length ≠ l.length from fun h => h g3), Bool.false_or]
            cases g4 : sortB l with
            | false => rw [bt (c := !false) rfl, bt (c := !false) rfl]; rfl
            | true =>
              rw [bf (c := !true) rfl, bf (c := !true) rfl, bt (by
                rw [Bool.and_eq_true, decide_eq_true_eq, Bool.and_eq_true, List.all_eq_true]
                exact ⟨⟨trivial, by omega, by omega, by omega, by omega⟩, rfl, any_bad g2⟩)]
              rfl
          · have e1 : (((R.setL l).length : Int) != (l.length : Int)) = true := by rw [bne_iff_ne]; omega
            rw [bf (by rw [e1]; rfl), decide_eq_true (show (R.setL l).length ≠ l.length from g3), Bool.true_or, cond_true]; rfl
    · cases h

end Go.Proofs.Ytnbfiifkaddehaa.V

/- Chapter 09, word lists: the plain law: what is read of lines; that what is written is read again; no program in sight. -/
namespace Go.Proofs.Ytnbfiifkaddehaa.V
open Go
set_option linter.unusedVariables false
set_option linter.unusedSimpArgs false
theorem srt_adj : ∀ {l : List (List Int)} {n : Nat}, srtdTo l n = true → ∀ k, k < n → R.ltL (l.getD (k + 1) []) (l.getD k []) = false
  | l, 0, _, k, hk => by omega
  | l, n + 1, h, k, hk => by
    simp only [srtdTo, Bool.and_eq_true, Bool.not_eq_true'] at h
    by_cases e : k = n
    · subst e; exact h.1
    · exact srt_adj h.2 k (by omega)
theorem adj_rises : ∀ {l : List (List Int)}, (∀ k, k + 1 < l.length → R.ltL (l.getD k []) (l.getD (k + 1) []) = true) → R.Rises l
  | [], _ => List.Pairwise.nil
  | [x], _ => List.pairwise_singleton _ _
  | x :: y :: l, h => by
    have ih : R.Rises (y :: l) := adj_rises fun k hk => by
      have := h (k + 1) (by simpa using hk)
      simpa using this
    have hxy : R.ltL x y = true := by simpa using h 0 (by simp)
    refine List.Pairwise.cons (fun z hz => ?_) ih
    rcases List.mem_cons.1 hz with rfl | hz
    · exact hxy
    · exact R.ltL_tr hxy ((List.pairwise_cons.1 ih).1 z hz)
/-- Just words that rise are as many as they are when they are sorted, and stand in order. -/
theorem sorted_rises {l : List (List Int)} : (decide ((R.setL l).length ≠ l.length) || !(sortB l)) = false ↔ R.Rises l := by
  constructor
  · intro h
    simp only [Bool.or_eq_false_iff, decide_eq_false_iff_not, Bool.not_eq_false', Decidable.not_not] at h
    obtain ⟨h1, h2⟩ := h
    refine adj_rises fun k hk => ?_
    have ha := srt_adj h2 k (by omega)
    by_cases e : l.getD k [] = l.getD (k + 1) []
    · exfalso
      have hsub : R.setL l = R.setL (l.eraseIdx (k + 1)) := R.setL_ext fun z => by
        constructor
        · intro hz
          obtain ⟨i, hi, rfl⟩ := List.mem_iff_getElem.1 hz
          by_cases hik : i = k + 1
          · subst hik
            have e' : l[k + 1] = l[k] := by
              rw [List.getD_eq_getElem?_getD, List.getElem?_eq_getElem (by omega), List.getD_eq_getElem?_getD, List.getElem?_eq_getElem (by omega)] at e
              exact e.symm
            rw [e']
            exact List.mem_eraseIdx_iff_getElem.2 ⟨k, by omega, by omega, rfl⟩
          · exact List.mem_eraseIdx_iff_getElem.2 ⟨i, hi, hik, rfl⟩
        · exact fun hz => List.mem_of_mem_eraseIdx hz
      have hlen := R.setL_len (l.eraseIdx (k + 1))
      rw [List.length_eraseIdx_of_lt hk] at hlen
      rw [hsub] at h1
      omega
    · rcases R.ltL_or e with h | h
      · exact h
      · rw [ha] at h; cases h
  · intro h
    have e1 : R.setL l = l := R.setL_of_rises h
    rw [e1]
    simp only [ne_eq, not_true_eq_false, decide_false, Bool.false_or, Bool.not_eq_false']
    unfold sortB
    have : ∀ n, n < l.length → srtdTo l n = true := by
      intro n
      induction n with
      | zero => intro _; rfl
      | succ n ih =>
        intro hn
        simp only [srtdTo, Bool.and_eq_true, Bool.not_eq_true']
        refine ⟨?_, ih (by omega)⟩
        rw [List.getD_eq_getElem?_getD, List.getElem?_eq_getElem hn, List.getD_eq_getElem?_getD, List.getElem?_eq_getElem (show n < l.length by omega)]
        exact R.ltL_asym (List.pairwise_iff_getElem.1 h n (n + 1) (by omega) hn (by omega))
    by_cases h0 : l.length = 0
    · rw [h0]; rfl
    · exact this _ (by omega)
theorem writeW_of {l : List (List Int)} (h1 : l.length ≤ 300) (h2 : ∀ w ∈ l, fitB w = true) (h3 : R.Rises l) : writeW l = (joinW l, 0) := by
  unfold writeW
  have e : l.any badB = false := by
    rw [List.any_eq_false]
    intro w hw
    unfold badB
    simp [h2 w hw]
  rw [if_neg (by omega), e, Bool.false_or, sorted_rises.2 h3]
  rfl
end Go.Proofs.Ytnbfiifkaddehaa.V

/- Chapter 09, word lists: the document's answer: what its functions tell; their trees. By program; each equation is checked by the kernel. -/
namespace Go.Proofs.Ytnbfiifkaddehaa.V

open Go

set_option linter.unusedVariables false

/-- The same, of words that are no longer than that. -/
def fitgF (A : Ar) : List X → Tr X
  | [.sl (.int .i64) w nl false] => .test (A.se (decide (w.length ≤ 1000000))) (.give (boolx (A.se (fitB w)))) .no
  | _ => .no

def writegF (A : Ar) : List X → Tr X
  | [.sl (.slice (.int .i64)) l nl false] => .test (A.se (decide (List.length l ≤ 1000) && R.shortB l)) (.give (.tup [u8s (A.se (writeW l).1) (some (A.se (writeW l).1.isEmpty)) false, i64x (A.se (writeW l).2)])) .no
  | _ => .no

def LrfitF (A : Ar) : List X → Hp → Tr (Ex × List X × Hp)
  | [.sl (.int .i64) w nl false, .d .bool z, .d (.int .i64) i], [] =>
    .test (A.se (decide (0 ≤ i ∧ i ≤ w.length ∧ w.length ≤ 1000000)))
      (.test (A.se (List.any (List.drop i.toNat w) wrongB)) (.give (.ret, [.dead, boolx false, .dead], [])) (.give (.exit 0, [.sl (.int .i64) w nl false, .dead, .dead], []))) .no
  | _, _ => .no

def Lrfit (A : Ar) : Lp := fun k => match k with
  | 2 => some (51, [0, 2, 3], LrfitF A)
  | _ => none

def Ot1 (A : Ar) : OT := ((Ow9 A))

def Ot2 (A : Ar) : OT := Oadd ((Ot1 A)) 32 (.pure (U.goodF A))

def Ot3 (A : Ar) : OT := Oadd (Oadd ((Ot2 A)) 48 (.pure (fitgF A))) 49 (.pure (R.lessF A))

def Ot4 (A : Ar) : OT := Oadd ((Oadd (Ot3 A) 50 (.pure (U.uputF A)))) 51 (.pure (R.rfindF A))

theorem lRfit (A : Ar) (R : Type) (w : List Int) (nl : Option Bool) (z : Bool) (i : Int) (k : Ex → List X → Hp → Option R) : stepF (Cx A (Ot2 A) (Lrfit A)) 100 (loopAt Try.f48 0) 51 [0, 2, 3] [i64s w nl false, boolx z, i64x i] [] k =
    (bif decide (i < (↑(List.length w) : Int)) then
      bif decide ((0 : Int) ≤ i ∧ i < (↑(List.length w) : Int)) then
        bif (!A.se (U.goodN (List.getD w (Int.toNat i) (0 : Int)))) == false then
          bif decide ((0 : Int) ≤ i ∧ i < (↑(List.length w) : Int)) then
            bif (List.getD w (Int.toNat i) (0 : Int) == (9 : Int)) == false then
              bif decide ((0 : Int) ≤ i ∧ i < (↑(List.length w) : Int)) then
                bif (List.getD w (Int.toNat i) (0 : Int) == (10 : Int)) == false then
                  bif decide ((0 : Int) ≤ i ∧ i < (↑(List.length w) : Int)) then
                    bif List.getD w (Int.toNat i) (0 : Int) == (32 : Int) then
                      k Ex.ret [X.sl (Ty.int IntKind.i64) w nl false, X.d Ty.bool false, X.d (Ty.int IntKind.i64) i] []
                    else
                      k Ex.normal
                        [X.sl (Ty.int IntKind.i64) w nl false, X.d Ty.bool z,
                          X.d (Ty.int IntKind.i64) (A.wrap IntKind.i64 (i + (1 : Int)))]
                        []
                  else none
                else k Ex.ret [X.sl (Ty.int IntKind.i64) w nl false, X.d Ty.bool false, X.d (Ty.int IntKind.i64) i] []
              else none
            else k Ex.ret [X.sl (Ty.int IntKind.i64) w nl false, X.d Ty.bool false, X.d (Ty.int IntKind.i64) i] []
          else none
        else k Ex.ret [X.sl (Ty.int IntKind.i64) w nl false, X.d Ty.bool false, X.d (Ty.int IntKind.i64) i] []
      else none
    else k (Ex.exit (0 : Nat)) [X.sl (Ty.int IntKind.i64) w nl false, X.d Ty.bool z, X.d (Ty.int IntKind.i64) i] []) := by kernel_rfl

theorem tRfit (A : Ar) (w : List Int) (nl : Option Bool) : bodyX (Cx A (Ot2 A) (Lrfit A)) 100 Try.f48 [i64s w nl false] [] =
    (bif
        A.se
          (decide
            ((0 : Int) ≤ (0 : Int) ∧
              (0 : Int) ≤ (↑(List.length w) : Int) ∧ List.length w ≤ (1000000 : Nat))) then
      bif A.se (List.any (List.drop (Int.toNat (0 : Int)) w) wrongB) then some (X.d Ty.bool false, [])
      else
        bif decide ((↑(List.length w) : Int) ≥ (1 : Int)) == true then
          bif decide ((↑(List.length w) : Int) ≤ (20 : Int)) == true then
            bif decide ((0 : Int) ≤ (0 : Int) ∧ (0 : Int) < (↑(List.length w) : Int)) then
              some (X.d Ty.bool (List.getD w (Int.toNat (0 : Int)) (0 : Int) != (35 : Int)), [])
            else none
          else some (X.d Ty.bool false, [])
        else some (X.d Ty.bool false, [])
    else none) := by kernel_rfl

/-- Words that fit and rise, behind one. -/
def okF : Option (List Int) → List (List Int) → Bool
  | _, [] => true
  | none, w :: r => fitB w && okF (some w) r
  | some p, w :: r => fitB w && (R.ltL p w && okF (some w) r)

def prev (l : List (List Int)) : Nat → Option (List Int)
  | 0 => none
  | i + 1 => some (l.getD i [])

def LrwrF (A : Ar) : List X → Hp → Tr (Ex × List X × Hp)
  | [.sl (.slice (.int .i64)) l nl false, .sl (.int .u8) [] (some true) true, .d (.int .i64) e, .sl (.int .u8) out (some x) true, .d (.int .i64) i], [] =>
    .test (A.se (decide (0 ≤ i ∧ i ≤ List.length l ∧ List.length l ≤ 1000 ∧ (List.length out : Int) ≤ 100 * i) && ((x == List.isEmpty out) && R.shortB l)))
      (.test (A.se (okF (prev l i.toNat) (List.drop i.toNat l)))
        (.give (.exit 0, [.dead, .dead, .dead, u8s (A.se (out ++ joinW (List.drop i.toNat l))) (some (A.se (List.isEmpty (out ++ joinW (List.drop i.toNat l))))) true, .dead], []))
        (.give (.ret, [.dead, u8s [] (some true) true, i64x 90, .dead, .dead], []))) .no
  | _, _ => .no

def Lrwr (A : Ar) : Lp := fun k => match k with
  | 5 => some (56, [0, 2, 3, 4, 5], LrwrF A)
  | _ => none

theorem lRwr (A : Ar) (R : Type) (l : List (List Int)) (nl : Option Bool) (e : Int) (out : List Int) (x : Bool) (i : Int) (k : Ex → List X → Hp → Option R) : stepF (Cx A (Ot4 A) (Lrwr A)) 100 (loopAt Try.f23 0) 56 [0, 2, 3, 4, 5] [.sl wTy l nl false, u8s [] (some true) true, i64x e, u8s out (some x) true, i64x i] [] k =
    (bif decide (i < (↑(List.length l) : Int)) then
      bif decide ((0 : Int) ≤ i ∧ i < (↑(List.length l) : Int)) then
        bif A.se (decide (List.length (List.getD l (Int.toNat i) (Ty.zero wTy)) ≤ (1000000 : Nat))) then
          bif (!A.se (fitB (List.getD l (Int.toNat i) (Ty.zero wTy)))) == false then
            bif decide (i > (0 : Int)) == true then
              bif
                  decide
                    ((0 : Int) ≤ A.wrap IntKind.i64 (i - (1 : Int)) ∧
                      A.wrap IntKind.i64 (i - (1 : Int)) < (↑(List.length l) : Int)) then
                bif decide ((0 : Int) ≤ i ∧ i < (↑(List.length l) : Int)) then
                  bif
                      A.se
                        (decide
                          (List.length (List.getD l (Int.toNat (A.wrap IntKind.i64 (i - (1 : Int)))) (Ty.zero wTy)) ≤
                              (1000000 : Nat) ∧
                            List.length (List.getD l (Int.toNat i) (Ty.zero wTy)) ≤ (1000000 : Nat))) then
                    bif
                        !A.se
                            (V.R.ltL (List.getD l (Int.toNat (A.wrap IntKind.i64 (i - (1 : Int)))) (Ty.zero wTy))
                              (List.getD l (Int.toNat i) (Ty.zero wTy))) then
                      k Ex.ret
                        [X.sl wTy l nl false, X.sl (Ty.int IntKind.u8) [] (some true) true,
                          X.d (Ty.int IntKind.i64) (90 : Int), X.sl (Ty.int IntKind.u8) out (some x) true,
                          X.d (Ty.int IntKind.i64) i]
                        []
                    else
                      bif decide ((0 : Int) ≤ i ∧ i < (↑(List.length l) : Int)) then
                        bif
                            A.se
                              (decide (List.length (List.getD l (Int.toNat i) (Ty.zero wTy)) ≤ (17592186044416 : Nat))) then
                          bif
                              decide
                                ((List.length out + List.length (A.se (U.putL (List.getD l (Int.toNat i) (Ty.zero wTy))))) *
                                    (1 : Nat) ≤
                                  (140737488355328 : Nat)) then
                            bif
                                decide
                                  ((List.length (out ++ A.se (U.putL (List.getD l (Int.toNat i) (Ty.zero wTy)))) +
                                        List.length [(10 : Int)]) *
                                      (1 : Nat) ≤
                                    (140737488355328 : Nat)) then
                              k Ex.normal
                                [X.sl wTy l nl false, X.sl (Ty.int IntKind.u8) [] (some true) true,
                                  X.d (Ty.int IntKind.i64) e,
                                  X.sl (Ty.int IntKind.u8)
                                    (out ++ A.se (U.putL (List.getD l (Int.toNat i) (Ty.zero wTy))) ++ [(10 : Int)])
                                    (some
                                      (x && List.isEmpty (A.se (U.putL (List.getD l (Int.toNat i) (Ty.zero wTy)))) &&
                                        List.isEmpty [(10 : Int)]))
                                    true,
                                  X.d (Ty.int IntKind.i64) (A.wrap IntKind.i64 (i + (1 : Int)))]
                                []
                            else none
                          else none
                        else none
                      else none
                  else none
                else none
              else none
            else
              bif decide ((0 : Int) ≤ i ∧ i < (↑(List.length l) : Int)) then
                bif A.se (decide (List.length (List.getD l (Int.toNat i) (Ty.zero wTy)) ≤ (17592186044416 : Nat))) then
                  bif
                      decide
                        ((List.length out + List.length (A.se (U.putL (List.getD l (Int.toNat i) (Ty.zero wTy))))) *
                            (1 : Nat) ≤
                          (140737488355328 : Nat)) then
                    bif
                        decide
                          ((List.length (out ++ A.se (U.putL (List.getD l (Int.toNat i) (Ty.zero wTy)))) +
                                List.length [(10 : Int)]) *
                              (1 : Nat) ≤
                            (140737488355328 : Nat)) then
                      k Ex.normal
                        [X.sl wTy l nl false, X.sl (Ty.int IntKind.u8) [] (some true) true, X.d (Ty.int IntKind.i64) e,
                          X.sl (Ty.int IntKind.u8)
                            (out ++ A.se (U.putL (List.getD l (Int.toNat i) (Ty.zero wTy))) ++ [(10 : Int)])
                            (some
                              (x && List.isEmpty (A.se (U.putL (List.getD l (Int.toNat i) (Ty.zero wTy)))) &&
                                List.isEmpty [(10 : Int)]))
                            true,
                          X.d (Ty.int IntKind.i64) (A.wrap IntKind.i64 (i + (1 : Int)))]
                        []
                    else none
                  else none
                else none
              else none
          else
            k Ex.ret
              [X.sl wTy l nl false, X.sl (Ty.int IntKind.u8) [] (some true) true, X.d (Ty.int IntKind.i64) (90 : Int),
                X.sl (Ty.int IntKind.u8) out (some x) true, X.d (Ty.int IntKind.i64) i]
              []
        else none
      else none
    else
      k (Ex.exit (0 : Nat))
        [X.sl wTy l nl false, X.sl (Ty.int IntKind.u8) [] (some true) true, X.d (Ty.int IntKind.i64) e,
          X.sl (Ty.int IntKind.u8) out (some x) true, X.d (Ty.int IntKind.i64) i]
        []) := by kernel_rfl

theorem tRwr (A : Ar) (l : List (List Int)) (nl : Option Bool) : bodyX (Cx A (Ot4 A) (Lrwr A)) 100 Try.f23 [.sl wTy l nl false] [] =
    (bif decide ((↑(List.length l) : Int) > (300 : Int)) then
      some (X.tup [X.sl (Ty.int IntKind.u8) [] (some true) false, X.d (Ty.int IntKind.i64) (81 : Int)], [])
    else
      bif
          A.se
            (decide
                ((0 : Int) ≤ (0 : Int) ∧
                  (0 : Int) ≤ (↑(List.length l) : Int) ∧
                    List.length l ≤ (1000 : Nat) ∧ (↑(0 : Nat) : Int) ≤ (100 : Int) * (0 : Int)) &&
              (true == true && R.shortB l)) then
        bif A.se (okF (prev l (Int.toNat (0 : Int))) (List.drop (Int.toNat (0 : Int)) l)) then
          some
            (X.tup
                [X.sl (Ty.int IntKind.u8) (A.se ([] ++ joinW (List.drop (Int.toNat (0 : Int)) l)))
                    (some (A.se (List.isEmpty ([] ++ joinW (List.drop (Int.toNat (0 : Int)) l))))) false,
                  X.d (Ty.int IntKind.i64) (0 : Int)],
              [])
        else some (X.tup [X.sl (Ty.int IntKind.u8) [] (some true) false, X.d (Ty.int IntKind.i64) (90 : Int)], [])
      else none) := by kernel_rfl

end Go.Proofs.Ytnbfiifkaddehaa.V

/- Chapter 09, word lists: the document's answer: its small functions do what they tell. -/
namespace Go.Proofs.Ytnbfiifkaddehaa.V

open Go

set_option linter.unusedVariables false

set_option linter.unusedSimpArgs false

theorem ot1 : OOk (Ot1 Ar.real) := ow9

theorem ot2 : OOk (Ot2 Ar.real) := (ot1).add U.rgood_ok

theorem loopRfit (w : List Int) (nl : Option Bool) (z : Bool) (hw : w.length ≤ 1000000) : ∀ (n i : Nat), w.length - i = n → i ≤ w.length →
    LoopTo (Cx Ar.real (Ot2 Ar.real) (Lrfit Ar.real)) 100 (loopAt Try.f48 0) 51 [0, 2, 3] [i64s w nl false, boolx z, i64x (i : Int)] []
      (bif List.any (w.drop i) wrongB then (.ret, [.dead, boolx false, .dead], []) else (.exit 0, [i64s w nl false, .dead, .dead], [])) := by
  intro n
  induction n with
  | zero =>
    intro i h1 h2
    rw [List.drop_eq_nil_iff.2 (by omega), bf (by rfl)]
    refine LoopTo.left (by simp) fun k => ?_
    rw [lRfit, bf (by rw [decide_eq_false_iff_not]; omega)]
    exact ⟨_, rfl, R.fk (R.fd (R.fd (Forget.same _)))⟩
  | succ n ih =>
    intro i h1 h2
    have hi : i < w.length := by omega
    have hr0 : decide ((i : Int) < (w.length : Int)) = true := by rw [decide_eq_true_eq]; omega
    have hr1 : decide ((0 : Int) ≤ (i : Int) ∧ (i : Int) < (w.length : Int)) = true := by rw [decide_eq_true_eq]; omega
    have T : ∀ k : Ex → List X → Hp → Option (Ex × List X × Hp), stepF (Cx Ar.real (Ot2 Ar.real) (Lrfit Ar.real)) 100 (loopAt Try.f48 0) 51 [0, 2, 3] [i64s w nl false, boolx z, i64x (i : Int)] [] k =
        bif wrongB (w.getD i 0) then k .ret [i64s w nl false, boolx false, i64x (i : Int)] [] else k .normal [i64s w nl false, boolx z, i64x ((i + 1 : Nat) : Int)] [] := by
      intro k
      rw [lRfit]
      simp only [Int.toNat_natCast, rw_se, R.wi1 (show i ≤ 9000000000000000000 by omega)]
      rw [bt hr0, bt hr1]
      unfold wrongB
      cases g1 : U.goodN (w.getD i 0) with
      | false => rw [bf (c := (!false) == false) rfl]; rfl
      | true =>
        rw [bt (c := (!true) == false) rfl, bt hr1]
        cases g2 : (w.getD i 0 == 9) with
        | true => rw [bf (c := true == false) rfl]; simp
        | false =>
          rw [bt (c := false == false) rfl, bt hr1]
          cases g3 : (w.getD i 0 == 10) with
          | true => rw [bf (c := true == false) rfl]; simp
          | false =>
            rw [bt (c := false == false) rfl, bt hr1]
            cases g4 : (w.getD i 0 == 32) <;> rfl
    rw [R.dropG (0 : Int) hi, List.any_cons]
    cases hc : wrongB (w.getD i 0) with
    | true =>
      rw [Bool.true_or, cond_true]
      refine LoopTo.left (by simp) fun k => ?_
      rw [T, bt hc]
      exact ⟨_, rfl, R.fd (R.fk (R.fd (Forget.same _)))⟩
    | false =>
      rw [Bool.false_or]
      refine LoopTo.next (fun k => ?_) (ih (i + 1) (by omega) (by omega))
      rw [T, bf hc]

theorem rfit_ok : OrcOk Try.prog 48 (.pure (fitgF Ar.real)) := by
  refine pureOk (Cx.ok ot2 (Lrfit Ar.real)) mixed 48 Try.f48 (by kernel_rfl) (by kernel_rfl) (by kernel_rfl) 100 1 (by kernel_rfl) (fun i h => ?_) fun args r h => ?_
  · obtain rfl : i = 0 := by omega
    refine Tells.mk (key := 2) (N := 51) (ks := [0, 2, 3]) (F := LrfitF Ar.real) (by kernel_rfl) rfl fun xs H r h => ?_
    unfold LrfitF at h
    split at h
    · rename_i w nl z i
      obtain ⟨hg, rfl⟩ := R.Tr.two h
      simp only [rw_se, decide_eq_true_eq] at hg ⊢
      dsimp only [Ty.den] at hg
      obtain ⟨h1, h2, h3⟩ := hg
      obtain ⟨m, rfl⟩ := Int.eq_ofNat_of_zero_le h1
      simp only [Int.toNat_natCast]
      exact loopRfit w nl z h3 _ m rfl (by omega)
    · cases h
  · unfold fitgF at h
    split at h
    · rename_i w nl
      obtain ⟨hg, rfl⟩ := Tr.one h
      refine ⟨rfl, rfl, [], ?_⟩
      rw [tRfit]
      simp only [rw_se, decide_eq_true_eq, show Int.toNat 0 = 0 from rfl, List.drop_zero, fitB] at hg ⊢
      rw [bt (by rw [decide_eq_true_eq]; omega)]
      cases hc : w.any wrongB with
      | true => rw [cond_true]; simp
      | false =>
        rw [cond_false]
        by_cases h1 : 1 ≤ w.length
        · rw [bt (by rw [decide_eq_true (show (w.length : Int) ≥ 1 by omega)]; rfl)]
          by_cases h2 : w.length ≤ 20
          · rw [bt (by rw [decide_eq_true (show (w.length : Int) ≤ 20 by omega)]; rfl), bt (by rw [decide_eq_true_eq]; omega), decide_eq_true (show 1 ≤ w.length ∧ w.length ≤ 20 from ⟨h1, h2⟩)]
            simp [bne]
          · rw [bf (by rw [decide_eq_false (show ¬ (w.length : Int) ≤ 20 by omega)]; rfl), decide_eq_false (fun h => h2 h.2)]; rfl
        · rw [bf (by rw [decide_eq_false (show ¬ (w.length : Int) ≥ 1 by omega)]; rfl), decide_eq_false (fun h => h1 h.1)]; rfl
    · cases h

theorem ot3 : OOk (Ot3 Ar.real) := ((ot2).add rfit_ok).add R.rless_ok

theorem ot4 : OOk (Ot4 Ar.real) := ((ot3.add U.rput_ok)).add R.rfi_ok

end Go.Proofs.Ytnbfiifkaddehaa.V

/- Chapter 09, word lists: the document's Write and Read do what they tell. -/
namespace Go.Proofs.Ytnbfiifkaddehaa.V

open Go

set_option linter.unusedVariables false

set_option linter.unusedSimpArgs false

theorem okF_iff : ∀ (p : Option (List Int)) (l : List (List Int)), okF p l = true ↔ (∀ w ∈ l, fitB w = true) ∧ R.Rises l ∧ (∀ q, p = some q → ∀ w ∈ l, R.ltL q w = true)
  | _, [] => by simp [okF, R.Rises]
  | none, w :: r => by
    rw [okF, Bool.and_eq_true, okF_iff (some w) r]
    constructor
    · rintro ⟨h1, h2, h3, h4⟩
      refine ⟨fun x hx => ?_, List.pairwise_cons.2 ⟨h4 w rfl, h3⟩, fun q e => by cases e⟩
      rcases List.mem_cons.1 hx with rfl | hx
      · exact h1
      · exact h2 x hx
    · rintro ⟨h1, h2, _⟩
      obtain ⟨h2, h3⟩ := List.pairwise_cons.1 h2
      exact ⟨h1 w (by simp), fun x hx => h1 x (by simp [hx]), h3, fun q e x hx => by cases e; exact h2 x hx⟩
  | some p, w :: r => by
    rw [okF, Bool.and_eq_true, Bool.and_eq_true, okF_iff (some w) r]
    constructor
    · rintro ⟨h1, h5, h2, h3, h4⟩
      refine ⟨fun x hx => ?_, List.pairwise_cons.2 ⟨h4 w rfl, h3⟩, fun q e x hx => ?_⟩
      · rcases List.mem_cons.1 hx with rfl | hx
        · exact h1
        · exact h2 x hx
      · cases e
        rcases List.mem_cons.1 hx with rfl | hx
        · exact h5
        · exact R.ltL_tr h5 (h4 w rfl x hx)
    · rintro ⟨h1, h2, h5⟩
      obtain ⟨h2, h3⟩ := List.pairwise_cons.1 h2
      exact ⟨h1 w (by simp), h5 p rfl w (by simp), fun x hx => h1 x (by simp [hx]), h3, fun q e x hx => by cases e; exact h2 x hx⟩

theorem writeW_okF {l : List (List Int)} (h : ¬ l.length > 300) : writeW l = bif okF none l then (joinW l, 0) else ([], 90) := by
  cases hc : okF none l with
  | true =>
    obtain ⟨h1, h2, _⟩ := (okF_iff none l).1 hc
    rw [cond_true, writeW_of (by omega) h1 h2]
  | false =>
    rw [cond_false]
    unfold writeW
    rw [if_neg h]
    cases h2 : l.any badB with
    | true => rfl
    | false =>
      cases h3 : (decide ((R.setL l).length ≠ l.length) || !(sortB l)) with
      | true => rfl
      | false =>
        have := (okF_iff none l).2 ⟨any_bad h2, sorted_rises.1 h3, fun q e => by cases e⟩
        rw [hc] at this
        cases this

/-- Behind the word ahead. -/
def riseAt (l : List (List Int)) (i : Nat) : Bool := bif decide (i = 0) then true else R.ltL (l.getD (i - 1) []) (l.getD i [])

theorem okF_step {l : List (List Int)} {i : Nat} (hi : i < l.length) : okF (prev l i) (l.drop i) = ((fitB (l.getD i []) && riseAt l i) && okF (prev l (i + 1)) (l.drop (i + 1))) := by
  rw [R.dropG ([] : List Int) hi]
  cases i with
  | zero => simp only [prev, okF, riseAt]; cases fitB (l.getD 0 []) <;> rfl
  | succ i => simp only [prev, okF, riseAt, Nat.add_sub_cancel]; rw [decide_eq_false (show ¬ i + 1 = 0 by omega), cond_false, Bool.and_assoc]

theorem stepRwr (l : List (List Int)) (nl : Option Bool) (e : Int) (out : List Int) (i : Nat) (hi : i < l.length) (hl : l.length ≤ 1000) (hs : R.shortB l = true) (ho : out.length ≤ 100 * i) (k : Ex → List X → Hp → Option (Ex × List X × Hp)) :
    stepF (Cx Ar.real (Ot4 Ar.real) (Lrwr Ar.real)) 100 (loopAt Try.f23 0) 56 [0, 2, 3, 4, 5] [.sl wTy l nl false, u8s [] (some true) true, i64x e, u8s out (some out.isEmpty) true, i64x (i : Int)] [] k =
      bif fitB (l.getD i []) && riseAt l i then k .normal [.sl wTy l nl false, u8s [] (some true) true, i64x e, u8s (out ++ U.putL (l.getD i []) ++ [10]) (some (out ++ U.putL (l.getD i []) ++ [10]).isEmpty) true, i64x ((i + 1 : Nat) : Int)] []
      else k .ret [.sl wTy l nl false, u8s [] (some true) true, i64x 90, u8s out (some out.isEmpty) true, i64x (i : Int)] [] := by
  have e0 : ∀ j, l.getD j (Ty.zero wTy) = l.getD j [] := fun _ => rfl
  have hr0 : decide ((i : Int) < (l.length : Int)) = true := by rw [decide_eq_true_eq]; omega
  have hr1 : decide ((0 : Int) ≤ (i : Int) ∧ (i : Int) < (l.length : Int)) = true := by rw [decide_eq_true_eq]; omega
  have hb : (l.getD i []).length ≤ 1000 := short_at hs hi
  have e1 : (out ++ U.putL (l.getD i []) ++ [(10 : Int)]).isEmpty = false := by simp
  have hmin : 0 < i → Ar.real.wrap .i64 ((i : Int) - 1) = ((i - 1 : Nat) : Int) := fun h => by rw [rw_wrap, wi64 (by omega) (by omega)]; omega
  rcases Nat.eq_zero_or_pos i with rfl | hp
  · have T := lRwr Ar.real (Ex × List X × Hp) l nl e out out.isEmpty ((0 : Nat) : Int) k
    simp only [Int.toNat_natCast, rw_se, R.wi1 (show (0 : Nat) ≤ 9000000000000000000 by omega), e0] at T
    rw [T, bt hr0, bt hr1, bt (by rw [decide_eq_true_eq]; omega)]
    have er : riseAt l 0 = true := rfl
    rw [er, Bool.and_true]
    cases hf : fitB (l.getD 0 []) with
    | false => rw [bf (c := (!false) == false) rfl]; rfl
    | true =>
      obtain ⟨p1, p2⟩ := putL_len hf
      rw [bt (c := (!true) == false) rfl, bf (by rw [decide_eq_false (by omega)]; rfl), bt hr1, bt (by rw [decide_eq_true_eq]; omega), bt (by rw [decide_eq_true_eq]; omega), bt (by rw [decide_eq_true_eq, List.length_append, List.length_singleton]; omega), e1]
      simp only [List.isEmpty_cons, Bool.and_false, cond_true]
  · have T := lRwr Ar.real (Ex × List X × Hp) l nl e out out.isEmpty (i : Int) k
    simp only [hmin hp, Int.toNat_natCast, rw_se, R.wi1 (show i ≤ 9000000000000000000 by omega), e0] at T
    have ha : (l.getD (i - 1) []).length ≤ 1000 := short_at hs (show i - 1 < l.length by omega)
    rw [T, bt hr0, bt hr1, bt (by rw [decide_eq_true_eq]; omega)]
    have er : riseAt l i = R.ltL (l.getD (i - 1) []) (l.getD i []) := by unfold riseAt; rw [decide_eq_false (by omega), cond_false]
    rw [er]
    cases hf : fitB (l.getD i []) with
    | false => rw [bf (c := (!false) == false) rfl]; rfl
    | true =>
      obtain ⟨p1, p2⟩ := putL_len hf
      rw [bt (c := (!true) == false) rfl, bt (by rw [decide_eq_true (by omega)]; rfl), bt (by rw [decide_eq_true_eq]; omega), bt hr1, bt (by rw [decide_eq_true_eq]; omega)]
      cases hc : R.ltL (l.getD (i - 1) []) (l.getD i []) with
      | false => rw [bt (c := !false) rfl]; rfl
      | true =>
        rw [bf (c := !true) rfl, bt hr1, bt (by rw [decide_eq_true_eq]; omega), bt (by rw [decide_eq_true_eq]; omega), bt (by rw [decide_eq_true_eq, List.length_append, List.length_singleton]; omega), e1]
        simp only [List.isEmpty_cons, Bool.and_false, Bool.and_self, cond_true]

theorem loopRwr (l : List (List Int)) (nl : Option Bool) (e : Int) (hl : l.length ≤ 1000) (hs : R.shortB l = true) : ∀ (n i : Nat) (out : List Int), l.length - i = n → i ≤ l.length → out.length ≤ 100 * i →
    LoopTo (Cx Ar.real (Ot4 Ar.real) (Lrwr Ar.real)) 100 (loopAt Try.f23 0) 56 [0, 2, 3, 4, 5] [.sl wTy l nl false, u8s [] (some true) true, i64x e, u8s out (some out.isEmpty) true, i64x (i : Int)] []
      (bif okF (prev l i) (l.drop i) then (.exit 0, [.dead, .dead, .dead, u8s (out ++ joinW (l.drop i)) (some (out ++ joinW (l.drop i)).isEmpty) true, .dead], []) else (.ret, [.dead, u8s [] (some true) true, i64x 90, .dead, .dead], [])) := by
  intro n
  induction n with
  | zero =>
    intro i out h1 h2 h3
    have hn : ∀ p, okF p [] = true := fun p => by cases p <;> rfl
    rw [List.drop_eq_nil_iff.2 (by omega), hn, cond_true, show joinW [] = [] from rfl, List.append_nil]
    refine LoopTo.left (by simp) fun k => ?_
    rw [lRwr, bf (by rw [decide_eq_false_iff_not]; omega)]
    exact ⟨_, rfl, R.fd (R.fd (R.fd (R.fk (R.fd (Forget.same _)))))⟩
  | succ n ih =>
    intro i out h1 h2 h3
    have hi : i < l.length := by omega
    have T := stepRwr l nl e out i hi hl hs h3
    rw [okF_step hi]
    cases hc : (fitB (l.getD i []) && riseAt l i) with
    | false =>
      rw [Bool.false_and, cond_false]
      refine LoopTo.left (by simp) fun k => ?_
      rw [T, hc, cond_false]
      exact ⟨_, rfl, R.fd (R.fk (R.fk (R.fd (R.fd (Forget.same _)))))⟩
    | true =>
      have hf : fitB (l.getD i []) = true := by
        rw [Bool.and_eq_true] at hc; exact hc.1
      obtain ⟨p1, p2⟩ := putL_len hf
      have h := ih (i + 1) (out ++ U.putL (l.getD i []) ++ [10]) (by omega) (by omega) (by simp only [List.length_append, List.length_singleton]; omega)
      rw [Bool.true_and, show joinW (l.drop i) = U.putL (l.getD i []) ++ [10] ++ joinW (l.drop (i + 1)) by rw [R.dropG ([] : List Int) hi, joinW_cons], show out ++ (U.putL (l.getD i []) ++ [10] ++ joinW (l.drop (i + 1))) = out ++ U.putL (l.getD i []) ++ [10] ++ joinW (l.drop (i + 1)) by simp]
      refine LoopTo.next (fun k => ?_) h
      rw [T, hc, cond_true]

theorem rwrite_ok : OrcOk Try.prog 23 (.pure (writegF Ar.real)) := by
  refine pureOk (Cx.ok ot4 (Lrwr Ar.real)) mixed 23 Try.f23 (by kernel_rfl) (by kernel_rfl) (by kernel_rfl) 100 1 (by kernel_rfl) (fun i h => ?_) fun args r h => ?_
  · obtain rfl : i = 0 := by omega
    refine Tells.mk (key := 5) (N := 56) (ks := [0, 2, 3, 4, 5]) (F := LrwrF Ar.real) (by kernel_rfl) rfl fun xs H r h => ?_
    unfold LrwrF at h
    split at h
    · rename_i l nl e out x i
      obtain ⟨hg, rfl⟩ := R.Tr.two h
      simp only [rw_se, Bool.and_eq_true, decide_eq_true_eq, beq_iff_eq] at hg ⊢
      dsimp only [Ty.den] at hg
      obtain ⟨⟨h1, h2, h3, h4⟩, h5, h6⟩ := hg
      obtain ⟨m, rfl⟩ := Int.eq_ofNat_of_zero_le h1
      subst h5
      simp only [Int.toNat_natCast]
      exact loopRwr l nl e h3 h6 _ m out rfl (by omega) (by omega)
    · cases h
  · unfold writegF at h
    split at h
    · rename_i l nl
      obtain ⟨hg, rfl⟩ := Tr.one h
      refine ⟨rfl, rfl, [], ?_⟩
      rw [tRwr]
      simp only [rw_se, Bool.and_eq_true, decide_eq_true_eq, show Int.toNat 0 = 0 from rfl, List.drop_zero, List.nil_append] at hg ⊢
      obtain ⟨h1, h2⟩ := hg
      by_cases g1 : l.length > 300
      · rw [bt (by rw [decide_eq_true_eq]; omega)]
        unfold writeW
        rw [if_pos g1]; rfl
      · rw [bf (by rw [decide_eq_false_iff_not]; omega), bt (by rw [Bool.and_eq_true, decide_eq_true_eq]; exact ⟨⟨by omega, by omega, by omega, by omega⟩, by rw [h2]; rfl⟩), writeW_okF g1, show prev l 0 = none from rfl]
        cases okF none l <;> rfl
    · cases h

end Go.Proofs.Ytnbfiifkaddehaa.V

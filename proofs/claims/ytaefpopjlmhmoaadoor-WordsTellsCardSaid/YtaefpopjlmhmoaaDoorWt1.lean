/-
  Chapter 09, word lists: the document's answer: what its functions tell; their trees. By program; each equation is checked by the kernel.
  It speaks of the pinned program alone; no condition.
-/
import Derived.Test.YtaefpopjlmhmoaaDoorWq1
namespace Go.Proofs.YtaefpopjlmhmoaaDoor.V
open Go
set_option linter.unusedVariables false

def blankF (A : Ar) : List X → Tr X
  | [.d (.int .u8) c] => .give (boolx (A.se (L.isBl c)))
  | _ => .no
/-- The pieces that are read of bytes: between the place where the last one begins and this one nothing parts. -/
def rsplitF (A : Ar) : List X → Tr X
  | [.sl (.int .u8) b nl false] => .test (L.Ok A b nl) (.give (.sl (.slice (.int .u8)) (A.se (L.splitL b)) none false)) .no
  | _ => .no
def cutInit (b : List Int) : List (List Int) := (L.cut L.isEnd b).take ((L.cut L.isEnd b).length - 1)
def cutLast (b : List Int) : List Int := (L.cut L.isEnd b).getD ((L.cut L.isEnd b).length - 1) []
def LrspF (A : Ar) : List X → Hp → Tr (Ex × List X × Hp)
  | [.sl (.int .u8) b nl false, .sl (.slice (.int .u8)) out (some x) true, .d (.int .i64) f, .d (.int .i64) i], [] =>
    .test (A.se (decide (0 ≤ f ∧ f ≤ i ∧ i ≤ List.length b ∧ List.length b ≤ 50000 ∧ (List.length out : Int) ≤ i) && (x == List.isEmpty out && (decide (out ++ L.cut L.isEnd (List.drop f.toNat b) = L.cut L.isEnd b) && List.all (List.drop f.toNat (List.take i.toNat b)) fun c => !(L.isEnd c)))))
      (.give (.exit 0, [.sl (.int .u8) b nl false, .sl (.slice (.int .u8)) (A.se (cutInit b)) (some (A.se (List.isEmpty (cutInit b)))) true, i64x (A.se ((List.length b : Int) - List.length (cutLast b))), .dead], [])) .no
  | _, _ => .no
def Lrsp (A : Ar) : Lp := fun k => match k with
  | 4 => some (37, [0, 3, 4, 5], LrspF A)
  | _ => none
def rfieldsF (A : Ar) : List X → Tr X
  | [.sl (.int .u8) b nl false] => .test (L.Ok A b nl) (.give (.sl (.slice (.int .u8)) (A.se (L.fieldsL b)) none false)) .no
  | _ => .no
def LrfdF (A : Ar) : List X → Hp → Tr (Ex × List X × Hp)
  | [.sl (.int .u8) b nl false, .sl (.slice (.int .u8)) out (some x) true, .d (.int .i64) f, .d (.int .i64) i], [] =>
    .test (A.se (decide (0 ≤ f ∧ f ≤ i ∧ i ≤ List.length b ∧ List.length b ≤ 50000 ∧ (List.length out : Int) ≤ i) && (x == List.isEmpty out && (decide (out ++ L.full (L.cut L.isBl (List.drop f.toNat b)) = L.fieldsL b) && List.all (List.drop f.toNat (List.take i.toNat b)) fun c => !(L.isBl c)))))
      (.give (.exit 0, [.dead, .sl (.slice (.int .u8)) (A.se (L.fieldsL b)) (some (A.se (List.isEmpty (L.fieldsL b)))) true, .dead, .dead], [])) .no
  | _, _ => .no
def Lrfd (A : Ar) : Lp := fun k => match k with
  | 4 => some (36, [0, 3, 4, 5], LrfdF A)
  | _ => none
def rbareF (A : Ar) : List X → Tr X
  | [.sl (.int .u8) b nl false] => .test (L.Ok A b nl) (.give (boolx (A.se (L.bareB b)))) .no
  | _ => .no
def LrfitF (A : Ar) : List X → Hp → Tr (Ex × List X × Hp)
  | [.sl (.int .i64) w nl false, .d .bool z, .d (.int .i64) i], [] =>
    .test (A.se (decide (0 ≤ i ∧ i ≤ w.length ∧ w.length ≤ 1000000)))
      (.test (A.se (List.any (List.drop i.toNat w) wrongB)) (.give (.ret, [.dead, boolx false, .dead], [])) (.give (.exit 0, [.sl (.int .i64) w nl false, .dead, .dead], []))) .no
  | _, _ => .no
def Lrfit (A : Ar) : Lp := fun k => match k with
  | 2 => some (51, [0, 2, 3], LrfitF A)
  | _ => none

def Ot1 (A : Ar) : OT := Oadd (Oadd (Ow12 A) 60 (.pure (blankF A))) 27 (.pure (rsplitF A))
def Ot2 (A : Ar) : OT := Oadd (Oadd (Ot1 A) 29 (.pure (rfieldsF A))) 43 (.pure (U.goodF A))
def Ot3 (A : Ar) : OT := Oadd (Oadd (Oadd (Ot2 A) 28 (.pure (rbareF A))) 16 (.pure (fitF A))) 38 (.pure (R.lessF A))
def Ot4 (A : Ar) : OT := Oadd (Oadd (Oadd (Ot3 A) 39 (.pure (U.uputF A))) 30 (.pure (U.ureadF A))) 31 (.pure (R.rfindF A))

theorem tBlank (A : Ar) (c : Int) : bodyX (Cx A (Ow12 A) noL) 100 Tryd.f60 [u8x c] [] =
    (bif (c == (32 : Int)) == false then some (X.d Ty.bool (c == (9 : Int)), []) else some (X.d Ty.bool true, [])) := by kernel_rfl
theorem lRsp (A : Ar) (R : Type) (b : List Int) (nl : Option Bool) (out : List (List Int)) (x : Bool) (f i : Int) (k : Ex → List X → Hp → Option R) : stepF (Cx A (Ow12 A) (Lrsp A)) 100 (loopAt Tryd.f27 0) 37 [0, 3, 4, 5] [u8s b nl false, .sl L.sT out (some x) true, i64x f, i64x i] [] k =
    (bif decide (i < (↑(List.length b) : Int)) then
      bif decide ((0 : Int) ≤ i ∧ i < (↑(List.length b) : Int)) then
        bif List.getD b (Int.toNat i) (0 : Int) == (10 : Int) then
          bif decide ((0 : Int) ≤ i ∧ i ≤ (↑(List.length b) : Int)) then
            bif decide ((0 : Int) ≤ f ∧ f ≤ i) then
              bif
                  decide
                    ((List.length out + List.length [List.drop (Int.toNat f) (List.take (Int.toNat i) b)]) * (24 : Nat) ≤
                      (140737488355328 : Nat)) then
                k Ex.normal
                  [X.sl (Ty.int IntKind.u8) b nl false,
                    X.sl L.sT (out ++ [List.drop (Int.toNat f) (List.take (Int.toNat i) b)])
                      (some (x && List.isEmpty [List.drop (Int.toNat f) (List.take (Int.toNat i) b)])) true,
                    X.d (Ty.int IntKind.i64) (A.wrap IntKind.i64 (i + (1 : Int))),
                    X.d (Ty.int IntKind.i64) (A.wrap IntKind.i64 (i + (1 : Int)))]
                  []
              else none
            else none
          else none
        else
          k Ex.normal
            [X.sl (Ty.int IntKind.u8) b nl false, X.sl L.sT out (some x) true, X.d (Ty.int IntKind.i64) f,
              X.d (Ty.int IntKind.i64) (A.wrap IntKind.i64 (i + (1 : Int)))]
            []
      else none
    else
      k (Ex.exit (0 : Nat))
        [X.sl (Ty.int IntKind.u8) b nl false, X.sl L.sT out (some x) true, X.d (Ty.int IntKind.i64) f,
          X.d (Ty.int IntKind.i64) i]
        []) := by kernel_rfl
theorem tRsp (A : Ar) (b : List Int) (nl : Option Bool) : bodyX (Cx A (Ow12 A) (Lrsp A)) 100 Tryd.f27 [u8s b nl false] [] =
    (bif
        A.se
          (decide
              ((0 : Int) ≤ (0 : Int) ∧
                (0 : Int) ≤ (0 : Int) ∧
                  (0 : Int) ≤ (↑(List.length b) : Int) ∧
                    List.length b ≤ (50000 : Nat) ∧ (↑(0 : Nat) : Int) ≤ (0 : Int)) &&
            (true == true &&
              (decide ([] ++ L.cut L.isEnd (List.drop (Int.toNat (0 : Int)) b) = L.cut L.isEnd b) &&
                List.all (List.drop (Int.toNat (0 : Int)) (List.take (Int.toNat (0 : Int)) b)) fun c => !L.isEnd c))) then
      bif decide (A.se ((↑(List.length b) : Int) - (↑(List.length (cutLast b)) : Int)) < (↑(List.length b) : Int)) then
        bif
            decide
              ((0 : Int) ≤ A.se ((↑(List.length b) : Int) - (↑(List.length (cutLast b)) : Int)) ∧
                A.se ((↑(List.length b) : Int) - (↑(List.length (cutLast b)) : Int)) ≤ (↑(List.length b) : Int)) then
          bif
              decide
                ((List.length (A.se (cutInit b)) +
                      List.length
                        [List.drop (Int.toNat (A.se ((↑(List.length b) : Int) - (↑(List.length (cutLast b)) : Int)))) b]) *
                    (24 : Nat) ≤
                  (140737488355328 : Nat)) then
            some
              (X.sl (Ty.slice (Ty.int IntKind.u8))
                  (A.se (cutInit b) ++
                    [List.drop (Int.toNat (A.se ((↑(List.length b) : Int) - (↑(List.length (cutLast b)) : Int)))) b])
                  (some
                    (A.se (List.isEmpty (cutInit b)) &&
                      List.isEmpty
                        [List.drop (Int.toNat (A.se ((↑(List.length b) : Int) - (↑(List.length (cutLast b)) : Int)))) b]))
                  false,
                [])
          else none
        else none
      else some (X.sl (Ty.slice (Ty.int IntKind.u8)) (A.se (cutInit b)) (some (A.se (List.isEmpty (cutInit b)))) false, [])
    else none) := by kernel_rfl
theorem lRfd (A : Ar) (R : Type) (b : List Int) (nl : Option Bool) (out : List (List Int)) (x : Bool) (f i : Int) (k : Ex → List X → Hp → Option R) : stepF (Cx A (Ot1 A) (Lrfd A)) 100 (loopAt Tryd.f29 0) 36 [0, 3, 4, 5] [u8s b nl false, .sl L.sT out (some x) true, i64x f, i64x i] [] k =
    (bif decide (i ≤ (↑(List.length b) : Int)) then
      bif (i == (↑(List.length b) : Int)) == false then
        bif decide ((0 : Int) ≤ i ∧ i < (↑(List.length b) : Int)) then
          bif A.se (L.isBl (List.getD b (Int.toNat i) (0 : Int))) then
            bif decide (f < i) then
              bif decide ((0 : Int) ≤ i ∧ i ≤ (↑(List.length b) : Int)) then
                bif decide ((0 : Int) ≤ f ∧ f ≤ i) then
                  bif
                      decide
                        ((List.length out + List.length [List.drop (Int.toNat f) (List.take (Int.toNat i) b)]) *
                            (24 : Nat) ≤
                          (140737488355328 : Nat)) then
                    k Ex.normal
                      [X.sl (Ty.int IntKind.u8) b nl false,
                        X.sl L.sT (out ++ [List.drop (Int.toNat f) (List.take (Int.toNat i) b)])
                          (some (x && List.isEmpty [List.drop (Int.toNat f) (List.take (Int.toNat i) b)])) true,
                        X.d (Ty.int IntKind.i64) (A.wrap IntKind.i64 (i + (1 : Int))),
                        X.d (Ty.int IntKind.i64) (A.wrap IntKind.i64 (i + (1 : Int)))]
                      []
                  else none
                else none
              else none
            else
              k Ex.normal
                [X.sl (Ty.int IntKind.u8) b nl false, X.sl L.sT out (some x) true,
                  X.d (Ty.int IntKind.i64) (A.wrap IntKind.i64 (i + (1 : Int))),
                  X.d (Ty.int IntKind.i64) (A.wrap IntKind.i64 (i + (1 : Int)))]
                []
          else
            k Ex.normal
              [X.sl (Ty.int IntKind.u8) b nl false, X.sl L.sT out (some x) true, X.d (Ty.int IntKind.i64) f,
                X.d (Ty.int IntKind.i64) (A.wrap IntKind.i64 (i + (1 : Int)))]
              []
        else none
      else
        bif decide (f < i) then
          bif decide ((0 : Int) ≤ i ∧ i ≤ (↑(List.length b) : Int)) then
            bif decide ((0 : Int) ≤ f ∧ f ≤ i) then
              bif
                  decide
                    ((List.length out + List.length [List.drop (Int.toNat f) (List.take (Int.toNat i) b)]) * (24 : Nat) ≤
                      (140737488355328 : Nat)) then
                k Ex.normal
                  [X.sl (Ty.int IntKind.u8) b nl false,
                    X.sl L.sT (out ++ [List.drop (Int.toNat f) (List.take (Int.toNat i) b)])
                      (some (x && List.isEmpty [List.drop (Int.toNat f) (List.take (Int.toNat i) b)])) true,
                    X.d (Ty.int IntKind.i64) (A.wrap IntKind.i64 (i + (1 : Int))),
                    X.d (Ty.int IntKind.i64) (A.wrap IntKind.i64 (i + (1 : Int)))]
                  []
              else none
            else none
          else none
        else
          k Ex.normal
            [X.sl (Ty.int IntKind.u8) b nl false, X.sl L.sT out (some x) true,
              X.d (Ty.int IntKind.i64) (A.wrap IntKind.i64 (i + (1 : Int))),
              X.d (Ty.int IntKind.i64) (A.wrap IntKind.i64 (i + (1 : Int)))]
            []
    else
      k (Ex.exit (0 : Nat))
        [X.sl (Ty.int IntKind.u8) b nl false, X.sl L.sT out (some x) true, X.d (Ty.int IntKind.i64) f,
          X.d (Ty.int IntKind.i64) i]
        []) := by kernel_rfl
theorem tRfd (A : Ar) (b : List Int) (nl : Option Bool) : bodyX (Cx A (Ot1 A) (Lrfd A)) 100 Tryd.f29 [u8s b nl false] [] =
    (bif
        A.se
          (decide
              ((0 : Int) ≤ (0 : Int) ∧
                (0 : Int) ≤ (0 : Int) ∧
                  (0 : Int) ≤ (↑(List.length b) : Int) ∧
                    List.length b ≤ (50000 : Nat) ∧ (↑(0 : Nat) : Int) ≤ (0 : Int)) &&
            (true == true &&
              (decide ([] ++ L.full (L.cut L.isBl (List.drop (Int.toNat (0 : Int)) b)) = L.fieldsL b) &&
                List.all (List.drop (Int.toNat (0 : Int)) (List.take (Int.toNat (0 : Int)) b)) fun c => !L.isBl c))) then
      some (X.sl (Ty.slice (Ty.int IntKind.u8)) (A.se (L.fieldsL b)) (some (A.se (List.isEmpty (L.fieldsL b)))) false, [])
    else none) := by kernel_rfl
theorem tRbare (A : Ar) (b : List Int) (nl : Option Bool) : bodyX (Cx A (Ot2 A) noL) 100 Tryd.f28 [u8s b nl false] [] =
    (bif L.Ok A b nl then
      bif ((↑(List.length (A.se (L.fieldsL b))) : Int) == (0 : Int)) == false then
        bif decide ((0 : Int) ≤ (0 : Int) ∧ (0 : Int) < (↑(List.length (A.se (L.fieldsL b))) : Int)) then
          bif
              decide
                ((0 : Int) ≤ (0 : Int) ∧
                  (0 : Int) <
                    (↑(List.length
                          (List.getD (A.se (L.fieldsL b)) (Int.toNat (0 : Int)) (Ty.zero (Ty.slice (Ty.int IntKind.u8))))) :
                      Int)) then
            some
              (X.d Ty.bool
                  (List.getD (List.getD (A.se (L.fieldsL b)) (Int.toNat (0 : Int)) (Ty.zero (Ty.slice (Ty.int IntKind.u8))))
                      (Int.toNat (0 : Int)) (0 : Int) ==
                    (35 : Int)),
                [])
          else none
        else none
      else some (X.d Ty.bool true, [])
    else none) := by kernel_rfl
theorem lRfit (A : Ar) (R : Type) (w : List Int) (nl : Option Bool) (z : Bool) (i : Int) (k : Ex → List X → Hp → Option R) : stepF (Cx A (Ot2 A) (Lrfit A)) 100 (loopAt Tryd.f16 0) 51 [0, 2, 3] [i64s w nl false, boolx z, i64x i] [] k =
    (bif decide (i < (↑(List.length w) : Int)) then
      bif decide ((0 : Int) ≤ i ∧ i < (↑(List.length w) : Int)) then
        bif (!A.se (U.goodN (List.getD w (Int.toNat i) (0 : Int)))) == false then
          bif decide ((0 : Int) ≤ i ∧ i < (↑(List.length w) : Int)) then
            bif (List.getD w (Int.toNat i) (0 : Int) == (9 : Int)) == false then
              bif decide ((0 : Int) ≤ i ∧ i < (↑(List.length w) : Int)) then
                bif (List.getD w (Int.toNat i) (0 : Int) == (10 : Int)) == false then
                  bif decide ((0 : Int) ≤ i ∧ i < (↑(List.length w) : Int)) then
                    bif List.getD w (Int.toNat i) (0 : Int) == (32 : Int) then
                      k Ex.ret [X.sl (Ty.int IntKind.i64) w nl false, X.d Ty.bool false, X.d (Ty.int IntKind.i64) i] []
                    else
                      k Ex.normal
                        [X.sl (Ty.int IntKind.i64) w nl false, X.d Ty.bool z,
                          X.d (Ty.int IntKind.i64) (A.wrap IntKind.i64 (i + (1 : Int)))]
                        []
                  else none
                else k Ex.ret [X.sl (Ty.int IntKind.i64) w nl false, X.d Ty.bool false, X.d (Ty.int IntKind.i64) i] []
              else none
            else k Ex.ret [X.sl (Ty.int IntKind.i64) w nl false, X.d Ty.bool false, X.d (Ty.int IntKind.i64) i] []
          else none
        else k Ex.ret [X.sl (Ty.int IntKind.i64) w nl false, X.d Ty.bool false, X.d (Ty.int IntKind.i64) i] []
      else none
    else k (Ex.exit (0 : Nat)) [X.sl (Ty.int IntKind.i64) w nl false, X.d Ty.bool z, X.d (Ty.int IntKind.i64) i] []) := by kernel_rfl
theorem tRfit (A : Ar) (w : List Int) (nl : Option Bool) : bodyX (Cx A (Ot2 A) (Lrfit A)) 100 Tryd.f16 [i64s w nl false] [] =
    (bif
        A.se
          (decide
            ((0 : Int) ≤ (0 : Int) ∧
              (0 : Int) ≤ (↑(List.length w) : Int) ∧ List.length w ≤ (1000000 : Nat))) then
      bif A.se (List.any (List.drop (Int.toNat (0 : Int)) w) wrongB) then some (X.d Ty.bool false, [])
      else
        bif decide ((↑(List.length w) : Int) ≥ (1 : Int)) == true then
          bif decide ((↑(List.length w) : Int) ≤ (20 : Int)) == true then
            bif decide ((0 : Int) ≤ (0 : Int) ∧ (0 : Int) < (↑(List.length w) : Int)) then
              some (X.d Ty.bool (List.getD w (Int.toNat (0 : Int)) (0 : Int) != (35 : Int)), [])
            else none
          else some (X.d Ty.bool false, [])
        else some (X.d Ty.bool false, [])
    else none) := by kernel_rfl

/-- Words that fit and rise, behind one. -/
def okF : Option (List Int) → List (List Int) → Bool
  | _, [] => true
  | none, w :: r => fitB w && okF (some w) r
  | some p, w :: r => fitB w && (R.ltL p w && okF (some w) r)
def prev (l : List (List Int)) : Nat → Option (List Int)
  | 0 => none
  | i + 1 => some (l.getD i [])
def LrwrF (A : Ar) : List X → Hp → Tr (Ex × List X × Hp)
  | [.sl (.slice (.int .i64)) l nl false, .sl (.int .u8) [] (some true) true, .d (.int .i64) e, .sl (.int .u8) out (some x) true, .d (.int .i64) i], [] =>
    .test (A.se (decide (0 ≤ i ∧ i ≤ List.length l ∧ List.length l ≤ 1000 ∧ (List.length out : Int) ≤ 100 * i) && ((x == List.isEmpty out) && R.shortB l)))
      (.test (A.se (okF (prev l i.toNat) (List.drop i.toNat l)))
        (.give (.exit 0, [.dead, .dead, .dead, u8s (A.se (out ++ joinW (List.drop i.toNat l))) (some (A.se (List.isEmpty (out ++ joinW (List.drop i.toNat l))))) true, .dead], []))
        (.give (.ret, [.dead, u8s [] (some true) true, i64x 90, .dead, .dead], []))) .no
  | _, _ => .no
def Lrwr (A : Ar) : Lp := fun k => match k with
  | 5 => some (56, [0, 2, 3, 4, 5], LrwrF A)
  | _ => none
def LrrdF (A : Ar) : List X → Hp → Tr (Ex × List X × Hp)
  | [.sl (.slice (.int .i64)) [] (some true) true, .d (.int .i64) z3, .d (.int .i64) z4, .sl (.slice (.int .u8)) ls nl false, .sl (.slice (.int .i64)) out (some x) true, .d (.int .i64) i], [] =>
    .test (A.se (decide (0 ≤ i ∧ i ≤ List.length ls ∧ List.length ls ≤ 1000000 ∧ List.length out ≤ 300) && ((x == List.isEmpty out) && (okL ls && (short20 out && R.risesB out)))))
      (.test (A.se (decide ((goR (List.drop i.toNat ls) i out).2.2 = 0)))
        (.give (.exit 0, [.dead, .dead, .dead, .dead, .sl (.slice (.int .i64)) (A.se (goR (List.drop i.toNat ls) i out).1) (some (A.se (List.isEmpty (goR (List.drop i.toNat ls) i out).1))) true, .dead], []))
        (.give (.ret, [.sl (.slice (.int .i64)) [] (some true) true, i64x (A.se (goR (List.drop i.toNat ls) i out).2.1), i64x (A.se (goR (List.drop i.toNat ls) i out).2.2), .dead, .dead, .dead], []))) .no
  | _, _ => .no
def Lrrd (A : Ar) : Lp := fun k => match k with
  | 4 => some (79, [2, 3, 4, 5, 6, 7], LrrdF A)
  | _ => none

theorem lRwr (A : Ar) (R : Type) (l : List (List Int)) (nl : Option Bool) (e : Int) (out : List Int) (x : Bool) (i : Int) (k : Ex → List X → Hp → Option R) : stepF (Cx A (Ot4 A) (Lrwr A)) 100 (loopAt Tryd.f13 0) 56 [0, 2, 3, 4, 5] [.sl wTy l nl false, u8s [] (some true) true, i64x e, u8s out (some x) true, i64x i] [] k =
    (bif decide (i < (↑(List.length l) : Int)) then
      bif decide ((0 : Int) ≤ i ∧ i < (↑(List.length l) : Int)) then
        bif A.se (decide (List.length (List.getD l (Int.toNat i) (Ty.zero wTy)) ≤ (1000000 : Nat))) then
          bif (!A.se (fitB (List.getD l (Int.toNat i) (Ty.zero wTy)))) == false then
            bif decide (i > (0 : Int)) == true then
              bif
                  decide
                    ((0 : Int) ≤ A.wrap IntKind.i64 (i - (1 : Int)) ∧
                      A.wrap IntKind.i64 (i - (1 : Int)) < (↑(List.length l) : Int)) then
                bif decide ((0 : Int) ≤ i ∧ i < (↑(List.length l) : Int)) then
                  bif
                      A.se
                        (decide
                          (List.length (List.getD l (Int.toNat (A.wrap IntKind.i64 (i - (1 : Int)))) (Ty.zero wTy)) ≤
                              (1000000 : Nat) ∧
                            List.length (List.getD l (Int.toNat i) (Ty.zero wTy)) ≤ (1000000 : Nat))) then
                    bif
                        !A.se
                            (V.R.ltL (List.getD l (Int.toNat (A.wrap IntKind.i64 (i - (1 : Int)))) (Ty.zero wTy))
                              (List.getD l (Int.toNat i) (Ty.zero wTy))) then
                      k Ex.ret
                        [X.sl wTy l nl false, X.sl (Ty.int IntKind.u8) [] (some true) true,
                          X.d (Ty.int IntKind.i64) (90 : Int), X.sl (Ty.int IntKind.u8) out (some x) true,
                          X.d (Ty.int IntKind.i64) i]
                        []
                    else
                      bif decide ((0 : Int) ≤ i ∧ i < (↑(List.length l) : Int)) then
                        bif
                            A.se
                              (decide (List.length (List.getD l (Int.toNat i) (Ty.zero wTy)) ≤ (17592186044416 : Nat))) then
                          bif
                              decide
                                ((List.length out + List.length (A.se (U.putL (List.getD l (Int.toNat i) (Ty.zero wTy))))) *
                                    (1 : Nat) ≤
                                  (140737488355328 : Nat)) then
                            bif
                                decide
                                  ((List.length (out ++ A.se (U.putL (List.getD l (Int.toNat i) (Ty.zero wTy)))) +
                                        List.length [(10 : Int)]) *
                                      (1 : Nat) ≤
                                    (140737488355328 : Nat)) then
                              k Ex.normal
                                [X.sl wTy l nl false, X.sl (Ty.int IntKind.u8) [] (some true) true,
                                  X.d (Ty.int IntKind.i64) e,
                                  X.sl (Ty.int IntKind.u8)
                                    (out ++ A.se (U.putL (List.getD l (Int.toNat i) (Ty.zero wTy))) ++ [(10 : Int)])
                                    (some
                                      (x && List.isEmpty (A.se (U.putL (List.getD l (Int.toNat i) (Ty.zero wTy)))) &&
                                        List.isEmpty [(10 : Int)]))
                                    true,
                                  X.d (Ty.int IntKind.i64) (A.wrap IntKind.i64 (i + (1 : Int)))]
                                []
                            else none
                          else none
                        else none
                      else none
                  else none
                else none
              else none
            else
              bif decide ((0 : Int) ≤ i ∧ i < (↑(List.length l) : Int)) then
                bif A.se (decide (List.length (List.getD l (Int.toNat i) (Ty.zero wTy)) ≤ (17592186044416 : Nat))) then
                  bif
                      decide
                        ((List.length out + List.length (A.se (U.putL (List.getD l (Int.toNat i) (Ty.zero wTy))))) *
                            (1 : Nat) ≤
                          (140737488355328 : Nat)) then
                    bif
                        decide
                          ((List.length (out ++ A.se (U.putL (List.getD l (Int.toNat i) (Ty.zero wTy)))) +
                                List.length [(10 : Int)]) *
                              (1 : Nat) ≤
                            (140737488355328 : Nat)) then
                      k Ex.normal
                        [X.sl wTy l nl false, X.sl (Ty.int IntKind.u8) [] (some true) true, X.d (Ty.int IntKind.i64) e,
                          X.sl (Ty.int IntKind.u8)
                            (out ++ A.se (U.putL (List.getD l (Int.toNat i) (Ty.zero wTy))) ++ [(10 : Int)])
                            (some
                              (x && List.isEmpty (A.se (U.putL (List.getD l (Int.toNat i) (Ty.zero wTy)))) &&
                                List.isEmpty [(10 : Int)]))
                            true,
                          X.d (Ty.int IntKind.i64) (A.wrap IntKind.i64 (i + (1 : Int)))]
                        []
                    else none
                  else none
                else none
              else none
          else
            k Ex.ret
              [X.sl wTy l nl false, X.sl (Ty.int IntKind.u8) [] (some true) true, X.d (Ty.int IntKind.i64) (90 : Int),
                X.sl (Ty.int IntKind.u8) out (some x) true, X.d (Ty.int IntKind.i64) i]
              []
        else none
      else none
    else
      k (Ex.exit (0 : Nat))
        [X.sl wTy l nl false, X.sl (Ty.int IntKind.u8) [] (some true) true, X.d (Ty.int IntKind.i64) e,
          X.sl (Ty.int IntKind.u8) out (some x) true, X.d (Ty.int IntKind.i64) i]
        []) := by kernel_rfl
theorem tRwr (A : Ar) (l : List (List Int)) (nl : Option Bool) : bodyX (Cx A (Ot4 A) (Lrwr A)) 100 Tryd.f13 [.sl wTy l nl false] [] =
    (bif decide ((↑(List.length l) : Int) > (300 : Int)) then
      some (X.tup [X.sl (Ty.int IntKind.u8) [] (some true) false, X.d (Ty.int IntKind.i64) (81 : Int)], [])
    else
      bif
          A.se
            (decide
                ((0 : Int) ≤ (0 : Int) ∧
                  (0 : Int) ≤ (↑(List.length l) : Int) ∧
                    List.length l ≤ (1000 : Nat) ∧ (↑(0 : Nat) : Int) ≤ (100 : Int) * (0 : Int)) &&
              (true == true && R.shortB l)) then
        bif A.se (okF (prev l (Int.toNat (0 : Int))) (List.drop (Int.toNat (0 : Int)) l)) then
          some
            (X.tup
                [X.sl (Ty.int IntKind.u8) (A.se ([] ++ joinW (List.drop (Int.toNat (0 : Int)) l)))
                    (some (A.se (List.isEmpty ([] ++ joinW (List.drop (Int.toNat (0 : Int)) l))))) false,
                  X.d (Ty.int IntKind.i64) (0 : Int)],
              [])
        else some (X.tup [X.sl (Ty.int IntKind.u8) [] (some true) false, X.d (Ty.int IntKind.i64) (90 : Int)], [])
      else none) := by kernel_rfl
theorem lRrd (A : Ar) (R : Type) (z3 z4 : Int) (ls : List (List Int)) (nl : Option Bool) (out : List (List Int)) (x : Bool) (i : Int) (k : Ex → List X → Hp → Option R) : stepF (Cx A (Ot4 A) (Lrrd A)) 100 (loopAt Tryd.f11 0) 79 [2, 3, 4, 5, 6, 7] [.sl wTy [] (some true) true, i64x z3, i64x z4, .sl L.sT ls nl false, .sl wTy out (some x) true, i64x i] [] k =
    (bif decide (i < (↑(List.length ls) : Int)) then
      bif decide ((0 : Int) ≤ i ∧ i < (↑(List.length ls) : Int)) then
        bif L.Ok A (List.getD ls (Int.toNat i) (Ty.zero L.sT)) none then
          bif A.se (L.bareB (List.getD ls (Int.toNat i) (Ty.zero L.sT))) then
            k Ex.normal
              [X.sl wTy [] (some true) true, X.d (Ty.int IntKind.i64) z3, X.d (Ty.int IntKind.i64) z4,
                X.sl L.sT ls nl false, X.sl wTy out (some x) true,
                X.d (Ty.int IntKind.i64) (A.wrap IntKind.i64 (i + (1 : Int)))]
              []
          else
            bif decide ((0 : Int) ≤ i ∧ i < (↑(List.length ls) : Int)) then
              bif L.Ok A (List.getD ls (Int.toNat i) (Ty.zero L.sT)) none then
                bif (↑(List.length (A.se (L.fieldsL (List.getD ls (Int.toNat i) (Ty.zero L.sT))))) : Int) != (1 : Int) then
                  k Ex.ret
                    [X.sl (Ty.slice (Ty.int IntKind.i64)) [] (some true) true, X.d (Ty.int IntKind.i64) i,
                      X.d (Ty.int IntKind.i64) (71 : Int), X.sl L.sT ls nl false, X.sl wTy out (some x) true,
                      X.d (Ty.int IntKind.i64) i]
                    []
                else
                  bif
                      decide
                        ((0 : Int) ≤ (0 : Int) ∧
                          (0 : Int) <
                            (↑(List.length (A.se (L.fieldsL (List.getD ls (Int.toNat i) (Ty.zero L.sT))))) : Int)) then
                    bif
                        A.se
                          (bytesB
                              (List.getD (A.se (L.fieldsL (List.getD ls (Int.toNat i) (Ty.zero L.sT))))
                                (Int.toNat (0 : Int)) (Ty.zero (Ty.slice (Ty.int IntKind.u8)))) &&
                            decide
                              (List.length
                                  (List.getD (A.se (L.fieldsL (List.getD ls (Int.toNat i) (Ty.zero L.sT))))
                                    (Int.toNat (0 : Int)) (Ty.zero (Ty.slice (Ty.int IntKind.u8)))) ≤
                                (1000000 : Nat))) then
                      bif
                          A.se
                              (U.rdE
                                (List.getD (A.se (L.fieldsL (List.getD ls (Int.toNat i) (Ty.zero L.sT))))
                                  (Int.toNat (0 : Int)) (Ty.zero (Ty.slice (Ty.int IntKind.u8))))) !=
                            (0 : Int) then
                        k Ex.ret
                          [X.sl (Ty.slice (Ty.int IntKind.i64)) [] (some true) true, X.d (Ty.int IntKind.i64) i,
                            X.d (Ty.int IntKind.i64)
                              (A.se
                                (U.rdE
                                  (List.getD (A.se (L.fieldsL (List.getD ls (Int.toNat i) (Ty.zero L.sT))))
                                    (Int.toNat (0 : Int)) (Ty.zero (Ty.slice (Ty.int IntKind.u8)))))),
                            X.sl L.sT ls nl false, X.sl wTy out (some x) true, X.d (Ty.int IntKind.i64) i]
                          []
                      else
                        bif
                            decide
                              ((↑(List.length
                                      (A.se
                                        (U.rdL
                                          (List.getD (A.se (L.fieldsL (List.getD ls (Int.toNat i) (Ty.zero L.sT))))
                                            (Int.toNat (0 : Int)) (Ty.zero (Ty.slice (Ty.int IntKind.u8))))))) :
                                  Int) >
                                (20 : Int)) then
                          k Ex.ret
                            [X.sl (Ty.slice (Ty.int IntKind.i64)) [] (some true) true, X.d (Ty.int IntKind.i64) i,
                              X.d (Ty.int IntKind.i64) (90 : Int), X.sl L.sT ls nl false, X.sl wTy out (some x) true,
                              X.d (Ty.int IntKind.i64) i]
                            []
                        else
                          bif
                              A.se
                                (decide
                                    (List.length out ≤ (1000000 : Nat) ∧
                                      List.length
                                          (A.se
                                            (U.rdL
                                              (List.getD (A.se (L.fieldsL (List.getD ls (Int.toNat i) (Ty.zero L.sT))))
                                                (Int.toNat (0 : Int)) (Ty.zero (Ty.slice (Ty.int IntKind.u8)))))) ≤
                                        (1000000 : Nat)) &&
                                  V.R.shortB out) then
                            bif
                                !A.se
                                    (decide
                                      (A.se
                                          (U.rdL
                                            (List.getD (A.se (L.fieldsL (List.getD ls (Int.toNat i) (Ty.zero L.sT))))
                                              (Int.toNat (0 : Int)) (Ty.zero (Ty.slice (Ty.int IntKind.u8))))) ∈
                                        out)) then
                              bif
                                  decide
                                    ((0 : Int) ≤
                                        A.se
                                          (↑(V.R.cntL out
                                                (A.se
                                                  (U.rdL
                                                    (List.getD
                                                      (A.se (L.fieldsL (List.getD ls (Int.toNat i) (Ty.zero L.sT))))
                                                      (Int.toNat (0 : Int)) (Ty.zero (Ty.slice (Ty.int IntKind.u8))))))) :
                                            Int) ∧
                                      A.se
                                          (↑(V.R.cntL out
                                                (A.se
                                                  (U.rdL
                                                    (List.getD
                                                      (A.se (L.fieldsL (List.getD ls (Int.toNat i) (Ty.zero L.sT))))
                                                      (Int.toNat (0 : Int)) (Ty.zero (Ty.slice (Ty.int IntKind.u8))))))) :
                                            Int) ≤
                                        (↑(List.length out) : Int)) then
                                bif
                                    decide
                                      (((0 : Nat) +
                                            List.length
                                              (List.drop
                                                (Int.toNat
                                                  (A.se
                                                    (↑(V.R.cntL out
                                                          (A.se
                                                            (U.rdL
                                                              (List.getD
                                                                (A.se
                                                                  (L.fieldsL (List.getD ls (Int.toNat i) (Ty.zero L.sT))))
                                                                (Int.toNat (0 : Int))
                                                                (Ty.zero (Ty.slice (Ty.int IntKind.u8))))))) :
                                                      Int)))
                                                out)) *
                                          (24 : Nat) ≤
                                        (140737488355328 : Nat)) then
                                  bif
                                      decide
                                        ((0 : Int) ≤
                                            A.se
                                              (↑(V.R.cntL out
                                                    (A.se
                                                      (U.rdL
                                                        (List.getD
                                                          (A.se (L.fieldsL (List.getD ls (Int.toNat i) (Ty.zero L.sT))))
                                                          (Int.toNat (0 : Int))
                                                          (Ty.zero (Ty.slice (Ty.int IntKind.u8))))))) :
                                                Int) ∧
                                          A.se
                                              (↑(V.R.cntL out
                                                    (A.se
                                                      (U.rdL
                                                        (List.getD
                                                          (A.se (L.fieldsL (List.getD ls (Int.toNat i) (Ty.zero L.sT))))
                                                          (Int.toNat (0 : Int))
                                                          (Ty.zero (Ty.slice (Ty.int IntKind.u8))))))) :
                                                Int) ≤
                                            (↑(List.length out) : Int)) then
                                    bif
                                        decide
                                          (((0 : Nat) +
                                                List.length
                                                  (List.take
                                                    (Int.toNat
                                                      (A.se
                                                        (↑(V.R.cntL out
                                                              (A.se
                                                                (U.rdL
                                                                  (List.getD
                                                                    (A.se
                                                                      (L.fieldsL
                                                                        (List.getD ls (Int.toNat i) (Ty.zero L.sT))))
                                                                    (Int.toNat (0 : Int))
                                                                    (Ty.zero (Ty.slice (Ty.int IntKind.u8))))))) :
                                                          Int)))
                                                    out)) *
                                              (24 : Nat) ≤
                                            (140737488355328 : Nat)) then
                                      bif
                                          decide
                                            ((List.length
                                                    ([] ++
                                                      List.take
                                                        (Int.toNat
                                                          (A.se
                                                            (↑(V.R.cntL out
                                                                  (A.se
                                                                    (U.rdL
                                                                      (List.getD
                                                                        (A.se
                                                                          (L.fieldsL
                                                                            (List.getD ls (Int.toNat i) (Ty.zero L.sT))))
                                                                        (Int.toNat (0 : Int))
                                                                        (Ty.zero (Ty.slice (Ty.int IntKind.u8))))))) :
                                                              Int)))
                                                        out) +
                                                  List.length
                                                    [A.se
                                                        (U.rdL
                                                          (List.getD
                                                            (A.se (L.fieldsL (List.getD ls (Int.toNat i) (Ty.zero L.sT))))
                                                            (Int.toNat (0 : Int))
                                                            (Ty.zero (Ty.slice (Ty.int IntKind.u8)))))]) *
                                                (24 : Nat) ≤
                                              (140737488355328 : Nat)) then
                                        bif
                                            decide
                                              ((List.length
                                                      ([] ++
                                                          List.take
                                                            (Int.toNat
                                                              (A.se
                                                                (↑(V.R.cntL out
                                                                      (A.se
                                                                        (U.rdL
                                                                          (List.getD
                                                                            (A.se
                                                                              (L.fieldsL
                                                                                (List.getD ls (Int.toNat i)
                                                                                  (Ty.zero L.sT))))
                                                                            (Int.toNat (0 : Int))
                                                                            (Ty.zero (Ty.slice (Ty.int IntKind.u8))))))) :
                                                                  Int)))
                                                            out ++
                                                        [A.se
                                                            (U.rdL
                                                              (List.getD
                                                                (A.se
                                                                  (L.fieldsL (List.getD ls (Int.toNat i) (Ty.zero L.sT))))
                                                                (Int.toNat (0 : Int))
                                                                (Ty.zero (Ty.slice (Ty.int IntKind.u8)))))]) +
                                                    List.length
                                                      ([] ++
                                                        List.drop
                                                          (Int.toNat
                                                            (A.se
                                                              (↑(V.R.cntL out
                                                                    (A.se
                                                                      (U.rdL
                                                                        (List.getD
                                                                          (A.se
                                                                            (L.fieldsL
                                                                              (List.getD ls (Int.toNat i) (Ty.zero L.sT))))
                                                                          (Int.toNat (0 : Int))
                                                                          (Ty.zero (Ty.slice (Ty.int IntKind.u8))))))) :
                                                                Int)))
                                                          out)) *
                                                  (24 : Nat) ≤
                                                (140737488355328 : Nat)) then
                                          bif
                                              decide
                                                ((↑(List.length
                                                        ([] ++
                                                              List.take
                                                                (Int.toNat
                                                                  (A.se
                                                                    (↑(V.R.cntL out
                                                                          (A.se
                                                                            (U.rdL
                                                                              (List.getD
                                                                                (A.se
                                                                                  (L.fieldsL
                                                                                    (List.getD ls (Int.toNat i)
                                                                                      (Ty.zero L.sT))))
                                                                                (Int.toNat (0 : Int))
                                                                                (Ty.zero
                                                                                  (Ty.slice (Ty.int IntKind.u8))))))) :
                                                                      Int)))
                                                                out ++
                                                            [A.se
                                                                (U.rdL
                                                                  (List.getD
                                                                    (A.se
                                                                      (L.fieldsL
                                                                        (List.getD ls (Int.toNat i) (Ty.zero L.sT))))
                                                                    (Int.toNat (0 : Int))
                                                                    (Ty.zero (Ty.slice (Ty.int IntKind.u8)))))] ++
                                                          ([] ++
                                                            List.drop
                                                              (Int.toNat
                                                                (A.se
                                                                  (↑(V.R.cntL out
                                                                        (A.se
                                                                          (U.rdL
                                                                            (List.getD
                                                                              (A.se
                                                                                (L.fieldsL
                                                                                  (List.getD ls (Int.toNat i)
                                                                                    (Ty.zero L.sT))))
                                                                              (Int.toNat (0 : Int))
                                                                              (Ty.zero (Ty.slice (Ty.int IntKind.u8))))))) :
                                                                    Int)))
                                                              out))) :
                                                    Int) >
                                                  (300 : Int)) then
                                            k Ex.ret
                                              [X.sl (Ty.slice (Ty.int IntKind.i64)) [] (some true) true,
                                                X.d (Ty.int IntKind.i64) i, X.d (Ty.int IntKind.i64) (81 : Int),
                                                X.sl L.sT ls nl false,
                                                X.sl (Ty.slice (Ty.int IntKind.i64))
                                                  ([] ++
                                                        List.take
                                                          (Int.toNat
                                                            (A.se
                                                              (↑(V.R.cntL out
                                                                    (A.se
                                                                      (U.rdL
                                                                        (List.getD
                                                                          (A.se
                                                                            (L.fieldsL
                                                                              (List.getD ls (Int.toNat i) (Ty.zero L.sT))))
                                                                          (Int.toNat (0 : Int))
                                                                          (Ty.zero (Ty.slice (Ty.int IntKind.u8))))))) :
                                                                Int)))
                                                          out ++
                                                      [A.se
                                                          (U.rdL
                                                            (List.getD
                                                              (A.se (L.fieldsL (List.getD ls (Int.toNat i) (Ty.zero L.sT))))
                                                              (Int.toNat (0 : Int))
                                                              (Ty.zero (Ty.slice (Ty.int IntKind.u8)))))] ++
                                                    ([] ++
                                                      List.drop
                                                        (Int.toNat
                                                          (A.se
                                                            (↑(V.R.cntL out
                                                                  (A.se
                                                                    (U.rdL
                                                                      (List.getD
                                                                        (A.se
                                                                          (L.fieldsL
                                                                            (List.getD ls (Int.toNat i) (Ty.zero L.sT))))
                                                                        (Int.toNat (0 : Int))
                                                                        (Ty.zero (Ty.slice (Ty.int IntKind.u8))))))) :
                                                              Int)))
                                                        out))
                                                  (some
                                                    (false &&
                                                          List.isEmpty
                                                            (List.take
                                                              (Int.toNat
                                                                (A.se
                                                                  (↑(V.R.cntL out
                                                                        (A.se
                                                                          (U.rdL
                                                                            (List.getD
                                                                              (A.se
                                                                                (L.fieldsL
                                                                                  (List.getD ls (Int.toNat i)
                                                                                    (Ty.zero L.sT))))
                                                                              (Int.toNat (0 : Int))
                                                                              (Ty.zero (Ty.slice (Ty.int IntKind.u8))))))) :
                                                                    Int)))
                                                              out) &&
                                                        List.isEmpty
                                                          [A.se
                                                              (U.rdL
                                                                (List.getD
                                                                  (A.se
                                                                    (L.fieldsL (List.getD ls (Int.toNat i) (Ty.zero L.sT))))
                                                                  (Int.toNat (0 : Int))
                                                                  (Ty.zero (Ty.slice (Ty.int IntKind.u8)))))] &&
                                                      List.isEmpty
                                                        ([] ++
                                                          List.drop
                                                            (Int.toNat
                                                              (A.se
                                                                (↑(V.R.cntL out
                                                                      (A.se
                                                                        (U.rdL
                                                                          (List.getD
                                                                            (A.se
                                                                              (L.fieldsL
                                                                                (List.getD ls (Int.toNat i)
                                                                                  (Ty.zero L.sT))))
                                                                            (Int.toNat (0 : Int))
                                                                            (Ty.zero (Ty.slice (Ty.int IntKind.u8))))))) :
                                                                  Int)))
                                                            out)))
                                                  true,
                                                X.d (Ty.int IntKind.i64) i]
                                              []
                                          else
                                            k Ex.normal
                                              [X.sl wTy [] (some true) true, X.d (Ty.int IntKind.i64) z3,
                                                X.d (Ty.int IntKind.i64) z4, X.sl L.sT ls nl false,
                                                X.sl (Ty.slice (Ty.int IntKind.i64))
                                                  ([] ++
                                                        List.take
                                                          (Int.toNat
                                                            (A.se
                                                              (↑(V.R.cntL out
                                                                    (A.se
                                                                      (U.rdL
                                                                        (List.getD
                                                                          (A.se
                                                                            (L.fieldsL
                                                                              (List.getD ls (Int.toNat i) (Ty.zero L.sT))))
                                                                          (Int.toNat (0 : Int))
                                                                          (Ty.zero (Ty.slice (Ty.int IntKind.u8))))))) :
                                                                Int)))
                                                          out ++
                                                      [A.se
                                                          (U.rdL
                                                            (List.getD
                                                              (A.se (L.fieldsL (List.getD ls (Int.toNat i) (Ty.zero L.sT))))
                                                              (Int.toNat (0 : Int))
                                                              (Ty.zero (Ty.slice (Ty.int IntKind.u8)))))] ++
                                                    ([] ++
                                                      List.drop
                                                        (Int.toNat
                                                          (A.se
                                                            (↑(V.R.cntL out
                                                                  (A.se
                                                                    (U.rdL
                                                                      (List.getD
                                                                        (A.se
                                                                          (L.fieldsL
                                                                            (List.getD ls (Int.toNat i) (Ty.zero L.sT))))
                                                                        (Int.toNat (0 : Int))
                                                                        (Ty.zero (Ty.slice (Ty.int IntKind.u8))))))) :
                                                              Int)))
                                                        out))
                                                  (some
                                                    (false &&
                                                          List.isEmpty
                                                            (List.take
                                                              (Int.toNat
                                                                (A.se
                                                                  (↑(V.R.cntL out
                                                                        (A.se
                                                                          (U.rdL
                                                                            (List.getD
                                                                              (A.se
                                                                                (L.fieldsL
                                                                                  (List.getD ls (Int.toNat i)
                                                                                    (Ty.zero L.sT))))
                                                                              (Int.toNat (0 : Int))
                                                                              (Ty.zero (Ty.slice (Ty.int IntKind.u8))))))) :
                                                                    Int)))
                                                              out) &&
                                                        List.isEmpty
                                                          [A.se
                                                              (U.rdL
                                                                (List.getD
                                                                  (A.se
                                                                    (L.fieldsL (List.getD ls (Int.toNat i) (Ty.zero L.sT))))
                                                                  (Int.toNat (0 : Int))
                                                                  (Ty.zero (Ty.slice (Ty.int IntKind.u8)))))] &&
                                                      List.isEmpty
                                                        ([] ++
                                                          List.drop
                                                            (Int.toNat
                                                              (A.se
                                                                (↑(V.R.cntL out
                                                                      (A.se
                                                                        (U.rdL
                                                                          (List.getD
                                                                            (A.se
                                                                              (L.fieldsL
                                                                                (List.getD ls (Int.toNat i)
                                                                                  (Ty.zero L.sT))))
                                                                            (Int.toNat (0 : Int))
                                                                            (Ty.zero (Ty.slice (Ty.int IntKind.u8))))))) :
                                                                  Int)))
                                                            out)))
                                                  true,
                                                X.d (Ty.int IntKind.i64) (A.wrap IntKind.i64 (i + (1 : Int)))]
                                              []
                                        else none
                                      else none
                                    else none
                                  else none
                                else none
                              else none
                            else
                              bif decide ((↑(List.length out) : Int) > (300 : Int)) then
                                k Ex.ret
                                  [X.sl (Ty.slice (Ty.int IntKind.i64)) [] (some true) true, X.d (Ty.int IntKind.i64) i,
                                    X.d (Ty.int IntKind.i64) (81 : Int), X.sl L.sT ls nl false, X.sl wTy out (some x) true,
                                    X.d (Ty.int IntKind.i64) i]
                                  []
                              else
                                k Ex.normal
                                  [X.sl wTy [] (some true) true, X.d (Ty.int IntKind.i64) z3, X.d (Ty.int IntKind.i64) z4,
                                    X.sl L.sT ls nl false, X.sl wTy out (some x) true,
                                    X.d (Ty.int IntKind.i64) (A.wrap IntKind.i64 (i + (1 : Int)))]
                                  []
                          else none
                    else none
                  else none
              else none
            else none
        else none
      else none
    else
      k (Ex.exit (0 : Nat))
        [X.sl wTy [] (some true) true, X.d (Ty.int IntKind.i64) z3, X.d (Ty.int IntKind.i64) z4, X.sl L.sT ls nl false,
          X.sl wTy out (some x) true, X.d (Ty.int IntKind.i64) i]
        []) := by kernel_rfl
theorem tRrd (A : Ar) (b : List Int) (nl : Option Bool) : bodyX (Cx A (Ot4 A) (Lrrd A)) 100 Tryd.f11 [u8s b nl false] [] =
    (bif L.Ok A b nl then
      bif
          A.se
            (decide
                ((0 : Int) ≤ (0 : Int) ∧
                  (0 : Int) ≤ (↑(List.length (A.se (L.splitL b))) : Int) ∧
                    List.length (A.se (L.splitL b)) ≤ (1000000 : Nat) ∧ (0 : Nat) ≤ (300 : Nat)) &&
              (true == true && (okL (A.se (L.splitL b)) && (short20 [] && R.risesB [])))) then
        bif
            A.se
              (decide ((goR (List.drop (Int.toNat (0 : Int)) (A.se (L.splitL b))) (0 : Int) []).snd.snd = (0 : Int))) then
          some
            (X.tup
                [X.sl (Ty.slice (Ty.int IntKind.i64))
                    (A.se (goR (List.drop (Int.toNat (0 : Int)) (A.se (L.splitL b))) (0 : Int) []).fst)
                    (some
                      (A.se (List.isEmpty (goR (List.drop (Int.toNat (0 : Int)) (A.se (L.splitL b))) (0 : Int) []).fst)))
                    false,
                  X.d (Ty.int IntKind.i64) (-1 : Int), X.d (Ty.int IntKind.i64) (0 : Int)],
              [])
        else
          some
            (X.tup
                [X.sl (Ty.slice (Ty.int IntKind.i64)) [] (some true) false,
                  X.d (Ty.int IntKind.i64)
                    (A.se (goR (List.drop (Int.toNat (0 : Int)) (A.se (L.splitL b))) (0 : Int) []).snd.fst),
                  X.d (Ty.int IntKind.i64)
                    (A.se (goR (List.drop (Int.toNat (0 : Int)) (A.se (L.splitL b))) (0 : Int) []).snd.snd)],
              [])
      else none
    else none) := by kernel_rfl

end Go.Proofs.YtaefpopjlmhmoaaDoor.V

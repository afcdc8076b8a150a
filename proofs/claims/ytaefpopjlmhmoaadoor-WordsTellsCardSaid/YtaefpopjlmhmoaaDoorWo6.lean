/-
  Chapter 09, word lists: the trees of WordsBack; two of its regions are told. By program; each equation is checked by the kernel.
  It speaks of the pinned program alone; no condition.
-/
import Derived.Test.YtaefpopjlmhmoaaDoorWo5
namespace Go.Proofs.YtaefpopjlmhmoaaDoor.V
open Go
set_option linter.unusedVariables false

def noM9 : Nat → Nat := fun _ => 0
def oneB (l : List (List Int)) (p : List Int) (e : Int) (x : List (List Int)) (i f : Int) : Bool :=
  bif e == 0 then i == -1 && (f == 0 && (decide (x = l) && (decide (x.length ≤ 1000000) && R.shortB x))) else p.isEmpty
def twoB (y : List (List Int)) (g : Int) (h j : Int) (z : List (List Int)) : Bool :=
  bif g == 0 then h == 0 && (j == 0 && (decide (z = y) && (decide (z.length ≤ 1000000) && R.shortB z))) else y.isEmpty

def JoneF (A : Ar) : List X → Hp → Tr (List X × Hp)
  | [.sl (.int .u8) b nb false, .sl (.slice (.int .i64)) l nl false, .d .bool up, .sl (.int .u8) p np false, .d (.int .i64) e, .sl (.slice (.int .i64)) x nx false, .d (.int .i64) i, .d (.int .i64) f, .undef], [] =>
    .test (A.se (oneB l p e x i f)) (.give ([u8s b nb false, .dead, boolx up, .dead, .dead, .dead, .dead, .dead, boolx true], [])) .no
  | _, _ => .no
def JtwoF (A : Ar) : List X → Hp → Tr (List X × Hp)
  | [.d .bool up, .d .bool one, .sl (.slice (.int .i64)) y ny false, .d (.int .i64) g, .d (.int .i64) h, .sl (.slice (.int .i64)) z nz false, .d (.int .i64) j, .dead], [] =>
    .test (A.se (twoB y g h j z)) (.give ([boolx up, boolx one, .dead, .dead, .dead, .dead, .dead, boolx true], [])) .no
  | _, _ => .no
def Jbk (A : Ar) : Jt := fun i => match i with
  | 6 => some (114, [0, 1, 5, 6, 7, 8, 9, 10, 11], JoneF A)
  | 10 => some (114, [5, 11, 12, 14, 16, 17, 19, 20], JtwoF A)
  | _ => none

theorem jOne (A : Ar) (R : Type) (b : List Int) (nb : Option Bool) (l : List (List Int)) (nl : Option Bool) (up : Bool) (p : List Int) (np : Option Bool) (e : Int) (x : List (List Int)) (nx : Option Bool) (i f : Int) (k : Ex → List X → Hp → Option R) : stepF (CxM A (Ow12 A) noL noM9) 1 (.region (rgAt Tryd.f4 6).1 (rgAt Tryd.f4 6).2.1 (rgAt Tryd.f4 6).2.2) 114 [0, 1, 5, 6, 7, 8, 9, 10, 11] [u8s b nb false, .sl wTy l nl false, boolx up, u8s p np false, i64x e, .sl wTy x nx false, i64x i, i64x f, .undef] [] k =
    (bif (e != (0 : Int)) == true then
      bif ((↑(List.length p) : Int) == (0 : Int)) == false then
        bif (e == (0 : Int)) == true then
          bif (i == (-1 : Int)) == true then
            bif (f == (0 : Int)) == true then
              bif A.se (decide (List.length x ≤ (1000000 : Nat)) && V.R.shortB x) then
                k Ex.normal
                  [X.sl (Ty.int IntKind.u8) b nb false, X.sl wTy l nl false, X.d Ty.bool up,
                    X.sl (Ty.int IntKind.u8) p np false, X.d (Ty.int IntKind.i64) e, X.sl wTy x nx false,
                    X.d (Ty.int IntKind.i64) i, X.d (Ty.int IntKind.i64) f, X.d Ty.bool (A.se (decide (x = l)))]
                  []
              else none
            else
              k Ex.normal
                [X.sl (Ty.int IntKind.u8) b nb false, X.sl wTy l nl false, X.d Ty.bool up,
                  X.sl (Ty.int IntKind.u8) p np false, X.d (Ty.int IntKind.i64) e, X.sl wTy x nx false,
                  X.d (Ty.int IntKind.i64) i, X.d (Ty.int IntKind.i64) f, X.d Ty.bool false]
                []
          else
            k Ex.normal
              [X.sl (Ty.int IntKind.u8) b nb false, X.sl wTy l nl false, X.d Ty.bool up,
                X.sl (Ty.int IntKind.u8) p np false, X.d (Ty.int IntKind.i64) e, X.sl wTy x nx false,
                X.d (Ty.int IntKind.i64) i, X.d (Ty.int IntKind.i64) f, X.d Ty.bool false]
              []
        else
          k Ex.normal
            [X.sl (Ty.int IntKind.u8) b nb false, X.sl wTy l nl false, X.d Ty.bool up, X.sl (Ty.int IntKind.u8) p np false,
              X.d (Ty.int IntKind.i64) e, X.sl wTy x nx false, X.d (Ty.int IntKind.i64) i, X.d (Ty.int IntKind.i64) f,
              X.d Ty.bool false]
            []
      else
        k Ex.normal
          [X.sl (Ty.int IntKind.u8) b nb false, X.sl wTy l nl false, X.d Ty.bool up, X.sl (Ty.int IntKind.u8) p np false,
            X.d (Ty.int IntKind.i64) e, X.sl wTy x nx false, X.d (Ty.int IntKind.i64) i, X.d (Ty.int IntKind.i64) f,
            X.d Ty.bool true]
          []
    else
      bif (e == (0 : Int)) == true then
        bif (i == (-1 : Int)) == true then
          bif (f == (0 : Int)) == true then
            bif A.se (decide (List.length x ≤ (1000000 : Nat)) && V.R.shortB x) then
              k Ex.normal
                [X.sl (Ty.int IntKind.u8) b nb false, X.sl wTy l nl false, X.d Ty.bool up,
                  X.sl (Ty.int IntKind.u8) p np false, X.d (Ty.int IntKind.i64) e, X.sl wTy x nx false,
                  X.d (Ty.int IntKind.i64) i, X.d (Ty.int IntKind.i64) f, X.d Ty.bool (A.se (decide (x = l)))]
                []
            else none
          else
            k Ex.normal
              [X.sl (Ty.int IntKind.u8) b nb false, X.sl wTy l nl false, X.d Ty.bool up,
                X.sl (Ty.int IntKind.u8) p np false, X.d (Ty.int IntKind.i64) e, X.sl wTy x nx false,
                X.d (Ty.int IntKind.i64) i, X.d (Ty.int IntKind.i64) f, X.d Ty.bool false]
              []
        else
          k Ex.normal
            [X.sl (Ty.int IntKind.u8) b nb false, X.sl wTy l nl false, X.d Ty.bool up, X.sl (Ty.int IntKind.u8) p np false,
              X.d (Ty.int IntKind.i64) e, X.sl wTy x nx false, X.d (Ty.int IntKind.i64) i, X.d (Ty.int IntKind.i64) f,
              X.d Ty.bool false]
            []
      else
        k Ex.normal
          [X.sl (Ty.int IntKind.u8) b nb false, X.sl wTy l nl false, X.d Ty.bool up, X.sl (Ty.int IntKind.u8) p np false,
            X.d (Ty.int IntKind.i64) e, X.sl wTy x nx false, X.d (Ty.int IntKind.i64) i, X.d (Ty.int IntKind.i64) f,
            X.d Ty.bool false]
          []) := by kernel_rfl
theorem jTwo (A : Ar) (R : Type) (up one : Bool) (y : List (List Int)) (ny : Option Bool) (g h : Int) (z : List (List Int)) (nz : Option Bool) (j : Int) (k : Ex → List X → Hp → Option R) : stepF (CxM A (Ow12 A) noL noM9) 1 (.region (rgAt Tryd.f4 10).1 (rgAt Tryd.f4 10).2.1 (rgAt Tryd.f4 10).2.2) 114 [5, 11, 12, 14, 16, 17, 19, 20] [boolx up, boolx one, .sl wTy y ny false, i64x g, i64x h, .sl wTy z nz false, i64x j, .dead] [] k =
    (bif (g != (0 : Int)) == true then
      bif ((↑(List.length y) : Int) == (0 : Int)) == false then
        bif (g == (0 : Int)) == true then
          bif (h == (0 : Int)) == true then
            bif (j == (0 : Int)) == true then
              bif A.se (decide (List.length z ≤ (1000000 : Nat)) && V.R.shortB z) then
                k Ex.normal
                  [X.d Ty.bool up, X.d Ty.bool one, X.sl wTy y ny false, X.d (Ty.int IntKind.i64) g,
                    X.d (Ty.int IntKind.i64) h, X.sl wTy z nz false, X.d (Ty.int IntKind.i64) j,
                    X.d Ty.bool (A.se (decide (z = y)))]
                  []
              else none
            else
              k Ex.normal
                [X.d Ty.bool up, X.d Ty.bool one, X.sl wTy y ny false, X.d (Ty.int IntKind.i64) g,
                  X.d (Ty.int IntKind.i64) h, X.sl wTy z nz false, X.d (Ty.int IntKind.i64) j, X.d Ty.bool false]
                []
          else
            k Ex.normal
              [X.d Ty.bool up, X.d Ty.bool one, X.sl wTy y ny false, X.d (Ty.int IntKind.i64) g, X.d (Ty.int IntKind.i64) h,
                X.sl wTy z nz false, X.d (Ty.int IntKind.i64) j, X.d Ty.bool false]
              []
        else
          k Ex.normal
            [X.d Ty.bool up, X.d Ty.bool one, X.sl wTy y ny false, X.d (Ty.int IntKind.i64) g, X.d (Ty.int IntKind.i64) h,
              X.sl wTy z nz false, X.d (Ty.int IntKind.i64) j, X.d Ty.bool false]
            []
      else
        k Ex.normal
          [X.d Ty.bool up, X.d Ty.bool one, X.sl wTy y ny false, X.d (Ty.int IntKind.i64) g, X.d (Ty.int IntKind.i64) h,
            X.sl wTy z nz false, X.d (Ty.int IntKind.i64) j, X.d Ty.bool true]
          []
    else
      bif (g == (0 : Int)) == true then
        bif (h == (0 : Int)) == true then
          bif (j == (0 : Int)) == true then
            bif A.se (decide (List.length z ≤ (1000000 : Nat)) && V.R.shortB z) then
              k Ex.normal
                [X.d Ty.bool up, X.d Ty.bool one, X.sl wTy y ny false, X.d (Ty.int IntKind.i64) g,
                  X.d (Ty.int IntKind.i64) h, X.sl wTy z nz false, X.d (Ty.int IntKind.i64) j,
                  X.d Ty.bool (A.se (decide (z = y)))]
                []
            else none
          else
            k Ex.normal
              [X.d Ty.bool up, X.d Ty.bool one, X.sl wTy y ny false, X.d (Ty.int IntKind.i64) g, X.d (Ty.int IntKind.i64) h,
                X.sl wTy z nz false, X.d (Ty.int IntKind.i64) j, X.d Ty.bool false]
              []
        else
          k Ex.normal
            [X.d Ty.bool up, X.d Ty.bool one, X.sl wTy y ny false, X.d (Ty.int IntKind.i64) g, X.d (Ty.int IntKind.i64) h,
              X.sl wTy z nz false, X.d (Ty.int IntKind.i64) j, X.d Ty.bool false]
            []
      else
        k Ex.normal
          [X.d Ty.bool up, X.d Ty.bool one, X.sl wTy y ny false, X.d (Ty.int IntKind.i64) g, X.d (Ty.int IntKind.i64) h,
            X.sl wTy z nz false, X.d (Ty.int IntKind.i64) j, X.d Ty.bool false]
          []) := by kernel_rfl
theorem tBack (A : Ar) (b : List Int) (nb : Bool) (l : List (List Int)) (nl : Bool) : bodyX (CxJ A (Ow12 A) noL noM9 (Jbk A)) 100 Tryd.f4 [u8s b (some nb) false, .sl wTy l (some nl) false] [] =
    (bif decide ((↑(List.length b) : Int) > (3000 : Int)) == false then
      bif A.se (decide (List.length l ≤ (9000000000000000000 : Nat))) then
        bif !A.se (R.fewB l (400 : Int)) then some (X.d Ty.bool true, [])
        else
          bif A.se (decide (List.length l ≤ (1000 : Nat)) && R.shortB l) then
            bif L.Ok A (A.se (writeW l).fst) (some (A.se (List.isEmpty (writeW l).fst))) then
              bif
                  A.se
                    (oneB l (A.se (writeW l).fst) (A.se (writeW l).snd) (A.se (readW (A.se (writeW l).fst)).fst)
                      (A.se (readW (A.se (writeW l).fst)).snd.fst) (A.se (readW (A.se (writeW l).fst)).snd.snd)) then
                bif L.Ok A b (some nb) then
                  bif A.se (decide (List.length (A.se (readW b).fst) ≤ (1000 : Nat)) && R.shortB (A.se (readW b).fst)) then
                    bif
                        L.Ok A (A.se (writeW (A.se (readW b).fst)).fst)
                          (some (A.se (List.isEmpty (writeW (A.se (readW b).fst)).fst))) then
                      bif
                          A.se
                            (twoB (A.se (readW b).fst) (A.se (readW b).snd.snd) (A.se (writeW (A.se (readW b).fst)).snd)
                              (A.se (readW (A.se (writeW (A.se (readW b).fst)).fst)).snd.snd)
                              (A.se (readW (A.se (writeW (A.se (readW b).fst)).fst)).fst)) then
                        some (X.d Ty.bool true, [])
                      else none
                    else none
                  else none
                else none
              else none
            else none
          else none
      else none
    else some (X.d Ty.bool true, [])) := by kernel_rfl

end Go.Proofs.YtaefpopjlmhmoaaDoor.V

/-
  Chapter 09, word lists: the tree of WordsTells. By program; each equation is checked by the kernel.
  It speaks of the pinned program alone; no condition.
-/
import Derived.Test.YtaefpopjlmhmoaaDoorWt3
namespace Go.Proofs.YtaefpopjlmhmoaaDoor.V
open Go
set_option linter.unusedVariables false

theorem tTells9 (A : Ar) (b : List Int) (nb : Bool) (l : List (List Int)) (nl : Bool) (w : List Int) (nw : Bool) : bodyX (Cx A (Ot5 A) noL) 100 Tryd.f3 [u8s b (some nb) false, .sl wTy l (some nl) false, i64s w (some nw) false] [] =
    (bif decide ((↑(List.length b) : Int) > (3000 : Int)) == false then
      bif A.se (decide (List.length l ≤ (9000000000000000000 : Nat))) then
        bif (!A.se (R.fewB l (400 : Int))) == false then
          bif decide ((↑(List.length w) : Int) > (100 : Int)) then some (X.d Ty.bool true, [])
          else
            bif L.Ok A b (some nb) then
              bif L.Ok A b (some nb) then
                bif A.se (decide (List.length l ≤ (1000 : Nat)) && R.shortB l) then
                  bif A.se (decide (List.length l ≤ (1000 : Nat)) && R.shortB l) then
                    bif
                        A.se
                          (decide (List.length (A.se (readW b).fst) ≤ (1000000 : Nat)) &&
                            R.shortB (A.se (readW b).fst)) then
                      bif A.se (decide (A.se (readW b).fst = A.se (readW b).fst)) == true then
                        bif (A.se (readW b).snd.fst == A.se (readW b).snd.fst) == true then
                          bif (A.se (readW b).snd.snd == A.se (readW b).snd.snd) == true then
                            bif A.seq (strOf (A.se (writeW l).fst)) (strOf (A.se (writeW l).fst)) == true then
                              bif (A.se (writeW l).snd == A.se (writeW l).snd) == true then
                                bif A.se (decide (List.length w ≤ (1000000 : Nat))) then
                                  bif A.se (decide (List.length w ≤ (1000000 : Nat))) then
                                    some (X.d Ty.bool (A.se (fitB w) == A.se (fitB w)), [])
                                  else none
                                else none
                              else some (X.d Ty.bool false, [])
                            else some (X.d Ty.bool false, [])
                          else some (X.d Ty.bool false, [])
                        else some (X.d Ty.bool false, [])
                      else some (X.d Ty.bool false, [])
                    else none
                  else none
                else none
              else none
            else none
        else some (X.d Ty.bool true, [])
      else none
    else some (X.d Ty.bool true, [])) := by kernel_rfl

end Go.Proofs.YtaefpopjlmhmoaaDoor.V

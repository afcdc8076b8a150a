/-
  Chapter 01, utf: trees of the statements. By program; each equation is checked by the kernel.
  It speaks of the pinned program alone; no condition.
-/
import Derived.Test.YtnjlfeigcappjaaDoorUt16
namespace Go.Proofs.YtnjlfeigcappjaaDoor.V
open Go
set_option linter.unusedVariables false
set_option linter.unusedSimpArgs false

theorem tTells (A : Ar) (l : List Int) (nl : Bool) (b : List Int) (nl2 : Bool) (n : Int) : bodyX (Cx A (Out A) noL) 100 Tryd.f3 [i64s l (some nl) false, u8s b (some nl2) false, i64x n] [] =
    (bif decide ((↑(List.length l) : Int) > (1000 : Int)) == false then
      bif decide ((↑(List.length b) : Int) > (1000 : Int)) then some (X.d Ty.bool true, [])
      else
        bif A.se (decide (List.length l ≤ (17592186044416 : Nat))) then
          bif A.se (decide (List.length l ≤ (17592186044416 : Nat))) then
            bif A.se (bytesB b) then
              bif A.se (bytesB b) then
                bif A.se (bytesB b && decide (List.length b ≤ (1000000 : Nat))) then
                  bif A.se (bytesB b && decide (List.length b ≤ (1000000 : Nat))) then
                    bif A.seq (strOf (A.se (putL l))) (strOf (A.se (putL l))) == true then
                      bif (A.se (putE l) == A.se (putE l)) == true then
                        bif (A.se (uN b) == A.se (uN b)) == true then
                          bif (A.se (uL b) == A.se (uL b)) == true then
                            bif (A.se (uE b) == A.se (uE b)) == true then
                              bif A.se (decide (List.length (A.se (rdL b)) ≤ (9223372036854775806 : Nat))) then
                                bif A.se (decide (A.se (rdL b) = A.se (rdL b))) == true then
                                  bif (A.se (rdE b) == A.se (rdE b)) == true then
                                    some (X.d Ty.bool (A.se (goodN n) == A.se (goodN n)), [])
                                  else some (X.d Ty.bool false, [])
                                else some (X.d Ty.bool false, [])
                              else none
                            else some (X.d Ty.bool false, [])
                          else some (X.d Ty.bool false, [])
                        else some (X.d Ty.bool false, [])
                      else some (X.d Ty.bool false, [])
                    else some (X.d Ty.bool false, [])
                  else none
                else none
              else none
            else none
          else none
        else none
    else some (X.d Ty.bool true, [])) := by kernel_rfl

end Go.Proofs.YtnjlfeigcappjaaDoor.V

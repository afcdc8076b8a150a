/-
  Chapter 01, utf: trees of the statements. By program; each equation is checked by the kernel.
  It speaks of the pinned program alone; no condition.
-/
import Derived.Test.YtnjlfeigcappjaaDoorUt16
namespace Go.Proofs.YtnjlfeigcappjaaDoor.V
open Go
set_option linter.unusedVariables false
set_option linter.unusedSimpArgs false

theorem tBack (A : Ar) (l : List Int) (nl : Bool) (b : List Int) (nl2 : Bool) : bodyX (Cx A (Out A) noL) 100 Tryd.f4 [i64s l (some nl) false, u8s b (some nl2) false] [] =
    (bif decide ((↑(List.length l) : Int) > (1000 : Int)) == false then
      bif decide ((↑(List.length b) : Int) > (1000 : Int)) then some (X.d Ty.bool true, [])
      else
        bif A.se (decide (List.length l ≤ (17592186044416 : Nat))) then
          bif A.se (bytesB (A.se (putL l)) && decide (List.length (A.se (putL l)) ≤ (1000000 : Nat))) then
            bif A.se (bytesB b && decide (List.length b ≤ (1000000 : Nat))) then
              bif A.se (decide (List.length (A.se (rdL b)) ≤ (17592186044416 : Nat))) then
                bif (A.se (putE l) != (0 : Int)) == true then
                  bif ((↑(List.length (A.se (putL l))) : Int) == (0 : Int)) == false then
                    bif (A.se (putE l) == (0 : Int)) == true then
                      bif (A.se (rdE (A.se (putL l))) == (0 : Int)) == true then
                        bif A.se (decide (List.length (A.se (rdL (A.se (putL l)))) ≤ (9223372036854775806 : Nat))) then
                          bif A.se (decide (A.se (rdL (A.se (putL l))) = l)) == true then
                            bif (A.se (rdE b) != (0 : Int)) == true then
                              bif ((↑(List.length (A.se (rdL b))) : Int) == (0 : Int)) == false then
                                bif (A.se (rdE b) == (0 : Int)) == true then
                                  bif (A.se (putE (A.se (rdL b))) == (0 : Int)) == true then
                                    some (X.d Ty.bool (A.seq (strOf (A.se (putL (A.se (rdL b))))) (strOf b)), [])
                                  else some (X.d Ty.bool false, [])
                                else some (X.d Ty.bool false, [])
                              else some (X.d Ty.bool true, [])
                            else
                              bif (A.se (rdE b) == (0 : Int)) == true then
                                bif (A.se (putE (A.se (rdL b))) == (0 : Int)) == true then
                                  some (X.d Ty.bool (A.seq (strOf (A.se (putL (A.se (rdL b))))) (strOf b)), [])
                                else some (X.d Ty.bool false, [])
                              else some (X.d Ty.bool false, [])
                          else some (X.d Ty.bool false, [])
                        else none
                      else some (X.d Ty.bool false, [])
                    else some (X.d Ty.bool false, [])
                  else
                    bif (A.se (rdE b) != (0 : Int)) == true then
                      bif ((↑(List.length (A.se (rdL b))) : Int) == (0 : Int)) == false then
                        bif (A.se (rdE b) == (0 : Int)) == true then
                          bif (A.se (putE (A.se (rdL b))) == (0 : Int)) == true then
                            some (X.d Ty.bool (A.seq (strOf (A.se (putL (A.se (rdL b))))) (strOf b)), [])
                          else some (X.d Ty.bool false, [])
                        else some (X.d Ty.bool false, [])
                      else some (X.d Ty.bool true, [])
                    else
                      bif (A.se (rdE b) == (0 : Int)) == true then
                        bif (A.se (putE (A.se (rdL b))) == (0 : Int)) == true then
                          some (X.d Ty.bool (A.seq (strOf (A.se (putL (A.se (rdL b))))) (strOf b)), [])
                        else some (X.d Ty.bool false, [])
                      else some (X.d Ty.bool false, [])
                else
                  bif (A.se (putE l) == (0 : Int)) == true then
                    bif (A.se (rdE (A.se (putL l))) == (0 : Int)) == true then
                      bif A.se (decide (List.length (A.se (rdL (A.se (putL l)))) ≤ (9223372036854775806 : Nat))) then
                        bif A.se (decide (A.se (rdL (A.se (putL l))) = l)) == true then
                          bif (A.se (rdE b) != (0 : Int)) == true then
                            bif ((↑(List.length (A.se (rdL b))) : Int) == (0 : Int)) == false then
                              bif (A.se (rdE b) == (0 : Int)) == true then
                                bif (A.se (putE (A.se (rdL b))) == (0 : Int)) == true then
                                  some (X.d Ty.bool (A.seq (strOf (A.se (putL (A.se (rdL b))))) (strOf b)), [])
                                else some (X.d Ty.bool false, [])
                              else some (X.d Ty.bool false, [])
                            else some (X.d Ty.bool true, [])
                          else
                            bif (A.se (rdE b) == (0 : Int)) == true then
                              bif (A.se (putE (A.se (rdL b))) == (0 : Int)) == true then
                                some (X.d Ty.bool (A.seq (strOf (A.se (putL (A.se (rdL b))))) (strOf b)), [])
                              else some (X.d Ty.bool false, [])
                            else some (X.d Ty.bool false, [])
                        else some (X.d Ty.bool false, [])
                      else none
                    else some (X.d Ty.bool false, [])
                  else some (X.d Ty.bool false, [])
              else none
            else none
          else none
        else none
    else some (X.d Ty.bool true, [])) := by kernel_rfl

end Go.Proofs.YtnjlfeigcappjaaDoor.V

/-
  Chapter 23: the statements' trees. By program; each equation is checked by the kernel.
  It speaks of the pinned program alone; no condition.
-/
import Derived.Test.YtgickaihlebgmaaSc12
namespace Go.Proofs.Ytgickaihlebgmaa.V
open Go
set_option linter.unusedVariables false

theorem tLback (A : Ar) (l : List Cm) (nl : Bool) (b : List Int) (nb : Bool) : bodyX (Cx A (Osc A) (Lback A)) 200 Try.f4 [cms l (some nl) false, u8s b (some nb) false] [] =
    (bif A.se (decide (List.length l ≤ (9223372036854775807 : Nat))) then
      bif (!A.se (List.all l small && decide ((↑(List.length l) : Int) ≤ (100 : Int)))) == false then
        bif decide ((↑(List.length b) : Int) > (9000 : Int)) then some (X.d Ty.bool true, [])
        else
          bif
              A.se
                (decide
                  (List.length l ≤ (100 : Nat) ∧
                    (0 : Int) ≤ (0 : Int) ∧
                      (0 : Int) ≤ (↑(List.length l) : Int))) then
            bif A.se (wl l) then
              bif
                  A.se
                    (decide (List.length (A.se (writeB l)) ≤ (10000000 : Nat)) &&
                      (bytesB (A.se (writeB l)) && nlB (A.se (List.isEmpty (writeB l))) (A.se (writeB l)))) then
                bif A.se (decide (List.length b ≤ (10000000 : Nat)) && (bytesB b && nlB nb b)) then
                  bif A.se (wl (A.se (readR b))) then
                    bif (!A.se (true && List.all (List.drop (Int.toNat (0 : Int)) l) checkC)) == true then
                      bif (A.se (writeE l) == (230 : Int)) == true then
                        bif ((↑(List.length (A.se (writeB l))) : Int) == (0 : Int)) == false then
                          bif A.se (true && List.all (List.drop (Int.toNat (0 : Int)) l) checkC) == true then
                            bif (A.se (writeE l) == (0 : Int)) == true then
                              bif (A.se (readE (A.se (writeB l))) == (0 : Int)) == true then
                                bif
                                    A.se
                                      (decide (List.length (A.se (readR (A.se (writeB l)))) ≤ (1000000000 : Nat)) &&
                                        (List.all (A.se (readR (A.se (writeB l)))) wfB && List.all l wfB)) then
                                  bif A.se (eqCs (A.se (readR (A.se (writeB l)))) l) == true then
                                    bif (A.se (readE b) == (230 : Int)) == true then
                                      bif ((↑(List.length (A.se (readR b))) : Int) == (0 : Int)) == false then
                                        bif (A.se (readE b) == (0 : Int)) == true then
                                          bif (A.se (writeE (A.se (readR b))) == (0 : Int)) == true then
                                            some
                                              (X.d Ty.bool (A.seq (strOf (A.se (writeB (A.se (readR b))))) (strOf b)), [])
                                          else some (X.d Ty.bool false, [])
                                        else some (X.d Ty.bool false, [])
                                      else some (X.d Ty.bool true, [])
                                    else
                                      bif (A.se (readE b) == (0 : Int)) == true then
                                        bif (A.se (writeE (A.se (readR b))) == (0 : Int)) == true then
                                          some (X.d Ty.bool (A.seq (strOf (A.se (writeB (A.se (readR b))))) (strOf b)), [])
                                        else some (X.d Ty.bool false, [])
                                      else some (X.d Ty.bool false, [])
                                  else some (X.d Ty.bool false, [])
                                else none
                              else some (X.d Ty.bool false, [])
                            else some (X.d Ty.bool false, [])
                          else some (X.d Ty.bool false, [])
                        else
                          bif (A.se (readE b) == (230 : Int)) == true then
                            bif ((↑(List.length (A.se (readR b))) : Int) == (0 : Int)) == false then
                              bif (A.se (readE b) == (0 : Int)) == true then
                                bif (A.se (writeE (A.se (readR b))) == (0 : Int)) == true then
                                  some (X.d Ty.bool (A.seq (strOf (A.se (writeB (A.se (readR b))))) (strOf b)), [])
                                else some (X.d Ty.bool false, [])
                              else some (X.d Ty.bool false, [])
                            else some (X.d Ty.bool true, [])
                          else
                            bif (A.se (readE b) == (0 : Int)) == true then
                              bif (A.se (writeE (A.se (readR b))) == (0 : Int)) == true then
                                some (X.d Ty.bool (A.seq (strOf (A.se (writeB (A.se (readR b))))) (strOf b)), [])
                              else some (X.d Ty.bool false, [])
                            else some (X.d Ty.bool false, [])
                      else
                        bif A.se (true && List.all (List.drop (Int.toNat (0 : Int)) l) checkC) == true then
                          bif (A.se (writeE l) == (0 : Int)) == true then
                            bif (A.se (readE (A.se (writeB l))) == (0 : Int)) == true then
                              bif
                                  A.se
                                    (decide (List.length (A.se (readR (A.se (writeB l)))) ≤ (1000000000 : Nat)) &&
                                      (List.all (A.se (readR (A.se (writeB l)))) wfB && List.all l wfB)) then
                                bif A.se (eqCs (A.se (readR (A.se (writeB l)))) l) == true then
                                  bif (A.se (readE b) == (230 : Int)) == true then
                                    bif ((↑(List.length (A.se (readR b))) : Int) == (0 : Int)) == false then
                                      bif (A.se (readE b) == (0 : Int)) == true then
                                        bif (A.se (writeE (A.se (readR b))) == (0 : Int)) == true then
                                          some (X.d Ty.bool (A.seq (strOf (A.se (writeB (A.se (readR b))))) (strOf b)), [])
                                        else some (X.d Ty.bool false, [])
                                      else some (X.d Ty.bool false, [])
                                    else some (X.d Ty.bool true, [])
                                  else
                                    bif (A.se (readE b) == (0 : Int)) == true then
                                      bif (A.se (writeE (A.se (readR b))) == (0 : Int)) == true then
                                        some (X.d Ty.bool (A.seq (strOf (A.se (writeB (A.se (readR b))))) (strOf b)), [])
                                      else some (X.d Ty.bool false, [])
                                    else some (X.d Ty.bool false, [])
                                else some (X.d Ty.bool false, [])
                              else none
                            else some (X.d Ty.bool false, [])
                          else some (X.d Ty.bool false, [])
                        else some (X.d Ty.bool false, [])
                    else
                      bif A.se (true && List.all (List.drop (Int.toNat (0 : Int)) l) checkC) == true then
                        bif (A.se (writeE l) == (0 : Int)) == true then
                          bif (A.se (readE (A.se (writeB l))) == (0 : Int)) == true then
                            bif
                                A.se
                                  (decide (List.length (A.se (readR (A.se (writeB l)))) ≤ (1000000000 : Nat)) &&
                                    (List.all (A.se (readR (A.se (writeB l)))) wfB && List.all l wfB)) then
                              bif A.se (eqCs (A.se (readR (A.se (writeB l)))) l) == true then
                                bif (A.se (readE b) == (230 : Int)) == true then
                                  bif ((↑(List.length (A.se (readR b))) : Int) == (0 : Int)) == false then
                                    bif (A.se (readE b) == (0 : Int)) == true then
                                      bif (A.se (writeE (A.se (readR b))) == (0 : Int)) == true then
                                        some (X.d Ty.bool (A.seq (strOf (A.se (writeB (A.se (readR b))))) (strOf b)), [])
                                      else some (X.d Ty.bool false, [])
                                    else some (X.d Ty.bool false, [])
                                  else some (X.d Ty.bool true, [])
                                else
                                  bif (A.se (readE b) == (0 : Int)) == true then
                                    bif (A.se (writeE (A.se (readR b))) == (0 : Int)) == true then
                                      some (X.d Ty.bool (A.seq (strOf (A.se (writeB (A.se (readR b))))) (strOf b)), [])
                                    else some (X.d Ty.bool false, [])
                                  else some (X.d Ty.bool false, [])
                              else some (X.d Ty.bool false, [])
                            else none
                          else some (X.d Ty.bool false, [])
                        else some (X.d Ty.bool false, [])
                      else some (X.d Ty.bool false, [])
                  else none
                else none
              else none
            else none
          else none
      else some (X.d Ty.bool true, [])
    else none) := by kernel_rfl
theorem lLback (A : Ar) (R : Type) (l : List Cm) (nl : Option Bool) (b : List Int) (nb : Option Bool) (up may : Bool) (i : Int) (k : Ex → List X → Hp → Option R) : stepF (Cx A (Osc A) (Lback A)) 200 (loopAt Try.f4 0) 116 [0, 1, 5, 6, 7] [cms l nl false, .sl (.int .u8) b nb false, boolx up, boolx may, i64x i] [] k =
    (bif decide (i < (↑(List.length l) : Int)) then
      bif may == true then
        bif decide ((0 : Int) ≤ i ∧ i < (↑(List.length l) : Int)) then
          k Ex.normal
            [X.sl cmdT l nl false, X.sl (Ty.int IntKind.u8) b nb false, X.d Ty.bool up,
              X.d Ty.bool (A.se (checkC (List.getD l (Int.toNat i) (Ty.zero cmdT)))),
              X.d (Ty.int IntKind.i64) (A.wrap IntKind.i64 (i + (1 : Int)))]
            []
        else none
      else
        k Ex.normal
          [X.sl cmdT l nl false, X.sl (Ty.int IntKind.u8) b nb false, X.d Ty.bool up, X.d Ty.bool false,
            X.d (Ty.int IntKind.i64) (A.wrap IntKind.i64 (i + (1 : Int)))]
          []
    else
      k (Ex.exit (0 : Nat))
        [X.sl cmdT l nl false, X.sl (Ty.int IntKind.u8) b nb false, X.d Ty.bool up, X.d Ty.bool may,
          X.d (Ty.int IntKind.i64) i]
        []) := by kernel_rfl
end Go.Proofs.Ytgickaihlebgmaa.V

/-
  Chapter 01, utf: trees of the statements. By program; each equation is checked by the kernel.
  It speaks of the pinned program alone; no condition.
-/
import Derived.Test.YtnjlfeigcappjaaDoorUt18
namespace Go.Proofs.YtnjlfeigcappjaaDoor.V
open Go
set_option linter.unusedVariables false
set_option linter.unusedSimpArgs false

theorem tParts (A : Ar) (a : List Int) (nl : Bool) (b : List Int) (nl2 : Bool) (n cut : Int) : bodyX (Cx A (OutT A) noL) 100 Tryd.f6 [i64s a (some nl) false, i64s b (some nl2) false, i64x n, u8x cut] [] =
    (bif decide ((↑(List.length a) : Int) > (1000 : Int)) == false then
      bif decide ((↑(List.length b) : Int) > (1000 : Int)) then some (X.d Ty.bool true, [])
      else
        bif A.se (decide (List.length a ≤ (17592186044416 : Nat))) then
          bif A.se (List.all a goodN) then
            bif A.se (decide (List.length b ≤ (17592186044416 : Nat))) then
              bif A.se (List.all b goodN) then
                bif decide (((0 : Nat) + List.length a) * (8 : Nat) ≤ (140737488355328 : Nat)) then
                  bif decide ((List.length ([] ++ a) + List.length b) * (8 : Nat) ≤ (140737488355328 : Nat)) then
                    bif A.se (decide (List.length ([] ++ a ++ b) ≤ (17592186044416 : Nat))) then
                      bif A.se (List.all ([] ++ a ++ b) goodN) then
                        bif A.se (decide (List.length [n] ≤ (17592186044416 : Nat))) then
                          bif A.se (List.all [n] goodN) then
                            bif
                                decide
                                  (ByteArray.size (strOf (A.se (ups a))) + ByteArray.size (strOf (A.se (ups b))) ≤
                                    (9223372036854775807 : Nat)) then
                              bif decide ((↑(List.length (A.se (ups [n]))) : Int) < (1 : Int)) == false then
                                bif decide ((↑(List.length (A.se (ups [n]))) : Int) > (4 : Int)) then
                                  some (X.d Ty.bool false, [])
                                else
                                  bif
                                      decide
                                        ((↑(List.length (A.se (ups [n]))) : Int) = (0 : Int)) then
                                    none
                                  else
                                    bif
                                        decide
                                          ((0 : Int) ≤
                                              Int.tmod (A.wrap IntKind.i64 cut) (↑(List.length (A.se (ups [n]))) : Int) ∧
                                            Int.tmod (A.wrap IntKind.i64 cut) (↑(List.length (A.se (ups [n]))) : Int) ≤
                                              (↑(List.length (A.se (ups [n]))) : Int)) then
                                      bif
                                          A.se
                                            (bytesB
                                              (List.take
                                                (Int.toNat
                                                  (Int.tmod (A.wrap IntKind.i64 cut)
                                                    (↑(List.length (A.se (ups [n]))) : Int)))
                                                (A.se (ups [n])))) then
                                        bif A.se (bytesB (A.se (ups [n]))) then
                                          bif
                                              A.seq (strOf (A.se (ups ([] ++ a ++ b))))
                                                  (strOf (A.se (ups a)) ++ strOf (A.se (ups b))) ==
                                                true then
                                            bif A.se (goodN n) == true then
                                              bif
                                                  (A.se
                                                        (uE
                                                          (List.take
                                                            (Int.toNat
                                                              (Int.tmod (A.wrap IntKind.i64 cut)
                                                                (↑(List.length (A.se (ups [n]))) : Int)))
                                                            (A.se (ups [n])))) ==
                                                      (10 : Int)) ==
                                                    true then
                                                bif (A.se (uN (A.se (ups [n]))) == n) == true then
                                                  bif
                                                      (A.se (uL (A.se (ups [n]))) ==
                                                          (↑(List.length (A.se (ups [n]))) : Int)) ==
                                                        true then
                                                    some (X.d Ty.bool (A.se (uE (A.se (ups [n]))) == (0 : Int)), [])
                                                  else some (X.d Ty.bool false, [])
                                                else some (X.d Ty.bool false, [])
                                              else some (X.d Ty.bool false, [])
                                            else some (X.d Ty.bool false, [])
                                          else some (X.d Ty.bool false, [])
                                        else none
                                      else none
                                    else none
                              else some (X.d Ty.bool false, [])
                            else none
                          else
                            bif
                                decide
                                  (ByteArray.size (strOf (A.se (ups a))) + ByteArray.size (strOf (A.se (ups b))) ≤
                                    (9223372036854775807 : Nat)) then
                              bif
                                  A.seq (strOf (A.se (ups ([] ++ a ++ b))))
                                      (strOf (A.se (ups a)) ++ strOf (A.se (ups b))) ==
                                    true then
                                some (X.d Ty.bool !A.se (goodN n), [])
                              else some (X.d Ty.bool false, [])
                            else none
                        else none
                      else
                        bif A.se (decide (List.length [n] ≤ (17592186044416 : Nat))) then
                          bif A.se (List.all [n] goodN) then
                            bif decide ((↑(List.length (A.se (ups [n]))) : Int) < (1 : Int)) == false then
                              bif decide ((↑(List.length (A.se (ups [n]))) : Int) > (4 : Int)) then
                                some (X.d Ty.bool false, [])
                              else
                                bif
                                    decide
                                      ((↑(List.length (A.se (ups [n]))) : Int) = (0 : Int)) then
                                  none
                                else
                                  bif
                                      decide
                                        ((0 : Int) ≤
                                            Int.tmod (A.wrap IntKind.i64 cut) (↑(List.length (A.se (ups [n]))) : Int) ∧
                                          Int.tmod (A.wrap IntKind.i64 cut) (↑(List.length (A.se (ups [n]))) : Int) ≤
                                            (↑(List.length (A.se (ups [n]))) : Int)) then
                                    bif
                                        A.se
                                          (bytesB
                                            (List.take
                                              (Int.toNat
                                                (Int.tmod (A.wrap IntKind.i64 cut) (↑(List.length (A.se (ups [n]))) : Int)))
                                              (A.se (ups [n])))) then
                                      bif A.se (bytesB (A.se (ups [n]))) then some (X.d Ty.bool false, []) else none
                                    else none
                                  else none
                            else some (X.d Ty.bool false, [])
                          else some (X.d Ty.bool false, [])
                        else none
                    else none
                  else none
                else none
              else
                bif decide (((0 : Nat) + List.length a) * (8 : Nat) ≤ (140737488355328 : Nat)) then
                  bif decide ((List.length ([] ++ a) + List.length b) * (8 : Nat) ≤ (140737488355328 : Nat)) then
                    bif A.se (decide (List.length ([] ++ a ++ b) ≤ (17592186044416 : Nat))) then
                      bif A.se (List.all ([] ++ a ++ b) goodN) then
                        bif A.se (decide (List.length [n] ≤ (17592186044416 : Nat))) then
                          bif A.se (List.all [n] goodN) then
                            bif decide ((↑(List.length (A.se (ups [n]))) : Int) < (1 : Int)) == false then
                              bif decide ((↑(List.length (A.se (ups [n]))) : Int) > (4 : Int)) then
                                some (X.d Ty.bool false, [])
                              else
                                bif
                                    decide
                                      ((↑(List.length (A.se (ups [n]))) : Int) = (0 : Int)) then
                                  none
                                else
                                  bif
                                      decide
                                        ((0 : Int) ≤
                                            Int.tmod (A.wrap IntKind.i64 cut) (↑(List.length (A.se (ups [n]))) : Int) ∧
                                          Int.tmod (A.wrap IntKind.i64 cut) (↑(List.length (A.se (ups [n]))) : Int) ≤
                                            (↑(List.length (A.se (ups [n]))) : Int)) then
                                    bif
                                        A.se
                                          (bytesB
                                            (List.take
                                              (Int.toNat
                                                (Int.tmod (A.wrap IntKind.i64 cut) (↑(List.length (A.se (ups [n]))) : Int)))
                                              (A.se (ups [n])))) then
                                      bif A.se (bytesB (A.se (ups [n]))) then some (X.d Ty.bool false, []) else none
                                    else none
                                  else none
                            else some (X.d Ty.bool false, [])
                          else some (X.d Ty.bool false, [])
                        else none
                      else
                        bif A.se (decide (List.length [n] ≤ (17592186044416 : Nat))) then
                          bif A.se (List.all [n] goodN) then
                            bif decide ((↑(List.length (A.se (ups [n]))) : Int) < (1 : Int)) == false then
                              bif decide ((↑(List.length (A.se (ups [n]))) : Int) > (4 : Int)) then
                                some (X.d Ty.bool false, [])
                              else
                                bif
                                    decide
                                      ((↑(List.length (A.se (ups [n]))) : Int) = (0 : Int)) then
                                  none
                                else
                                  bif
                                      decide
                                        ((0 : Int) ≤
                                            Int.tmod (A.wrap IntKind.i64 cut) (↑(List.length (A.se (ups [n]))) : Int) ∧
                                          Int.tmod (A.wrap IntKind.i64 cut) (↑(List.length (A.se (ups [n]))) : Int) ≤
                                            (↑(List.length (A.se (ups [n]))) : Int)) then
                                    bif
                                        A.se
                                          (bytesB
                                            (List.take
                                              (Int.toNat
                                                (Int.tmod (A.wrap IntKind.i64 cut) (↑(List.length (A.se (ups [n]))) : Int)))
                                              (A.se (ups [n])))) then
                                      bif A.se (bytesB (A.se (ups [n]))) then
                                        bif A.se (goodN n) == true then
                                          bif
                                              (A.se
                                                    (uE
                                                      (List.take
                                                        (Int.toNat
                                                          (Int.tmod (A.wrap IntKind.i64 cut)
                                                            (↑(List.length (A.se (ups [n]))) : Int)))
                                                        (A.se (ups [n])))) ==
                                                  (10 : Int)) ==
                                                true then
                                            bif (A.se (uN (A.se (ups [n]))) == n) == true then
                                              bif
                                                  (A.se (uL (A.se (ups [n]))) == (↑(List.length (A.se (ups [n]))) : Int)) ==
                                                    true then
                                                some (X.d Ty.bool (A.se (uE (A.se (ups [n]))) == (0 : Int)), [])
                                              else some (X.d Ty.bool false, [])
                                            else some (X.d Ty.bool false, [])
                                          else some (X.d Ty.bool false, [])
                                        else some (X.d Ty.bool false, [])
                                      else none
                                    else none
                                  else none
                            else some (X.d Ty.bool false, [])
                          else some (X.d Ty.bool !A.se (goodN n), [])
                        else none
                    else none
                  else none
                else none
            else none
          else
            bif A.se (decide (List.length b ≤ (17592186044416 : Nat))) then
              bif A.se (List.all b goodN) then
                bif decide (((0 : Nat) + List.length a) * (8 : Nat) ≤ (140737488355328 : Nat)) then
                  bif decide ((List.length ([] ++ a) + List.length b) * (8 : Nat) ≤ (140737488355328 : Nat)) then
                    bif A.se (decide (List.length ([] ++ a ++ b) ≤ (17592186044416 : Nat))) then
                      bif A.se (List.all ([] ++ a ++ b) goodN) then
                        bif A.se (decide (List.length [n] ≤ (17592186044416 : Nat))) then
                          bif A.se (List.all [n] goodN) then
                            bif decide ((↑(List.length (A.se (ups [n]))) : Int) < (1 : Int)) == false then
                              bif decide ((↑(List.length (A.se (ups [n]))) : Int) > (4 : Int)) then
                                some (X.d Ty.bool false, [])
                              else
                                bif
                                    decide
                                      ((↑(List.length (A.se (ups [n]))) : Int) = (0 : Int)) then
                                  none
                                else
                                  bif
                                      decide
                                        ((0 : Int) ≤
                                            Int.tmod (A.wrap IntKind.i64 cut) (↑(List.length (A.se (ups [n]))) : Int) ∧
                                          Int.tmod (A.wrap IntKind.i64 cut) (↑(List.length (A.se (ups [n]))) : Int) ≤
                                            (↑(List.length (A.se (ups [n]))) : Int)) then
                                    bif
                                        A.se
                                          (bytesB
                                            (List.take
                                              (Int.toNat
                                                (Int.tmod (A.wrap IntKind.i64 cut) (↑(List.length (A.se (ups [n]))) : Int)))
                                              (A.se (ups [n])))) then
                                      bif A.se (bytesB (A.se (ups [n]))) then some (X.d Ty.bool false, []) else none
                                    else none
                                  else none
                            else some (X.d Ty.bool false, [])
                          else some (X.d Ty.bool false, [])
                        else none
                      else
                        bif A.se (decide (List.length [n] ≤ (17592186044416 : Nat))) then
                          bif A.se (List.all [n] goodN) then
                            bif decide ((↑(List.length (A.se (ups [n]))) : Int) < (1 : Int)) == false then
                              bif decide ((↑(List.length (A.se (ups [n]))) : Int) > (4 : Int)) then
                                some (X.d Ty.bool false, [])
                              else
                                bif
                                    decide
                                      ((↑(List.length (A.se (ups [n]))) : Int) = (0 : Int)) then
                                  none
                                else
                                  bif
                                      decide
                                        ((0 : Int) ≤
                                            Int.tmod (A.wrap IntKind.i64 cut) (↑(List.length (A.se (ups [n]))) : Int) ∧
                                          Int.tmod (A.wrap IntKind.i64 cut) (↑(List.length (A.se (ups [n]))) : Int) ≤
                                            (↑(List.length (A.se (ups [n]))) : Int)) then
                                    bif
                                        A.se
                                          (bytesB
                                            (List.take
                                              (Int.toNat
                                                (Int.tmod (A.wrap IntKind.i64 cut) (↑(List.length (A.se (ups [n]))) : Int)))
                                              (A.se (ups [n])))) then
                                      bif A.se (bytesB (A.se (ups [n]))) then
                                        bif A.se (goodN n) == true then
                                          bif
                                              (A.se
                                                    (uE
                                                      (List.take
                                                        (Int.toNat
                                                          (Int.tmod (A.wrap IntKind.i64 cut)
                                                            (↑(List.length (A.se (ups [n]))) : Int)))
                                                        (A.se (ups [n])))) ==
                                                  (10 : Int)) ==
                                                true then
                                            bif (A.se (uN (A.se (ups [n]))) == n) == true then
                                              bif
                                                  (A.se (uL (A.se (ups [n]))) == (↑(List.length (A.se (ups [n]))) : Int)) ==
                                                    true then
                                                some (X.d Ty.bool (A.se (uE (A.se (ups [n]))) == (0 : Int)), [])
                                              else some (X.d Ty.bool false, [])
                                            else some (X.d Ty.bool false, [])
                                          else some (X.d Ty.bool false, [])
                                        else some (X.d Ty.bool false, [])
                                      else none
                                    else none
                                  else none
                            else some (X.d Ty.bool false, [])
                          else some (X.d Ty.bool !A.se (goodN n), [])
                        else none
                    else none
                  else none
                else none
              else
                bif decide (((0 : Nat) + List.length a) * (8 : Nat) ≤ (140737488355328 : Nat)) then
                  bif decide ((List.length ([] ++ a) + List.length b) * (8 : Nat) ≤ (140737488355328 : Nat)) then
                    bif A.se (decide (List.length ([] ++ a ++ b) ≤ (17592186044416 : Nat))) then
                      bif A.se (List.all ([] ++ a ++ b) goodN) then
                        bif A.se (decide (List.length [n] ≤ (17592186044416 : Nat))) then
                          bif A.se (List.all [n] goodN) then
                            bif decide ((↑(List.length (A.se (ups [n]))) : Int) < (1 : Int)) == false then
                              bif decide ((↑(List.length (A.se (ups [n]))) : Int) > (4 : Int)) then
                                some (X.d Ty.bool false, [])
                              else
                                bif
                                    decide
                                      ((↑(List.length (A.se (ups [n]))) : Int) = (0 : Int)) then
                                  none
                                else
                                  bif
                                      decide
                                        ((0 : Int) ≤
                                            Int.tmod (A.wrap IntKind.i64 cut) (↑(List.length (A.se (ups [n]))) : Int) ∧
                                          Int.tmod (A.wrap IntKind.i64 cut) (↑(List.length (A.se (ups [n]))) : Int) ≤
                                            (↑(List.length (A.se (ups [n]))) : Int)) then
                                    bif
                                        A.se
                                          (bytesB
                                            (List.take
                                              (Int.toNat
                                                (Int.tmod (A.wrap IntKind.i64 cut) (↑(List.length (A.se (ups [n]))) : Int)))
                                              (A.se (ups [n])))) then
                                      bif A.se (bytesB (A.se (ups [n]))) then some (X.d Ty.bool false, []) else none
                                    else none
                                  else none
                            else some (X.d Ty.bool false, [])
                          else some (X.d Ty.bool false, [])
                        else none
                      else
                        bif A.se (decide (List.length [n] ≤ (17592186044416 : Nat))) then
                          bif A.se (List.all [n] goodN) then
                            bif decide ((↑(List.length (A.se (ups [n]))) : Int) < (1 : Int)) == false then
                              bif decide ((↑(List.length (A.se (ups [n]))) : Int) > (4 : Int)) then
                                some (X.d Ty.bool false, [])
                              else
                                bif
                                    decide
                                      ((↑(List.length (A.se (ups [n]))) : Int) = (0 : Int)) then
                                  none
                                else
                                  bif
                                      decide
                                        ((0 : Int) ≤
                                            Int.tmod (A.wrap IntKind.i64 cut) (↑(List.length (A.se (ups [n]))) : Int) ∧
                                          Int.tmod (A.wrap IntKind.i64 cut) (↑(List.length (A.se (ups [n]))) : Int) ≤
                                            (↑(List.length (A.se (ups [n]))) : Int)) then
                                    bif
                                        A.se
                                          (bytesB
                                            (List.take
                                              (Int.toNat
                                                (Int.tmod (A.wrap IntKind.i64 cut) (↑(List.length (A.se (ups [n]))) : Int)))
                                              (A.se (ups [n])))) then
                                      bif A.se (bytesB (A.se (ups [n]))) then
                                        bif A.se (goodN n) == true then
                                          bif
                                              (A.se
                                                    (uE
                                                      (List.take
                                                        (Int.toNat
                                                          (Int.tmod (A.wrap IntKind.i64 cut)
                                                            (↑(List.length (A.se (ups [n]))) : Int)))
                                                        (A.se (ups [n])))) ==
                                                  (10 : Int)) ==
                                                true then
                                            bif (A.se (uN (A.se (ups [n]))) == n) == true then
                                              bif
                                                  (A.se (uL (A.se (ups [n]))) == (↑(List.length (A.se (ups [n]))) : Int)) ==
                                                    true then
                                                some (X.d Ty.bool (A.se (uE (A.se (ups [n]))) == (0 : Int)), [])
                                              else some (X.d Ty.bool false, [])
                                            else some (X.d Ty.bool false, [])
                                          else some (X.d Ty.bool false, [])
                                        else some (X.d Ty.bool false, [])
                                      else none
                                    else none
                                  else none
                            else some (X.d Ty.bool false, [])
                          else some (X.d Ty.bool !A.se (goodN n), [])
                        else none
                    else none
                  else none
                else none
            else none
        else none
    else some (X.d Ty.bool true, [])) := by kernel_rfl

end Go.Proofs.YtnjlfeigcappjaaDoor.V

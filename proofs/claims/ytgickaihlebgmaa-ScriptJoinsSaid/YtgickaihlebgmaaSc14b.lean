/-
  Chapter 23: the statement on joined commands: what it calls, told by cases.
  It speaks of the pinned program alone; no condition.
-/
import Derived.Test.YtgickaihlebgmaaSc12
namespace Go.Proofs.Ytgickaihlebgmaa.V
open Go
set_option linter.unusedVariables false

def writeF2 (A : Ar) : List X → Tr X
  | [.sl (.struct (.prod (.int .i64) (.prod (.slice (.int .u8)) (.prod (.slice (.int .u8)) (.prod (.int .i64) (.prod (.int .u64) (.prod (.int .i64) .unit))))))) l nl false] => .test (A.se (wl l)) (.test (A.se (l.all checkC)) (.give (.tup [u8s (A.se (encs l)) (some (A.se (encs l).isEmpty)) false, i64x 0])) (.give (.tup [u8s [] (some true) false, i64x 230]))) .no
  | _ => .no
def readF2 (A : Ar) : List X → Tr X
  | [.sl (.int .u8) b (some nl) false] => .test (A.se (decide (b.length ≤ 10000000) && (bytesB b && nlB nl b))) (.test (A.se (readC b).isSome) (.give (.tup [.dead, i64x 0])) (.give (.tup [.dead, i64x 230]))) .no
  | _ => .no
def writeG (A : Ar) : List X → Tr X
  | [.sl (.struct (.prod (.int .i64) (.prod (.slice (.int .u8)) (.prod (.slice (.int .u8)) (.prod (.int .i64) (.prod (.int .u64) (.prod (.int .i64) .unit))))))) l nl false] => .test (A.se (wl l && l.all checkC)) (.give (.tup [u8s (A.se (encs l)) (some (A.se (encs l).isEmpty)) false, i64x 0])) .no
  | _ => .no
noncomputable def OscG (A : Ar) : OT := Oadd (Oadd (Osc A) 10 (.pure (writeG A))) 12 (.pure (readF2 A))
noncomputable def OscJ (A : Ar) : OT := Oadd (Oadd (Osc A) 10 (.pure (writeF2 A))) 12 (.pure (readF2 A))

theorem tLjoins (A : Ar) (l : List Cm) (nl : Bool) (m : List Cm) (nm : Bool) (n : Int) : bodyX (Cx A (OscJ A) noL) 200 Try.f5 [cms l (some nl) false, cms m (some nm) false, u16x n] [] =
    (bif A.se (decide (List.length l ≤ (9223372036854775807 : Nat))) then
      bif (!A.se (List.all l small && decide ((↑(List.length l) : Int) ≤ (100 : Int)))) == false then
        bif A.se (decide (List.length m ≤ (9223372036854775807 : Nat))) then
          bif !A.se (List.all m small && decide ((↑(List.length m) : Int) ≤ (100 : Int))) then some (X.d Ty.bool true, [])
          else
            bif A.se (wl l) then
              bif A.se (List.all l checkC) then
                bif A.se (wl m) then
                  bif A.se (List.all m checkC) then
                    bif decide (((0 : Nat) + List.length l) * (80 : Nat) ≤ (140737488355328 : Nat)) then
                      bif decide ((List.length ([] ++ l) + List.length m) * (80 : Nat) ≤ (140737488355328 : Nat)) then
                        bif A.se (wl ([] ++ l ++ m)) then
                          bif A.se (List.all ([] ++ l ++ m) checkC) then
                            bif
                                decide
                                  (((0 : Nat) + List.length (A.se (encs l))) * (1 : Nat) ≤ (140737488355328 : Nat)) then
                              bif
                                  decide
                                    ((List.length ([] ++ A.se (encs l)) + List.length (A.se (encs m))) * (1 : Nat) ≤
                                      (140737488355328 : Nat)) then
                                bif
                                    A.seq (strOf (A.se (encs ([] ++ l ++ m))))
                                        (strOf ([] ++ A.se (encs l) ++ A.se (encs m))) ==
                                      false then
                                  bif ((↑(List.length m) : Int) == (0 : Int)) == false then
                                    bif decide ((0 : Int) ≤ (0 : Int) ∧ (0 : Int) < (↑(List.length m) : Int)) then
                                      bif !A.se (checkC (List.getD m (Int.toNat (0 : Int)) (Ty.zero cmdT))) then
                                        some (X.d Ty.bool false, [])
                                      else
                                        bif
                                            decide
                                              ((0 : Int) ≤ (1 : Int) ∧
                                                (1 : Int) ≤ (↑(List.length m) : Int)) then
                                          bif A.se (wl (List.take (Int.toNat (1 : Int)) m)) then
                                            bif A.se (List.all (List.take (Int.toNat (1 : Int)) m) checkC) then
                                              bif
                                                  decide
                                                    ((if
                                                          (↑(List.length
                                                                  (A.se (encs (List.take (Int.toNat (1 : Int)) m)))) :
                                                              Int) >
                                                            (1 : Int) then
                                                        (↑(List.length (A.se (encs (List.take (Int.toNat (1 : Int)) m)))) :
                                                          Int)
                                                      else (1 : Int)) =
                                                      (0 : Int)) then
                                                none
                                              else
                                                bif
                                                    decide
                                                      ((0 : Int) ≤
                                                          Int.tmod (A.wrap IntKind.i64 n)
                                                            (if
                                                                (↑(List.length
                                                                        (A.se (encs (List.take (Int.toNat (1 : Int)) m)))) :
                                                                    Int) >
                                                                  (1 : Int) then
                                                              (↑(List.length
                                                                    (A.se (encs (List.take (Int.toNat (1 : Int)) m)))) :
                                                                Int)
                                                            else (1 : Int)) ∧
                                                        Int.tmod (A.wrap IntKind.i64 n)
                                                            (if
                                                                (↑(List.length
                                                                        (A.se (encs (List.take (Int.toNat (1 : Int)) m)))) :
                                                                    Int) >
                                                                  (1 : Int) then
                                                              (↑(List.length
                                                                    (A.se (encs (List.take (Int.toNat (1 : Int)) m)))) :
                                                                Int)
                                                            else (1 : Int)) ≤
                                                          (↑(List.length
                                                                (A.se (encs (List.take (Int.toNat (1 : Int)) m)))) :
                                                            Int)) then
                                                  bif
                                                      A.se
                                                        (decide
                                                            (List.length
                                                                (List.take
                                                                  (Int.toNat
                                                                    (Int.tmod (A.wrap IntKind.i64 n)
                                                                      (if
                                                                          (↑(List.length
                                                                                  (A.se
                                                                                    (encs
                                                                                      (List.take (Int.toNat (1 : Int))
                                                                                        m)))) :
                                                                              Int) >
                                                                            (1 : Int) then
                                                                        (↑(List.length
                                                                              (A.se
                                                                                (encs
                                                                                  (List.take (Int.toNat (1 : Int)) m)))) :
                                                                          Int)
                                                                      else (1 : Int))))
                                                                  (A.se (encs (List.take (Int.toNat (1 : Int)) m)))) ≤
                                                              (10000000 : Nat)) &&
                                                          (bytesB
                                                              (List.take
                                                                (Int.toNat
                                                                  (Int.tmod (A.wrap IntKind.i64 n)
                                                                    (if
                                                                        (↑(List.length
                                                                                (A.se
                                                                                  (encs
                                                                                    (List.take (Int.toNat (1 : Int)) m)))) :
                                                                            Int) >
                                                                          (1 : Int) then
                                                                      (↑(List.length
                                                                            (A.se
                                                                              (encs (List.take (Int.toNat (1 : Int)) m)))) :
                                                                        Int)
                                                                    else (1 : Int))))
                                                                (A.se (encs (List.take (Int.toNat (1 : Int)) m)))) &&
                                                            nlB
                                                              (A.se
                                                                (List.isEmpty (encs (List.take (Int.toNat (1 : Int)) m))))
                                                              (List.take
                                                                (Int.toNat
                                                                  (Int.tmod (A.wrap IntKind.i64 n)
                                                                    (if
                                                                        (↑(List.length
                                                                                (A.se
                                                                                  (encs
                                                                                    (List.take (Int.toNat (1 : Int)) m)))) :
                                                                            Int) >
                                                                          (1 : Int) then
                                                                      (↑(List.length
                                                                            (A.se
                                                                              (encs (List.take (Int.toNat (1 : Int)) m)))) :
                                                                        Int)
                                                                    else (1 : Int))))
                                                                (A.se (encs (List.take (Int.toNat (1 : Int)) m)))))) then
                                                    bif
                                                        A.se
                                                          (Option.isSome
                                                            (readC
                                                              (List.take
                                                                (Int.toNat
                                                                  (Int.tmod (A.wrap IntKind.i64 n)
                                                                    (if
                                                                        (↑(List.length
                                                                                (A.se
                                                                                  (encs
                                                                                    (List.take (Int.toNat (1 : Int)) m)))) :
                                                                            Int) >
                                                                          (1 : Int) then
                                                                      (↑(List.length
                                                                            (A.se
                                                                              (encs (List.take (Int.toNat (1 : Int)) m)))) :
                                                                        Int)
                                                                    else (1 : Int))))
                                                                (A.se (encs (List.take (Int.toNat (1 : Int)) m)))))) then
                                                      some (X.d Ty.bool false, [])
                                                    else some (X.d Ty.bool false, [])
                                                  else none
                                                else none
                                            else
                                              bif
                                                  decide
                                                    ((0 : Int) ≤
                                                        Int.tmod (A.wrap IntKind.i64 n)
                                                          (if (↑(0 : Nat) : Int) > (1 : Int) then (↑(0 : Nat) : Int)
                                                          else (1 : Int)) ∧
                                                      Int.tmod (A.wrap IntKind.i64 n)
                                                          (if (↑(0 : Nat) : Int) > (1 : Int) then (↑(0 : Nat) : Int)
                                                          else (1 : Int)) ≤
                                                        (↑(0 : Nat) : Int)) then
                                                bif
                                                    A.se
                                                      (decide
                                                          (List.length
                                                              (List.take
                                                                (Int.toNat
                                                                  (Int.tmod (A.wrap IntKind.i64 n)
                                                                    (if (↑(0 : Nat) : Int) > (1 : Int) then
                                                                      (↑(0 : Nat) : Int)
                                                                    else (1 : Int))))
                                                                ([] : List Int)) ≤
                                                            (10000000 : Nat)) &&
                                                        (bytesB
                                                            (List.take
                                                              (Int.toNat
                                                                (Int.tmod (A.wrap IntKind.i64 n)
                                                                  (if (↑(0 : Nat) : Int) > (1 : Int) then (↑(0 : Nat) : Int)
                                                                  else (1 : Int))))
                                                              ([] : List Int)) &&
                                                          nlB true
                                                            (List.take
                                                              (Int.toNat
                                                                (Int.tmod (A.wrap IntKind.i64 n)
                                                                  (if (↑(0 : Nat) : Int) > (1 : Int) then (↑(0 : Nat) : Int)
                                                                  else (1 : Int))))
                                                              ([] : List Int)))) then
                                                  bif
                                                      A.se
                                                        (Option.isSome
                                                          (readC
                                                            (List.take
                                                              (Int.toNat
                                                                (Int.tmod (A.wrap IntKind.i64 n)
                                                                  (if (↑(0 : Nat) : Int) > (1 : Int) then (↑(0 : Nat) : Int)
                                                                  else (1 : Int))))
                                                              ([] : List Int)))) then
                                                    some (X.d Ty.bool false, [])
                                                  else some (X.d Ty.bool false, [])
                                                else none
                                              else none
                                          else none
                                        else none
                                    else none
                                  else some (X.d Ty.bool false, [])
                                else
                                  bif ((↑(List.length m) : Int) == (0 : Int)) == false then
                                    bif decide ((0 : Int) ≤ (0 : Int) ∧ (0 : Int) < (↑(List.length m) : Int)) then
                                      bif !A.se (checkC (List.getD m (Int.toNat (0 : Int)) (Ty.zero cmdT))) then
                                        some (X.d Ty.bool true, [])
                                      else
                                        bif
                                            decide
                                              ((0 : Int) ≤ (1 : Int) ∧
                                                (1 : Int) ≤ (↑(List.length m) : Int)) then
                                          bif A.se (wl (List.take (Int.toNat (1 : Int)) m)) then
                                            bif A.se (List.all (List.take (Int.toNat (1 : Int)) m) checkC) then
                                              bif
                                                  decide
                                                    ((if
                                                          (↑(List.length
                                                                  (A.se (encs (List.take (Int.toNat (1 : Int)) m)))) :
                                                              Int) >
                                                            (1 : Int) then
                                                        (↑(List.length (A.se (encs (List.take (Int.toNat (1 : Int)) m)))) :
                                                          Int)
                                                      else (1 : Int)) =
                                                      (0 : Int)) then
                                                none
                                              else
                                                bif
                                                    decide
                                                      ((0 : Int) ≤
                                                          Int.tmod (A.wrap IntKind.i64 n)
                                                            (if
                                                                (↑(List.length
                                                                        (A.se (encs (List.take (Int.toNat (1 : Int)) m)))) :
                                                                    Int) >
                                                                  (1 : Int) then
                                                              (↑(List.length
                                                                    (A.se (encs (List.take (Int.toNat (1 : Int)) m)))) :
                                                                Int)
                                                            else (1 : Int)) ∧
                                                        Int.tmod (A.wrap IntKind.i64 n)
                                                            (if
                                                                (↑(List.length
                                                                        (A.se (encs (List.take (Int.toNat (1 : Int)) m)))) :
                                                                    Int) >
                                                                  (1 : Int) then
                                                              (↑(List.length
                                                                    (A.se (encs (List.take (Int.toNat (1 : Int)) m)))) :
                                                                Int)
                                                            else (1 : Int)) ≤
                                                          (↑(List.length
                                                                (A.se (encs (List.take (Int.toNat (1 : Int)) m)))) :
                                                            Int)) then
                                                  bif
                                                      A.se
                                                        (decide
                                                            (List.length
                                                                (List.take
                                                                  (Int.toNat
                                                                    (Int.tmod (A.wrap IntKind.i64 n)
                                                                      (if
                                                                          (↑(List.length
                                                                                  (A.se
                                                                                    (encs
                                                                                      (List.take (Int.toNat (1 : Int))
                                                                                        m)))) :
                                                                              Int) >
                                                                            (1 : Int) then
                                                                        (↑(List.length
                                                                              (A.se
                                                                                (encs
                                                                                  (List.take (Int.toNat (1 : Int)) m)))) :
                                                                          Int)
                                                                      else (1 : Int))))
                                                                  (A.se (encs (List.take (Int.toNat (1 : Int)) m)))) ≤
                                                              (10000000 : Nat)) &&
                                                          (bytesB
                                                              (List.take
                                                                (Int.toNat
                                                                  (Int.tmod (A.wrap IntKind.i64 n)
                                                                    (if
                                                                        (↑(List.length
                                                                                (A.se
                                                                                  (encs
                                                                                    (List.take (Int.toNat (1 : Int)) m)))) :
                                                                            Int) >
                                                                          (1 : Int) then
                                                                      (↑(List.length
                                                                            (A.se
                                                                              (encs (List.take (Int.toNat (1 : Int)) m)))) :
                                                                        Int)
                                                                    else (1 : Int))))
                                                                (A.se (encs (List.take (Int.toNat (1 : Int)) m)))) &&
                                                            nlB
                                                              (A.se
                                                                (List.isEmpty (encs (List.take (Int.toNat (1 : Int)) m))))
                                                              (List.take
                                                                (Int.toNat
                                                                  (Int.tmod (A.wrap IntKind.i64 n)
                                                                    (if
                                                                        (↑(List.length
                                                                                (A.se
                                                                                  (encs
                                                                                    (List.take (Int.toNat (1 : Int)) m)))) :
                                                                            Int) >
                                                                          (1 : Int) then
                                                                      (↑(List.length
                                                                            (A.se
                                                                              (encs (List.take (Int.toNat (1 : Int)) m)))) :
                                                                        Int)
                                                                    else (1 : Int))))
                                                                (A.se (encs (List.take (Int.toNat (1 : Int)) m)))))) then
                                                    bif
                                                        A.se
                                                          (Option.isSome
                                                            (readC
                                                              (List.take
                                                                (Int.toNat
                                                                  (Int.tmod (A.wrap IntKind.i64 n)
                                                                    (if
                                                                        (↑(List.length
                                                                                (A.se
                                                                                  (encs
                                                                                    (List.take (Int.toNat (1 : Int)) m)))) :
                                                                            Int) >
                                                                          (1 : Int) then
                                                                      (↑(List.length
                                                                            (A.se
                                                                              (encs (List.take (Int.toNat (1 : Int)) m)))) :
                                                                        Int)
                                                                    else (1 : Int))))
                                                                (A.se (encs (List.take (Int.toNat (1 : Int)) m)))))) then
                                                      bif
                                                          decide
                                                              ((↑(List.length
                                                                      (A.se (encs (List.take (Int.toNat (1 : Int)) m)))) :
                                                                  Int) >
                                                                (0 : Int)) ==
                                                            true then
                                                        some
                                                          (X.d Ty.bool
                                                              (((0 : Int) == (0 : Int)) ==
                                                                (Int.tmod (A.wrap IntKind.i64 n)
                                                                    (if
                                                                        (↑(List.length
                                                                                (A.se
                                                                                  (encs
                                                                                    (List.take (Int.toNat (1 : Int)) m)))) :
                                                                            Int) >
                                                                          (1 : Int) then
                                                                      (↑(List.length
                                                                            (A.se
                                                                              (encs (List.take (Int.toNat (1 : Int)) m)))) :
                                                                        Int)
                                                                    else (1 : Int)) ==
                                                                  (0 : Int))),
                                                            [])
                                                      else some (X.d Ty.bool false, [])
                                                    else
                                                      bif
                                                          decide
                                                              ((↑(List.length
                                                                      (A.se (encs (List.take (Int.toNat (1 : Int)) m)))) :
                                                                  Int) >
                                                                (0 : Int)) ==
                                                            true then
                                                        some
                                                          (X.d Ty.bool
                                                              (((230 : Int) == (0 : Int)) ==
                                                                (Int.tmod (A.wrap IntKind.i64 n)
                                                                    (if
                                                                        (↑(List.length
                                                                                (A.se
                                                                                  (encs
                                                                                    (List.take (Int.toNat (1 : Int)) m)))) :
                                                                            Int) >
                                                                          (1 : Int) then
                                                                      (↑(List.length
                                                                            (A.se
                                                                              (encs (List.take (Int.toNat (1 : Int)) m)))) :
                                                                        Int)
                                                                    else (1 : Int)) ==
                                                                  (0 : Int))),
                                                            [])
                                                      else some (X.d Ty.bool false, [])
                                                  else none
                                                else none
                                            else
                                              bif
                                                  decide
                                                    ((0 : Int) ≤
                                                        Int.tmod (A.wrap IntKind.i64 n)
                                                          (if (↑(0 : Nat) : Int) > (1 : Int) then (↑(0 : Nat) : Int)
                                                          else (1 : Int)) ∧
                                                      Int.tmod (A.wrap IntKind.i64 n)
                                                          (if (↑(0 : Nat) : Int) > (1 : Int) then (↑(0 : Nat) : Int)
                                                          else (1 : Int)) ≤
                                                        (↑(0 : Nat) : Int)) then
                                                bif
                                                    A.se
                                                      (decide
                                                          (List.length
                                                              (List.take
                                                                (Int.toNat
                                                                  (Int.tmod (A.wrap IntKind.i64 n)
                                                                    (if (↑(0 : Nat) : Int) > (1 : Int) then
                                                                      (↑(0 : Nat) : Int)
                                                                    else (1 : Int))))
                                                                ([] : List Int)) ≤
                                                            (10000000 : Nat)) &&
                                                        (bytesB
                                                            (List.take
                                                              (Int.toNat
                                                                (Int.tmod (A.wrap IntKind.i64 n)
                                                                  (if (↑(0 : Nat) : Int) > (1 : Int) then (↑(0 : Nat) : Int)
                                                                  else (1 : Int))))
                                                              ([] : List Int)) &&
                                                          nlB true
                                                            (List.take
                                                              (Int.toNat
                                                                (Int.tmod (A.wrap IntKind.i64 n)
                                                                  (if (↑(0 : Nat) : Int) > (1 : Int) then (↑(0 : Nat) : Int)
                                                                  else (1 : Int))))
                                                              ([] : List Int)))) then
                                                  bif
                                                      A.se
                                                        (Option.isSome
                                                          (readC
                                                            (List.take
                                                              (Int.toNat
                                                                (Int.tmod (A.wrap IntKind.i64 n)
                                                                  (if (↑(0 : Nat) : Int) > (1 : Int) then (↑(0 : Nat) : Int)
                                                                  else (1 : Int))))
                                                              ([] : List Int)))) then
                                                    some (X.d Ty.bool false, [])
                                                  else some (X.d Ty.bool false, [])
                                                else none
                                              else none
                                          else none
                                        else none
                                    else none
                                  else some (X.d Ty.bool true, [])
                              else none
                            else none
                          else
                            bif ((↑(List.length m) : Int) == (0 : Int)) == false then
                              bif decide ((0 : Int) ≤ (0 : Int) ∧ (0 : Int) < (↑(List.length m) : Int)) then
                                bif !A.se (checkC (List.getD m (Int.toNat (0 : Int)) (Ty.zero cmdT))) then
                                  some (X.d Ty.bool false, [])
                                else
                                  bif
                                      decide
                                        ((0 : Int) ≤ (1 : Int) ∧
                                          (1 : Int) ≤ (↑(List.length m) : Int)) then
                                    bif A.se (wl (List.take (Int.toNat (1 : Int)) m)) then
                                      bif A.se (List.all (List.take (Int.toNat (1 : Int)) m) checkC) then
                                        bif
                                            decide
                                              ((if
                                                    (↑(List.length (A.se (encs (List.take (Int.toNat (1 : Int)) m)))) :
                                                        Int) >
                                                      (1 : Int) then
                                                  (↑(List.length (A.se (encs (List.take (Int.toNat (1 : Int)) m)))) : Int)
                                                else (1 : Int)) =
                                                (0 : Int)) then
                                          none
                                        else
                                          bif
                                              decide
                                                ((0 : Int) ≤
                                                    Int.tmod (A.wrap IntKind.i64 n)
                                                      (if
                                                          (↑(List.length
                                                                  (A.se (encs (List.take (Int.toNat (1 : Int)) m)))) :
                                                              Int) >
                                                            (1 : Int) then
                                                        (↑(List.length (A.se (encs (List.take (Int.toNat (1 : Int)) m)))) :
                                                          Int)
                                                      else (1 : Int)) ∧
                                                  Int.tmod (A.wrap IntKind.i64 n)
                                                      (if
                                                          (↑(List.length
                                                                  (A.se (encs (List.take (Int.toNat (1 : Int)) m)))) :
                                                              Int) >
                                                            (1 : Int) then
                                                        (↑(List.length (A.se (encs (List.take (Int.toNat (1 : Int)) m)))) :
                                                          Int)
                                                      else (1 : Int)) ≤
                                                    (↑(List.length (A.se (encs (List.take (Int.toNat (1 : Int)) m)))) :
                                                      Int)) then
                                            bif
                                                A.se
                                                  (decide
                                                      (List.length
                                                          (List.take
                                                            (Int.toNat
                                                              (Int.tmod (A.wrap IntKind.i64 n)
                                                                (if
                                                                    (↑(List.length
                                                                            (A.se
                                                                              (encs (List.take (Int.toNat (1 : Int)) m)))) :
                                                                        Int) >
                                                                      (1 : Int) then
                                                                  (↑(List.length
                                                                        (A.se (encs (List.take (Int.toNat (1 : Int)) m)))) :
                                                                    Int)
                                                                else (1 : Int))))
                                                            (A.se (encs (List.take (Int.toNat (1 : Int)) m)))) ≤
                                                        (10000000 : Nat)) &&
                                                    (bytesB
                                                        (List.take
                                                          (Int.toNat
                                                            (Int.tmod (A.wrap IntKind.i64 n)
                                                              (if
                                                                  (↑(List.length
                                                                          (A.se
                                                                            (encs (List.take (Int.toNat (1 : Int)) m)))) :
                                                                      Int) >
                                                                    (1 : Int) then
                                                                (↑(List.length
                                                                      (A.se (encs (List.take (Int.toNat (1 : Int)) m)))) :
                                                                  Int)
                                                              else (1 : Int))))
                                                          (A.se (encs (List.take (Int.toNat (1 : Int)) m)))) &&
                                                      nlB (A.se (List.isEmpty (encs (List.take (Int.toNat (1 : Int)) m))))
                                                        (List.take
                                                          (Int.toNat
                                                            (Int.tmod (A.wrap IntKind.i64 n)
                                                              (if
                                                                  (↑(List.length
                                                                          (A.se
                                                                            (encs (List.take (Int.toNat (1 : Int)) m)))) :
                                                                      Int) >
                                                                    (1 : Int) then
                                                                (↑(List.length
                                                                      (A.se (encs (List.take (Int.toNat (1 : Int)) m)))) :
                                                                  Int)
                                                              else (1 : Int))))
                                                          (A.se (encs (List.take (Int.toNat (1 : Int)) m)))))) then
                                              bif
                                                  A.se
                                                    (Option.isSome
                                                      (readC
                                                        (List.take
                                                          (Int.toNat
                                                            (Int.tmod (A.wrap IntKind.i64 n)
                                                              (if
                                                                  (↑(List.length
                                                                          (A.se
                                                                            (encs (List.take (Int.toNat (1 : Int)) m)))) :
                                                                      Int) >
                                                                    (1 : Int) then
                                                                (↑(List.length
                                                                      (A.se (encs (List.take (Int.toNat (1 : Int)) m)))) :
                                                                  Int)
                                                              else (1 : Int))))
                                                          (A.se (encs (List.take (Int.toNat (1 : Int)) m)))))) then
                                                some (X.d Ty.bool false, [])
                                              else some (X.d Ty.bool false, [])
                                            else none
                                          else none
                                      else
                                        bif
                                            decide
                                              ((0 : Int) ≤
                                                  Int.tmod (A.wrap IntKind.i64 n)
                                                    (if (↑(0 : Nat) : Int) > (1 : Int) then (↑(0 : Nat) : Int)
                                                    else (1 : Int)) ∧
                                                Int.tmod (A.wrap IntKind.i64 n)
                                                    (if (↑(0 : Nat) : Int) > (1 : Int) then (↑(0 : Nat) : Int)
                                                    else (1 : Int)) ≤
                                                  (↑(0 : Nat) : Int)) then
                                          bif
                                              A.se
                                                (decide
                                                    (List.length
                                                        (List.take
                                                          (Int.toNat
                                                            (Int.tmod (A.wrap IntKind.i64 n)
                                                              (if (↑(0 : Nat) : Int) > (1 : Int) then (↑(0 : Nat) : Int)
                                                              else (1 : Int))))
                                                          ([] : List Int)) ≤
                                                      (10000000 : Nat)) &&
                                                  (bytesB
                                                      (List.take
                                                        (Int.toNat
                                                          (Int.tmod (A.wrap IntKind.i64 n)
                                                            (if (↑(0 : Nat) : Int) > (1 : Int) then (↑(0 : Nat) : Int)
                                                            else (1 : Int))))
                                                        ([] : List Int)) &&
                                                    nlB true
                                                      (List.take
                                                        (Int.toNat
                                                          (Int.tmod (A.wrap IntKind.i64 n)
                                                            (if (↑(0 : Nat) : Int) > (1 : Int) then (↑(0 : Nat) : Int)
                                                            else (1 : Int))))
                                                        ([] : List Int)))) then
                                            bif
                                                A.se
                                                  (Option.isSome
                                                    (readC
                                                      (List.take
                                                        (Int.toNat
                                                          (Int.tmod (A.wrap IntKind.i64 n)
                                                            (if (↑(0 : Nat) : Int) > (1 : Int) then (↑(0 : Nat) : Int)
                                                            else (1 : Int))))
                                                        ([] : List Int)))) then
                                              some (X.d Ty.bool false, [])
                                            else some (X.d Ty.bool false, [])
                                          else none
                                        else none
                                    else none
                                  else none
                              else none
                            else some (X.d Ty.bool false, [])
                        else none
                      else none
                    else none
                  else
                    bif decide (((0 : Nat) + List.length l) * (80 : Nat) ≤ (140737488355328 : Nat)) then
                      bif decide ((List.length ([] ++ l) + List.length m) * (80 : Nat) ≤ (140737488355328 : Nat)) then
                        bif A.se (wl ([] ++ l ++ m)) then
                          bif A.se (List.all ([] ++ l ++ m) checkC) then
                            bif ((↑(List.length m) : Int) == (0 : Int)) == false then
                              bif decide ((0 : Int) ≤ (0 : Int) ∧ (0 : Int) < (↑(List.length m) : Int)) then
                                bif !A.se (checkC (List.getD m (Int.toNat (0 : Int)) (Ty.zero cmdT))) then
                                  some (X.d Ty.bool ((0 : Int) == (230 : Int)), [])
                                else
                                  bif
                                      decide
                                        ((0 : Int) ≤ (1 : Int) ∧
                                          (1 : Int) ≤ (↑(List.length m) : Int)) then
                                    bif A.se (wl (List.take (Int.toNat (1 : Int)) m)) then
                                      bif A.se (List.all (List.take (Int.toNat (1 : Int)) m) checkC) then
                                        bif
                                            decide
                                              ((if
                                                    (↑(List.length (A.se (encs (List.take (Int.toNat (1 : Int)) m)))) :
                                                        Int) >
                                                      (1 : Int) then
                                                  (↑(List.length (A.se (encs (List.take (Int.toNat (1 : Int)) m)))) : Int)
                                                else (1 : Int)) =
                                                (0 : Int)) then
                                          none
                                        else
                                          bif
                                              decide
                                                ((0 : Int) ≤
                                                    Int.tmod (A.wrap IntKind.i64 n)
                                                      (if
                                                          (↑(List.length
                                                                  (A.se (encs (List.take (Int.toNat (1 : Int)) m)))) :
                                                              Int) >
                                                            (1 : Int) then
                                                        (↑(List.length (A.se (encs (List.take (Int.toNat (1 : Int)) m)))) :
                                                          Int)
                                                      else (1 : Int)) ∧
                                                  Int.tmod (A.wrap IntKind.i64 n)
                                                      (if
                                                          (↑(List.length
                                                                  (A.se (encs (List.take (Int.toNat (1 : Int)) m)))) :
                                                              Int) >
                                                            (1 : Int) then
                                                        (↑(List.length (A.se (encs (List.take (Int.toNat (1 : Int)) m)))) :
                                                          Int)
                                                      else (1 : Int)) ≤
                                                    (↑(List.length (A.se (encs (List.take (Int.toNat (1 : Int)) m)))) :
                                                      Int)) then
                                            bif
                                                A.se
                                                  (decide
                                                      (List.length
                                                          (List.take
                                                            (Int.toNat
                                                              (Int.tmod (A.wrap IntKind.i64 n)
                                                                (if
                                                                    (↑(List.length
                                                                            (A.se
                                                                              (encs (List.take (Int.toNat (1 : Int)) m)))) :
                                                                        Int) >
                                                                      (1 : Int) then
                                                                  (↑(List.length
                                                                        (A.se (encs (List.take (Int.toNat (1 : Int)) m)))) :
                                                                    Int)
                                                                else (1 : Int))))
                                                            (A.se (encs (List.take (Int.toNat (1 : Int)) m)))) ≤
                                                        (10000000 : Nat)) &&
                                                    (bytesB
                                                        (List.take
                                                          (Int.toNat
                                                            (Int.tmod (A.wrap IntKind.i64 n)
                                                              (if
                                                                  (↑(List.length
                                                                          (A.se
                                                                            (encs (List.take (Int.toNat (1 : Int)) m)))) :
                                                                      Int) >
                                                                    (1 : Int) then
                                                                (↑(List.length
                                                                      (A.se (encs (List.take (Int.toNat (1 : Int)) m)))) :
                                                                  Int)
                                                              else (1 : Int))))
                                                          (A.se (encs (List.take (Int.toNat (1 : Int)) m)))) &&
                                                      nlB (A.se (List.isEmpty (encs (List.take (Int.toNat (1 : Int)) m))))
                                                        (List.take
                                                          (Int.toNat
                                                            (Int.tmod (A.wrap IntKind.i64 n)
                                                              (if
                                                                  (↑(List.length
                                                                          (A.se
                                                                            (encs (List.take (Int.toNat (1 : Int)) m)))) :
                                                                      Int) >
                                                                    (1 : Int) then
                                                                (↑(List.length
                                                                      (A.se (encs (List.take (Int.toNat (1 : Int)) m)))) :
                                                                  Int)
                                                              else (1 : Int))))
                                                          (A.se (encs (List.take (Int.toNat (1 : Int)) m)))))) then
                                              bif
                                                  A.se
                                                    (Option.isSome
                                                      (readC
                                                        (List.take
                                                          (Int.toNat
                                                            (Int.tmod (A.wrap IntKind.i64 n)
                                                              (if
                                                                  (↑(List.length
                                                                          (A.se
                                                                            (encs (List.take (Int.toNat (1 : Int)) m)))) :
                                                                      Int) >
                                                                    (1 : Int) then
                                                                (↑(List.length
                                                                      (A.se (encs (List.take (Int.toNat (1 : Int)) m)))) :
                                                                  Int)
                                                              else (1 : Int))))
                                                          (A.se (encs (List.take (Int.toNat (1 : Int)) m)))))) then
                                                some (X.d Ty.bool false, [])
                                              else some (X.d Ty.bool false, [])
                                            else none
                                          else none
                                      else
                                        bif
                                            decide
                                              ((0 : Int) ≤
                                                  Int.tmod (A.wrap IntKind.i64 n)
                                                    (if (↑(0 : Nat) : Int) > (1 : Int) then (↑(0 : Nat) : Int)
                                                    else (1 : Int)) ∧
                                                Int.tmod (A.wrap IntKind.i64 n)
                                                    (if (↑(0 : Nat) : Int) > (1 : Int) then (↑(0 : Nat) : Int)
                                                    else (1 : Int)) ≤
                                                  (↑(0 : Nat) : Int)) then
                                          bif
                                              A.se
                                                (decide
                                                    (List.length
                                                        (List.take
                                                          (Int.toNat
                                                            (Int.tmod (A.wrap IntKind.i64 n)
                                                              (if (↑(0 : Nat) : Int) > (1 : Int) then (↑(0 : Nat) : Int)
                                                              else (1 : Int))))
                                                          ([] : List Int)) ≤
                                                      (10000000 : Nat)) &&
                                                  (bytesB
                                                      (List.take
                                                        (Int.toNat
                                                          (Int.tmod (A.wrap IntKind.i64 n)
                                                            (if (↑(0 : Nat) : Int) > (1 : Int) then (↑(0 : Nat) : Int)
                                                            else (1 : Int))))
                                                        ([] : List Int)) &&
                                                    nlB true
                                                      (List.take
                                                        (Int.toNat
                                                          (Int.tmod (A.wrap IntKind.i64 n)
                                                            (if (↑(0 : Nat) : Int) > (1 : Int) then (↑(0 : Nat) : Int)
                                                            else (1 : Int))))
                                                        ([] : List Int)))) then
                                            bif
                                                A.se
                                                  (Option.isSome
                                                    (readC
                                                      (List.take
                                                        (Int.toNat
                                                          (Int.tmod (A.wrap IntKind.i64 n)
                                                            (if (↑(0 : Nat) : Int) > (1 : Int) then (↑(0 : Nat) : Int)
                                                            else (1 : Int))))
                                                        ([] : List Int)))) then
                                              some (X.d Ty.bool false, [])
                                            else some (X.d Ty.bool false, [])
                                          else none
                                        else none
                                    else none
                                  else none
                              else none
                            else some (X.d Ty.bool ((0 : Int) == (230 : Int)), [])
                          else
                            bif ((↑(List.length m) : Int) == (0 : Int)) == false then
                              bif decide ((0 : Int) ≤ (0 : Int) ∧ (0 : Int) < (↑(List.length m) : Int)) then
                                bif !A.se (checkC (List.getD m (Int.toNat (0 : Int)) (Ty.zero cmdT))) then
                                  some (X.d Ty.bool ((230 : Int) == (230 : Int)), [])
                                else
                                  bif
                                      decide
                                        ((0 : Int) ≤ (1 : Int) ∧
                                          (1 : Int) ≤ (↑(List.length m) : Int)) then
                                    bif A.se (wl (List.take (Int.toNat (1 : Int)) m)) then
                                      bif A.se (List.all (List.take (Int.toNat (1 : Int)) m) checkC) then
                                        bif
                                            decide
                                              ((if
                                                    (↑(List.length (A.se (encs (List.take (Int.toNat (1 : Int)) m)))) :
                                                        Int) >
                                                      (1 : Int) then
                                                  (↑(List.length (A.se (encs (List.take (Int.toNat (1 : Int)) m)))) : Int)
                                                else (1 : Int)) =
                                                (0 : Int)) then
                                          none
                                        else
                                          bif
                                              decide
                                                ((0 : Int) ≤
                                                    Int.tmod (A.wrap IntKind.i64 n)
                                                      (if
                                                          (↑(List.length
                                                                  (A.se (encs (List.take (Int.toNat (1 : Int)) m)))) :
                                                              Int) >
                                                            (1 : Int) then
                                                        (↑(List.length (A.se (encs (List.take (Int.toNat (1 : Int)) m)))) :
                                                          Int)
                                                      else (1 : Int)) ∧
                                                  Int.tmod (A.wrap IntKind.i64 n)
                                                      (if
                                                          (↑(List.length
                                                                  (A.se (encs (List.take (Int.toNat (1 : Int)) m)))) :
                                                              Int) >
                                                            (1 : Int) then
                                                        (↑(List.length (A.se (encs (List.take (Int.toNat (1 : Int)) m)))) :
                                                          Int)
                                                      else (1 : Int)) ≤
                                                    (↑(List.length (A.se (encs (List.take (Int.toNat (1 : Int)) m)))) :
                                                      Int)) then
                                            bif
                                                A.se
                                                  (decide
                                                      (List.length
                                                          (List.take
                                                            (Int.toNat
                                                              (Int.tmod (A.wrap IntKind.i64 n)
                                                                (if
                                                                    (↑(List.length
                                                                            (A.se
                                                                              (encs (List.take (Int.toNat (1 : Int)) m)))) :
                                                                        Int) >
                                                                      (1 : Int) then
                                                                  (↑(List.length
                                                                        (A.se (encs (List.take (Int.toNat (1 : Int)) m)))) :
                                                                    Int)
                                                                else (1 : Int))))
                                                            (A.se (encs (List.take (Int.toNat (1 : Int)) m)))) ≤
                                                        (10000000 : Nat)) &&
                                                    (bytesB
                                                        (List.take
                                                          (Int.toNat
                                                            (Int.tmod (A.wrap IntKind.i64 n)
                                                              (if
                                                                  (↑(List.length
                                                                          (A.se
                                                                            (encs (List.take (Int.toNat (1 : Int)) m)))) :
                                                                      Int) >
                                                                    (1 : Int) then
                                                                (↑(List.length
                                                                      (A.se (encs (List.take (Int.toNat (1 : Int)) m)))) :
                                                                  Int)
                                                              else (1 : Int))))
                                                          (A.se (encs (List.take (Int.toNat (1 : Int)) m)))) &&
                                                      nlB (A.se (List.isEmpty (encs (List.take (Int.toNat (1 : Int)) m))))
                                                        (List.take
                                                          (Int.toNat
                                                            (Int.tmod (A.wrap IntKind.i64 n)
                                                              (if
                                                                  (↑(List.length
                                                                          (A.se
                                                                            (encs (List.take (Int.toNat (1 : Int)) m)))) :
                                                                      Int) >
                                                                    (1 : Int) then
                                                                (↑(List.length
                                                                      (A.se (encs (List.take (Int.toNat (1 : Int)) m)))) :
                                                                  Int)
                                                              else (1 : Int))))
                                                          (A.se (encs (List.take (Int.toNat (1 : Int)) m)))))) then
                                              bif
                                                  A.se
                                                    (Option.isSome
                                                      (readC
                                                        (List.take
                                                          (Int.toNat
                                                            (Int.tmod (A.wrap IntKind.i64 n)
                                                              (if
                                                                  (↑(List.length
                                                                          (A.se
                                                                            (encs (List.take (Int.toNat (1 : Int)) m)))) :
                                                                      Int) >
                                                                    (1 : Int) then
                                                                (↑(List.length
                                                                      (A.se (encs (List.take (Int.toNat (1 : Int)) m)))) :
                                                                  Int)
                                                              else (1 : Int))))
                                                          (A.se (encs (List.take (Int.toNat (1 : Int)) m)))))) then
                                                bif
                                                    decide
                                                        ((↑(List.length (A.se (encs (List.take (Int.toNat (1 : Int)) m)))) :
                                                            Int) >
                                                          (0 : Int)) ==
                                                      true then
                                                  some
                                                    (X.d Ty.bool
                                                        (((0 : Int) == (0 : Int)) ==
                                                          (Int.tmod (A.wrap IntKind.i64 n)
                                                              (if
                                                                  (↑(List.length
                                                                          (A.se
                                                                            (encs (List.take (Int.toNat (1 : Int)) m)))) :
                                                                      Int) >
                                                                    (1 : Int) then
                                                                (↑(List.length
                                                                      (A.se (encs (List.take (Int.toNat (1 : Int)) m)))) :
                                                                  Int)
                                                              else (1 : Int)) ==
                                                            (0 : Int))),
                                                      [])
                                                else some (X.d Ty.bool false, [])
                                              else
                                                bif
                                                    decide
                                                        ((↑(List.length (A.se (encs (List.take (Int.toNat (1 : Int)) m)))) :
                                                            Int) >
                                                          (0 : Int)) ==
                                                      true then
                                                  some
                                                    (X.d Ty.bool
                                                        (((230 : Int) == (0 : Int)) ==
                                                          (Int.tmod (A.wrap IntKind.i64 n)
                                                              (if
                                                                  (↑(List.length
                                                                          (A.se
                                                                            (encs (List.take (Int.toNat (1 : Int)) m)))) :
                                                                      Int) >
                                                                    (1 : Int) then
                                                                (↑(List.length
                                                                      (A.se (encs (List.take (Int.toNat (1 : Int)) m)))) :
                                                                  Int)
                                                              else (1 : Int)) ==
                                                            (0 : Int))),
                                                      [])
                                                else some (X.d Ty.bool false, [])
                                            else none
                                          else none
                                      else
                                        bif
                                            decide
                                              ((0 : Int) ≤
                                                  Int.tmod (A.wrap IntKind.i64 n)
                                                    (if (↑(0 : Nat) : Int) > (1 : Int) then (↑(0 : Nat) : Int)
                                                    else (1 : Int)) ∧
                                                Int.tmod (A.wrap IntKind.i64 n)
                                                    (if (↑(0 : Nat) : Int) > (1 : Int) then (↑(0 : Nat) : Int)
                                                    else (1 : Int)) ≤
                                                  (↑(0 : Nat) : Int)) then
                                          bif
                                              A.se
                                                (decide
                                                    (List.length
                                                        (List.take
                                                          (Int.toNat
                                                            (Int.tmod (A.wrap IntKind.i64 n)
                                                              (if (↑(0 : Nat) : Int) > (1 : Int) then (↑(0 : Nat) : Int)
                                                              else (1 : Int))))
                                                          ([] : List Int)) ≤
                                                      (10000000 : Nat)) &&
                                                  (bytesB
                                                      (List.take
                                                        (Int.toNat
                                                          (Int.tmod (A.wrap IntKind.i64 n)
                                                            (if (↑(0 : Nat) : Int) > (1 : Int) then (↑(0 : Nat) : Int)
                                                            else (1 : Int))))
                                                        ([] : List Int)) &&
                                                    nlB true
                                                      (List.take
                                                        (Int.toNat
                                                          (Int.tmod (A.wrap IntKind.i64 n)
                                                            (if (↑(0 : Nat) : Int) > (1 : Int) then (↑(0 : Nat) : Int)
                                                            else (1 : Int))))
                                                        ([] : List Int)))) then
                                            bif
                                                A.se
                                                  (Option.isSome
                                                    (readC
                                                      (List.take
                                                        (Int.toNat
                                                          (Int.tmod (A.wrap IntKind.i64 n)
                                                            (if (↑(0 : Nat) : Int) > (1 : Int) then (↑(0 : Nat) : Int)
                                                            else (1 : Int))))
                                                        ([] : List Int)))) then
                                              some (X.d Ty.bool false, [])
                                            else some (X.d Ty.bool false, [])
                                          else none
                                        else none
                                    else none
                                  else none
                              else none
                            else some (X.d Ty.bool ((230 : Int) == (230 : Int)), [])
                        else none
                      else none
                    else none
                else none
              else
                bif A.se (wl m) then
                  bif A.se (List.all m checkC) then
                    bif decide (((0 : Nat) + List.length l) * (80 : Nat) ≤ (140737488355328 : Nat)) then
                      bif decide ((List.length ([] ++ l) + List.length m) * (80 : Nat) ≤ (140737488355328 : Nat)) then
                        bif A.se (wl ([] ++ l ++ m)) then
                          bif A.se (List.all ([] ++ l ++ m) checkC) then
                            bif ((↑(List.length m) : Int) == (0 : Int)) == false then
                              bif decide ((0 : Int) ≤ (0 : Int) ∧ (0 : Int) < (↑(List.length m) : Int)) then
                                bif !A.se (checkC (List.getD m (Int.toNat (0 : Int)) (Ty.zero cmdT))) then
                                  some (X.d Ty.bool ((0 : Int) == (230 : Int)), [])
                                else
                                  bif
                                      decide
                                        ((0 : Int) ≤ (1 : Int) ∧
                                          (1 : Int) ≤ (↑(List.length m) : Int)) then
                                    bif A.se (wl (List.take (Int.toNat (1 : Int)) m)) then
                                      bif A.se (List.all (List.take (Int.toNat (1 : Int)) m) checkC) then
                                        bif
                                            decide
                                              ((if
                                                    (↑(List.length (A.se (encs (List.take (Int.toNat (1 : Int)) m)))) :
                                                        Int) >
                                                      (1 : Int) then
                                                  (↑(List.length (A.se (encs (List.take (Int.toNat (1 : Int)) m)))) : Int)
                                                else (1 : Int)) =
                                                (0 : Int)) then
                                          none
                                        else
                                          bif
                                              decide
                                                ((0 : Int) ≤
                                                    Int.tmod (A.wrap IntKind.i64 n)
                                                      (if
                                                          (↑(List.length
                                                                  (A.se (encs (List.take (Int.toNat (1 : Int)) m)))) :
                                                              Int) >
                                                            (1 : Int) then
                                                        (↑(List.length (A.se (encs (List.take (Int.toNat (1 : Int)) m)))) :
                                                          Int)
                                                      else (1 : Int)) ∧
                                                  Int.tmod (A.wrap IntKind.i64 n)
                                                      (if
                                                          (↑(List.length
                                                                  (A.se (encs (List.take (Int.toNat (1 : Int)) m)))) :
                                                              Int) >
                                                            (1 : Int) then
                                                        (↑(List.length (A.se (encs (List.take (Int.toNat (1 : Int)) m)))) :
                                                          Int)
                                                      else (1 : Int)) ≤
                                                    (↑(List.length (A.se (encs (List.take (Int.toNat (1 : Int)) m)))) :
                                                      Int)) then
                                            bif
                                                A.se
                                                  (decide
                                                      (List.length
                                                          (List.take
                                                            (Int.toNat
                                                              (Int.tmod (A.wrap IntKind.i64 n)
                                                                (if
                                                                    (↑(List.length
                                                                            (A.se
                                                                              (encs (List.take (Int.toNat (1 : Int)) m)))) :
                                                                        Int) >
                                                                      (1 : Int) then
                                                                  (↑(List.length
                                                                        (A.se (encs (List.take (Int.toNat (1 : Int)) m)))) :
                                                                    Int)
                                                                else (1 : Int))))
                                                            (A.se (encs (List.take (Int.toNat (1 : Int)) m)))) ≤
                                                        (10000000 : Nat)) &&
                                                    (bytesB
                                                        (List.take
                                                          (Int.toNat
                                                            (Int.tmod (A.wrap IntKind.i64 n)
                                                              (if
                                                                  (↑(List.length
                                                                          (A.se
                                                                            (encs (List.take (Int.toNat (1 : Int)) m)))) :
                                                                      Int) >
                                                                    (1 : Int) then
                                                                (↑(List.length
                                                                      (A.se (encs (List.take (Int.toNat (1 : Int)) m)))) :
                                                                  Int)
                                                              else (1 : Int))))
                                                          (A.se (encs (List.take (Int.toNat (1 : Int)) m)))) &&
                                                      nlB (A.se (List.isEmpty (encs (List.take (Int.toNat (1 : Int)) m))))
                                                        (List.take
                                                          (Int.toNat
                                                            (Int.tmod (A.wrap IntKind.i64 n)
                                                              (if
                                                                  (↑(List.length
                                                                          (A.se
                                                                            (encs (List.take (Int.toNat (1 : Int)) m)))) :
                                                                      Int) >
                                                                    (1 : Int) then
                                                                (↑(List.length
                                                                      (A.se (encs (List.take (Int.toNat (1 : Int)) m)))) :
                                                                  Int)
                                                              else (1 : Int))))
                                                          (A.se (encs (List.take (Int.toNat (1 : Int)) m)))))) then
                                              bif
                                                  A.se
                                                    (Option.isSome
                                                      (readC
                                                        (List.take
                                                          (Int.toNat
                                                            (Int.tmod (A.wrap IntKind.i64 n)
                                                              (if
                                                                  (↑(List.length
                                                                          (A.se
                                                                            (encs (List.take (Int.toNat (1 : Int)) m)))) :
                                                                      Int) >
                                                                    (1 : Int) then
                                                                (↑(List.length
                                                                      (A.se (encs (List.take (Int.toNat (1 : Int)) m)))) :
                                                                  Int)
                                                              else (1 : Int))))
                                                          (A.se (encs (List.take (Int.toNat (1 : Int)) m)))))) then
                                                some (X.d Ty.bool false, [])
                                              else some (X.d Ty.bool false, [])
                                            else none
                                          else none
                                      else
                                        bif
                                            decide
                                              ((0 : Int) ≤
                                                  Int.tmod (A.wrap IntKind.i64 n)
                                                    (if (↑(0 : Nat) : Int) > (1 : Int) then (↑(0 : Nat) : Int)
                                                    else (1 : Int)) ∧
                                                Int.tmod (A.wrap IntKind.i64 n)
                                                    (if (↑(0 : Nat) : Int) > (1 : Int) then (↑(0 : Nat) : Int)
                                                    else (1 : Int)) ≤
                                                  (↑(0 : Nat) : Int)) then
                                          bif
                                              A.se
                                                (decide
                                                    (List.length
                                                        (List.take
                                                          (Int.toNat
                                                            (Int.tmod (A.wrap IntKind.i64 n)
                                                              (if (↑(0 : Nat) : Int) > (1 : Int) then (↑(0 : Nat) : Int)
                                                              else (1 : Int))))
                                                          ([] : List Int)) ≤
                                                      (10000000 : Nat)) &&
                                                  (bytesB
                                                      (List.take
                                                        (Int.toNat
                                                          (Int.tmod (A.wrap IntKind.i64 n)
                                                            (if (↑(0 : Nat) : Int) > (1 : Int) then (↑(0 : Nat) : Int)
                                                            else (1 : Int))))
                                                        ([] : List Int)) &&
                                                    nlB true
                                                      (List.take
                                                        (Int.toNat
                                                          (Int.tmod (A.wrap IntKind.i64 n)
                                                            (if (↑(0 : Nat) : Int) > (1 : Int) then (↑(0 : Nat) : Int)
                                                            else (1 : Int))))
                                                        ([] : List Int)))) then
                                            bif
                                                A.se
                                                  (Option.isSome
                                                    (readC
                                                      (List.take
                                                        (Int.toNat
                                                          (Int.tmod (A.wrap IntKind.i64 n)
                                                            (if (↑(0 : Nat) : Int) > (1 : Int) then (↑(0 : Nat) : Int)
                                                            else (1 : Int))))
                                                        ([] : List Int)))) then
                                              some (X.d Ty.bool false, [])
                                            else some (X.d Ty.bool false, [])
                                          else none
                                        else none
                                    else none
                                  else none
                              else none
                            else some (X.d Ty.bool ((0 : Int) == (230 : Int)), [])
                          else
                            bif ((↑(List.length m) : Int) == (0 : Int)) == false then
                              bif decide ((0 : Int) ≤ (0 : Int) ∧ (0 : Int) < (↑(List.length m) : Int)) then
                                bif !A.se (checkC (List.getD m (Int.toNat (0 : Int)) (Ty.zero cmdT))) then
                                  some (X.d Ty.bool ((230 : Int) == (230 : Int)), [])
                                else
                                  bif
                                      decide
                                        ((0 : Int) ≤ (1 : Int) ∧
                                          (1 : Int) ≤ (↑(List.length m) : Int)) then
                                    bif A.se (wl (List.take (Int.toNat (1 : Int)) m)) then
                                      bif A.se (List.all (List.take (Int.toNat (1 : Int)) m) checkC) then
                                        bif
                                            decide
                                              ((if
                                                    (↑(List.length (A.se (encs (List.take (Int.toNat (1 : Int)) m)))) :
                                                        Int) >
                                                      (1 : Int) then
                                                  (↑(List.length (A.se (encs (List.take (Int.toNat (1 : Int)) m)))) : Int)
                                                else (1 : Int)) =
                                                (0 : Int)) then
                                          none
                                        else
                                          bif
                                              decide
                                                ((0 : Int) ≤
                                                    Int.tmod (A.wrap IntKind.i64 n)
                                                      (if
                                                          (↑(List.length
                                                                  (A.se (encs (List.take (Int.toNat (1 : Int)) m)))) :
                                                              Int) >
                                                            (1 : Int) then
                                                        (↑(List.length (A.se (encs (List.take (Int.toNat (1 : Int)) m)))) :
                                                          Int)
                                                      else (1 : Int)) ∧
                                                  Int.tmod (A.wrap IntKind.i64 n)
                                                      (if
                                                          (↑(List.length
                                                                  (A.se (encs (List.take (Int.toNat (1 : Int)) m)))) :
                                                              Int) >
                                                            (1 : Int) then
                                                        (↑(List.length (A.se (encs (List.take (Int.toNat (1 : Int)) m)))) :
                                                          Int)
                                                      else (1 : Int)) ≤
                                                    (↑(List.length (A.se (encs (List.take (Int.toNat (1 : Int)) m)))) :
                                                      Int)) then
                                            bif
                                                A.se
                                                  (decide
                                                      (List.length
                                                          (List.take
                                                            (Int.toNat
                                                              (Int.tmod (A.wrap IntKind.i64 n)
                                                                (if
                                                                    (↑(List.length
                                                                            (A.se
                                                                              (encs (List.take (Int.toNat (1 : Int)) m)))) :
                                                                        Int) >
                                                                      (1 : Int) then
                                                                  (↑(List.length
                                                                        (A.se (encs (List.take (Int.toNat (1 : Int)) m)))) :
                                                                    Int)
                                                                else (1 : Int))))
                                                            (A.se (encs (List.take (Int.toNat (1 : Int)) m)))) ≤
                                                        (10000000 : Nat)) &&
                                                    (bytesB
                                                        (List.take
                                                          (Int.toNat
                                                            (Int.tmod (A.wrap IntKind.i64 n)
                                                              (if
                                                                  (↑(List.length
                                                                          (A.se
                                                                            (encs (List.take (Int.toNat (1 : Int)) m)))) :
                                                                      Int) >
                                                                    (1 : Int) then
                                                                (↑(List.length
                                                                      (A.se (encs (List.take (Int.toNat (1 : Int)) m)))) :
                                                                  Int)
                                                              else (1 : Int))))
                                                          (A.se (encs (List.take (Int.toNat (1 : Int)) m)))) &&
                                                      nlB (A.se (List.isEmpty (encs (List.take (Int.toNat (1 : Int)) m))))
                                                        (List.take
                                                          (Int.toNat
                                                            (Int.tmod (A.wrap IntKind.i64 n)
                                                              (if
                                                                  (↑(List.length
                                                                          (A.se
                                                                            (encs (List.take (Int.toNat (1 : Int)) m)))) :
                                                                      Int) >
                                                                    (1 : Int) then
                                                                (↑(List.length
                                                                      (A.se (encs (List.take (Int.toNat (1 : Int)) m)))) :
                                                                  Int)
                                                              else (1 : Int))))
                                                          (A.se (encs (List.take (Int.toNat (1 : Int)) m)))))) then
                                              bif
                                                  A.se
                                                    (Option.isSome
                                                      (readC
                                                        (List.take
                                                          (Int.toNat
                                                            (Int.tmod (A.wrap IntKind.i64 n)
                                                              (if
                                                                  (↑(List.length
                                                                          (A.se
                                                                            (encs (List.take (Int.toNat (1 : Int)) m)))) :
                                                                      Int) >
                                                                    (1 : Int) then
                                                                (↑(List.length
                                                                      (A.se (encs (List.take (Int.toNat (1 : Int)) m)))) :
                                                                  Int)
                                                              else (1 : Int))))
                                                          (A.se (encs (List.take (Int.toNat (1 : Int)) m)))))) then
                                                bif
                                                    decide
                                                        ((↑(List.length (A.se (encs (List.take (Int.toNat (1 : Int)) m)))) :
                                                            Int) >
                                                          (0 : Int)) ==
                                                      true then
                                                  some
                                                    (X.d Ty.bool
                                                        (((0 : Int) == (0 : Int)) ==
                                                          (Int.tmod (A.wrap IntKind.i64 n)
                                                              (if
                                                                  (↑(List.length
                                                                          (A.se
                                                                            (encs (List.take (Int.toNat (1 : Int)) m)))) :
                                                                      Int) >
                                                                    (1 : Int) then
                                                                (↑(List.length
                                                                      (A.se (encs (List.take (Int.toNat (1 : Int)) m)))) :
                                                                  Int)
                                                              else (1 : Int)) ==
                                                            (0 : Int))),
                                                      [])
                                                else some (X.d Ty.bool false, [])
                                              else
                                                bif
                                                    decide
                                                        ((↑(List.length (A.se (encs (List.take (Int.toNat (1 : Int)) m)))) :
                                                            Int) >
                                                          (0 : Int)) ==
                                                      true then
                                                  some
                                                    (X.d Ty.bool
                                                        (((230 : Int) == (0 : Int)) ==
                                                          (Int.tmod (A.wrap IntKind.i64 n)
                                                              (if
                                                                  (↑(List.length
                                                                          (A.se
                                                                            (encs (List.take (Int.toNat (1 : Int)) m)))) :
                                                                      Int) >
                                                                    (1 : Int) then
                                                                (↑(List.length
                                                                      (A.se (encs (List.take (Int.toNat (1 : Int)) m)))) :
                                                                  Int)
                                                              else (1 : Int)) ==
                                                            (0 : Int))),
                                                      [])
                                                else some (X.d Ty.bool false, [])
                                            else none
                                          else none
                                      else
                                        bif
                                            decide
                                              ((0 : Int) ≤
                                                  Int.tmod (A.wrap IntKind.i64 n)
                                                    (if (↑(0 : Nat) : Int) > (1 : Int) then (↑(0 : Nat) : Int)
                                                    else (1 : Int)) ∧
                                                Int.tmod (A.wrap IntKind.i64 n)
                                                    (if (↑(0 : Nat) : Int) > (1 : Int) then (↑(0 : Nat) : Int)
                                                    else (1 : Int)) ≤
                                                  (↑(0 : Nat) : Int)) then
                                          bif
                                              A.se
                                                (decide
                                                    (List.length
                                                        (List.take
                                                          (Int.toNat
                                                            (Int.tmod (A.wrap IntKind.i64 n)
                                                              (if (↑(0 : Nat) : Int) > (1 : Int) then (↑(0 : Nat) : Int)
                                                              else (1 : Int))))
                                                          ([] : List Int)) ≤
                                                      (10000000 : Nat)) &&
                                                  (bytesB
                                                      (List.take
                                                        (Int.toNat
                                                          (Int.tmod (A.wrap IntKind.i64 n)
                                                            (if (↑(0 : Nat) : Int) > (1 : Int) then (↑(0 : Nat) : Int)
                                                            else (1 : Int))))
                                                        ([] : List Int)) &&
                                                    nlB true
                                                      (List.take
                                                        (Int.toNat
                                                          (Int.tmod (A.wrap IntKind.i64 n)
                                                            (if (↑(0 : Nat) : Int) > (1 : Int) then (↑(0 : Nat) : Int)
                                                            else (1 : Int))))
                                                        ([] : List Int)))) then
                                            bif
                                                A.se
                                                  (Option.isSome
                                                    (readC
                                                      (List.take
                                                        (Int.toNat
                                                          (Int.tmod (A.wrap IntKind.i64 n)
                                                            (if (↑(0 : Nat) : Int) > (1 : Int) then (↑(0 : Nat) : Int)
                                                            else (1 : Int))))
                                                        ([] : List Int)))) then
                                              some (X.d Ty.bool false, [])
                                            else some (X.d Ty.bool false, [])
                                          else none
                                        else none
                                    else none
                                  else none
                              else none
                            else some (X.d Ty.bool ((230 : Int) == (230 : Int)), [])
                        else none
                      else none
                    else none
                  else
                    bif decide (((0 : Nat) + List.length l) * (80 : Nat) ≤ (140737488355328 : Nat)) then
                      bif decide ((List.length ([] ++ l) + List.length m) * (80 : Nat) ≤ (140737488355328 : Nat)) then
                        bif A.se (wl ([] ++ l ++ m)) then
                          bif A.se (List.all ([] ++ l ++ m) checkC) then
                            bif ((↑(List.length m) : Int) == (0 : Int)) == false then
                              bif decide ((0 : Int) ≤ (0 : Int) ∧ (0 : Int) < (↑(List.length m) : Int)) then
                                bif !A.se (checkC (List.getD m (Int.toNat (0 : Int)) (Ty.zero cmdT))) then
                                  some (X.d Ty.bool ((0 : Int) == (230 : Int)), [])
                                else
                                  bif
                                      decide
                                        ((0 : Int) ≤ (1 : Int) ∧
                                          (1 : Int) ≤ (↑(List.length m) : Int)) then
                                    bif A.se (wl (List.take (Int.toNat (1 : Int)) m)) then
                                      bif A.se (List.all (List.take (Int.toNat (1 : Int)) m) checkC) then
                                        bif
                                            decide
                                              ((if
                                                    (↑(List.length (A.se (encs (List.take (Int.toNat (1 : Int)) m)))) :
                                                        Int) >
                                                      (1 : Int) then
                                                  (↑(List.length (A.se (encs (List.take (Int.toNat (1 : Int)) m)))) : Int)
                                                else (1 : Int)) =
                                                (0 : Int)) then
                                          none
                                        else
                                          bif
                                              decide
                                                ((0 : Int) ≤
                                                    Int.tmod (A.wrap IntKind.i64 n)
                                                      (if
                                                          (↑(List.length
                                                                  (A.se (encs (List.take (Int.toNat (1 : Int)) m)))) :
                                                              Int) >
                                                            (1 : Int) then
                                                        (↑(List.length (A.se (encs (List.take (Int.toNat (1 : Int)) m)))) :
                                                          Int)
                                                      else (1 : Int)) ∧
                                                  Int.tmod (A.wrap IntKind.i64 n)
                                                      (if
                                                          (↑(List.length
                                                                  (A.se (encs (List.take (Int.toNat (1 : Int)) m)))) :
                                                              Int) >
                                                            (1 : Int) then
                                                        (↑(List.length (A.se (encs (List.take (Int.toNat (1 : Int)) m)))) :
                                                          Int)
                                                      else (1 : Int)) ≤
                                                    (↑(List.length (A.se (encs (List.take (Int.toNat (1 : Int)) m)))) :
                                                      Int)) then
                                            bif
                                                A.se
                                                  (decide
                                                      (List.length
                                                          (List.take
                                                            (Int.toNat
                                                              (Int.tmod (A.wrap IntKind.i64 n)
                                                                (if
                                                                    (↑(List.length
                                                                            (A.se
                                                                              (encs (List.take (Int.toNat (1 : Int)) m)))) :
                                                                        Int) >
                                                                      (1 : Int) then
                                                                  (↑(List.length
                                                                        (A.se (encs (List.take (Int.toNat (1 : Int)) m)))) :
                                                                    Int)
                                                                else (1 : Int))))
                                                            (A.se (encs (List.take (Int.toNat (1 : Int)) m)))) ≤
                                                        (10000000 : Nat)) &&
                                                    (bytesB
                                                        (List.take
                                                          (Int.toNat
                                                            (Int.tmod (A.wrap IntKind.i64 n)
                                                              (if
                                                                  (↑(List.length
                                                                          (A.se
                                                                            (encs (List.take (Int.toNat (1 : Int)) m)))) :
                                                                      Int) >
                                                                    (1 : Int) then
                                                                (↑(List.length
                                                                      (A.se (encs (List.take (Int.toNat (1 : Int)) m)))) :
                                                                  Int)
                                                              else (1 : Int))))
                                                          (A.se (encs (List.take (Int.toNat (1 : Int)) m)))) &&
                                                      nlB (A.se (List.isEmpty (encs (List.take (Int.toNat (1 : Int)) m))))
                                                        (List.take
                                                          (Int.toNat
                                                            (Int.tmod (A.wrap IntKind.i64 n)
                                                              (if
                                                                  (↑(List.length
                                                                          (A.se
                                                                            (encs (List.take (Int.toNat (1 : Int)) m)))) :
                                                                      Int) >
                                                                    (1 : Int) then
                                                                (↑(List.length
                                                                      (A.se (encs (List.take (Int.toNat (1 : Int)) m)))) :
                                                                  Int)
                                                              else (1 : Int))))
                                                          (A.se (encs (List.take (Int.toNat (1 : Int)) m)))))) then
                                              bif
                                                  A.se
                                                    (Option.isSome
                                                      (readC
                                                        (List.take
                                                          (Int.toNat
                                                            (Int.tmod (A.wrap IntKind.i64 n)
                                                              (if
                                                                  (↑(List.length
                                                                          (A.se
                                                                            (encs (List.take (Int.toNat (1 : Int)) m)))) :
                                                                      Int) >
                                                                    (1 : Int) then
                                                                (↑(List.length
                                                                      (A.se (encs (List.take (Int.toNat (1 : Int)) m)))) :
                                                                  Int)
                                                              else (1 : Int))))
                                                          (A.se (encs (List.take (Int.toNat (1 : Int)) m)))))) then
                                                some (X.d Ty.bool false, [])
                                              else some (X.d Ty.bool false, [])
                                            else none
                                          else none
                                      else
                                        bif
                                            decide
                                              ((0 : Int) ≤
                                                  Int.tmod (A.wrap IntKind.i64 n)
                                                    (if (↑(0 : Nat) : Int) > (1 : Int) then (↑(0 : Nat) : Int)
                                                    else (1 : Int)) ∧
                                                Int.tmod (A.wrap IntKind.i64 n)
                                                    (if (↑(0 : Nat) : Int) > (1 : Int) then (↑(0 : Nat) : Int)
                                                    else (1 : Int)) ≤
                                                  (↑(0 : Nat) : Int)) then
                                          bif
                                              A.se
                                                (decide
                                                    (List.length
                                                        (List.take
                                                          (Int.toNat
                                                            (Int.tmod (A.wrap IntKind.i64 n)
                                                              (if (↑(0 : Nat) : Int) > (1 : Int) then (↑(0 : Nat) : Int)
                                                              else (1 : Int))))
                                                          ([] : List Int)) ≤
                                                      (10000000 : Nat)) &&
                                                  (bytesB
                                                      (List.take
                                                        (Int.toNat
                                                          (Int.tmod (A.wrap IntKind.i64 n)
                                                            (if (↑(0 : Nat) : Int) > (1 : Int) then (↑(0 : Nat) : Int)
                                                            else (1 : Int))))
                                                        ([] : List Int)) &&
                                                    nlB true
                                                      (List.take
                                                        (Int.toNat
                                                          (Int.tmod (A.wrap IntKind.i64 n)
                                                            (if (↑(0 : Nat) : Int) > (1 : Int) then (↑(0 : Nat) : Int)
                                                            else (1 : Int))))
                                                        ([] : List Int)))) then
                                            bif
                                                A.se
                                                  (Option.isSome
                                                    (readC
                                                      (List.take
                                                        (Int.toNat
                                                          (Int.tmod (A.wrap IntKind.i64 n)
                                                            (if (↑(0 : Nat) : Int) > (1 : Int) then (↑(0 : Nat) : Int)
                                                            else (1 : Int))))
                                                        ([] : List Int)))) then
                                              some (X.d Ty.bool false, [])
                                            else some (X.d Ty.bool false, [])
                                          else none
                                        else none
                                    else none
                                  else none
                              else none
                            else some (X.d Ty.bool ((0 : Int) == (230 : Int)), [])
                          else
                            bif ((↑(List.length m) : Int) == (0 : Int)) == false then
                              bif decide ((0 : Int) ≤ (0 : Int) ∧ (0 : Int) < (↑(List.length m) : Int)) then
                                bif !A.se (checkC (List.getD m (Int.toNat (0 : Int)) (Ty.zero cmdT))) then
                                  some (X.d Ty.bool ((230 : Int) == (230 : Int)), [])
                                else
                                  bif
                                      decide
                                        ((0 : Int) ≤ (1 : Int) ∧
                                          (1 : Int) ≤ (↑(List.length m) : Int)) then
                                    bif A.se (wl (List.take (Int.toNat (1 : Int)) m)) then
                                      bif A.se (List.all (List.take (Int.toNat (1 : Int)) m) checkC) then
                                        bif
                                            decide
                                              ((if
                                                    (↑(List.length (A.se (encs (List.take (Int.toNat (1 : Int)) m)))) :
                                                        Int) >
                                                      (1 : Int) then
                                                  (↑(List.length (A.se (encs (List.take (Int.toNat (1 : Int)) m)))) : Int)
                                                else (1 : Int)) =
                                                (0 : Int)) then
                                          none
                                        else
                                          bif
                                              decide
                                                ((0 : Int) ≤
                                                    Int.tmod (A.wrap IntKind.i64 n)
                                                      (if
                                                          (↑(List.length
                                                                  (A.se (encs (List.take (Int.toNat (1 : Int)) m)))) :
                                                              Int) >
                                                            (1 : Int) then
                                                        (↑(List.length (A.se (encs (List.take (Int.toNat (1 : Int)) m)))) :
                                                          Int)
                                                      else (1 : Int)) ∧
                                                  Int.tmod (A.wrap IntKind.i64 n)
                                                      (if
                                                          (↑(List.length
                                                                  (A.se (encs (List.take (Int.toNat (1 : Int)) m)))) :
                                                              Int) >
                                                            (1 : Int) then
                                                        (↑(List.length (A.se (encs (List.take (Int.toNat (1 : Int)) m)))) :
                                                          Int)
                                                      else (1 : Int)) ≤
                                                    (↑(List.length (A.se (encs (List.take (Int.toNat (1 : Int)) m)))) :
                                                      Int)) then
                                            bif
                                                A.se
                                                  (decide
                                                      (List.length
                                                          (List.take
                                                            (Int.toNat
                                                              (Int.tmod (A.wrap IntKind.i64 n)
                                                                (if
                                                                    (↑(List.length
                                                                            (A.se
                                                                              (encs (List.take (Int.toNat (1 : Int)) m)))) :
                                                                        Int) >
                                                                      (1 : Int) then
                                                                  (↑(List.length
                                                                        (A.se (encs (List.take (Int.toNat (1 : Int)) m)))) :
                                                                    Int)
                                                                else (1 : Int))))
                                                            (A.se (encs (List.take (Int.toNat (1 : Int)) m)))) ≤
                                                        (10000000 : Nat)) &&
                                                    (bytesB
                                                        (List.take
                                                          (Int.toNat
                                                            (Int.tmod (A.wrap IntKind.i64 n)
                                                              (if
                                                                  (↑(List.length
                                                                          (A.se
                                                                            (encs (List.take (Int.toNat (1 : Int)) m)))) :
                                                                      Int) >
                                                                    (1 : Int) then
                                                                (↑(List.length
                                                                      (A.se (encs (List.take (Int.toNat (1 : Int)) m)))) :
                                                                  Int)
                                                              else (1 : Int))))
                                                          (A.se (encs (List.take (Int.toNat (1 : Int)) m)))) &&
                                                      nlB (A.se (List.isEmpty (encs (List.take (Int.toNat (1 : Int)) m))))
                                                        (List.take
                                                          (Int.toNat
                                                            (Int.tmod (A.wrap IntKind.i64 n)
                                                              (if
                                                                  (↑(List.length
                                                                          (A.se
                                                                            (encs (List.take (Int.toNat (1 : Int)) m)))) :
                                                                      Int) >
                                                                    (1 : Int) then
                                                                (↑(List.length
                                                                      (A.se (encs (List.take (Int.toNat (1 : Int)) m)))) :
                                                                  Int)
                                                              else (1 : Int))))
                                                          (A.se (encs (List.take (Int.toNat (1 : Int)) m)))))) then
                                              bif
                                                  A.se
                                                    (Option.isSome
                                                      (readC
                                                        (List.take
                                                          (Int.toNat
                                                            (Int.tmod (A.wrap IntKind.i64 n)
                                                              (if
                                                                  (↑(List.length
                                                                          (A.se
                                                                            (encs (List.take (Int.toNat (1 : Int)) m)))) :
                                                                      Int) >
                                                                    (1 : Int) then
                                                                (↑(List.length
                                                                      (A.se (encs (List.take (Int.toNat (1 : Int)) m)))) :
                                                                  Int)
                                                              else (1 : Int))))
                                                          (A.se (encs (List.take (Int.toNat (1 : Int)) m)))))) then
                                                bif
                                                    decide
                                                        ((↑(List.length (A.se (encs (List.take (Int.toNat (1 : Int)) m)))) :
                                                            Int) >
                                                          (0 : Int)) ==
                                                      true then
                                                  some
                                                    (X.d Ty.bool
                                                        (((0 : Int) == (0 : Int)) ==
                                                          (Int.tmod (A.wrap IntKind.i64 n)
                                                              (if
                                                                  (↑(List.length
                                                                          (A.se
                                                                            (encs (List.take (Int.toNat (1 : Int)) m)))) :
                                                                      Int) >
                                                                    (1 : Int) then
                                                                (↑(List.length
                                                                      (A.se (encs (List.take (Int.toNat (1 : Int)) m)))) :
                                                                  Int)
                                                              else (1 : Int)) ==
                                                            (0 : Int))),
                                                      [])
                                                else some (X.d Ty.bool false, [])
                                              else
                                                bif
                                                    decide
                                                        ((↑(List.length (A.se (encs (List.take (Int.toNat (1 : Int)) m)))) :
                                                            Int) >
                                                          (0 : Int)) ==
                                                      true then
                                                  some
                                                    (X.d Ty.bool
                                                        (((230 : Int) == (0 : Int)) ==
                                                          (Int.tmod (A.wrap IntKind.i64 n)
                                                              (if
                                                                  (↑(List.length
                                                                          (A.se
                                                                            (encs (List.take (Int.toNat (1 : Int)) m)))) :
                                                                      Int) >
                                                                    (1 : Int) then
                                                                (↑(List.length
                                                                      (A.se (encs (List.take (Int.toNat (1 : Int)) m)))) :
                                                                  Int)
                                                              else (1 : Int)) ==
                                                            (0 : Int))),
                                                      [])
                                                else some (X.d Ty.bool false, [])
                                            else none
                                          else none
                                      else
                                        bif
                                            decide
                                              ((0 : Int) ≤
                                                  Int.tmod (A.wrap IntKind.i64 n)
                                                    (if (↑(0 : Nat) : Int) > (1 : Int) then (↑(0 : Nat) : Int)
                                                    else (1 : Int)) ∧
                                                Int.tmod (A.wrap IntKind.i64 n)
                                                    (if (↑(0 : Nat) : Int) > (1 : Int) then (↑(0 : Nat) : Int)
                                                    else (1 : Int)) ≤
                                                  (↑(0 : Nat) : Int)) then
                                          bif
                                              A.se
                                                (decide
                                                    (List.length
                                                        (List.take
                                                          (Int.toNat
                                                            (Int.tmod (A.wrap IntKind.i64 n)
                                                              (if (↑(0 : Nat) : Int) > (1 : Int) then (↑(0 : Nat) : Int)
                                                              else (1 : Int))))
                                                          ([] : List Int)) ≤
                                                      (10000000 : Nat)) &&
                                                  (bytesB
                                                      (List.take
                                                        (Int.toNat
                                                          (Int.tmod (A.wrap IntKind.i64 n)
                                                            (if (↑(0 : Nat) : Int) > (1 : Int) then (↑(0 : Nat) : Int)
                                                            else (1 : Int))))
                                                        ([] : List Int)) &&
                                                    nlB true
                                                      (List.take
                                                        (Int.toNat
                                                          (Int.tmod (A.wrap IntKind.i64 n)
                                                            (if (↑(0 : Nat) : Int) > (1 : Int) then (↑(0 : Nat) : Int)
                                                            else (1 : Int))))
                                                        ([] : List Int)))) then
                                            bif
                                                A.se
                                                  (Option.isSome
                                                    (readC
                                                      (List.take
                                                        (Int.toNat
                                                          (Int.tmod (A.wrap IntKind.i64 n)
                                                            (if (↑(0 : Nat) : Int) > (1 : Int) then (↑(0 : Nat) : Int)
                                                            else (1 : Int))))
                                                        ([] : List Int)))) then
                                              some (X.d Ty.bool false, [])
                                            else some (X.d Ty.bool false, [])
                                          else none
                                        else none
                                    else none
                                  else none
                              else none
                            else some (X.d Ty.bool ((230 : Int) == (230 : Int)), [])
                        else none
                      else none
                    else none
                else none
            else none
        else none
      else some (X.d Ty.bool true, [])
    else none) := by kernel_rfl
theorem tLjoinsG (A : Ar) (l : List Cm) (nl : Bool) (m : List Cm) (nm : Bool) (n : Int) : bodyX (Cx A (OscG A) noL) 200 Try.f5 [cms l (some nl) false, cms m (some nm) false, u16x n] [] =
    (bif A.se (decide (List.length l ≤ (9223372036854775807 : Nat))) then
      bif (!A.se (List.all l small && decide ((↑(List.length l) : Int) ≤ (100 : Int)))) == false then
        bif A.se (decide (List.length m ≤ (9223372036854775807 : Nat))) then
          bif !A.se (List.all m small && decide ((↑(List.length m) : Int) ≤ (100 : Int))) then some (X.d Ty.bool true, [])
          else
            bif A.se (wl l && List.all l checkC) then
              bif A.se (wl m && List.all m checkC) then
                bif decide (((0 : Nat) + List.length l) * (80 : Nat) ≤ (140737488355328 : Nat)) then
                  bif decide ((List.length ([] ++ l) + List.length m) * (80 : Nat) ≤ (140737488355328 : Nat)) then
                    bif A.se (wl ([] ++ l ++ m) && List.all ([] ++ l ++ m) checkC) then
                      bif decide (((0 : Nat) + List.length (A.se (encs l))) * (1 : Nat) ≤ (140737488355328 : Nat)) then
                        bif
                            decide
                              ((List.length ([] ++ A.se (encs l)) + List.length (A.se (encs m))) * (1 : Nat) ≤
                                (140737488355328 : Nat)) then
                          bif
                              A.seq (strOf (A.se (encs ([] ++ l ++ m)))) (strOf ([] ++ A.se (encs l) ++ A.se (encs m))) ==
                                false then
                            bif ((↑(List.length m) : Int) == (0 : Int)) == false then
                              bif decide ((0 : Int) ≤ (0 : Int) ∧ (0 : Int) < (↑(List.length m) : Int)) then
                                bif !A.se (checkC (List.getD m (Int.toNat (0 : Int)) (Ty.zero cmdT))) then
                                  some (X.d Ty.bool false, [])
                                else
                                  bif
                                      decide
                                        ((0 : Int) ≤ (1 : Int) ∧
                                          (1 : Int) ≤ (↑(List.length m) : Int)) then
                                    bif
                                        A.se
                                          (wl (List.take (Int.toNat (1 : Int)) m) &&
                                            List.all (List.take (Int.toNat (1 : Int)) m) checkC) then
                                      bif
                                          decide
                                            ((if
                                                  (↑(List.length (A.se (encs (List.take (Int.toNat (1 : Int)) m)))) : Int) >
                                                    (1 : Int) then
                                                (↑(List.length (A.se (encs (List.take (Int.toNat (1 : Int)) m)))) : Int)
                                              else (1 : Int)) =
                                              (0 : Int)) then
                                        none
                                      else
                                        bif
                                            decide
                                              ((0 : Int) ≤
                                                  Int.tmod (A.wrap IntKind.i64 n)
                                                    (if
                                                        (↑(List.length (A.se (encs (List.take (Int.toNat (1 : Int)) m)))) :
                                                            Int) >
                                                          (1 : Int) then
                                                      (↑(List.length (A.se (encs (List.take (Int.toNat (1 : Int)) m)))) :
                                                        Int)
                                                    else (1 : Int)) ∧
                                                Int.tmod (A.wrap IntKind.i64 n)
                                                    (if
                                                        (↑(List.length (A.se (encs (List.take (Int.toNat (1 : Int)) m)))) :
                                                            Int) >
                                                          (1 : Int) then
                                                      (↑(List.length (A.se (encs (List.take (Int.toNat (1 : Int)) m)))) :
                                                        Int)
                                                    else (1 : Int)) ≤
                                                  (↑(List.length (A.se (encs (List.take (Int.toNat (1 : Int)) m)))) :
                                                    Int)) then
                                          bif
                                              A.se
                                                (decide
                                                    (List.length
                                                        (List.take
                                                          (Int.toNat
                                                            (Int.tmod (A.wrap IntKind.i64 n)
                                                              (if
                                                                  (↑(List.length
                                                                          (A.se
                                                                            (encs (List.take (Int.toNat (1 : Int)) m)))) :
                                                                      Int) >
                                                                    (1 : Int) then
                                                                (↑(List.length
                                                                      (A.se (encs (List.take (Int.toNat (1 : Int)) m)))) :
                                                                  Int)
                                                              else (1 : Int))))
                                                          (A.se (encs (List.take (Int.toNat (1 : Int)) m)))) ≤
                                                      (10000000 : Nat)) &&
                                                  (bytesB
                                                      (List.take
                                                        (Int.toNat
                                                          (Int.tmod (A.wrap IntKind.i64 n)
                                                            (if
                                                                (↑(List.length
                                                                        (A.se (encs (List.take (Int.toNat (1 : Int)) m)))) :
                                                                    Int) >
                                                                  (1 : Int) then
                                                              (↑(List.length
                                                                    (A.se (encs (List.take (Int.toNat (1 : Int)) m)))) :
                                                                Int)
                                                            else (1 : Int))))
                                                        (A.se (encs (List.take (Int.toNat (1 : Int)) m)))) &&
                                                    nlB (A.se (List.isEmpty (encs (List.take (Int.toNat (1 : Int)) m))))
                                                      (List.take
                                                        (Int.toNat
                                                          (Int.tmod (A.wrap IntKind.i64 n)
                                                            (if
                                                                (↑(List.length
                                                                        (A.se (encs (List.take (Int.toNat (1 : Int)) m)))) :
                                                                    Int) >
                                                                  (1 : Int) then
                                                              (↑(List.length
                                                                    (A.se (encs (List.take (Int.toNat (1 : Int)) m)))) :
                                                                Int)
                                                            else (1 : Int))))
                                                        (A.se (encs (List.take (Int.toNat (1 : Int)) m)))))) then
                                            bif
                                                A.se
                                                  (Option.isSome
                                                    (readC
                                                      (List.take
                                                        (Int.toNat
                                                          (Int.tmod (A.wrap IntKind.i64 n)
                                                            (if
                                                                (↑(List.length
                                                                        (A.se (encs (List.take (Int.toNat (1 : Int)) m)))) :
                                                                    Int) >
                                                                  (1 : Int) then
                                                              (↑(List.length
                                                                    (A.se (encs (List.take (Int.toNat (1 : Int)) m)))) :
                                                                Int)
                                                            else (1 : Int))))
                                                        (A.se (encs (List.take (Int.toNat (1 : Int)) m)))))) then
                                              some (X.d Ty.bool false, [])
                                            else some (X.d Ty.bool false, [])
                                          else none
                                        else none
                                    else none
                                  else none
                              else none
                            else some (X.d Ty.bool false, [])
                          else
                            bif ((↑(List.length m) : Int) == (0 : Int)) == false then
                              bif decide ((0 : Int) ≤ (0 : Int) ∧ (0 : Int) < (↑(List.length m) : Int)) then
                                bif !A.se (checkC (List.getD m (Int.toNat (0 : Int)) (Ty.zero cmdT))) then
                                  some (X.d Ty.bool true, [])
                                else
                                  bif
                                      decide
                                        ((0 : Int) ≤ (1 : Int) ∧
                                          (1 : Int) ≤ (↑(List.length m) : Int)) then
                                    bif
                                        A.se
                                          (wl (List.take (Int.toNat (1 : Int)) m) &&
                                            List.all (List.take (Int.toNat (1 : Int)) m) checkC) then
                                      bif
                                          decide
                                            ((if
                                                  (↑(List.length (A.se (encs (List.take (Int.toNat (1 : Int)) m)))) : Int) >
                                                    (1 : Int) then
                                                (↑(List.length (A.se (encs (List.take (Int.toNat (1 : Int)) m)))) : Int)
                                              else (1 : Int)) =
                                              (0 : Int)) then
                                        none
                                      else
                                        bif
                                            decide
                                              ((0 : Int) ≤
                                                  Int.tmod (A.wrap IntKind.i64 n)
                                                    (if
                                                        (↑(List.length (A.se (encs (List.take (Int.toNat (1 : Int)) m)))) :
                                                            Int) >
                                                          (1 : Int) then
                                                      (↑(List.length (A.se (encs (List.take (Int.toNat (1 : Int)) m)))) :
                                                        Int)
                                                    else (1 : Int)) ∧
                                                Int.tmod (A.wrap IntKind.i64 n)
                                                    (if
                                                        (↑(List.length (A.se (encs (List.take (Int.toNat (1 : Int)) m)))) :
                                                            Int) >
                                                          (1 : Int) then
                                                      (↑(List.length (A.se (encs (List.take (Int.toNat (1 : Int)) m)))) :
                                                        Int)
                                                    else (1 : Int)) ≤
                                                  (↑(List.length (A.se (encs (List.take (Int.toNat (1 : Int)) m)))) :
                                                    Int)) then
                                          bif
                                              A.se
                                                (decide
                                                    (List.length
                                                        (List.take
                                                          (Int.toNat
                                                            (Int.tmod (A.wrap IntKind.i64 n)
                                                              (if
                                                                  (↑(List.length
                                                                          (A.se
                                                                            (encs (List.take (Int.toNat (1 : Int)) m)))) :
                                                                      Int) >
                                                                    (1 : Int) then
                                                                (↑(List.length
                                                                      (A.se (encs (List.take (Int.toNat (1 : Int)) m)))) :
                                                                  Int)
                                                              else (1 : Int))))
                                                          (A.se (encs (List.take (Int.toNat (1 : Int)) m)))) ≤
                                                      (10000000 : Nat)) &&
                                                  (bytesB
                                                      (List.take
                                                        (Int.toNat
                                                          (Int.tmod (A.wrap IntKind.i64 n)
                                                            (if
                                                                (↑(List.length
                                                                        (A.se (encs (List.take (Int.toNat (1 : Int)) m)))) :
                                                                    Int) >
                                                                  (1 : Int) then
                                                              (↑(List.length
                                                                    (A.se (encs (List.take (Int.toNat (1 : Int)) m)))) :
                                                                Int)
                                                            else (1 : Int))))
                                                        (A.se (encs (List.take (Int.toNat (1 : Int)) m)))) &&
                                                    nlB (A.se (List.isEmpty (encs (List.take (Int.toNat (1 : Int)) m))))
                                                      (List.take
                                                        (Int.toNat
                                                          (Int.tmod (A.wrap IntKind.i64 n)
                                                            (if
                                                                (↑(List.length
                                                                        (A.se (encs (List.take (Int.toNat (1 : Int)) m)))) :
                                                                    Int) >
                                                                  (1 : Int) then
                                                              (↑(List.length
                                                                    (A.se (encs (List.take (Int.toNat (1 : Int)) m)))) :
                                                                Int)
                                                            else (1 : Int))))
                                                        (A.se (encs (List.take (Int.toNat (1 : Int)) m)))))) then
                                            bif
                                                A.se
                                                  (Option.isSome
                                                    (readC
                                                      (List.take
                                                        (Int.toNat
                                                          (Int.tmod (A.wrap IntKind.i64 n)
                                                            (if
                                                                (↑(List.length
                                                                        (A.se (encs (List.take (Int.toNat (1 : Int)) m)))) :
                                                                    Int) >
                                                                  (1 : Int) then
                                                              (↑(List.length
                                                                    (A.se (encs (List.take (Int.toNat (1 : Int)) m)))) :
                                                                Int)
                                                            else (1 : Int))))
                                                        (A.se (encs (List.take (Int.toNat (1 : Int)) m)))))) then
                                              bif
                                                  decide
                                                      ((↑(List.length (A.se (encs (List.take (Int.toNat (1 : Int)) m)))) :
                                                          Int) >
                                                        (0 : Int)) ==
                                                    true then
                                                some
                                                  (X.d Ty.bool
                                                      (((0 : Int) == (0 : Int)) ==
                                                        (Int.tmod (A.wrap IntKind.i64 n)
                                                            (if
                                                                (↑(List.length
                                                                        (A.se (encs (List.take (Int.toNat (1 : Int)) m)))) :
                                                                    Int) >
                                                                  (1 : Int) then
                                                              (↑(List.length
                                                                    (A.se (encs (List.take (Int.toNat (1 : Int)) m)))) :
                                                                Int)
                                                            else (1 : Int)) ==
                                                          (0 : Int))),
                                                    [])
                                              else some (X.d Ty.bool false, [])
                                            else
                                              bif
                                                  decide
                                                      ((↑(List.length (A.se (encs (List.take (Int.toNat (1 : Int)) m)))) :
                                                          Int) >
                                                        (0 : Int)) ==
                                                    true then
                                                some
                                                  (X.d Ty.bool
                                                      (((230 : Int) == (0 : Int)) ==
                                                        (Int.tmod (A.wrap IntKind.i64 n)
                                                            (if
                                                                (↑(List.length
                                                                        (A.se (encs (List.take (Int.toNat (1 : Int)) m)))) :
                                                                    Int) >
                                                                  (1 : Int) then
                                                              (↑(List.length
                                                                    (A.se (encs (List.take (Int.toNat (1 : Int)) m)))) :
                                                                Int)
                                                            else (1 : Int)) ==
                                                          (0 : Int))),
                                                    [])
                                              else some (X.d Ty.bool false, [])
                                          else none
                                        else none
                                    else none
                                  else none
                              else none
                            else some (X.d Ty.bool true, [])
                        else none
                      else none
                    else none
                  else none
                else none
              else none
            else none
        else none
      else some (X.d Ty.bool true, [])
    else none) := by kernel_rfl
end Go.Proofs.Ytgickaihlebgmaa.V

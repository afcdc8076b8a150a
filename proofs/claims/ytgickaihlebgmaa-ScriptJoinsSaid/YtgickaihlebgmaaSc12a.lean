/-
  Chapter 23: the statements' trees. By program; each equation is checked by the kernel.
  It speaks of the pinned program alone; no condition.
-/
import Derived.Test.YtgickaihlebgmaaSc12
namespace Go.Proofs.Ytgickaihlebgmaa.V
open Go
set_option linter.unusedVariables false

theorem tLtells (A : Ar) (l : List Cm) (nl : Bool) (c : Cm) (b : List Int) (nb : Bool) : bodyX (Cx A (Osc A) noL) 200 Try.f3 [cms l (some nl) false, cmx c, u8s b (some nb) false] [] =
    (bif A.se (decide (List.length l ≤ (9223372036854775807 : Nat))) then
      bif (!A.se (List.all l small && decide ((↑(List.length l) : Int) ≤ (100 : Int)))) == false then
        bif decide ((↑(List.length b) : Int) > (9000 : Int)) then
          some
            (X.d Ty.bool true,
              [(Ty.struct
                    (Ty.prod (Ty.int IntKind.i64)
                      (Ty.prod (Ty.slice (Ty.int IntKind.u8))
                        (Ty.prod (Ty.slice (Ty.int IntKind.u8))
                          (Ty.prod (Ty.int IntKind.i64)
                            (Ty.prod (Ty.int IntKind.u64) (Ty.prod (Ty.int IntKind.i64) Ty.unit)))))),
                  X.d cmdT c)])
        else
          bif A.se (wl l) then
            bif A.se (wl l) then
              bif A.se (decide (List.length b ≤ (10000000 : Nat)) && (bytesB b && nlB nb b)) then
                bif A.se (decide (List.length b ≤ (10000000 : Nat)) && (bytesB b && nlB nb b)) then
                  bif A.seq (strOf (A.se (writeB l))) (strOf (A.se (writeB l))) == true then
                    bif (A.se (writeE l) == A.se (writeE l)) == true then
                      bif
                          A.se
                            (decide (List.length (A.se (readR b)) ≤ (1000000000 : Nat)) &&
                              (List.all (A.se (readR b)) wfB && List.all (A.se (readR b)) wfB)) then
                        bif A.se (eqCs (A.se (readR b)) (A.se (readR b))) == true then
                          bif (A.se (readE b) == A.se (readE b)) == true then
                            some
                              (X.d Ty.bool (A.se (checkC c) == A.se (checkC c)),
                                [(Ty.struct
                                      (Ty.prod (Ty.int IntKind.i64)
                                        (Ty.prod (Ty.slice (Ty.int IntKind.u8))
                                          (Ty.prod (Ty.slice (Ty.int IntKind.u8))
                                            (Ty.prod (Ty.int IntKind.i64)
                                              (Ty.prod (Ty.int IntKind.u64) (Ty.prod (Ty.int IntKind.i64) Ty.unit)))))),
                                    X.d cmdT c)])
                          else
                            some
                              (X.d Ty.bool false,
                                [(Ty.struct
                                      (Ty.prod (Ty.int IntKind.i64)
                                        (Ty.prod (Ty.slice (Ty.int IntKind.u8))
                                          (Ty.prod (Ty.slice (Ty.int IntKind.u8))
                                            (Ty.prod (Ty.int IntKind.i64)
                                              (Ty.prod (Ty.int IntKind.u64) (Ty.prod (Ty.int IntKind.i64) Ty.unit)))))),
                                    X.d cmdT c)])
                        else
                          some
                            (X.d Ty.bool false,
                              [(Ty.struct
                                    (Ty.prod (Ty.int IntKind.i64)
                                      (Ty.prod (Ty.slice (Ty.int IntKind.u8))
                                        (Ty.prod (Ty.slice (Ty.int IntKind.u8))
                                          (Ty.prod (Ty.int IntKind.i64)
                                            (Ty.prod (Ty.int IntKind.u64) (Ty.prod (Ty.int IntKind.i64) Ty.unit)))))),
                                  X.d cmdT c)])
                      else none
                    else
                      some
                        (X.d Ty.bool false,
                          [(Ty.struct
                                (Ty.prod (Ty.int IntKind.i64)
                                  (Ty.prod (Ty.slice (Ty.int IntKind.u8))
                                    (Ty.prod (Ty.slice (Ty.int IntKind.u8))
                                      (Ty.prod (Ty.int IntKind.i64)
                                        (Ty.prod (Ty.int IntKind.u64) (Ty.prod (Ty.int IntKind.i64) Ty.unit)))))),
                              X.d cmdT c)])
                  else
                    some
                      (X.d Ty.bool false,
                        [(Ty.struct
                              (Ty.prod (Ty.int IntKind.i64)
                                (Ty.prod (Ty.slice (Ty.int IntKind.u8))
                                  (Ty.prod (Ty.slice (Ty.int IntKind.u8))
                                    (Ty.prod (Ty.int IntKind.i64)
                                      (Ty.prod (Ty.int IntKind.u64) (Ty.prod (Ty.int IntKind.i64) Ty.unit)))))),
                            X.d cmdT c)])
                else none
              else none
            else none
          else none
      else
        some
          (X.d Ty.bool true,
            [(Ty.struct
                  (Ty.prod (Ty.int IntKind.i64)
                    (Ty.prod (Ty.slice (Ty.int IntKind.u8))
                      (Ty.prod (Ty.slice (Ty.int IntKind.u8))
                        (Ty.prod (Ty.int IntKind.i64)
                          (Ty.prod (Ty.int IntKind.u64) (Ty.prod (Ty.int IntKind.i64) Ty.unit)))))),
                X.d cmdT c)])
    else none) := by kernel_rfl
theorem tLsizes (A : Ar) (c : Cm) : bodyX (Cx A (Osc A) noL) 200 Try.f6 [cmx c] [] =
    (bif decide ((↑(List.length c.snd.fst) : Int) > (3000 : Int)) == false then
      bif decide ((↑(List.length c.snd.snd.fst) : Int) > (3000 : Int)) then
        some
          (X.d Ty.bool true,
            [(Ty.struct
                  (Ty.prod (Ty.int IntKind.i64)
                    (Ty.prod (Ty.slice (Ty.int IntKind.u8))
                      (Ty.prod (Ty.slice (Ty.int IntKind.u8))
                        (Ty.prod (Ty.int IntKind.i64)
                          (Ty.prod (Ty.int IntKind.u64) (Ty.prod (Ty.int IntKind.i64) Ty.unit)))))),
                X.d cmdT c)])
      else
        bif A.se (wl [c]) then
          bif A.se (writeE [c]) != (0 : Int) then
            bif ((↑(List.length (A.se (writeB [c]))) : Int) == (0 : Int)) == true then
              some
                (X.d Ty.bool !A.se (checkC c),
                  [(Ty.struct
                        (Ty.prod (Ty.int IntKind.i64)
                          (Ty.prod (Ty.slice (Ty.int IntKind.u8))
                            (Ty.prod (Ty.slice (Ty.int IntKind.u8))
                              (Ty.prod (Ty.int IntKind.i64)
                                (Ty.prod (Ty.int IntKind.u64) (Ty.prod (Ty.int IntKind.i64) Ty.unit)))))),
                      X.d cmdT c)])
            else
              some
                (X.d Ty.bool false,
                  [(Ty.struct
                        (Ty.prod (Ty.int IntKind.i64)
                          (Ty.prod (Ty.slice (Ty.int IntKind.u8))
                            (Ty.prod (Ty.slice (Ty.int IntKind.u8))
                              (Ty.prod (Ty.int IntKind.i64)
                                (Ty.prod (Ty.int IntKind.u64) (Ty.prod (Ty.int IntKind.i64) Ty.unit)))))),
                      X.d cmdT c)])
          else
            bif c.fst != (3 : Int) then
              bif A.se (isU64 (A.wrap IntKind.u64 (↑(List.length c.snd.fst) : Int))) then
                bif c.fst == (1 : Int) then
                  bif A.se (isU64 (A.wrap IntKind.u64 (↑(List.length c.snd.snd.fst) : Int))) then
                    bif c.fst == (5 : Int) then
                      bif A.se (isU64 (A.wrap IntKind.u64 c.snd.snd.snd.fst)) then
                        bif A.se (isU64 c.snd.snd.snd.snd.fst) then
                          bif A.se (isU64 (A.wrap IntKind.u64 c.snd.snd.snd.snd.snd.fst)) then
                            bif
                                ((↑(List.length (A.se (writeB [c]))) : Int) ==
                                    A.wrap IntKind.i64
                                      (A.wrap IntKind.i64
                                          (A.wrap IntKind.i64
                                              (A.wrap IntKind.i64
                                                  (A.wrap IntKind.i64
                                                      (A.wrap IntKind.i64
                                                          (A.wrap IntKind.i64
                                                              ((1 : Int) +
                                                                A.se
                                                                  (↑(List.length
                                                                        (vb
                                                                          (Int.toNat
                                                                            (A.wrap IntKind.u64
                                                                              (↑(List.length c.snd.fst) : Int))))) :
                                                                    Int)) +
                                                            (↑(List.length c.snd.fst) : Int)) +
                                                        A.se
                                                          (↑(List.length
                                                                (vb
                                                                  (Int.toNat
                                                                    (A.wrap IntKind.u64
                                                                      (↑(List.length c.snd.snd.fst) : Int))))) :
                                                            Int)) +
                                                    (↑(List.length c.snd.snd.fst) : Int)) +
                                                A.se
                                                  (↑(List.length (vb (Int.toNat (A.wrap IntKind.u64 c.snd.snd.snd.fst)))) :
                                                    Int)) +
                                            A.se (↑(List.length (vb (Int.toNat c.snd.snd.snd.snd.fst))) : Int)) +
                                        A.se
                                          (↑(List.length (vb (Int.toNat (A.wrap IntKind.u64 c.snd.snd.snd.snd.snd.fst)))) :
                                            Int))) ==
                                  true then
                              bif
                                  decide
                                    ((0 : Int) ≤ (0 : Int) ∧ (0 : Int) < (↑(List.length (A.se (writeB [c]))) : Int)) then
                                some
                                  (X.d Ty.bool
                                      (A.wrap IntKind.i64
                                          (List.getD (A.se (writeB [c])) (Int.toNat (0 : Int))
                                            (0 : Int)) ==
                                        c.fst),
                                    [(Ty.struct
                                          (Ty.prod (Ty.int IntKind.i64)
                                            (Ty.prod (Ty.slice (Ty.int IntKind.u8))
                                              (Ty.prod (Ty.slice (Ty.int IntKind.u8))
                                                (Ty.prod (Ty.int IntKind.i64)
                                                  (Ty.prod (Ty.int IntKind.u64) (Ty.prod (Ty.int IntKind.i64) Ty.unit)))))),
                                        X.d cmdT c)])
                              else none
                            else
                              some
                                (X.d Ty.bool false,
                                  [(Ty.struct
                                        (Ty.prod (Ty.int IntKind.i64)
                                          (Ty.prod (Ty.slice (Ty.int IntKind.u8))
                                            (Ty.prod (Ty.slice (Ty.int IntKind.u8))
                                              (Ty.prod (Ty.int IntKind.i64)
                                                (Ty.prod (Ty.int IntKind.u64) (Ty.prod (Ty.int IntKind.i64) Ty.unit)))))),
                                      X.d cmdT c)])
                          else none
                        else none
                      else none
                    else
                      bif
                          ((↑(List.length (A.se (writeB [c]))) : Int) ==
                              A.wrap IntKind.i64
                                (A.wrap IntKind.i64
                                    (A.wrap IntKind.i64
                                        (A.wrap IntKind.i64
                                            ((1 : Int) +
                                              A.se
                                                (↑(List.length
                                                      (vb
                                                        (Int.toNat
                                                          (A.wrap IntKind.u64 (↑(List.length c.snd.fst) : Int))))) :
                                                  Int)) +
                                          (↑(List.length c.snd.fst) : Int)) +
                                      A.se
                                        (↑(List.length
                                              (vb (Int.toNat (A.wrap IntKind.u64 (↑(List.length c.snd.snd.fst) : Int))))) :
                                          Int)) +
                                  (↑(List.length c.snd.snd.fst) : Int))) ==
                            true then
                        bif decide ((0 : Int) ≤ (0 : Int) ∧ (0 : Int) < (↑(List.length (A.se (writeB [c]))) : Int)) then
                          some
                            (X.d Ty.bool
                                (A.wrap IntKind.i64
                                    (List.getD (A.se (writeB [c])) (Int.toNat (0 : Int)) (0 : Int)) ==
                                  c.fst),
                              [(Ty.struct
                                    (Ty.prod (Ty.int IntKind.i64)
                                      (Ty.prod (Ty.slice (Ty.int IntKind.u8))
                                        (Ty.prod (Ty.slice (Ty.int IntKind.u8))
                                          (Ty.prod (Ty.int IntKind.i64)
                                            (Ty.prod (Ty.int IntKind.u64) (Ty.prod (Ty.int IntKind.i64) Ty.unit)))))),
                                  X.d cmdT c)])
                        else none
                      else
                        some
                          (X.d Ty.bool false,
                            [(Ty.struct
                                  (Ty.prod (Ty.int IntKind.i64)
                                    (Ty.prod (Ty.slice (Ty.int IntKind.u8))
                                      (Ty.prod (Ty.slice (Ty.int IntKind.u8))
                                        (Ty.prod (Ty.int IntKind.i64)
                                          (Ty.prod (Ty.int IntKind.u64) (Ty.prod (Ty.int IntKind.i64) Ty.unit)))))),
                                X.d cmdT c)])
                  else none
                else
                  bif c.fst == (5 : Int) then
                    bif A.se (isU64 (A.wrap IntKind.u64 c.snd.snd.snd.fst)) then
                      bif A.se (isU64 c.snd.snd.snd.snd.fst) then
                        bif A.se (isU64 (A.wrap IntKind.u64 c.snd.snd.snd.snd.snd.fst)) then
                          bif
                              ((↑(List.length (A.se (writeB [c]))) : Int) ==
                                  A.wrap IntKind.i64
                                    (A.wrap IntKind.i64
                                        (A.wrap IntKind.i64
                                            (A.wrap IntKind.i64
                                                (A.wrap IntKind.i64
                                                    ((1 : Int) +
                                                      A.se
                                                        (↑(List.length
                                                              (vb
                                                                (Int.toNat
                                                                  (A.wrap IntKind.u64 (↑(List.length c.snd.fst) : Int))))) :
                                                          Int)) +
                                                  (↑(List.length c.snd.fst) : Int)) +
                                              A.se
                                                (↑(List.length (vb (Int.toNat (A.wrap IntKind.u64 c.snd.snd.snd.fst)))) :
                                                  Int)) +
                                          A.se (↑(List.length (vb (Int.toNat c.snd.snd.snd.snd.fst))) : Int)) +
                                      A.se
                                        (↑(List.length (vb (Int.toNat (A.wrap IntKind.u64 c.snd.snd.snd.snd.snd.fst)))) :
                                          Int))) ==
                                true then
                            bif decide ((0 : Int) ≤ (0 : Int) ∧ (0 : Int) < (↑(List.length (A.se (writeB [c]))) : Int)) then
                              some
                                (X.d Ty.bool
                                    (A.wrap IntKind.i64
                                        (List.getD (A.se (writeB [c])) (Int.toNat (0 : Int))
                                          (0 : Int)) ==
                                      c.fst),
                                  [(Ty.struct
                                        (Ty.prod (Ty.int IntKind.i64)
                                          (Ty.prod (Ty.slice (Ty.int IntKind.u8))
                                            (Ty.prod (Ty.slice (Ty.int IntKind.u8))
                                              (Ty.prod (Ty.int IntKind.i64)
                                                (Ty.prod (Ty.int IntKind.u64) (Ty.prod (Ty.int IntKind.i64) Ty.unit)))))),
                                      X.d cmdT c)])
                            else none
                          else
                            some
                              (X.d Ty.bool false,
                                [(Ty.struct
                                      (Ty.prod (Ty.int IntKind.i64)
                                        (Ty.prod (Ty.slice (Ty.int IntKind.u8))
                                          (Ty.prod (Ty.slice (Ty.int IntKind.u8))
                                            (Ty.prod (Ty.int IntKind.i64)
                                              (Ty.prod (Ty.int IntKind.u64) (Ty.prod (Ty.int IntKind.i64) Ty.unit)))))),
                                    X.d cmdT c)])
                        else none
                      else none
                    else none
                  else
                    bif
                        ((↑(List.length (A.se (writeB [c]))) : Int) ==
                            A.wrap IntKind.i64
                              (A.wrap IntKind.i64
                                  ((1 : Int) +
                                    A.se
                                      (↑(List.length
                                            (vb (Int.toNat (A.wrap IntKind.u64 (↑(List.length c.snd.fst) : Int))))) :
                                        Int)) +
                                (↑(List.length c.snd.fst) : Int))) ==
                          true then
                      bif decide ((0 : Int) ≤ (0 : Int) ∧ (0 : Int) < (↑(List.length (A.se (writeB [c]))) : Int)) then
                        some
                          (X.d Ty.bool
                              (A.wrap IntKind.i64
                                  (List.getD (A.se (writeB [c])) (Int.toNat (0 : Int)) (0 : Int)) ==
                                c.fst),
                            [(Ty.struct
                                  (Ty.prod (Ty.int IntKind.i64)
                                    (Ty.prod (Ty.slice (Ty.int IntKind.u8))
                                      (Ty.prod (Ty.slice (Ty.int IntKind.u8))
                                        (Ty.prod (Ty.int IntKind.i64)
                                          (Ty.prod (Ty.int IntKind.u64) (Ty.prod (Ty.int IntKind.i64) Ty.unit)))))),
                                X.d cmdT c)])
                      else none
                    else
                      some
                        (X.d Ty.bool false,
                          [(Ty.struct
                                (Ty.prod (Ty.int IntKind.i64)
                                  (Ty.prod (Ty.slice (Ty.int IntKind.u8))
                                    (Ty.prod (Ty.slice (Ty.int IntKind.u8))
                                      (Ty.prod (Ty.int IntKind.i64)
                                        (Ty.prod (Ty.int IntKind.u64) (Ty.prod (Ty.int IntKind.i64) Ty.unit)))))),
                              X.d cmdT c)])
              else none
            else
              bif c.fst == (1 : Int) then
                bif A.se (isU64 (A.wrap IntKind.u64 (↑(List.length c.snd.snd.fst) : Int))) then
                  bif c.fst == (5 : Int) then
                    bif A.se (isU64 (A.wrap IntKind.u64 c.snd.snd.snd.fst)) then
                      bif A.se (isU64 c.snd.snd.snd.snd.fst) then
                        bif A.se (isU64 (A.wrap IntKind.u64 c.snd.snd.snd.snd.snd.fst)) then
                          bif
                              ((↑(List.length (A.se (writeB [c]))) : Int) ==
                                  A.wrap IntKind.i64
                                    (A.wrap IntKind.i64
                                        (A.wrap IntKind.i64
                                            (A.wrap IntKind.i64
                                                (A.wrap IntKind.i64
                                                    ((1 : Int) +
                                                      A.se
                                                        (↑(List.length
                                                              (vb
                                                                (Int.toNat
                                                                  (A.wrap IntKind.u64
                                                                    (↑(List.length c.snd.snd.fst) : Int))))) :
                                                          Int)) +
                                                  (↑(List.length c.snd.snd.fst) : Int)) +
                                              A.se
                                                (↑(List.length (vb (Int.toNat (A.wrap IntKind.u64 c.snd.snd.snd.fst)))) :
                                                  Int)) +
                                          A.se (↑(List.length (vb (Int.toNat c.snd.snd.snd.snd.fst))) : Int)) +
                                      A.se
                                        (↑(List.length (vb (Int.toNat (A.wrap IntKind.u64 c.snd.snd.snd.snd.snd.fst)))) :
                                          Int))) ==
                                true then
                            bif decide ((0 : Int) ≤ (0 : Int) ∧ (0 : Int) < (↑(List.length (A.se (writeB [c]))) : Int)) then
                              some
                                (X.d Ty.bool
                                    (A.wrap IntKind.i64
                                        (List.getD (A.se (writeB [c])) (Int.toNat (0 : Int))
                                          (0 : Int)) ==
                                      c.fst),
                                  [(Ty.struct
                                        (Ty.prod (Ty.int IntKind.i64)
                                          (Ty.prod (Ty.slice (Ty.int IntKind.u8))
                                            (Ty.prod (Ty.slice (Ty.int IntKind.u8))
                                              (Ty.prod (Ty.int IntKind.i64)
                                                (Ty.prod (Ty.int IntKind.u64) (Ty.prod (Ty.int IntKind.i64) Ty.unit)))))),
                                      X.d cmdT c)])
                            else none
                          else
                            some
                              (X.d Ty.bool false,
                                [(Ty.struct
                                      (Ty.prod (Ty.int IntKind.i64)
                                        (Ty.prod (Ty.slice (Ty.int IntKind.u8))
                                          (Ty.prod (Ty.slice (Ty.int IntKind.u8))
                                            (Ty.prod (Ty.int IntKind.i64)
                                              (Ty.prod (Ty.int IntKind.u64) (Ty.prod (Ty.int IntKind.i64) Ty.unit)))))),
                                    X.d cmdT c)])
                        else none
                      else none
                    else none
                  else
                    bif
                        ((↑(List.length (A.se (writeB [c]))) : Int) ==
                            A.wrap IntKind.i64
                              (A.wrap IntKind.i64
                                  ((1 : Int) +
                                    A.se
                                      (↑(List.length
                                            (vb (Int.toNat (A.wrap IntKind.u64 (↑(List.length c.snd.snd.fst) : Int))))) :
                                        Int)) +
                                (↑(List.length c.snd.snd.fst) : Int))) ==
                          true then
                      bif decide ((0 : Int) ≤ (0 : Int) ∧ (0 : Int) < (↑(List.length (A.se (writeB [c]))) : Int)) then
                        some
                          (X.d Ty.bool
                              (A.wrap IntKind.i64
                                  (List.getD (A.se (writeB [c])) (Int.toNat (0 : Int)) (0 : Int)) ==
                                c.fst),
                            [(Ty.struct
                                  (Ty.prod (Ty.int IntKind.i64)
                                    (Ty.prod (Ty.slice (Ty.int IntKind.u8))
                                      (Ty.prod (Ty.slice (Ty.int IntKind.u8))
                                        (Ty.prod (Ty.int IntKind.i64)
                                          (Ty.prod (Ty.int IntKind.u64) (Ty.prod (Ty.int IntKind.i64) Ty.unit)))))),
                                X.d cmdT c)])
                      else none
                    else
                      some
                        (X.d Ty.bool false,
                          [(Ty.struct
                                (Ty.prod (Ty.int IntKind.i64)
                                  (Ty.prod (Ty.slice (Ty.int IntKind.u8))
                                    (Ty.prod (Ty.slice (Ty.int IntKind.u8))
                                      (Ty.prod (Ty.int IntKind.i64)
                                        (Ty.prod (Ty.int IntKind.u64) (Ty.prod (Ty.int IntKind.i64) Ty.unit)))))),
                              X.d cmdT c)])
                else none
              else
                bif c.fst == (5 : Int) then
                  bif A.se (isU64 (A.wrap IntKind.u64 c.snd.snd.snd.fst)) then
                    bif A.se (isU64 c.snd.snd.snd.snd.fst) then
                      bif A.se (isU64 (A.wrap IntKind.u64 c.snd.snd.snd.snd.snd.fst)) then
                        bif
                            ((↑(List.length (A.se (writeB [c]))) : Int) ==
                                A.wrap IntKind.i64
                                  (A.wrap IntKind.i64
                                      (A.wrap IntKind.i64
                                          ((1 : Int) +
                                            A.se
                                              (↑(List.length (vb (Int.toNat (A.wrap IntKind.u64 c.snd.snd.snd.fst)))) :
                                                Int)) +
                                        A.se (↑(List.length (vb (Int.toNat c.snd.snd.snd.snd.fst))) : Int)) +
                                    A.se
                                      (↑(List.length (vb (Int.toNat (A.wrap IntKind.u64 c.snd.snd.snd.snd.snd.fst)))) :
                                        Int))) ==
                              true then
                          bif decide ((0 : Int) ≤ (0 : Int) ∧ (0 : Int) < (↑(List.length (A.se (writeB [c]))) : Int)) then
                            some
                              (X.d Ty.bool
                                  (A.wrap IntKind.i64
                                      (List.getD (A.se (writeB [c])) (Int.toNat (0 : Int)) (0 : Int)) ==
                                    c.fst),
                                [(Ty.struct
                                      (Ty.prod (Ty.int IntKind.i64)
                                        (Ty.prod (Ty.slice (Ty.int IntKind.u8))
                                          (Ty.prod (Ty.slice (Ty.int IntKind.u8))
                                            (Ty.prod (Ty.int IntKind.i64)
                                              (Ty.prod (Ty.int IntKind.u64) (Ty.prod (Ty.int IntKind.i64) Ty.unit)))))),
                                    X.d cmdT c)])
                          else none
                        else
                          some
                            (X.d Ty.bool false,
                              [(Ty.struct
                                    (Ty.prod (Ty.int IntKind.i64)
                                      (Ty.prod (Ty.slice (Ty.int IntKind.u8))
                                        (Ty.prod (Ty.slice (Ty.int IntKind.u8))
                                          (Ty.prod (Ty.int IntKind.i64)
                                            (Ty.prod (Ty.int IntKind.u64) (Ty.prod (Ty.int IntKind.i64) Ty.unit)))))),
                                  X.d cmdT c)])
                      else none
                    else none
                  else none
                else
                  bif ((↑(List.length (A.se (writeB [c]))) : Int) == (1 : Int)) == true then
                    bif decide ((0 : Int) ≤ (0 : Int) ∧ (0 : Int) < (↑(List.length (A.se (writeB [c]))) : Int)) then
                      some
                        (X.d Ty.bool
                            (A.wrap IntKind.i64
                                (List.getD (A.se (writeB [c])) (Int.toNat (0 : Int)) (0 : Int)) ==
                              c.fst),
                          [(Ty.struct
                                (Ty.prod (Ty.int IntKind.i64)
                                  (Ty.prod (Ty.slice (Ty.int IntKind.u8))
                                    (Ty.prod (Ty.slice (Ty.int IntKind.u8))
                                      (Ty.prod (Ty.int IntKind.i64)
                                        (Ty.prod (Ty.int IntKind.u64) (Ty.prod (Ty.int IntKind.i64) Ty.unit)))))),
                              X.d cmdT c)])
                    else none
                  else
                    some
                      (X.d Ty.bool false,
                        [(Ty.struct
                              (Ty.prod (Ty.int IntKind.i64)
                                (Ty.prod (Ty.slice (Ty.int IntKind.u8))
                                  (Ty.prod (Ty.slice (Ty.int IntKind.u8))
                                    (Ty.prod (Ty.int IntKind.i64)
                                      (Ty.prod (Ty.int IntKind.u64) (Ty.prod (Ty.int IntKind.i64) Ty.unit)))))),
                            X.d cmdT c)])
        else none
    else
      some
        (X.d Ty.bool true,
          [(Ty.struct
                (Ty.prod (Ty.int IntKind.i64)
                  (Ty.prod (Ty.slice (Ty.int IntKind.u8))
                    (Ty.prod (Ty.slice (Ty.int IntKind.u8))
                      (Ty.prod (Ty.int IntKind.i64)
                        (Ty.prod (Ty.int IntKind.u64) (Ty.prod (Ty.int IntKind.i64) Ty.unit)))))),
              X.d cmdT c)])) := by kernel_rfl
theorem tLapart (A : Ar) (l : List Cm) (nl : Bool) (m : List Cm) (nm : Bool) (c : Cm) : bodyX (Cx A (Osc A) noL) 200 Try.f7 [cms l (some nl) false, cms m (some nm) false, cmx c] [] =
    (bif A.se (decide (List.length l ≤ (9223372036854775807 : Nat))) then
      bif (!A.se (List.all l small && decide ((↑(List.length l) : Int) ≤ (100 : Int)))) == false then
        bif A.se (decide (List.length m ≤ (9223372036854775807 : Nat))) then
          bif !A.se (List.all m small && decide ((↑(List.length m) : Int) ≤ (100 : Int))) then
            some
              (X.d Ty.bool true,
                [(Ty.struct
                      (Ty.prod (Ty.int IntKind.i64)
                        (Ty.prod (Ty.slice (Ty.int IntKind.u8))
                          (Ty.prod (Ty.slice (Ty.int IntKind.u8))
                            (Ty.prod (Ty.int IntKind.i64)
                              (Ty.prod (Ty.int IntKind.u64) (Ty.prod (Ty.int IntKind.i64) Ty.unit)))))),
                    X.d cmdT c)])
          else
            bif A.se (wl l) then
              bif A.se (wl m) then
                bif (A.se (writeE l) != (0 : Int)) == false then
                  bif (A.se (writeE m) != (0 : Int)) == false then
                    bif A.se (decide (List.length l ≤ (1000000000 : Nat)) && (List.all l wfB && List.all m wfB)) then
                      bif A.se (checkC c) then
                        bif
                            (!A.se
                                  (checkC
                                    (c.fst, c.snd.fst, c.snd.snd.fst, c.snd.snd.snd.fst, c.snd.snd.snd.snd.fst, (-1 : Int),
                                      ()))) ==
                              true then
                          bif
                              (A.se
                                    (checkC
                                      (c.fst, c.snd.fst, [(1 : Int)], c.snd.snd.snd.fst, c.snd.snd.snd.snd.fst,
                                        c.snd.snd.snd.snd.snd.fst, ())) ==
                                  (c.fst == (1 : Int))) ==
                                true then
                            bif (A.seq (strOf (A.se (writeB l))) (strOf (A.se (writeB m))) == A.se (eqCs l m)) == true then
                              some
                                (X.d Ty.bool
                                    (A.se
                                        (checkC
                                          (c.fst, c.snd.fst, c.snd.snd.fst, c.snd.snd.snd.fst, (1 : Int),
                                            c.snd.snd.snd.snd.snd.fst, ())) ==
                                      (c.fst == (5 : Int))),
                                  [(Ty.struct
                                        (Ty.prod (Ty.int IntKind.i64)
                                          (Ty.prod (Ty.slice (Ty.int IntKind.u8))
                                            (Ty.prod (Ty.slice (Ty.int IntKind.u8))
                                              (Ty.prod (Ty.int IntKind.i64)
                                                (Ty.prod (Ty.int IntKind.u64) (Ty.prod (Ty.int IntKind.i64) Ty.unit)))))),
                                      X.d cmdT c),
                                    (Ty.struct
                                        (Ty.prod (Ty.int IntKind.i64)
                                          (Ty.prod (Ty.slice (Ty.int IntKind.u8))
                                            (Ty.prod (Ty.slice (Ty.int IntKind.u8))
                                              (Ty.prod (Ty.int IntKind.i64)
                                                (Ty.prod (Ty.int IntKind.u64) (Ty.prod (Ty.int IntKind.i64) Ty.unit)))))),
                                      X.agg
                                        [X.d (Ty.int IntKind.i64) c.fst, X.sl (Ty.int IntKind.u8) c.snd.fst none false,
                                          X.sl (Ty.int IntKind.u8) c.snd.snd.fst none false,
                                          X.d (Ty.int IntKind.i64) c.snd.snd.snd.fst,
                                          X.d (Ty.int IntKind.u64) c.snd.snd.snd.snd.fst,
                                          X.d (Ty.int IntKind.i64) (-1 : Int)]),
                                    (Ty.struct
                                        (Ty.prod (Ty.int IntKind.i64)
                                          (Ty.prod (Ty.slice (Ty.int IntKind.u8))
                                            (Ty.prod (Ty.slice (Ty.int IntKind.u8))
                                              (Ty.prod (Ty.int IntKind.i64)
                                                (Ty.prod (Ty.int IntKind.u64) (Ty.prod (Ty.int IntKind.i64) Ty.unit)))))),
                                      X.agg
                                        [X.d (Ty.int IntKind.i64) c.fst, X.sl (Ty.int IntKind.u8) c.snd.fst none false,
                                          X.sl (Ty.int IntKind.u8) [(1 : Int)] (some false) true,
                                          X.d (Ty.int IntKind.i64) c.snd.snd.snd.fst,
                                          X.d (Ty.int IntKind.u64) c.snd.snd.snd.snd.fst,
                                          X.d (Ty.int IntKind.i64) c.snd.snd.snd.snd.snd.fst]),
                                    (Ty.struct
                                        (Ty.prod (Ty.int IntKind.i64)
                                          (Ty.prod (Ty.slice (Ty.int IntKind.u8))
                                            (Ty.prod (Ty.slice (Ty.int IntKind.u8))
                                              (Ty.prod (Ty.int IntKind.i64)
                                                (Ty.prod (Ty.int IntKind.u64) (Ty.prod (Ty.int IntKind.i64) Ty.unit)))))),
                                      X.agg
                                        [X.d (Ty.int IntKind.i64) c.fst, X.sl (Ty.int IntKind.u8) c.snd.fst none false,
                                          X.sl (Ty.int IntKind.u8) c.snd.snd.fst none false,
                                          X.d (Ty.int IntKind.i64) c.snd.snd.snd.fst, X.d (Ty.int IntKind.u64) (1 : Int),
                                          X.d (Ty.int IntKind.i64) c.snd.snd.snd.snd.snd.fst])])
                            else
                              some
                                (X.d Ty.bool false,
                                  [(Ty.struct
                                        (Ty.prod (Ty.int IntKind.i64)
                                          (Ty.prod (Ty.slice (Ty.int IntKind.u8))
                                            (Ty.prod (Ty.slice (Ty.int IntKind.u8))
                                              (Ty.prod (Ty.int IntKind.i64)
                                                (Ty.prod (Ty.int IntKind.u64) (Ty.prod (Ty.int IntKind.i64) Ty.unit)))))),
                                      X.d cmdT c),
                                    (Ty.struct
                                        (Ty.prod (Ty.int IntKind.i64)
                                          (Ty.prod (Ty.slice (Ty.int IntKind.u8))
                                            (Ty.prod (Ty.slice (Ty.int IntKind.u8))
                                              (Ty.prod (Ty.int IntKind.i64)
                                                (Ty.prod (Ty.int IntKind.u64) (Ty.prod (Ty.int IntKind.i64) Ty.unit)))))),
                                      X.agg
                                        [X.d (Ty.int IntKind.i64) c.fst, X.sl (Ty.int IntKind.u8) c.snd.fst none false,
                                          X.sl (Ty.int IntKind.u8) c.snd.snd.fst none false,
                                          X.d (Ty.int IntKind.i64) c.snd.snd.snd.fst,
                                          X.d (Ty.int IntKind.u64) c.snd.snd.snd.snd.fst,
                                          X.d (Ty.int IntKind.i64) (-1 : Int)]),
                                    (Ty.struct
                                        (Ty.prod (Ty.int IntKind.i64)
                                          (Ty.prod (Ty.slice (Ty.int IntKind.u8))
                                            (Ty.prod (Ty.slice (Ty.int IntKind.u8))
                                              (Ty.prod (Ty.int IntKind.i64)
                                                (Ty.prod (Ty.int IntKind.u64) (Ty.prod (Ty.int IntKind.i64) Ty.unit)))))),
                                      X.agg
                                        [X.d (Ty.int IntKind.i64) c.fst, X.sl (Ty.int IntKind.u8) c.snd.fst none false,
                                          X.sl (Ty.int IntKind.u8) [(1 : Int)] (some false) true,
                                          X.d (Ty.int IntKind.i64) c.snd.snd.snd.fst,
                                          X.d (Ty.int IntKind.u64) c.snd.snd.snd.snd.fst,
                                          X.d (Ty.int IntKind.i64) c.snd.snd.snd.snd.snd.fst]),
                                    (Ty.struct
                                        (Ty.prod (Ty.int IntKind.i64)
                                          (Ty.prod (Ty.slice (Ty.int IntKind.u8))
                                            (Ty.prod (Ty.slice (Ty.int IntKind.u8))
                                              (Ty.prod (Ty.int IntKind.i64)
                                                (Ty.prod (Ty.int IntKind.u64) (Ty.prod (Ty.int IntKind.i64) Ty.unit)))))),
                                      X.agg
                                        [X.d (Ty.int IntKind.i64) c.fst, X.sl (Ty.int IntKind.u8) c.snd.fst none false,
                                          X.sl (Ty.int IntKind.u8) c.snd.snd.fst none false,
                                          X.d (Ty.int IntKind.i64) c.snd.snd.snd.fst, X.d (Ty.int IntKind.u64) (1 : Int),
                                          X.d (Ty.int IntKind.i64) c.snd.snd.snd.snd.snd.fst])])
                          else
                            bif (A.seq (strOf (A.se (writeB l))) (strOf (A.se (writeB m))) == A.se (eqCs l m)) == true then
                              some
                                (X.d Ty.bool false,
                                  [(Ty.struct
                                        (Ty.prod (Ty.int IntKind.i64)
                                          (Ty.prod (Ty.slice (Ty.int IntKind.u8))
                                            (Ty.prod (Ty.slice (Ty.int IntKind.u8))
                                              (Ty.prod (Ty.int IntKind.i64)
                                                (Ty.prod (Ty.int IntKind.u64) (Ty.prod (Ty.int IntKind.i64) Ty.unit)))))),
                                      X.d cmdT c),
                                    (Ty.struct
                                        (Ty.prod (Ty.int IntKind.i64)
                                          (Ty.prod (Ty.slice (Ty.int IntKind.u8))
                                            (Ty.prod (Ty.slice (Ty.int IntKind.u8))
                                              (Ty.prod (Ty.int IntKind.i64)
                                                (Ty.prod (Ty.int IntKind.u64) (Ty.prod (Ty.int IntKind.i64) Ty.unit)))))),
                                      X.agg
                                        [X.d (Ty.int IntKind.i64) c.fst, X.sl (Ty.int IntKind.u8) c.snd.fst none false,
                                          X.sl (Ty.int IntKind.u8) c.snd.snd.fst none false,
                                          X.d (Ty.int IntKind.i64) c.snd.snd.snd.fst,
                                          X.d (Ty.int IntKind.u64) c.snd.snd.snd.snd.fst,
                                          X.d (Ty.int IntKind.i64) (-1 : Int)]),
                                    (Ty.struct
                                        (Ty.prod (Ty.int IntKind.i64)
                                          (Ty.prod (Ty.slice (Ty.int IntKind.u8))
                                            (Ty.prod (Ty.slice (Ty.int IntKind.u8))
                                              (Ty.prod (Ty.int IntKind.i64)
                                                (Ty.prod (Ty.int IntKind.u64) (Ty.prod (Ty.int IntKind.i64) Ty.unit)))))),
                                      X.agg
                                        [X.d (Ty.int IntKind.i64) c.fst, X.sl (Ty.int IntKind.u8) c.snd.fst none false,
                                          X.sl (Ty.int IntKind.u8) [(1 : Int)] (some false) true,
                                          X.d (Ty.int IntKind.i64) c.snd.snd.snd.fst,
                                          X.d (Ty.int IntKind.u64) c.snd.snd.snd.snd.fst,
                                          X.d (Ty.int IntKind.i64) c.snd.snd.snd.snd.snd.fst]),
                                    (Ty.struct
                                        (Ty.prod (Ty.int IntKind.i64)
                                          (Ty.prod (Ty.slice (Ty.int IntKind.u8))
                                            (Ty.prod (Ty.slice (Ty.int IntKind.u8))
                                              (Ty.prod (Ty.int IntKind.i64)
                                                (Ty.prod (Ty.int IntKind.u64) (Ty.prod (Ty.int IntKind.i64) Ty.unit)))))),
                                      X.agg
                                        [X.d (Ty.int IntKind.i64) c.fst, X.sl (Ty.int IntKind.u8) c.snd.fst none false,
                                          X.sl (Ty.int IntKind.u8) c.snd.snd.fst none false,
                                          X.d (Ty.int IntKind.i64) c.snd.snd.snd.fst, X.d (Ty.int IntKind.u64) (1 : Int),
                                          X.d (Ty.int IntKind.i64) c.snd.snd.snd.snd.snd.fst])])
                            else
                              some
                                (X.d Ty.bool false,
                                  [(Ty.struct
                                        (Ty.prod (Ty.int IntKind.i64)
                                          (Ty.prod (Ty.slice (Ty.int IntKind.u8))
                                            (Ty.prod (Ty.slice (Ty.int IntKind.u8))
                                              (Ty.prod (Ty.int IntKind.i64)
                                                (Ty.prod (Ty.int IntKind.u64) (Ty.prod (Ty.int IntKind.i64) Ty.unit)))))),
                                      X.d cmdT c),
                                    (Ty.struct
                                        (Ty.prod (Ty.int IntKind.i64)
                                          (Ty.prod (Ty.slice (Ty.int IntKind.u8))
                                            (Ty.prod (Ty.slice (Ty.int IntKind.u8))
                                              (Ty.prod (Ty.int IntKind.i64)
                                                (Ty.prod (Ty.int IntKind.u64) (Ty.prod (Ty.int IntKind.i64) Ty.unit)))))),
                                      X.agg
                                        [X.d (Ty.int IntKind.i64) c.fst, X.sl (Ty.int IntKind.u8) c.snd.fst none false,
                                          X.sl (Ty.int IntKind.u8) c.snd.snd.fst none false,
                                          X.d (Ty.int IntKind.i64) c.snd.snd.snd.fst,
                                          X.d (Ty.int IntKind.u64) c.snd.snd.snd.snd.fst,
                                          X.d (Ty.int IntKind.i64) (-1 : Int)]),
                                    (Ty.struct
                                        (Ty.prod (Ty.int IntKind.i64)
                                          (Ty.prod (Ty.slice (Ty.int IntKind.u8))
                                            (Ty.prod (Ty.slice (Ty.int IntKind.u8))
                                              (Ty.prod (Ty.int IntKind.i64)
                                                (Ty.prod (Ty.int IntKind.u64) (Ty.prod (Ty.int IntKind.i64) Ty.unit)))))),
                                      X.agg
                                        [X.d (Ty.int IntKind.i64) c.fst, X.sl (Ty.int IntKind.u8) c.snd.fst none false,
                                          X.sl (Ty.int IntKind.u8) [(1 : Int)] (some false) true,
                                          X.d (Ty.int IntKind.i64) c.snd.snd.snd.fst,
                                          X.d (Ty.int IntKind.u64) c.snd.snd.snd.snd.fst,
                                          X.d (Ty.int IntKind.i64) c.snd.snd.snd.snd.snd.fst]),
                                    (Ty.struct
                                        (Ty.prod (Ty.int IntKind.i64)
                                          (Ty.prod (Ty.slice (Ty.int IntKind.u8))
                                            (Ty.prod (Ty.slice (Ty.int IntKind.u8))
                                              (Ty.prod (Ty.int IntKind.i64)
                                                (Ty.prod (Ty.int IntKind.u64) (Ty.prod (Ty.int IntKind.i64) Ty.unit)))))),
                                      X.agg
                                        [X.d (Ty.int IntKind.i64) c.fst, X.sl (Ty.int IntKind.u8) c.snd.fst none false,
                                          X.sl (Ty.int IntKind.u8) c.snd.snd.fst none false,
                                          X.d (Ty.int IntKind.i64) c.snd.snd.snd.fst, X.d (Ty.int IntKind.u64) (1 : Int),
                                          X.d (Ty.int IntKind.i64) c.snd.snd.snd.snd.snd.fst])])
                        else
                          bif (A.seq (strOf (A.se (writeB l))) (strOf (A.se (writeB m))) == A.se (eqCs l m)) == true then
                            some
                              (X.d Ty.bool false,
                                [(Ty.struct
                                      (Ty.prod (Ty.int IntKind.i64)
                                        (Ty.prod (Ty.slice (Ty.int IntKind.u8))
                                          (Ty.prod (Ty.slice (Ty.int IntKind.u8))
                                            (Ty.prod (Ty.int IntKind.i64)
                                              (Ty.prod (Ty.int IntKind.u64) (Ty.prod (Ty.int IntKind.i64) Ty.unit)))))),
                                    X.d cmdT c),
                                  (Ty.struct
                                      (Ty.prod (Ty.int IntKind.i64)
                                        (Ty.prod (Ty.slice (Ty.int IntKind.u8))
                                          (Ty.prod (Ty.slice (Ty.int IntKind.u8))
                                            (Ty.prod (Ty.int IntKind.i64)
                                              (Ty.prod (Ty.int IntKind.u64) (Ty.prod (Ty.int IntKind.i64) Ty.unit)))))),
                                    X.agg
                                      [X.d (Ty.int IntKind.i64) c.fst, X.sl (Ty.int IntKind.u8) c.snd.fst none false,
                                        X.sl (Ty.int IntKind.u8) c.snd.snd.fst none false,
                                        X.d (Ty.int IntKind.i64) c.snd.snd.snd.fst,
                                        X.d (Ty.int IntKind.u64) c.snd.snd.snd.snd.fst,
                                        X.d (Ty.int IntKind.i64) (-1 : Int)]),
                                  (Ty.struct
                                      (Ty.prod (Ty.int IntKind.i64)
                                        (Ty.prod (Ty.slice (Ty.int IntKind.u8))
                                          (Ty.prod (Ty.slice (Ty.int IntKind.u8))
                                            (Ty.prod (Ty.int IntKind.i64)
                                              (Ty.prod (Ty.int IntKind.u64) (Ty.prod (Ty.int IntKind.i64) Ty.unit)))))),
                                    X.agg
                                      [X.d (Ty.int IntKind.i64) c.fst, X.sl (Ty.int IntKind.u8) c.snd.fst none false,
                                        X.sl (Ty.int IntKind.u8) [(1 : Int)] (some false) true,
                                        X.d (Ty.int IntKind.i64) c.snd.snd.snd.fst,
                                        X.d (Ty.int IntKind.u64) c.snd.snd.snd.snd.fst,
                                        X.d (Ty.int IntKind.i64) c.snd.snd.snd.snd.snd.fst]),
                                  (Ty.struct
                                      (Ty.prod (Ty.int IntKind.i64)
                                        (Ty.prod (Ty.slice (Ty.int IntKind.u8))
                                          (Ty.prod (Ty.slice (Ty.int IntKind.u8))
                                            (Ty.prod (Ty.int IntKind.i64)
                                              (Ty.prod (Ty.int IntKind.u64) (Ty.prod (Ty.int IntKind.i64) Ty.unit)))))),
                                    X.agg
                                      [X.d (Ty.int IntKind.i64) c.fst, X.sl (Ty.int IntKind.u8) c.snd.fst none false,
                                        X.sl (Ty.int IntKind.u8) c.snd.snd.fst none false,
                                        X.d (Ty.int IntKind.i64) c.snd.snd.snd.fst, X.d (Ty.int IntKind.u64) (1 : Int),
                                        X.d (Ty.int IntKind.i64) c.snd.snd.snd.snd.snd.fst])])
                          else
                            some
                              (X.d Ty.bool false,
                                [(Ty.struct
                                      (Ty.prod (Ty.int IntKind.i64)
                                        (Ty.prod (Ty.slice (Ty.int IntKind.u8))
                                          (Ty.prod (Ty.slice (Ty.int IntKind.u8))
                                            (Ty.prod (Ty.int IntKind.i64)
                                              (Ty.prod (Ty.int IntKind.u64) (Ty.prod (Ty.int IntKind.i64) Ty.unit)))))),
                                    X.d cmdT c),
                                  (Ty.struct
                                      (Ty.prod (Ty.int IntKind.i64)
                                        (Ty.prod (Ty.slice (Ty.int IntKind.u8))
                                          (Ty.prod (Ty.slice (Ty.int IntKind.u8))
                                            (Ty.prod (Ty.int IntKind.i64)
                                              (Ty.prod (Ty.int IntKind.u64) (Ty.prod (Ty.int IntKind.i64) Ty.unit)))))),
                                    X.agg
                                      [X.d (Ty.int IntKind.i64) c.fst, X.sl (Ty.int IntKind.u8) c.snd.fst none false,
                                        X.sl (Ty.int IntKind.u8) c.snd.snd.fst none false,
                                        X.d (Ty.int IntKind.i64) c.snd.snd.snd.fst,
                                        X.d (Ty.int IntKind.u64) c.snd.snd.snd.snd.fst,
                                        X.d (Ty.int IntKind.i64) (-1 : Int)]),
                                  (Ty.struct
                                      (Ty.prod (Ty.int IntKind.i64)
                                        (Ty.prod (Ty.slice (Ty.int IntKind.u8))
                                          (Ty.prod (Ty.slice (Ty.int IntKind.u8))
                                            (Ty.prod (Ty.int IntKind.i64)
                                              (Ty.prod (Ty.int IntKind.u64) (Ty.prod (Ty.int IntKind.i64) Ty.unit)))))),
                                    X.agg
                                      [X.d (Ty.int IntKind.i64) c.fst, X.sl (Ty.int IntKind.u8) c.snd.fst none false,
                                        X.sl (Ty.int IntKind.u8) [(1 : Int)] (some false) true,
                                        X.d (Ty.int IntKind.i64) c.snd.snd.snd.fst,
                                        X.d (Ty.int IntKind.u64) c.snd.snd.snd.snd.fst,
                                        X.d (Ty.int IntKind.i64) c.snd.snd.snd.snd.snd.fst]),
                                  (Ty.struct
                                      (Ty.prod (Ty.int IntKind.i64)
                                        (Ty.prod (Ty.slice (Ty.int IntKind.u8))
                                          (Ty.prod (Ty.slice (Ty.int IntKind.u8))
                                            (Ty.prod (Ty.int IntKind.i64)
                                              (Ty.prod (Ty.int IntKind.u64) (Ty.prod (Ty.int IntKind.i64) Ty.unit)))))),
                                    X.agg
                                      [X.d (Ty.int IntKind.i64) c.fst, X.sl (Ty.int IntKind.u8) c.snd.fst none false,
                                        X.sl (Ty.int IntKind.u8) c.snd.snd.fst none false,
                                        X.d (Ty.int IntKind.i64) c.snd.snd.snd.fst, X.d (Ty.int IntKind.u64) (1 : Int),
                                        X.d (Ty.int IntKind.i64) c.snd.snd.snd.snd.snd.fst])])
                      else
                        bif (A.seq (strOf (A.se (writeB l))) (strOf (A.se (writeB m))) == A.se (eqCs l m)) == true then
                          some
                            (X.d Ty.bool true,
                              [(Ty.struct
                                    (Ty.prod (Ty.int IntKind.i64)
                                      (Ty.prod (Ty.slice (Ty.int IntKind.u8))
                                        (Ty.prod (Ty.slice (Ty.int IntKind.u8))
                                          (Ty.prod (Ty.int IntKind.i64)
                                            (Ty.prod (Ty.int IntKind.u64) (Ty.prod (Ty.int IntKind.i64) Ty.unit)))))),
                                  X.d cmdT c)])
                        else
                          some
                            (X.d Ty.bool false,
                              [(Ty.struct
                                    (Ty.prod (Ty.int IntKind.i64)
                                      (Ty.prod (Ty.slice (Ty.int IntKind.u8))
                                        (Ty.prod (Ty.slice (Ty.int IntKind.u8))
                                          (Ty.prod (Ty.int IntKind.i64)
                                            (Ty.prod (Ty.int IntKind.u64) (Ty.prod (Ty.int IntKind.i64) Ty.unit)))))),
                                  X.d cmdT c)])
                    else none
                  else
                    bif A.se (checkC c) then
                      bif
                          (!A.se
                                (checkC
                                  (c.fst, c.snd.fst, c.snd.snd.fst, c.snd.snd.snd.fst, c.snd.snd.snd.snd.fst, (-1 : Int),
                                    ()))) ==
                            true then
                        bif
                            (A.se
                                  (checkC
                                    (c.fst, c.snd.fst, [(1 : Int)], c.snd.snd.snd.fst, c.snd.snd.snd.snd.fst,
                                      c.snd.snd.snd.snd.snd.fst, ())) ==
                                (c.fst == (1 : Int))) ==
                              true then
                          some
                            (X.d Ty.bool
                                (A.se
                                    (checkC
                                      (c.fst, c.snd.fst, c.snd.snd.fst, c.snd.snd.snd.fst, (1 : Int),
                                        c.snd.snd.snd.snd.snd.fst, ())) ==
                                  (c.fst == (5 : Int))),
                              [(Ty.struct
                                    (Ty.prod (Ty.int IntKind.i64)
                                      (Ty.prod (Ty.slice (Ty.int IntKind.u8))
                                        (Ty.prod (Ty.slice (Ty.int IntKind.u8))
                                          (Ty.prod (Ty.int IntKind.i64)
                                            (Ty.prod (Ty.int IntKind.u64) (Ty.prod (Ty.int IntKind.i64) Ty.unit)))))),
                                  X.d cmdT c),
                                (Ty.struct
                                    (Ty.prod (Ty.int IntKind.i64)
                                      (Ty.prod (Ty.slice (Ty.int IntKind.u8))
                                        (Ty.prod (Ty.slice (Ty.int IntKind.u8))
                                          (Ty.prod (Ty.int IntKind.i64)
                                            (Ty.prod (Ty.int IntKind.u64) (Ty.prod (Ty.int IntKind.i64) Ty.unit)))))),
                                  X.agg
                                    [X.d (Ty.int IntKind.i64) c.fst, X.sl (Ty.int IntKind.u8) c.snd.fst none false,
                                      X.sl (Ty.int IntKind.u8) c.snd.snd.fst none false,
                                      X.d (Ty.int IntKind.i64) c.snd.snd.snd.fst,
                                      X.d (Ty.int IntKind.u64) c.snd.snd.snd.snd.fst, X.d (Ty.int IntKind.i64) (-1 : Int)]),
                                (Ty.struct
                                    (Ty.prod (Ty.int IntKind.i64)
                                      (Ty.prod (Ty.slice (Ty.int IntKind.u8))
                                        (Ty.prod (Ty.slice (Ty.int IntKind.u8))
                                          (Ty.prod (Ty.int IntKind.i64)
                                            (Ty.prod (Ty.int IntKind.u64) (Ty.prod (Ty.int IntKind.i64) Ty.unit)))))),
                                  X.agg
                                    [X.d (Ty.int IntKind.i64) c.fst, X.sl (Ty.int IntKind.u8) c.snd.fst none false,
                                      X.sl (Ty.int IntKind.u8) [(1 : Int)] (some false) true,
                                      X.d (Ty.int IntKind.i64) c.snd.snd.snd.fst,
                                      X.d (Ty.int IntKind.u64) c.snd.snd.snd.snd.fst,
                                      X.d (Ty.int IntKind.i64) c.snd.snd.snd.snd.snd.fst]),
                                (Ty.struct
                                    (Ty.prod (Ty.int IntKind.i64)
                                      (Ty.prod (Ty.slice (Ty.int IntKind.u8))
                                        (Ty.prod (Ty.slice (Ty.int IntKind.u8))
                                          (Ty.prod (Ty.int IntKind.i64)
                                            (Ty.prod (Ty.int IntKind.u64) (Ty.prod (Ty.int IntKind.i64) Ty.unit)))))),
                                  X.agg
                                    [X.d (Ty.int IntKind.i64) c.fst, X.sl (Ty.int IntKind.u8) c.snd.fst none false,
                                      X.sl (Ty.int IntKind.u8) c.snd.snd.fst none false,
                                      X.d (Ty.int IntKind.i64) c.snd.snd.snd.fst, X.d (Ty.int IntKind.u64) (1 : Int),
                                      X.d (Ty.int IntKind.i64) c.snd.snd.snd.snd.snd.fst])])
                        else
                          some
                            (X.d Ty.bool false,
                              [(Ty.struct
                                    (Ty.prod (Ty.int IntKind.i64)
                                      (Ty.prod (Ty.slice (Ty.int IntKind.u8))
                                        (Ty.prod (Ty.slice (Ty.int IntKind.u8))
                                          (Ty.prod (Ty.int IntKind.i64)
                                            (Ty.prod (Ty.int IntKind.u64) (Ty.prod (Ty.int IntKind.i64) Ty.unit)))))),
                                  X.d cmdT c),
                                (Ty.struct
                                    (Ty.prod (Ty.int IntKind.i64)
                                      (Ty.prod (Ty.slice (Ty.int IntKind.u8))
                                        (Ty.prod (Ty.slice (Ty.int IntKind.u8))
                                          (Ty.prod (Ty.int IntKind.i64)
                                            (Ty.prod (Ty.int IntKind.u64) (Ty.prod (Ty.int IntKind.i64) Ty.unit)))))),
                                  X.agg
                                    [X.d (Ty.int IntKind.i64) c.fst, X.sl (Ty.int IntKind.u8) c.snd.fst none false,
                                      X.sl (Ty.int IntKind.u8) c.snd.snd.fst none false,
                                      X.d (Ty.int IntKind.i64) c.snd.snd.snd.fst,
                                      X.d (Ty.int IntKind.u64) c.snd.snd.snd.snd.fst, X.d (Ty.int IntKind.i64) (-1 : Int)]),
                                (Ty.struct
                                    (Ty.prod (Ty.int IntKind.i64)
                                      (Ty.prod (Ty.slice (Ty.int IntKind.u8))
                                        (Ty.prod (Ty.slice (Ty.int IntKind.u8))
                                          (Ty.prod (Ty.int IntKind.i64)
                                            (Ty.prod (Ty.int IntKind.u64) (Ty.prod (Ty.int IntKind.i64) Ty.unit)))))),
                                  X.agg
                                    [X.d (Ty.int IntKind.i64) c.fst, X.sl (Ty.int IntKind.u8) c.snd.fst none false,
                                      X.sl (Ty.int IntKind.u8) [(1 : Int)] (some false) true,
                                      X.d (Ty.int IntKind.i64) c.snd.snd.snd.fst,
                                      X.d (Ty.int IntKind.u64) c.snd.snd.snd.snd.fst,
                                      X.d (Ty.int IntKind.i64) c.snd.snd.snd.snd.snd.fst]),
                                (Ty.struct
                                    (Ty.prod (Ty.int IntKind.i64)
                                      (Ty.prod (Ty.slice (Ty.int IntKind.u8))
                                        (Ty.prod (Ty.slice (Ty.int IntKind.u8))
                                          (Ty.prod (Ty.int IntKind.i64)
                                            (Ty.prod (Ty.int IntKind.u64) (Ty.prod (Ty.int IntKind.i64) Ty.unit)))))),
                                  X.agg
                                    [X.d (Ty.int IntKind.i64) c.fst, X.sl (Ty.int IntKind.u8) c.snd.fst none false,
                                      X.sl (Ty.int IntKind.u8) c.snd.snd.fst none false,
                                      X.d (Ty.int IntKind.i64) c.snd.snd.snd.fst, X.d (Ty.int IntKind.u64) (1 : Int),
                                      X.d (Ty.int IntKind.i64) c.snd.snd.snd.snd.snd.fst])])
                      else
                        some
                          (X.d Ty.bool false,
                            [(Ty.struct
                                  (Ty.prod (Ty.int IntKind.i64)
                                    (Ty.prod (Ty.slice (Ty.int IntKind.u8))
                                      (Ty.prod (Ty.slice (Ty.int IntKind.u8))
                                        (Ty.prod (Ty.int IntKind.i64)
                                          (Ty.prod (Ty.int IntKind.u64) (Ty.prod (Ty.int IntKind.i64) Ty.unit)))))),
                                X.d cmdT c),
                              (Ty.struct
                                  (Ty.prod (Ty.int IntKind.i64)
                                    (Ty.prod (Ty.slice (Ty.int IntKind.u8))
                                      (Ty.prod (Ty.slice (Ty.int IntKind.u8))
                                        (Ty.prod (Ty.int IntKind.i64)
                                          (Ty.prod (Ty.int IntKind.u64) (Ty.prod (Ty.int IntKind.i64) Ty.unit)))))),
                                X.agg
                                  [X.d (Ty.int IntKind.i64) c.fst, X.sl (Ty.int IntKind.u8) c.snd.fst none false,
                                    X.sl (Ty.int IntKind.u8) c.snd.snd.fst none false,
                                    X.d (Ty.int IntKind.i64) c.snd.snd.snd.fst,
                                    X.d (Ty.int IntKind.u64) c.snd.snd.snd.snd.fst, X.d (Ty.int IntKind.i64) (-1 : Int)]),
                              (Ty.struct
                                  (Ty.prod (Ty.int IntKind.i64)
                                    (Ty.prod (Ty.slice (Ty.int IntKind.u8))
                                      (Ty.prod (Ty.slice (Ty.int IntKind.u8))
                                        (Ty.prod (Ty.int IntKind.i64)
                                          (Ty.prod (Ty.int IntKind.u64) (Ty.prod (Ty.int IntKind.i64) Ty.unit)))))),
                                X.agg
                                  [X.d (Ty.int IntKind.i64) c.fst, X.sl (Ty.int IntKind.u8) c.snd.fst none false,
                                    X.sl (Ty.int IntKind.u8) [(1 : Int)] (some false) true,
                                    X.d (Ty.int IntKind.i64) c.snd.snd.snd.fst,
                                    X.d (Ty.int IntKind.u64) c.snd.snd.snd.snd.fst,
                                    X.d (Ty.int IntKind.i64) c.snd.snd.snd.snd.snd.fst]),
                              (Ty.struct
                                  (Ty.prod (Ty.int IntKind.i64)
                                    (Ty.prod (Ty.slice (Ty.int IntKind.u8))
                                      (Ty.prod (Ty.slice (Ty.int IntKind.u8))
                                        (Ty.prod (Ty.int IntKind.i64)
                                          (Ty.prod (Ty.int IntKind.u64) (Ty.prod (Ty.int IntKind.i64) Ty.unit)))))),
                                X.agg
                                  [X.d (Ty.int IntKind.i64) c.fst, X.sl (Ty.int IntKind.u8) c.snd.fst none false,
                                    X.sl (Ty.int IntKind.u8) c.snd.snd.fst none false,
                                    X.d (Ty.int IntKind.i64) c.snd.snd.snd.fst, X.d (Ty.int IntKind.u64) (1 : Int),
                                    X.d (Ty.int IntKind.i64) c.snd.snd.snd.snd.snd.fst])])
                    else
                      some
                        (X.d Ty.bool true,
                          [(Ty.struct
                                (Ty.prod (Ty.int IntKind.i64)
                                  (Ty.prod (Ty.slice (Ty.int IntKind.u8))
                                    (Ty.prod (Ty.slice (Ty.int IntKind.u8))
                                      (Ty.prod (Ty.int IntKind.i64)
                                        (Ty.prod (Ty.int IntKind.u64) (Ty.prod (Ty.int IntKind.i64) Ty.unit)))))),
                              X.d cmdT c)])
                else
                  bif A.se (checkC c) then
                    bif
                        (!A.se
                              (checkC
                                (c.fst, c.snd.fst, c.snd.snd.fst, c.snd.snd.snd.fst, c.snd.snd.snd.snd.fst, (-1 : Int),
                                  ()))) ==
                          true then
                      bif
                          (A.se
                                (checkC
                                  (c.fst, c.snd.fst, [(1 : Int)], c.snd.snd.snd.fst, c.snd.snd.snd.snd.fst,
                                    c.snd.snd.snd.snd.snd.fst, ())) ==
                              (c.fst == (1 : Int))) ==
                            true then
                        some
                          (X.d Ty.bool
                              (A.se
                                  (checkC
                                    (c.fst, c.snd.fst, c.snd.snd.fst, c.snd.snd.snd.fst, (1 : Int),
                                      c.snd.snd.snd.snd.snd.fst, ())) ==
                                (c.fst == (5 : Int))),
                            [(Ty.struct
                                  (Ty.prod (Ty.int IntKind.i64)
                                    (Ty.prod (Ty.slice (Ty.int IntKind.u8))
                                      (Ty.prod (Ty.slice (Ty.int IntKind.u8))
                                        (Ty.prod (Ty.int IntKind.i64)
                                          (Ty.prod (Ty.int IntKind.u64) (Ty.prod (Ty.int IntKind.i64) Ty.unit)))))),
                                X.d cmdT c),
                              (Ty.struct
                                  (Ty.prod (Ty.int IntKind.i64)
                                    (Ty.prod (Ty.slice (Ty.int IntKind.u8))
                                      (Ty.prod (Ty.slice (Ty.int IntKind.u8))
                                        (Ty.prod (Ty.int IntKind.i64)
                                          (Ty.prod (Ty.int IntKind.u64) (Ty.prod (Ty.int IntKind.i64) Ty.unit)))))),
                                X.agg
                                  [X.d (Ty.int IntKind.i64) c.fst, X.sl (Ty.int IntKind.u8) c.snd.fst none false,
                                    X.sl (Ty.int IntKind.u8) c.snd.snd.fst none false,
                                    X.d (Ty.int IntKind.i64) c.snd.snd.snd.fst,
                                    X.d (Ty.int IntKind.u64) c.snd.snd.snd.snd.fst, X.d (Ty.int IntKind.i64) (-1 : Int)]),
                              (Ty.struct
                                  (Ty.prod (Ty.int IntKind.i64)
                                    (Ty.prod (Ty.slice (Ty.int IntKind.u8))
                                      (Ty.prod (Ty.slice (Ty.int IntKind.u8))
                                        (Ty.prod (Ty.int IntKind.i64)
                                          (Ty.prod (Ty.int IntKind.u64) (Ty.prod (Ty.int IntKind.i64) Ty.unit)))))),
                                X.agg
                                  [X.d (Ty.int IntKind.i64) c.fst, X.sl (Ty.int IntKind.u8) c.snd.fst none false,
                                    X.sl (Ty.int IntKind.u8) [(1 : Int)] (some false) true,
                                    X.d (Ty.int IntKind.i64) c.snd.snd.snd.fst,
                                    X.d (Ty.int IntKind.u64) c.snd.snd.snd.snd.fst,
                                    X.d (Ty.int IntKind.i64) c.snd.snd.snd.snd.snd.fst]),
                              (Ty.struct
                                  (Ty.prod (Ty.int IntKind.i64)
                                    (Ty.prod (Ty.slice (Ty.int IntKind.u8))
                                      (Ty.prod (Ty.slice (Ty.int IntKind.u8))
                                        (Ty.prod (Ty.int IntKind.i64)
                                          (Ty.prod (Ty.int IntKind.u64) (Ty.prod (Ty.int IntKind.i64) Ty.unit)))))),
                                X.agg
                                  [X.d (Ty.int IntKind.i64) c.fst, X.sl (Ty.int IntKind.u8) c.snd.fst none false,
                                    X.sl (Ty.int IntKind.u8) c.snd.snd.fst none false,
                                    X.d (Ty.int IntKind.i64) c.snd.snd.snd.fst, X.d (Ty.int IntKind.u64) (1 : Int),
                                    X.d (Ty.int IntKind.i64) c.snd.snd.snd.snd.snd.fst])])
                      else
                        some
                          (X.d Ty.bool false,
                            [(Ty.struct
                                  (Ty.prod (Ty.int IntKind.i64)
                                    (Ty.prod (Ty.slice (Ty.int IntKind.u8))
                                      (Ty.prod (Ty.slice (Ty.int IntKind.u8))
                                        (Ty.prod (Ty.int IntKind.i64)
                                          (Ty.prod (Ty.int IntKind.u64) (Ty.prod (Ty.int IntKind.i64) Ty.unit)))))),
                                X.d cmdT c),
                              (Ty.struct
                                  (Ty.prod (Ty.int IntKind.i64)
                                    (Ty.prod (Ty.slice (Ty.int IntKind.u8))
                                      (Ty.prod (Ty.slice (Ty.int IntKind.u8))
                                        (Ty.prod (Ty.int IntKind.i64)
                                          (Ty.prod (Ty.int IntKind.u64) (Ty.prod (Ty.int IntKind.i64) Ty.unit)))))),
                                X.agg
                                  [X.d (Ty.int IntKind.i64) c.fst, X.sl (Ty.int IntKind.u8) c.snd.fst none false,
                                    X.sl (Ty.int IntKind.u8) c.snd.snd.fst none false,
                                    X.d (Ty.int IntKind.i64) c.snd.snd.snd.fst,
                                    X.d (Ty.int IntKind.u64) c.snd.snd.snd.snd.fst, X.d (Ty.int IntKind.i64) (-1 : Int)]),
                              (Ty.struct
                                  (Ty.prod (Ty.int IntKind.i64)
                                    (Ty.prod (Ty.slice (Ty.int IntKind.u8))
                                      (Ty.prod (Ty.slice (Ty.int IntKind.u8))
                                        (Ty.prod (Ty.int IntKind.i64)
                                          (Ty.prod (Ty.int IntKind.u64) (Ty.prod (Ty.int IntKind.i64) Ty.unit)))))),
                                X.agg
                                  [X.d (Ty.int IntKind.i64) c.fst, X.sl (Ty.int IntKind.u8) c.snd.fst none false,
                                    X.sl (Ty.int IntKind.u8) [(1 : Int)] (some false) true,
                                    X.d (Ty.int IntKind.i64) c.snd.snd.snd.fst,
                                    X.d (Ty.int IntKind.u64) c.snd.snd.snd.snd.fst,
                                    X.d (Ty.int IntKind.i64) c.snd.snd.snd.snd.snd.fst]),
                              (Ty.struct
                                  (Ty.prod (Ty.int IntKind.i64)
                                    (Ty.prod (Ty.slice (Ty.int IntKind.u8))
                                      (Ty.prod (Ty.slice (Ty.int IntKind.u8))
                                        (Ty.prod (Ty.int IntKind.i64)
                                          (Ty.prod (Ty.int IntKind.u64) (Ty.prod (Ty.int IntKind.i64) Ty.unit)))))),
                                X.agg
                                  [X.d (Ty.int IntKind.i64) c.fst, X.sl (Ty.int IntKind.u8) c.snd.fst none false,
                                    X.sl (Ty.int IntKind.u8) c.snd.snd.fst none false,
                                    X.d (Ty.int IntKind.i64) c.snd.snd.snd.fst, X.d (Ty.int IntKind.u64) (1 : Int),
                                    X.d (Ty.int IntKind.i64) c.snd.snd.snd.snd.snd.fst])])
                    else
                      some
                        (X.d Ty.bool false,
                          [(Ty.struct
                                (Ty.prod (Ty.int IntKind.i64)
                                  (Ty.prod (Ty.slice (Ty.int IntKind.u8))
                                    (Ty.prod (Ty.slice (Ty.int IntKind.u8))
                                      (Ty.prod (Ty.int IntKind.i64)
                                        (Ty.prod (Ty.int IntKind.u64) (Ty.prod (Ty.int IntKind.i64) Ty.unit)))))),
                              X.d cmdT c),
                            (Ty.struct
                                (Ty.prod (Ty.int IntKind.i64)
                                  (Ty.prod (Ty.slice (Ty.int IntKind.u8))
                                    (Ty.prod (Ty.slice (Ty.int IntKind.u8))
                                      (Ty.prod (Ty.int IntKind.i64)
                                        (Ty.prod (Ty.int IntKind.u64) (Ty.prod (Ty.int IntKind.i64) Ty.unit)))))),
                              X.agg
                                [X.d (Ty.int IntKind.i64) c.fst, X.sl (Ty.int IntKind.u8) c.snd.fst none false,
                                  X.sl (Ty.int IntKind.u8) c.snd.snd.fst none false,
                                  X.d (Ty.int IntKind.i64) c.snd.snd.snd.fst,
                                  X.d (Ty.int IntKind.u64) c.snd.snd.snd.snd.fst, X.d (Ty.int IntKind.i64) (-1 : Int)]),
                            (Ty.struct
                                (Ty.prod (Ty.int IntKind.i64)
                                  (Ty.prod (Ty.slice (Ty.int IntKind.u8))
                                    (Ty.prod (Ty.slice (Ty.int IntKind.u8))
                                      (Ty.prod (Ty.int IntKind.i64)
                                        (Ty.prod (Ty.int IntKind.u64) (Ty.prod (Ty.int IntKind.i64) Ty.unit)))))),
                              X.agg
                                [X.d (Ty.int IntKind.i64) c.fst, X.sl (Ty.int IntKind.u8) c.snd.fst none false,
                                  X.sl (Ty.int IntKind.u8) [(1 : Int)] (some false) true,
                                  X.d (Ty.int IntKind.i64) c.snd.snd.snd.fst,
                                  X.d (Ty.int IntKind.u64) c.snd.snd.snd.snd.fst,
                                  X.d (Ty.int IntKind.i64) c.snd.snd.snd.snd.snd.fst]),
                            (Ty.struct
                                (Ty.prod (Ty.int IntKind.i64)
                                  (Ty.prod (Ty.slice (Ty.int IntKind.u8))
                                    (Ty.prod (Ty.slice (Ty.int IntKind.u8))
                                      (Ty.prod (Ty.int IntKind.i64)
                                        (Ty.prod (Ty.int IntKind.u64) (Ty.prod (Ty.int IntKind.i64) Ty.unit)))))),
                              X.agg
                                [X.d (Ty.int IntKind.i64) c.fst, X.sl (Ty.int IntKind.u8) c.snd.fst none false,
                                  X.sl (Ty.int IntKind.u8) c.snd.snd.fst none false,
                                  X.d (Ty.int IntKind.i64) c.snd.snd.snd.fst, X.d (Ty.int IntKind.u64) (1 : Int),
                                  X.d (Ty.int IntKind.i64) c.snd.snd.snd.snd.snd.fst])])
                  else
                    some
                      (X.d Ty.bool true,
                        [(Ty.struct
                              (Ty.prod (Ty.int IntKind.i64)
                                (Ty.prod (Ty.slice (Ty.int IntKind.u8))
                                  (Ty.prod (Ty.slice (Ty.int IntKind.u8))
                                    (Ty.prod (Ty.int IntKind.i64)
                                      (Ty.prod (Ty.int IntKind.u64) (Ty.prod (Ty.int IntKind.i64) Ty.unit)))))),
                            X.d cmdT c)])
              else none
            else none
        else none
      else
        some
          (X.d Ty.bool true,
            [(Ty.struct
                  (Ty.prod (Ty.int IntKind.i64)
                    (Ty.prod (Ty.slice (Ty.int IntKind.u8))
                      (Ty.prod (Ty.slice (Ty.int IntKind.u8))
                        (Ty.prod (Ty.int IntKind.i64)
                          (Ty.prod (Ty.int IntKind.u64) (Ty.prod (Ty.int IntKind.i64) Ty.unit)))))),
                X.d cmdT c)])
    else none) := by kernel_rfl
end Go.Proofs.Ytgickaihlebgmaa.V

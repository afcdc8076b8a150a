/-
  Chapter 05, numbers: NumCuts' tree. By program; each equation is checked by the kernel.
  It speaks of the pinned program alone; no condition.
-/
import Derived.Test.YtlikejlgpfhkfaaDoorNu5
namespace Go.Proofs.YtlikejlgpfhkfaaDoor.V
open Go
set_option linter.unusedVariables false
set_option linter.unusedSimpArgs false

def LcF (A : Ar) : List X → Hp → Tr (Ex × List X × Hp)
  | [.d (.int .u64) c, .d .bool u, .sl (.int .u8) w nl o, .d (.int .u64) x, .d (.int .i64) e, .d (.int .u64) n, .d (.int .i64) i], [] => .test (A.se (isU64 n && decide (0 ≤ i ∧ i ≤ w.length ∧ w.length ≤ 1000)))
      (.give (.exit 0, [u64x c, boolx u, .sl (.int .u8) w nl o, u64x x, i64x e, u64x (A.se (tenths n (w.length - i.toNat))), .dead], [])) .no
  | _, _ => .no
def Lc (A : Ar) : Lp := fun k => match k with
  | 9 => some (71, [0, 5, 6, 8, 9, 10, 11], LcF A)
  | _ => none

theorem lCut (A : Ar) (R : Type) (w : List Int) (nl : Option Bool) (o u : Bool) (c x e n i : Int) (k : Ex → List X → Hp → Option R) : stepF (Cx A (On8 A) (Lc A)) 100 (loopAt Tryd.f7 0) 71 [0, 5, 6, 8, 9, 10, 11] [u64x c, boolx u, .sl (.int .u8) w nl o, u64x x, i64x e, u64x n, i64x i] [] k =
    (bif decide (i < (↑(List.length w) : Int)) then
      k Ex.normal
        [X.d (Ty.int IntKind.u64) c, X.d Ty.bool u, X.sl (Ty.int IntKind.u8) w nl o, X.d (Ty.int IntKind.u64) x,
          X.d (Ty.int IntKind.i64) e, X.d (Ty.int IntKind.u64) (A.wrap IntKind.u64 (Int.tdiv n (10 : Int))),
          X.d (Ty.int IntKind.i64) (A.wrap IntKind.i64 (i + (1 : Int)))]
        []
    else
      k (Ex.exit (0 : Nat))
        [X.d (Ty.int IntKind.u64) c, X.d Ty.bool u, X.sl (Ty.int IntKind.u8) w nl o, X.d (Ty.int IntKind.u64) x,
          X.d (Ty.int IntKind.i64) e, X.d (Ty.int IntKind.u64) n, X.d (Ty.int IntKind.i64) i]
        []) := by kernel_rfl
theorem tCut (A : Ar) (c a : Int) : bodyX (Cx A (On8 A) (Lc A)) 100 Tryd.f7 [u64x c, u8x a] [] =
    (bif A.se (isU64 c) then
      bif (↑(List.length (A.se (digs (Int.toNat c)))) : Int) == (0 : Int) then some (X.d Ty.bool false, [])
      else
        bif decide ((↑(List.length (A.se (digs (Int.toNat c)))) : Int) = (0 : Int)) then none
        else
          bif
              decide
                ((0 : Int) ≤
                    A.wrap IntKind.i64
                      ((1 : Int) + Int.tmod (A.wrap IntKind.i64 a) (↑(List.length (A.se (digs (Int.toNat c)))) : Int)) ∧
                  A.wrap IntKind.i64
                      ((1 : Int) + Int.tmod (A.wrap IntKind.i64 a) (↑(List.length (A.se (digs (Int.toNat c)))) : Int)) ≤
                    (↑(List.length (A.se (digs (Int.toNat c)))) : Int)) then
            bif
                A.se
                  (bytesB
                      (List.take
                        (Int.toNat
                          (A.wrap IntKind.i64
                            ((1 : Int) +
                              Int.tmod (A.wrap IntKind.i64 a) (↑(List.length (A.se (digs (Int.toNat c)))) : Int))))
                        (A.se (digs (Int.toNat c)))) &&
                    decide
                      (List.length
                          (List.take
                            (Int.toNat
                              (A.wrap IntKind.i64
                                ((1 : Int) +
                                  Int.tmod (A.wrap IntKind.i64 a) (↑(List.length (A.se (digs (Int.toNat c)))) : Int))))
                            (A.se (digs (Int.toNat c)))) ≤
                        (1000000000 : Nat))) then
              bif
                  A.se
                    (isU64 c &&
                      decide
                        ((0 : Int) ≤
                            A.wrap IntKind.i64
                              ((1 : Int) +
                                Int.tmod (A.wrap IntKind.i64 a) (↑(List.length (A.se (digs (Int.toNat c)))) : Int)) ∧
                          A.wrap IntKind.i64
                                ((1 : Int) +
                                  Int.tmod (A.wrap IntKind.i64 a) (↑(List.length (A.se (digs (Int.toNat c)))) : Int)) ≤
                              (↑(List.length (A.se (digs (Int.toNat c)))) : Int) ∧
                            List.length (A.se (digs (Int.toNat c))) ≤ (1000 : Nat))) then
                bif
                    (A.se
                          (tenths c
                            (List.length (A.se (digs (Int.toNat c))) -
                              Int.toNat
                                (A.wrap IntKind.i64
                                  ((1 : Int) +
                                    Int.tmod (A.wrap IntKind.i64 a)
                                      (↑(List.length (A.se (digs (Int.toNat c)))) : Int))))) ==
                        (18446744073709551615 : Int)) ==
                      true then
                  bif
                      (A.se
                            (readE
                              (List.take
                                (Int.toNat
                                  (A.wrap IntKind.i64
                                    ((1 : Int) +
                                      Int.tmod (A.wrap IntKind.i64 a) (↑(List.length (A.se (digs (Int.toNat c)))) : Int))))
                                (A.se (digs (Int.toNat c))))) ==
                          (50 : Int)) ==
                        false then
                    bif
                        decide
                            (A.se
                                (tenths c
                                  (List.length (A.se (digs (Int.toNat c))) -
                                    Int.toNat
                                      (A.wrap IntKind.i64
                                        ((1 : Int) +
                                          Int.tmod (A.wrap IntKind.i64 a)
                                            (↑(List.length (A.se (digs (Int.toNat c)))) : Int))))) <
                              (18446744073709551615 : Int)) ==
                          true then
                      bif
                          (A.se
                                (readE
                                  (List.take
                                    (Int.toNat
                                      (A.wrap IntKind.i64
                                        ((1 : Int) +
                                          Int.tmod (A.wrap IntKind.i64 a)
                                            (↑(List.length (A.se (digs (Int.toNat c)))) : Int))))
                                    (A.se (digs (Int.toNat c))))) ==
                              (0 : Int)) ==
                            true then
                        bif
                            (A.se
                                  (readC
                                    (List.take
                                      (Int.toNat
                                        (A.wrap IntKind.i64
                                          ((1 : Int) +
                                            Int.tmod (A.wrap IntKind.i64 a)
                                              (↑(List.length (A.se (digs (Int.toNat c)))) : Int))))
                                      (A.se (digs (Int.toNat c))))) ==
                                A.se
                                  (tenths c
                                    (List.length (A.se (digs (Int.toNat c))) -
                                      Int.toNat
                                        (A.wrap IntKind.i64
                                          ((1 : Int) +
                                            Int.tmod (A.wrap IntKind.i64 a)
                                              (↑(List.length (A.se (digs (Int.toNat c)))) : Int)))))) ==
                              true then
                          bif
                              decide
                                  (A.se
                                      (tenths c
                                        (List.length (A.se (digs (Int.toNat c))) -
                                          Int.toNat
                                            (A.wrap IntKind.i64
                                              ((1 : Int) +
                                                Int.tmod (A.wrap IntKind.i64 a)
                                                  (↑(List.length (A.se (digs (Int.toNat c)))) : Int))))) >
                                    (0 : Int)) ==
                                false then
                            some (X.d Ty.bool (c == (0 : Int)), [])
                          else some (X.d Ty.bool true, [])
                        else some (X.d Ty.bool false, [])
                      else some (X.d Ty.bool false, [])
                    else some (X.d Ty.bool false, [])
                  else some (X.d Ty.bool true, [])
                else
                  bif
                      decide
                          (A.se
                              (tenths c
                                (List.length (A.se (digs (Int.toNat c))) -
                                  Int.toNat
                                    (A.wrap IntKind.i64
                                      ((1 : Int) +
                                        Int.tmod (A.wrap IntKind.i64 a)
                                          (↑(List.length (A.se (digs (Int.toNat c)))) : Int))))) <
                            (18446744073709551615 : Int)) ==
                        true then
                    bif
                        (A.se
                              (readE
                                (List.take
                                  (Int.toNat
                                    (A.wrap IntKind.i64
                                      ((1 : Int) +
                                        Int.tmod (A.wrap IntKind.i64 a)
                                          (↑(List.length (A.se (digs (Int.toNat c)))) : Int))))
                                  (A.se (digs (Int.toNat c))))) ==
                            (0 : Int)) ==
                          true then
                      bif
                          (A.se
                                (readC
                                  (List.take
                                    (Int.toNat
                                      (A.wrap IntKind.i64
                                        ((1 : Int) +
                                          Int.tmod (A.wrap IntKind.i64 a)
                                            (↑(List.length (A.se (digs (Int.toNat c)))) : Int))))
                                    (A.se (digs (Int.toNat c))))) ==
                              A.se
                                (tenths c
                                  (List.length (A.se (digs (Int.toNat c))) -
                                    Int.toNat
                                      (A.wrap IntKind.i64
                                        ((1 : Int) +
                                          Int.tmod (A.wrap IntKind.i64 a)
                                            (↑(List.length (A.se (digs (Int.toNat c)))) : Int)))))) ==
                            true then
                        bif
                            decide
                                (A.se
                                    (tenths c
                                      (List.length (A.se (digs (Int.toNat c))) -
                                        Int.toNat
                                          (A.wrap IntKind.i64
                                            ((1 : Int) +
                                              Int.tmod (A.wrap IntKind.i64 a)
                                                (↑(List.length (A.se (digs (Int.toNat c)))) : Int))))) >
                                  (0 : Int)) ==
                              false then
                          some (X.d Ty.bool (c == (0 : Int)), [])
                        else some (X.d Ty.bool true, [])
                      else some (X.d Ty.bool false, [])
                    else some (X.d Ty.bool false, [])
                  else some (X.d Ty.bool false, [])
              else none
            else none
          else none
    else none) := by kernel_rfl

end Go.Proofs.YtlikejlgpfhkfaaDoor.V

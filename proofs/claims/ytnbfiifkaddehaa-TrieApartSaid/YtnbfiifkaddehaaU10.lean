/-
  Chapter 01, signs: what is needed of it.
  It speaks of whatever program; no condition.
-/
import Derived.Test.YtnbfiifkaddehaaB1
import Derived.Test.YtnbfiifkaddehaaU1

/- Chapter 01, utf: what its functions tell. -/
namespace Go.Proofs.Ytnbfiifkaddehaa.V.U

open Go

set_option linter.unusedVariables false

/-! What they come to. -/

def putL (l : List Int) : List Int := bif l.all goodN then ups l else []

def putE (l : List Int) : Int := bif l.all goodN then 0 else 10

/-! What functions tell. -/

def goodF (A : Ar) : List X → Tr X
  | [.d (.int .i64) n] => .give (boolx (A.se (goodN n)))
  | _ => .no

def uoneF (A : Ar) : List X → Tr X
  | [.d (.int .i64) n] => .test (A.se (goodN n)) (.give (u8s (A.se (ub n)) (some false) true)) .no
  | _ => .no

def nonAscF (A : Ar) : List X → Tr X
  | [.sl (.int .u8) b (some nl) true, .d (.int .i32) n] => .test (A.se (goodN n && decide (128 ≤ n ∧ b.length ≤ 70368744177664))) (.give (u8s (A.se (b ++ ub n)) (some false) true)) .no
  | _ => .no

def appRuneF (A : Ar) : List X → Tr X
  | [.sl (.int .u8) b (some nl) true, .d (.int .i32) n] => .test (A.se (goodN n && decide (b.length ≤ 70368744177664))) (.give (u8s (A.se (b ++ ub n)) (some false) true)) .no
  | _ => .no

def uputF (A : Ar) : List X → Tr X
  | [.sl (.int .i64) l nl false] => .test (A.se (decide (l.length ≤ 17592186044416))) (.give (.tup [u8s (A.se (putL l)) (some (A.se (putL l).isEmpty)) false, i64x (A.se (putE l))])) .no
  | _ => .no

def sameF (A : Ar) : List X → Tr X
  | [.sl (.int .i64) a nl false, .sl (.int .i64) b nl2 false] => .test (A.se (decide (a.length ≤ 9223372036854775806))) (.give (boolx (A.se (decide (a = b))))) .no
  | _ => .no

def noO : OT := fun _ => none

def Out1 (A : Ar) : OT := Oadd (Oadd (Oadd noO 30 (.pure (goodF A))) 32 (.pure (goodF A))) 59 (.pure (uoneF A))

def Out2 (A : Ar) : OT := Oadd (Out1 A) 61 (.own (nonAscF A))

def Out3 (A : Ar) : OT := Oadd (Out2 A) 54 (.own (appRuneF A))

def Out4 (A : Ar) : OT := Oadd (Oadd (Out3 A) 38 (.pure (uputF A))) 50 (.pure (uputF A))

def Out5 (A : Ar) : OT := (Out4 A)

def Out6 (A : Ar) : OT := (Out5 A)

def Out7 (A : Ar) : OT := (Out6 A)

/-! Loops -/

def gPut (l : List Int) (out : List Int) (i : Int) : Bool := decide (l.length ≤ 17592186044416 ∧ 0 ≤ i ∧ i ≤ l.length ∧ (out.length : Int) ≤ 4 * i)

def LuPutF (A : Ar) : List X → Hp → Tr (Ex × List X × Hp)
  | [.sl (.int .u8) [] (some true) true, .d (.int .i64) _, .sl (.int .u8) out (some nl) true, .sl (.int .i64) l nl2 false, .d (.int .i64) n, .d (.int .i64) i], [] =>
    .test (A.se (gPut l out i && decide (n = l.length)))
      (.test (A.se ((l.drop i.toNat).all goodN))
        (.give (.exit 0, [.dead, .dead, u8s (A.se (out ++ ups (l.drop i.toNat))) (some (A.se (nl && (ups (l.drop i.toNat)).isEmpty))) true, .dead, .dead, .dead], []))
        (.give (.ret, [u8s [] (some true) true, i64x 10, .dead, .dead, .dead, .dead], []))) .no
  | _, _ => .no

def LuPut (A : Ar) : Lp := fun k => match k with
  | 3 => some (22, [2, 3, 4, 7, 8, 9], LuPutF A)
  | _ => none

def LrPutF (A : Ar) : List X → Hp → Tr (Ex × List X × Hp)
  | [.sl (.int .i64) l nl2 false, .sl (.int .u8) [] (some true) true, .d (.int .i64) _, .sl (.int .u8) out (some nl) true, .d (.int .i64) i], [] =>
    .test (A.se (gPut l out i))
      (.test (A.se ((l.drop i.toNat).all goodN))
        (.give (.exit 0, [.dead, .dead, .dead, u8s (A.se (out ++ ups (l.drop i.toNat))) (some (A.se (nl && (ups (l.drop i.toNat)).isEmpty))) true, .dead], []))
        (.give (.ret, [.dead, u8s [] (some true) true, i64x 10, .dead, .dead], []))) .no
  | _, _ => .no

def LrPut (A : Ar) : Lp := fun k => match k with
  | 3 => some (26, [0, 2, 3, 4, 5], LrPutF A)
  | _ => none

def LsameF (A : Ar) : List X → Hp → Tr (Ex × List X × Hp)
  | [.sl (.int .i64) a nl false, .sl (.int .i64) b nl2 false, .d .bool _, .d (.int .i64) i], [] =>
    .test (A.se (decide (a.length ≤ 9223372036854775806 ∧ a.length = b.length ∧ 0 ≤ i ∧ i ≤ a.length)))
      (.test (A.se (decide (a.drop i.toNat = b.drop i.toNat))) (.give (.exit 0, [.dead, .dead, .dead, .dead], [])) (.give (.ret, [.dead, .dead, boolx false, .dead], []))) .no
  | _, _ => .no

def Lsame (A : Ar) : Lp := fun k => match k with
  | 4 => some (26, [0, 1, 4, 5], LsameF A)
  | _ => none

end Go.Proofs.Ytnbfiifkaddehaa.V.U

/- Chapter 01, utf: each function's tree. By program; each equation is checked by the kernel. -/
namespace Go.Proofs.Ytnbfiifkaddehaa.V.U

open Go

set_option linter.unusedVariables false

set_option linter.unusedSimpArgs false

theorem tGood (A : Ar) (n : Int) : bodyX (Cx A noO noL) 100 Try.f30 [.d (.int .i64) n] [] =
    (bif decide (n < (0 : Int)) then some (X.d Ty.bool false, [])
    else
      bif decide (n > (1114111 : Int)) then some (X.d Ty.bool false, [])
      else
        bif decide (n ≥ (55296 : Int)) then some (X.d Ty.bool (decide (n > (57343 : Int))), [])
        else some (X.d Ty.bool true, [])) := by kernel_rfl

theorem tRGood (A : Ar) (n : Int) : bodyX (Cx A noO noL) 100 Try.f32 [.d (.int .i64) n] [] =
    (bif decide (n ≥ (0 : Int)) == true then
      bif decide (n ≤ (1114111 : Int)) == true then
        bif decide (n < (55296 : Int)) == false then some (X.d Ty.bool (decide (n > (57343 : Int))), [])
        else some (X.d Ty.bool true, [])
      else some (X.d Ty.bool false, [])
    else some (X.d Ty.bool false, [])) := by kernel_rfl

theorem tROne (A : Ar) (n : Int) : bodyX (Cx A noO noL) 100 Try.f59 [.d (.int .i64) n] [] =
    (bif decide (n < (128 : Int)) then some (X.sl (Ty.int IntKind.u8) [A.wrap IntKind.u8 n] (some false) true, [])
    else
      bif decide (n < (2048 : Int)) then
        some
          (X.sl (Ty.int IntKind.u8)
              [A.wrap IntKind.u8 (A.wrap IntKind.i64 ((192 : Int) + A.wrap IntKind.i64 (Int.tdiv n (64 : Int)))),
                A.wrap IntKind.u8 (A.wrap IntKind.i64 ((128 : Int) + Int.tmod n (64 : Int)))]
              (some false) true,
            [])
      else
        bif decide (n < (65536 : Int)) then
          some
            (X.sl (Ty.int IntKind.u8)
                [A.wrap IntKind.u8 (A.wrap IntKind.i64 ((224 : Int) + A.wrap IntKind.i64 (Int.tdiv n (4096 : Int)))),
                  A.wrap IntKind.u8
                    (A.wrap IntKind.i64 ((128 : Int) + Int.tmod (A.wrap IntKind.i64 (Int.tdiv n (64 : Int))) (64 : Int))),
                  A.wrap IntKind.u8 (A.wrap IntKind.i64 ((128 : Int) + Int.tmod n (64 : Int)))]
                (some false) true,
              [])
        else
          some
            (X.sl (Ty.int IntKind.u8)
                [A.wrap IntKind.u8 (A.wrap IntKind.i64 ((240 : Int) + A.wrap IntKind.i64 (Int.tdiv n (262144 : Int)))),
                  A.wrap IntKind.u8
                    (A.wrap IntKind.i64 ((128 : Int) + Int.tmod (A.wrap IntKind.i64 (Int.tdiv n (4096 : Int))) (64 : Int))),
                  A.wrap IntKind.u8
                    (A.wrap IntKind.i64 ((128 : Int) + Int.tmod (A.wrap IntKind.i64 (Int.tdiv n (64 : Int))) (64 : Int))),
                  A.wrap IntKind.u8 (A.wrap IntKind.i64 ((128 : Int) + Int.tmod n (64 : Int)))]
                (some false) true,
              [])) := by kernel_rfl

theorem tNonAsc (A : Ar) (b : List Int) (nl : Bool) (n : Int) : bodyX (Cx A (Out1 A) noL) 100 Try.f61 [.sl (.int .u8) b (some nl) true, .d (.int .i32) n] [] =
    (bif decide (A.wrap IntKind.u32 n ≤ (2047 : Int)) then
      bif
          decide
            ((List.length b +
                  List.length
                    [A.wrap IntKind.u8
                        (A.bor (8 : Nat) (192 : Int) (A.wrap IntKind.u8 (Int.fdiv n (A.p2 (6 : Int) (32 : Nat))))),
                      A.wrap IntKind.u8
                        (A.bor (8 : Nat) (128 : Int)
                          (A.wrap IntKind.u8 (A.band (8 : Nat) (A.wrap IntKind.u8 n) (63 : Int))))]) *
                (1 : Nat) ≤
              (140737488355328 : Nat)) then
        some
          (X.sl (Ty.int IntKind.u8)
              (b ++
                [A.wrap IntKind.u8
                    (A.bor (8 : Nat) (192 : Int) (A.wrap IntKind.u8 (Int.fdiv n (A.p2 (6 : Int) (32 : Nat))))),
                  A.wrap IntKind.u8
                    (A.bor (8 : Nat) (128 : Int) (A.wrap IntKind.u8 (A.band (8 : Nat) (A.wrap IntKind.u8 n) (63 : Int))))])
              (some
                (nl &&
                  List.isEmpty
                    [A.wrap IntKind.u8
                        (A.bor (8 : Nat) (192 : Int) (A.wrap IntKind.u8 (Int.fdiv n (A.p2 (6 : Int) (32 : Nat))))),
                      A.wrap IntKind.u8
                        (A.bor (8 : Nat) (128 : Int)
                          (A.wrap IntKind.u8 (A.band (8 : Nat) (A.wrap IntKind.u8 n) (63 : Int))))]))
              true,
            [])
      else none
    else
      bif decide (A.wrap IntKind.u32 n < (55296 : Int)) then
        bif
            decide
              ((List.length b +
                    List.length
                      [A.wrap IntKind.u8
                          (A.bor (8 : Nat) (224 : Int) (A.wrap IntKind.u8 (Int.fdiv n (A.p2 (12 : Int) (32 : Nat))))),
                        A.wrap IntKind.u8
                          (A.bor (8 : Nat) (128 : Int)
                            (A.wrap IntKind.u8
                              (A.band (8 : Nat) (A.wrap IntKind.u8 (Int.fdiv n (A.p2 (6 : Int) (32 : Nat)))) (63 : Int)))),
                        A.wrap IntKind.u8
                          (A.bor (8 : Nat) (128 : Int)
                            (A.wrap IntKind.u8 (A.band (8 : Nat) (A.wrap IntKind.u8 n) (63 : Int))))]) *
                  (1 : Nat) ≤
                (140737488355328 : Nat)) then
          some
            (X.sl (Ty.int IntKind.u8)
                (b ++
                  [A.wrap IntKind.u8
                      (A.bor (8 : Nat) (224 : Int) (A.wrap IntKind.u8 (Int.fdiv n (A.p2 (12 : Int) (32 : Nat))))),
                    A.wrap IntKind.u8
                      (A.bor (8 : Nat) (128 : Int)
                        (A.wrap IntKind.u8
                          (A.band (8 : Nat) (A.wrap IntKind.u8 (Int.fdiv n (A.p2 (6 : Int) (32 : Nat)))) (63 : Int)))),
                    A.wrap IntKind.u8
                      (A.bor (8 : Nat) (128 : Int)
                        (A.wrap IntKind.u8 (A.band (8 : Nat) (A.wrap IntKind.u8 n) (63 : Int))))])
                (some
                  (nl &&
                    List.isEmpty
                      [A.wrap IntKind.u8
                          (A.bor (8 : Nat) (224 : Int) (A.wrap IntKind.u8 (Int.fdiv n (A.p2 (12 : Int) (32 : Nat))))),
                        A.wrap IntKind.u8
                          (A.bor (8 : Nat) (128 : Int)
                            (A.wrap IntKind.u8
                              (A.band (8 : Nat) (A.wrap IntKind.u8 (Int.fdiv n (A.p2 (6 : Int) (32 : Nat)))) (63 : Int)))),
                        A.wrap IntKind.u8
                          (A.bor (8 : Nat) (128 : Int)
                            (A.wrap IntKind.u8 (A.band (8 : Nat) (A.wrap IntKind.u8 n) (63 : Int))))]))
                true,
              [])
        else none
      else
        bif decide ((57343 : Int) < A.wrap IntKind.u32 n) == true then
          bif decide (A.wrap IntKind.u32 n ≤ (65535 : Int)) then
            bif
                decide
                  ((List.length b +
                        List.length
                          [A.wrap IntKind.u8
                              (A.bor (8 : Nat) (224 : Int) (A.wrap IntKind.u8 (Int.fdiv n (A.p2 (12 : Int) (32 : Nat))))),
                            A.wrap IntKind.u8
                              (A.bor (8 : Nat) (128 : Int)
                                (A.wrap IntKind.u8
                                  (A.band (8 : Nat) (A.wrap IntKind.u8 (Int.fdiv n (A.p2 (6 : Int) (32 : Nat))))
                                    (63 : Int)))),
                            A.wrap IntKind.u8
                              (A.bor (8 : Nat) (128 : Int)
                                (A.wrap IntKind.u8 (A.band (8 : Nat) (A.wrap IntKind.u8 n) (63 : Int))))]) *
                      (1 : Nat) ≤
                    (140737488355328 : Nat)) then
              some
                (X.sl (Ty.int IntKind.u8)
                    (b ++
                      [A.wrap IntKind.u8
                          (A.bor (8 : Nat) (224 : Int) (A.wrap IntKind.u8 (Int.fdiv n (A.p2 (12 : Int) (32 : Nat))))),
                        A.wrap IntKind.u8
                          (A.bor (8 : Nat) (128 : Int)
                            (A.wrap IntKind.u8
                              (A.band (8 : Nat) (A.wrap IntKind.u8 (Int.fdiv n (A.p2 (6 : Int) (32 : Nat)))) (63 : Int)))),
                        A.wrap IntKind.u8
                          (A.bor (8 : Nat) (128 : Int)
                            (A.wrap IntKind.u8 (A.band (8 : Nat) (A.wrap IntKind.u8 n) (63 : Int))))])
                    (some
                      (nl &&
                        List.isEmpty
                          [A.wrap IntKind.u8
                              (A.bor (8 : Nat) (224 : Int) (A.wrap IntKind.u8 (Int.fdiv n (A.p2 (12 : Int) (32 : Nat))))),
                            A.wrap IntKind.u8
                              (A.bor (8 : Nat) (128 : Int)
                                (A.wrap IntKind.u8
                                  (A.band (8 : Nat) (A.wrap IntKind.u8 (Int.fdiv n (A.p2 (6 : Int) (32 : Nat))))
                                    (63 : Int)))),
                            A.wrap IntKind.u8
                              (A.bor (8 : Nat) (128 : Int)
                                (A.wrap IntKind.u8 (A.band (8 : Nat) (A.wrap IntKind.u8 n) (63 : Int))))]))
                    true,
                  [])
            else none
          else
            bif decide (A.wrap IntKind.u32 n > (65535 : Int)) == true then
              bif decide (A.wrap IntKind.u32 n ≤ (1114111 : Int)) then
                bif
                    decide
                      ((List.length b +
                            List.length
                              [A.wrap IntKind.u8
                                  (A.bor (8 : Nat) (240 : Int)
                                    (A.wrap IntKind.u8 (Int.fdiv n (A.p2 (18 : Int) (32 : Nat))))),
                                A.wrap IntKind.u8
                                  (A.bor (8 : Nat) (128 : Int)
                                    (A.wrap IntKind.u8
                                      (A.band (8 : Nat) (A.wrap IntKind.u8 (Int.fdiv n (A.p2 (12 : Int) (32 : Nat))))
                                        (63 : Int)))),
                                A.wrap IntKind.u8
                                  (A.bor (8 : Nat) (128 : Int)
                                    (A.wrap IntKind.u8
                                      (A.band (8 : Nat) (A.wrap IntKind.u8 (Int.fdiv n (A.p2 (6 : Int) (32 : Nat))))
                                        (63 : Int)))),
                                A.wrap IntKind.u8
                                  (A.bor (8 : Nat) (128 : Int)
                                    (A.wrap IntKind.u8 (A.band (8 : Nat) (A.wrap IntKind.u8 n) (63 : Int))))]) *
                          (1 : Nat) ≤
                        (140737488355328 : Nat)) then
                  some
                    (X.sl (Ty.int IntKind.u8)
                        (b ++
                          [A.wrap IntKind.u8
                              (A.bor (8 : Nat) (240 : Int) (A.wrap IntKind.u8 (Int.fdiv n (A.p2 (18 : Int) (32 : Nat))))),
                            A.wrap IntKind.u8
                              (A.bor (8 : Nat) (128 : Int)
                                (A.wrap IntKind.u8
                                  (A.band (8 : Nat) (A.wrap IntKind.u8 (Int.fdiv n (A.p2 (12 : Int) (32 : Nat))))
                                    (63 : Int)))),
                            A.wrap IntKind.u8
                              (A.bor (8 : Nat) (128 : Int)
                                (A.wrap IntKind.u8
                                  (A.band (8 : Nat) (A.wrap IntKind.u8 (Int.fdiv n (A.p2 (6 : Int) (32 : Nat))))
                                    (63 : Int)))),
                            A.wrap IntKind.u8
                              (A.bor (8 : Nat) (128 : Int)
                                (A.wrap IntKind.u8 (A.band (8 : Nat) (A.wrap IntKind.u8 n) (63 : Int))))])
                        (some
                          (nl &&
                            List.isEmpty
                              [A.wrap IntKind.u8
                                  (A.bor (8 : Nat) (240 : Int)
                                    (A.wrap IntKind.u8 (Int.fdiv n (A.p2 (18 : Int) (32 : Nat))))),
                                A.wrap IntKind.u8
                                  (A.bor (8 : Nat) (128 : Int)
                                    (A.wrap IntKind.u8
                                      (A.band (8 : Nat) (A.wrap IntKind.u8 (Int.fdiv n (A.p2 (12 : Int) (32 : Nat))))
                                        (63 : Int)))),
                                A.wrap IntKind.u8
                                  (A.bor (8 : Nat) (128 : Int)
                                    (A.wrap IntKind.u8
                                      (A.band (8 : Nat) (A.wrap IntKind.u8 (Int.fdiv n (A.p2 (6 : Int) (32 : Nat))))
                                        (63 : Int)))),
                                A.wrap IntKind.u8
                                  (A.bor (8 : Nat) (128 : Int)
                                    (A.wrap IntKind.u8 (A.band (8 : Nat) (A.wrap IntKind.u8 n) (63 : Int))))]))
                        true,
                      [])
                else none
              else
                bif
                    decide
                      ((List.length b + List.length [(239 : Int), (191 : Int), (189 : Int)]) * (1 : Nat) ≤
                        (140737488355328 : Nat)) then
                  some
                    (X.sl (Ty.int IntKind.u8) (b ++ [(239 : Int), (191 : Int), (189 : Int)])
                        (some (nl && List.isEmpty [(239 : Int), (191 : Int), (189 : Int)])) true,
                      [])
                else none
            else
              bif
                  decide
                    ((List.length b + List.length [(239 : Int), (191 : Int), (189 : Int)]) * (1 : Nat) ≤
                      (140737488355328 : Nat)) then
                some
                  (X.sl (Ty.int IntKind.u8) (b ++ [(239 : Int), (191 : Int), (189 : Int)])
                      (some (nl && List.isEmpty [(239 : Int), (191 : Int), (189 : Int)])) true,
                    [])
              else none
        else
          bif decide (A.wrap IntKind.u32 n > (65535 : Int)) == true then
            bif decide (A.wrap IntKind.u32 n ≤ (1114111 : Int)) then
              bif
                  decide
                    ((List.length b +
                          List.length
                            [A.wrap IntKind.u8
                                (A.bor (8 : Nat) (240 : Int) (A.wrap IntKind.u8 (Int.fdiv n (A.p2 (18 : Int) (32 : Nat))))),
                              A.wrap IntKind.u8
                                (A.bor (8 : Nat) (128 : Int)
                                  (A.wrap IntKind.u8
                                    (A.band (8 : Nat) (A.wrap IntKind.u8 (Int.fdiv n (A.p2 (12 : Int) (32 : Nat))))
                                      (63 : Int)))),
                              A.wrap IntKind.u8
                                (A.bor (8 : Nat) (128 : Int)
                                  (A.wrap IntKind.u8
                                    (A.band (8 : Nat) (A.wrap IntKind.u8 (Int.fdiv n (A.p2 (6 : Int) (32 : Nat))))
                                      (63 : Int)))),
                              A.wrap IntKind.u8
                                (A.bor (8 : Nat) (128 : Int)
                                  (A.wrap IntKind.u8 (A.band (8 : Nat) (A.wrap IntKind.u8 n) (63 : Int))))]) *
                        (1 : Nat) ≤
                      (140737488355328 : Nat)) then
                some
                  (X.sl (Ty.int IntKind.u8)
                      (b ++
                        [A.wrap IntKind.u8
                            (A.bor (8 : Nat) (240 : Int) (A.wrap IntKind.u8 (Int.fdiv n (A.p2 (18 : Int) (32 : Nat))))),
                          A.wrap IntKind.u8
                            (A.bor (8 : Nat) (128 : Int)
                              (A.wrap IntKind.u8
                                (A.band (8 : Nat) (A.wrap IntKind.u8 (Int.fdiv n (A.p2 (12 : Int) (32 : Nat))))
                                  (63 : Int)))),
                          A.wrap IntKind.u8
                            (A.bor (8 : Nat) (128 : Int)
                              (A.wrap IntKind.u8
                                (A.band (8 : Nat) (A.wrap IntKind.u8 (Int.fdiv n (A.p2 (6 : Int) (32 : Nat))))
                                  (63 : Int)))),
                          A.wrap IntKind.u8
                            (A.bor (8 : Nat) (128 : Int)
                              (A.wrap IntKind.u8 (A.band (8 : Nat) (A.wrap IntKind.u8 n) (63 : Int))))])
                      (some
                        (nl &&
                          List.isEmpty
                            [A.wrap IntKind.u8
                                (A.bor (8 : Nat) (240 : Int) (A.wrap IntKind.u8 (Int.fdiv n (A.p2 (18 : Int) (32 : Nat))))),
                              A.wrap IntKind.u8
                                (A.bor (8 : Nat) (128 : Int)
                                  (A.wrap IntKind.u8
                                    (A.band (8 : Nat) (A.wrap IntKind.u8 (Int.fdiv n (A.p2 (12 : Int) (32 : Nat))))
                                      (63 : Int)))),
                              A.wrap IntKind.u8
                                (A.bor (8 : Nat) (128 : Int)
                                  (A.wrap IntKind.u8
                                    (A.band (8 : Nat) (A.wrap IntKind.u8 (Int.fdiv n (A.p2 (6 : Int) (32 : Nat))))
                                      (63 : Int)))),
                              A.wrap IntKind.u8
                                (A.bor (8 : Nat) (128 : Int)
                                  (A.wrap IntKind.u8 (A.band (8 : Nat) (A.wrap IntKind.u8 n) (63 : Int))))]))
                      true,
                    [])
              else none
            else
              bif
                  decide
                    ((List.length b + List.length [(239 : Int), (191 : Int), (189 : Int)]) * (1 : Nat) ≤
                      (140737488355328 : Nat)) then
                some
                  (X.sl (Ty.int IntKind.u8) (b ++ [(239 : Int), (191 : Int), (189 : Int)])
                      (some (nl && List.isEmpty [(239 : Int), (191 : Int), (189 : Int)])) true,
                    [])
              else none
          else
            bif
                decide
                  ((List.length b + List.length [(239 : Int), (191 : Int), (189 : Int)]) * (1 : Nat) ≤
                    (140737488355328 : Nat)) then
              some
                (X.sl (Ty.int IntKind.u8) (b ++ [(239 : Int), (191 : Int), (189 : Int)])
                    (some (nl && List.isEmpty [(239 : Int), (191 : Int), (189 : Int)])) true,
                  [])
            else none) := by kernel_rfl

theorem tAppRune (A : Ar) (b : List Int) (nl : Bool) (n : Int) : bodyX (Cx A (Out2 A) noL) 100 Try.f54 [.sl (.int .u8) b (some nl) true, .d (.int .i32) n] [] =
    (bif decide (A.wrap IntKind.u32 n ≤ (127 : Int)) then
      bif decide ((List.length b + List.length [A.wrap IntKind.u8 n]) * (1 : Nat) ≤ (140737488355328 : Nat)) then
        some
          (X.sl (Ty.int IntKind.u8) (b ++ [A.wrap IntKind.u8 n]) (some (nl && List.isEmpty [A.wrap IntKind.u8 n])) true, [])
      else none
    else
      bif A.se (goodN n && decide ((128 : Int) ≤ n ∧ List.length b ≤ (70368744177664 : Nat))) then
        some (X.sl (Ty.int IntKind.u8) (A.se (b ++ ub n)) (some false) true, [])
      else none) := by kernel_rfl

theorem lUPut (A : Ar) (R : Type) (z : Int) (out : List Int) (nl : Bool) (l : List Int) (nl2 : Option Bool) (n i : Int) (k : Ex → List X → Hp → Option R) : stepF (Cx A (Out3 A) (LuPut A)) 100 (loopAt Try.f38 0) 22 [2, 3, 4, 7, 8, 9] [u8s [] (some true) true, i64x z, u8s out (some nl) true, i64s l nl2 false, i64x n, i64x i] [] k =
    (bif decide (i < n) then
      bif decide ((0 : Int) ≤ i ∧ i < (↑(List.length l) : Int)) then
        bif !A.se (goodN (List.getD l (Int.toNat i) (0 : Int))) then
          k Ex.ret
            [X.sl (Ty.int IntKind.u8) [] (some true) true, X.d (Ty.int IntKind.i64) (10 : Int),
              X.sl (Ty.int IntKind.u8) out (some nl) true, X.sl (Ty.int IntKind.i64) l nl2 false,
              X.d (Ty.int IntKind.i64) n, X.d (Ty.int IntKind.i64) i]
            []
        else
          bif
              A.se
                (goodN (A.wrap IntKind.i32 (List.getD l (Int.toNat i) (0 : Int))) &&
                  decide (List.length out ≤ (70368744177664 : Nat))) then
            k Ex.normal
              [X.sl (Ty.int IntKind.u8) [] (some true) true, X.d (Ty.int IntKind.i64) z,
                X.sl (Ty.int IntKind.u8)
                  (A.se (out ++ ub (A.wrap IntKind.i32 (List.getD l (Int.toNat i) (0 : Int)))))
                  (some false) true,
                X.sl (Ty.int IntKind.i64) l nl2 false, X.d (Ty.int IntKind.i64) n,
                X.d (Ty.int IntKind.i64) (A.wrap IntKind.i64 (i + (1 : Int)))]
              []
          else none
      else none
    else
      k (Ex.exit (0 : Nat))
        [X.sl (Ty.int IntKind.u8) [] (some true) true, X.d (Ty.int IntKind.i64) z,
          X.sl (Ty.int IntKind.u8) out (some nl) true, X.sl (Ty.int IntKind.i64) l nl2 false, X.d (Ty.int IntKind.i64) n,
          X.d (Ty.int IntKind.i64) i]
        []) := by kernel_rfl

theorem tUPut (A : Ar) (l : List Int) (nl2 : Option Bool) : bodyX (Cx A (Out3 A) (LuPut A)) 100 Try.f38 [i64s l nl2 false] [] =
    (bif
        A.se
          (gPut l [] (0 : Int) && decide ((↑(List.length l) : Int) = (↑(List.length l) : Int))) then
      bif A.se (List.all (List.drop (Int.toNat (0 : Int)) l) goodN) then
        some
          (X.tup
              [X.sl (Ty.int IntKind.u8) (A.se ([] ++ ups (List.drop (Int.toNat (0 : Int)) l)))
                  (some (A.se (true && List.isEmpty (ups (List.drop (Int.toNat (0 : Int)) l))))) false,
                X.d (Ty.int IntKind.i64) (0 : Int)],
            [])
      else some (X.tup [X.sl (Ty.int IntKind.u8) [] (some true) false, X.d (Ty.int IntKind.i64) (10 : Int)], [])
    else none) := by kernel_rfl

theorem lRPut (A : Ar) (R : Type) (l : List Int) (nl2 : Option Bool) (z : Int) (out : List Int) (nl : Bool) (i : Int) (k : Ex → List X → Hp → Option R) : stepF (Cx A (Out3 A) (LrPut A)) 100 (loopAt Try.f50 0) 26 [0, 2, 3, 4, 5] [i64s l nl2 false, u8s [] (some true) true, i64x z, u8s out (some nl) true, i64x i] [] k =
    (bif decide (i < (↑(List.length l) : Int)) then
      bif decide ((0 : Int) ≤ i ∧ i < (↑(List.length l) : Int)) then
        bif !A.se (goodN (List.getD l (Int.toNat i) (0 : Int))) then
          k Ex.ret
            [X.sl (Ty.int IntKind.i64) l nl2 false, X.sl (Ty.int IntKind.u8) [] (some true) true,
              X.d (Ty.int IntKind.i64) (10 : Int), X.sl (Ty.int IntKind.u8) out (some nl) true, X.d (Ty.int IntKind.i64) i]
            []
        else
          bif decide ((0 : Int) ≤ i ∧ i < (↑(List.length l) : Int)) then
            bif A.se (goodN (List.getD l (Int.toNat i) (0 : Int))) then
              bif
                  decide
                    ((List.length out +
                          List.length (A.se (ub (List.getD l (Int.toNat i) (0 : Int))))) *
                        (1 : Nat) ≤
                      (140737488355328 : Nat)) then
                k Ex.normal
                  [X.sl (Ty.int IntKind.i64) l nl2 false, X.sl (Ty.int IntKind.u8) [] (some true) true,
                    X.d (Ty.int IntKind.i64) z,
                    X.sl (Ty.int IntKind.u8) (out ++ A.se (ub (List.getD l (Int.toNat i) (0 : Int))))
                      (some (nl && List.isEmpty (A.se (ub (List.getD l (Int.toNat i) (0 : Int))))))
                      true,
                    X.d (Ty.int IntKind.i64) (A.wrap IntKind.i64 (i + (1 : Int)))]
                  []
              else none
            else none
          else none
      else none
    else
      k (Ex.exit (0 : Nat))
        [X.sl (Ty.int IntKind.i64) l nl2 false, X.sl (Ty.int IntKind.u8) [] (some true) true, X.d (Ty.int IntKind.i64) z,
          X.sl (Ty.int IntKind.u8) out (some nl) true, X.d (Ty.int IntKind.i64) i]
        []) := by kernel_rfl

theorem tRPut (A : Ar) (l : List Int) (nl2 : Option Bool) : bodyX (Cx A (Out3 A) (LrPut A)) 100 Try.f50 [i64s l nl2 false] [] =
    (bif A.se (gPut l [] (0 : Int)) then
      bif A.se (List.all (List.drop (Int.toNat (0 : Int)) l) goodN) then
        some
          (X.tup
              [X.sl (Ty.int IntKind.u8) (A.se ([] ++ ups (List.drop (Int.toNat (0 : Int)) l)))
                  (some (A.se (true && List.isEmpty (ups (List.drop (Int.toNat (0 : Int)) l))))) false,
                X.d (Ty.int IntKind.i64) (0 : Int)],
            [])
      else some (X.tup [X.sl (Ty.int IntKind.u8) [] (some true) false, X.d (Ty.int IntKind.i64) (10 : Int)], [])
    else none) := by kernel_rfl

theorem lSame (A : Ar) (R : Type) (a : List Int) (nl : Option Bool) (b : List Int) (nl2 : Option Bool) (x : Bool) (i : Int) (k : Ex → List X → Hp → Option R) : stepF (Cx A (Out7 A) (Lsame A)) 100 (loopAt Try.f26 0) 26 [0, 1, 4, 5] [i64s a nl false, i64s b nl2 false, boolx x, i64x i] [] k =
    (bif decide (i < (↑(List.length a) : Int)) then
      bif decide ((0 : Int) ≤ i ∧ i < (↑(List.length a) : Int)) then
        bif decide ((0 : Int) ≤ i ∧ i < (↑(List.length b) : Int)) then
          bif
              List.getD a (Int.toNat i) (0 : Int) !=
                List.getD b (Int.toNat i) (0 : Int) then
            k Ex.ret
              [X.sl (Ty.int IntKind.i64) a nl false, X.sl (Ty.int IntKind.i64) b nl2 false, X.d Ty.bool false,
                X.d (Ty.int IntKind.i64) i]
              []
          else
            k Ex.normal
              [X.sl (Ty.int IntKind.i64) a nl false, X.sl (Ty.int IntKind.i64) b nl2 false, X.d Ty.bool x,
                X.d (Ty.int IntKind.i64) (A.wrap IntKind.i64 (i + (1 : Int)))]
              []
        else none
      else none
    else
      k (Ex.exit (0 : Nat))
        [X.sl (Ty.int IntKind.i64) a nl false, X.sl (Ty.int IntKind.i64) b nl2 false, X.d Ty.bool x,
          X.d (Ty.int IntKind.i64) i]
        []) := by kernel_rfl

theorem tSame (A : Ar) (a : List Int) (nl : Option Bool) (b : List Int) (nl2 : Option Bool) : bodyX (Cx A (Out7 A) (Lsame A)) 100 Try.f26 [i64s a nl false, i64s b nl2 false] [] =
    (bif (↑(List.length a) : Int) != (↑(List.length b) : Int) then some (X.d Ty.bool false, [])
    else
      bif
          A.se
            (decide
              (List.length a ≤ (9223372036854775806 : Nat) ∧
                List.length a = List.length b ∧
                  (0 : Int) ≤ (0 : Int) ∧
                    (0 : Int) ≤ (↑(List.length a) : Int))) then
        bif A.se (decide (List.drop (Int.toNat (0 : Int)) a = List.drop (Int.toNat (0 : Int)) b)) then
          some (X.d Ty.bool true, [])
        else some (X.d Ty.bool false, [])
      else none) := by kernel_rfl

end Go.Proofs.Ytnbfiifkaddehaa.V.U

/- Chapter 01, utf: a sign's bytes: the functions that put do what they tell. -/
namespace Go.Proofs.Ytnbfiifkaddehaa.V.U

open Go

set_option linter.unusedVariables false

set_option linter.unusedSimpArgs false

theorem o_no : OOk noO := fun _ _ h => by cases h

theorem good_cond (n : Int) : goodN n = decide (0 ≤ n ∧ n ≤ 1114111 ∧ (n < 55296 ∨ 57343 < n)) := rfl

theorem good_core (n : Int) : bodyX (Cx Ar.real noO noL) 100 Try.f30 [.d (.int .i64) n] [] = some (boolx (Ar.real.se (goodN n)), []) := by
  rw [tGood, rw_se, good_cond]
  by_cases h1 : n < 0
  · rw [bt (decide_eq_true h1), decide_eq_false (by omega)]
  · rw [bf (decide_eq_false h1)]
    by_cases h2 : n > 1114111
    · rw [bt (decide_eq_true h2), decide_eq_false (by omega)]
    · rw [bf (decide_eq_false h2)]
      by_cases h3 : n ≥ 55296
      · rw [bt (decide_eq_true h3)]
        by_cases h4 : n > 57343
        · rw [decide_eq_true h4, decide_eq_true (by omega)]
        · rw [decide_eq_false h4, decide_eq_false (by omega)]
      · rw [bf (decide_eq_false h3), decide_eq_true (by omega)]

theorem rgood_core (n : Int) : bodyX (Cx Ar.real noO noL) 100 Try.f32 [.d (.int .i64) n] [] = some (boolx (Ar.real.se (goodN n)), []) := by
  rw [tRGood, rw_se, good_cond]
  by_cases h1 : n ≥ 0
  · rw [bt (by rw [decide_eq_true h1]; rfl)]
    by_cases h2 : n ≤ 1114111
    · rw [bt (by rw [decide_eq_true h2]; rfl)]
      by_cases h3 : n < 55296
      · rw [bf (by rw [decide_eq_true h3]; rfl), decide_eq_true (by omega)]
      · rw [bt (by rw [decide_eq_false h3]; rfl)]
        by_cases h4 : n > 57343
        · rw [decide_eq_true h4, decide_eq_true (by omega)]
        · rw [decide_eq_false h4, decide_eq_false (by omega)]
    · rw [bf (by rw [decide_eq_false h2]; rfl), decide_eq_false (by omega)]
  · rw [bf (by rw [decide_eq_false h1]; rfl), decide_eq_false (by omega)]

theorem good_ok : OrcOk Try.prog 30 (.pure (goodF Ar.real)) := by
  refine pureOk (Cx.ok o_no noL) mixed 30 Try.f30 (by kernel_rfl) (by kernel_rfl) (by kernel_rfl) 100 0 (by kernel_rfl) (fun i h => by omega) fun args r h => ?_
  unfold goodF at h
  split at h
  · rename_i n
    cases h
    exact ⟨rfl, rfl, [], good_core n⟩
  · cases h

theorem rgood_ok : OrcOk Try.prog 32 (.pure (goodF Ar.real)) := by
  refine pureOk (Cx.ok o_no noL) mixed 32 Try.f32 (by kernel_rfl) (by kernel_rfl) (by kernel_rfl) 100 0 (by kernel_rfl) (fun i h => by omega) fun args r h => ?_
  unfold goodF at h
  split at h
  · rename_i n
    cases h
    exact ⟨rfl, rfl, [], rgood_core n⟩
  · cases h

theorem one_core (n : Int) (h : goodN n = true) : bodyX (Cx Ar.real noO noL) 100 Try.f59 [.d (.int .i64) n] [] = some (u8s (ub n) (some false) true, []) := by
  rw [tROne]
  rw [goodN_iff] at h
  have t : ∀ k : Int, 0 ≤ k → Int.tdiv n k = n / k := fun k _ => Int.tdiv_eq_ediv_of_nonneg (by omega)
  have m : ∀ a k : Int, 0 ≤ a → Int.tmod a k = a % k := fun a k ha => Int.tmod_eq_emod_of_nonneg ha
  simp only [rw_wrap, t 64 (by omega), t 4096 (by omega), t 262144 (by omega)]
  have w1 : IntKind.i64.wrap (n / 64) = n / 64 := wi64 (by omega) (by omega)
  have w2 : IntKind.i64.wrap (n / 4096) = n / 4096 := wi64 (by omega) (by omega)
  have w3 : IntKind.i64.wrap (n / 262144) = n / 262144 := wi64 (by omega) (by omega)
  simp only [w1, w2, w3]
  rw [m n 64 (by omega), m (n / 64) 64 (by omega), m (n / 4096) 64 (by omega)]
  unfold ub
  by_cases h1 : n < 128
  · rw [bt (decide_eq_true h1), if_pos h1, wu8 (by omega) (by omega)]
  · rw [bf (decide_eq_false h1), if_neg h1]
    by_cases h2 : n < 2048
    · rw [bt (decide_eq_true h2), if_pos h2]
      rw [wi64 (n := 192 + n / 64) (by omega) (by omega), wi64 (n := 128 + n % 64) (by omega) (by omega), wu8 (n := 192 + n / 64) (by omega) (by omega), wu8 (n := 128 + n % 64) (by omega) (by omega)]
    · rw [bf (decide_eq_false h2), if_neg h2]
      rw [wi64 (n := 128 + n % 64) (by omega) (by omega), wu8 (n := 128 + n % 64) (by omega) (by omega), wi64 (n := 128 + n / 64 % 64) (by omega) (by omega), wu8 (n := 128 + n / 64 % 64) (by omega) (by omega)]
      by_cases h3 : n < 65536
      · rw [bt (decide_eq_true h3), if_pos h3]
        rw [wi64 (n := 224 + n / 4096) (by omega) (by omega), wu8 (n := 224 + n / 4096) (by omega) (by omega)]
      · rw [bf (decide_eq_false h3), if_neg h3]
        rw [wi64 (n := 240 + n / 262144) (by omega) (by omega), wu8 (n := 240 + n / 262144) (by omega) (by omega), wi64 (n := 128 + n / 4096 % 64) (by omega) (by omega), wu8 (n := 128 + n / 4096 % 64) (by omega) (by omega)]

theorem uone_ok : OrcOk Try.prog 59 (.pure (uoneF Ar.real)) := by
  refine pureOk (Cx.ok o_no noL) mixed 59 Try.f59 (by kernel_rfl) (by kernel_rfl) (by kernel_rfl) 100 0 (by kernel_rfl) (fun i h => by omega) fun args r h => ?_
  unfold uoneF at h
  split at h
  · rename_i n
    obtain ⟨hg, rfl⟩ := Tr.one h
    exact ⟨rfl, rfl, [], one_core n hg⟩
  · cases h

theorem o_ut1 : OOk (Out1 Ar.real) := ((o_no.add good_ok).add rgood_ok).add uone_ok

/-- Bits that do not meet are added. -/
theorem or_add {n k : Nat} {a b : Int} (hk : k < n) (ha : 0 ≤ a) (hb : 0 ≤ b) (hb2 : b < 2 ^ k) (hd : a % 2 ^ k = 0) (hn : a + 2 ^ k ≤ 2 ^ n) : Ar.real.bor n a b = a + b := by
  obtain ⟨x, rfl⟩ := Int.eq_ofNat_of_zero_le ha
  obtain ⟨y, rfl⟩ := Int.eq_ofNat_of_zero_le hb
  have hy : y < 2 ^ k := by exact_mod_cast hb2
  have hx : x % 2 ^ k = 0 := by exact_mod_cast hd
  have hxn : x + 2 ^ k ≤ 2 ^ n := by exact_mod_cast hn
  have hkn : 2 ^ k ≤ 2 ^ n := Nat.pow_le_pow_right (by omega) (by omega)
  have hpos : 0 < 2 ^ k := Nat.pow_pos (by omega)
  rw [bor_nat (by omega) (by omega)]
  have hdiv : x = 2 ^ k * (x / 2 ^ k) := by
    have := Nat.div_add_mod x (2 ^ k)
    omega
  have := Nat.two_pow_add_eq_or_of_lt hy (x / 2 ^ k)
  rw [← hdiv] at this
  rw [← this]
  rfl

theorem and_low {n k : Nat} {a : Int} (m : Int) (ha : 0 ≤ a) (han : a < 2 ^ n) (hk : k ≤ n) (hm : m = 2 ^ k - 1) : Ar.real.band n a m = a % 2 ^ k := by
  obtain ⟨x, rfl⟩ := Int.eq_ofNat_of_zero_le ha
  have hx : x < 2 ^ n := by exact_mod_cast han
  have hkn : 2 ^ k ≤ 2 ^ n := Nat.pow_le_pow_right (by omega) hk
  have hpos : 0 < 2 ^ k := Nat.pow_pos (by omega)
  have hm' : m = ((2 ^ k - 1 : Nat) : Int) := by
    rw [hm]
    have : (((2 ^ k : Nat)) : Int) = (2 : Int) ^ k := by simp
    omega
  rw [hm', band_nat hx (by omega), Nat.and_two_pow_sub_one_eq_mod]
  simp

theorem fdiv2 {a : Int} (k : Nat) : Int.fdiv a (2 ^ k) = a / 2 ^ k := by
  rw [Int.fdiv_eq_ediv_of_nonneg]
  exact Int.le_of_lt (Int.pow_pos (by omega))

theorem lowB {x : Int} (hx : 0 ≤ x) : Ar.real.wrap .u8 (Ar.real.bor 8 128 (Ar.real.wrap .u8 (Ar.real.band 8 (Ar.real.wrap .u8 x) 63))) = 128 + x % 64 := by
  have e1 : Ar.real.wrap .u8 x = x % 256 := by rw [rw_wrap, wrapu8]
  rw [e1, and_low (k := 6) 63 (by omega) (by omega) (by decide) (by decide)]
  have e2 : x % 256 % 2 ^ 6 = x % 64 := by
    have : (2 : Int) ^ 6 = 64 := by decide
    rw [this]; omega
  have p6 : (2 : Int) ^ 6 = 64 := by decide
  rw [e2, rw_wrap .u8 (x % 64), wu8 (n := x % 64) (by omega) (by omega), or_add (k := 6) (by decide) (by decide) (by omega) (by omega) (by decide) (by decide), rw_wrap, wu8 (by omega) (by omega)]

theorem hiB (c : Int) (k : Nat) {x : Int} (hk : k < 8) (hx : 0 ≤ x) (hx2 : x < 2 ^ k) (hc : 0 ≤ c) (hd : c % 2 ^ k = 0) (hn : c + 2 ^ k ≤ 256) : Ar.real.wrap .u8 (Ar.real.bor 8 c (Ar.real.wrap .u8 x)) = c + x := by
  have p8 : (2 : Int) ^ 8 = 256 := by decide
  rw [rw_wrap .u8 x, wu8 hx (by omega), or_add (k := k) hk hc hx hx2 hd (by omega), rw_wrap, wu8 (by omega) (by omega)]

theorem nonAsc_core (b : List Int) (nl : Bool) (n : Int) (h : goodN n = true) (h0 : 128 ≤ n) (hl : b.length ≤ 70368744177664) :
    bodyX (Cx Ar.real (Out1 Ar.real) noL) 100 Try.f61 [.sl (.int .u8) b (some nl) true, .d (.int .i32) n] [] = some (u8s (b ++ ub n) (some false) true, []) := by
  rw [tNonAsc]
  rw [goodN_iff] at h
  have p3 : (2 : Int) ^ 3 = 8 := by decide
  have p4 : (2 : Int) ^ 4 = 16 := by decide
  have p5 : (2 : Int) ^ 5 = 32 := by decide
  have w : Ar.real.wrap .u32 n = n := by rw [rw_wrap, wu32 (by omega) (by omega)]
  have d6 : Int.fdiv n (Ar.real.p2 6 32) = n / 64 := by rw [show Ar.real.p2 6 32 = (2 : Int) ^ 6 from rfl, fdiv2]; rfl
  have d12 : Int.fdiv n (Ar.real.p2 12 32) = n / 4096 := by rw [show Ar.real.p2 12 32 = (2 : Int) ^ 12 from rfl, fdiv2]; rfl
  have d18 : Int.fdiv n (Ar.real.p2 18 32) = n / 262144 := by rw [show Ar.real.p2 18 32 = (2 : Int) ^ 18 from rfl, fdiv2]; rfl
  have n6 : 0 ≤ n / 64 := by omega
  have n12 : 0 ≤ n / 4096 := by omega
  simp only [w, d6, d12, d18, lowB (show 0 ≤ n by omega), lowB n6, lowB n12]
  have len : ∀ l : List Int, l.length ≤ 4 → decide ((b.length + l.length) * 1 ≤ 140737488355328) = true := fun l hl' => by rw [decide_eq_true_eq]; omega
  have emp : ∀ (x : Int) (l : List Int), (nl && List.isEmpty (x :: l)) = false := fun x l => by simp
  unfold ub
  rw [if_neg (show ¬ n < 128 by omega)]
  by_cases h1 : n ≤ 2047
  · rw [bt (decide_eq_true h1), if_pos (show n < 2048 by omega), hiB 192 5 (by decide) (by omega) (by omega) (by decide) (by decide) (by decide), bt (len _ (by simp)), emp]
  · rw [bf (decide_eq_false h1), if_neg (show ¬ n < 2048 by omega)]
    have three : n < 65536 → Ar.real.wrap .u8 (Ar.real.bor 8 224 (Ar.real.wrap .u8 (n / 4096))) = 224 + n / 4096 := fun h2 =>
      hiB 224 4 (by decide) (by omega) (by omega) (by decide) (by decide) (by decide)
    by_cases h2 : n < 55296
    · rw [bt (decide_eq_true h2), if_pos (show n < 65536 by omega), three (by omega), bt (len _ (by simp)), emp]
    · rw [bf (decide_eq_false h2)]
      rw [bt (by rw [decide_eq_true (show (57343 : Int) < n by omega)]; rfl)]
      by_cases h3 : n ≤ 65535
      · rw [bt (decide_eq_true h3), if_pos (show n < 65536 by omega), three (by omega), bt (len _ (by simp)), emp]
      · rw [bf (decide_eq_false h3), if_neg (show ¬ n < 65536 by omega)]
        rw [bt (by rw [decide_eq_true (show n > 65535 by omega)]; rfl), bt (decide_eq_true (show n ≤ 1114111 by omega))]
        rw [hiB 240 3 (by decide) (by omega) (by omega) (by decide) (by decide) (by decide), bt (len _ (by simp)), emp]

theorem nonAsc_ok : OrcOk Try.prog 61 (.own (nonAscF Ar.real)) := by
  show OwnOk Try.prog 61 (fun args => (nonAscF Ar.real args).run some)
  refine ownOk (Cx.ok o_ut1 noL) mixed 61 Try.f61 (by kernel_rfl) (by kernel_rfl) (by kernel_rfl) 100 0 (by kernel_rfl) (fun i h => by omega) fun e xs nl rest r h => ?_
  replace h : (nonAscF Ar.real (.sl e xs nl true :: rest)).run some = some r := h
  unfold nonAscF at h
  split at h
  · rename_i b nl' n heq
    simp only [List.cons.injEq, X.sl.injEq, and_true] at heq
    obtain ⟨⟨rfl, hb, rfl⟩, rfl⟩ := heq
    cases hb
    obtain ⟨hg, rfl⟩ := Tr.one h
    rw [rw_se, Bool.and_eq_true, decide_eq_true_eq] at hg
    refine ⟨rfl, rfl, [], ?_⟩
    exact nonAsc_core _ _ _ hg.1 hg.2.1 hg.2.2
  · cases h

theorem o_ut2 : OOk (Out2 Ar.real) := o_ut1.add nonAsc_ok

theorem appRune_core (b : List Int) (nl : Bool) (n : Int) (h : goodN n = true) (hl : b.length ≤ 70368744177664) :
    bodyX (Cx Ar.real (Out2 Ar.real) noL) 100 Try.f54 [.sl (.int .u8) b (some nl) true, .d (.int .i32) n] [] = some (u8s (b ++ ub n) (some false) true, []) := by
  rw [tAppRune]
  have hg := h
  rw [goodN_iff] at h
  have w : Ar.real.wrap .u32 n = n := by rw [rw_wrap, wu32 (by omega) (by omega)]
  rw [w]
  by_cases h1 : n ≤ 127
  · have w8 : Ar.real.wrap .u8 n = n := by rw [rw_wrap, wu8 (by omega) (by omega)]
    rw [bt (decide_eq_true h1), w8, bt (by rw [decide_eq_true_eq]; simp; omega)]
    unfold ub
    rw [if_pos (show n < 128 by omega)]
    simp
  · rw [bf (decide_eq_false h1), bt (by rw [rw_se, hg, Bool.true_and, decide_eq_true_eq]; omega)]
    rfl

theorem appRune_ok : OrcOk Try.prog 54 (.own (appRuneF Ar.real)) := by
  show OwnOk Try.prog 54 (fun args => (appRuneF Ar.real args).run some)
  refine ownOk (Cx.ok o_ut2 noL) mixed 54 Try.f54 (by kernel_rfl) (by kernel_rfl) (by kernel_rfl) 100 0 (by kernel_rfl) (fun i h => by omega) fun e xs nl rest r h => ?_
  replace h : (appRuneF Ar.real (.sl e xs nl true :: rest)).run some = some r := h
  unfold appRuneF at h
  split at h
  · rename_i b nl' n heq
    simp only [List.cons.injEq, X.sl.injEq, and_true] at heq
    obtain ⟨⟨rfl, hb, rfl⟩, rfl⟩ := heq
    cases hb
    obtain ⟨hg, rfl⟩ := Tr.one h
    rw [rw_se, Bool.and_eq_true, decide_eq_true_eq] at hg
    refine ⟨rfl, rfl, [], ?_⟩
    exact appRune_core _ _ _ hg.1 hg.2
  · cases h

theorem o_ut3 : OOk (Out3 Ar.real) := o_ut2.add appRune_ok

end Go.Proofs.Ytnbfiifkaddehaa.V.U

/- Chapter 01, utf: puts and takes do what they tell. -/
namespace Go.Proofs.Ytnbfiifkaddehaa.V.U

open Go

set_option linter.unusedVariables false

set_option linter.unusedSimpArgs false

theorem ups_nil : ups ([] : List Int) = [] := rfl

theorem ub_ne (n : Int) : (ub n).isEmpty = false := by
  have := ub_pos n
  cases h : ub n with
  | nil => rw [h] at this; simp at this
  | cons _ _ => rfl

theorem ub_le4 (n : Int) : (ub n).length ≤ 4 := by
  rw [ub_len]; split
  · omega
  · split
    · omega
    · split <;> omega

def resP (out l : List Int) (nl : Bool) (pre post : List X) : Ex × List X × Hp :=
  bif l.all goodN then (.exit 0, pre ++ .dead :: .dead :: u8s (out ++ ups l) (some (nl && (ups l).isEmpty)) true :: post, [])
  else (.ret, pre ++ u8s [] (some true) true :: i64x 10 :: .dead :: post, [])

theorem resP_nil (out : List Int) (nl : Bool) (pre post : List X) : resP out [] nl pre post = (.exit 0, pre ++ .dead :: .dead :: u8s out (some nl) true :: post, []) := by
  simp [resP, ups_nil]

theorem resP_bad {c : Int} {l : List Int} (h : goodN c = false) (out : List Int) (nl : Bool) (pre post : List X) : resP out (c :: l) nl pre post = (.ret, pre ++ u8s [] (some true) true :: i64x 10 :: .dead :: post, []) := by
  simp [resP, h]

theorem resP_good {c : Int} {l : List Int} (h : goodN c = true) (out : List Int) (nl : Bool) (pre post : List X) : resP out (c :: l) nl pre post = resP (out ++ ub c) l false pre post := by
  unfold resP
  have e : (ub c ++ ups l).isEmpty = false := by
    have := ub_ne c
    cases h : ub c with
    | nil => rw [h] at this; cases this
    | cons _ _ => rfl
  rw [List.all_cons, h, Bool.true_and, ups_cons, e, List.append_assoc, Bool.and_false, Bool.false_and]

theorem loopUPut (l : List Int) (nl2 : Option Bool) (hl : l.length ≤ 17592186044416) : ∀ (q i : Nat) (z : Int) (out : List Int) (nl : Bool), l.length - i = q → i ≤ l.length → out.length ≤ 4 * i →
    LoopTo (Cx Ar.real (Out3 Ar.real) (LuPut Ar.real)) 100 (loopAt Try.f38 0) 22 [2, 3, 4, 7, 8, 9] [u8s [] (some true) true, i64x z, u8s out (some nl) true, i64s l nl2 false, i64x l.length, i64x i] [] (resP out (l.drop i) nl [] [.dead, .dead, .dead]) := by
  intro q
  induction q with
  | zero =>
    intro i z out nl h1 h2 h3
    have e1 : l.drop i = [] := by rw [List.drop_eq_nil_iff]; omega
    rw [e1, resP_nil]
    refine LoopTo.left (by simp) fun k => ?_
    rw [lUPut, bf (by rw [decide_eq_false_iff_not]; omega)]
    refine ⟨_, rfl, ?_⟩
    repeat' first | exact Forget.same _ | refine Forget.cons (.inl rfl) ?_ | refine Forget.cons (.inr rfl) ?_
  | succ q ih =>
    intro i z out nl h1 h2 h3
    have hi : i < l.length := by omega
    rw [drop_cons hi]
    have a1 : decide ((i : Int) < (l.length : Int)) = true := by rw [decide_eq_true_eq]; omega
    have a2 : decide ((0 : Int) ≤ (i : Int) ∧ (i : Int) < (l.length : Int)) = true := by rw [decide_eq_true_eq]; omega
    cases hg : goodN (l.getD i 0) with
    | false =>
      rw [resP_bad hg]
      refine LoopTo.left (by simp) fun k => ?_
      rw [lUPut, bt a1, bt a2, bt (by rw [rw_se, Int.toNat_natCast, hg]; rfl)]
      refine ⟨_, rfl, ?_⟩
      repeat' first | exact Forget.same _ | refine Forget.cons (.inl rfl) ?_ | refine Forget.cons (.inr rfl) ?_
    | true =>
      rw [resP_good hg]
      have hg' := goodN_iff.1 hg
      have w : Ar.real.wrap .i32 (l.getD i 0) = l.getD i 0 := by rw [rw_wrap, wi32 (by omega) (by omega)]
      have w2 : Ar.real.wrap .i64 ((i : Int) + 1) = ((i + 1 : Nat) : Int) := by rw [rw_wrap, wi64 (by omega) (by omega)]; omega
      refine LoopTo.next (fun k => ?_) (ih (i + 1) z (out ++ ub (l.getD i 0)) false (by omega) (by omega) (by have := ub_le4 (l.getD i 0); rw [List.length_append]; omega))
      rw [lUPut, bt a1, bt a2]
      simp only [Int.toNat_natCast, w, w2, rw_se]
      rw [bf (by rw [hg]; rfl), bt (by rw [hg, Bool.true_and, decide_eq_true_eq]; omega)]

theorem loopRPut (l : List Int) (nl2 : Option Bool) (hl : l.length ≤ 17592186044416) : ∀ (q i : Nat) (z : Int) (out : List Int) (nl : Bool), l.length - i = q → i ≤ l.length → out.length ≤ 4 * i →
    LoopTo (Cx Ar.real (Out3 Ar.real) (LrPut Ar.real)) 100 (loopAt Try.f50 0) 26 [0, 2, 3, 4, 5] [i64s l nl2 false, u8s [] (some true) true, i64x z, u8s out (some nl) true, i64x i] [] (resP out (l.drop i) nl [.dead] [.dead]) := by
  intro q
  induction q with
  | zero =>
    intro i z out nl h1 h2 h3
    have e1 : l.drop i = [] := by rw [List.drop_eq_nil_iff]; omega
    rw [e1, resP_nil]
    refine LoopTo.left (by simp) fun k => ?_
    rw [lRPut, bf (by rw [decide_eq_false_iff_not]; omega)]
    refine ⟨_, rfl, ?_⟩
    repeat' first | exact Forget.same _ | refine Forget.cons (.inl rfl) ?_ | refine Forget.cons (.inr rfl) ?_
  | succ q ih =>
    intro i z out nl h1 h2 h3
    have hi : i < l.length := by omega
    rw [drop_cons hi]
    have a1 : decide ((i : Int) < (l.length : Int)) = true := by rw [decide_eq_true_eq]; omega
    have a2 : decide ((0 : Int) ≤ (i : Int) ∧ (i : Int) < (l.length : Int)) = true := by rw [decide_eq_true_eq]; omega
    cases hg : goodN (l.getD i 0) with
    | false =>
      rw [resP_bad hg]
      refine LoopTo.left (by simp) fun k => ?_
      rw [lRPut, bt a1, bt a2, bt (by rw [rw_se, Int.toNat_natCast, hg]; rfl)]
      refine ⟨_, rfl, ?_⟩
      repeat' first | exact Forget.same _ | refine Forget.cons (.inl rfl) ?_ | refine Forget.cons (.inr rfl) ?_
    | true =>
      rw [resP_good hg]
      have w2 : Ar.real.wrap .i64 ((i : Int) + 1) = ((i + 1 : Nat) : Int) := by rw [rw_wrap, wi64 (by omega) (by omega)]; omega
      have hb := ub_le4 (l.getD i 0)
      refine LoopTo.next (fun k => ?_) (ih (i + 1) z (out ++ ub (l.getD i 0)) false (by omega) (by omega) (by rw [List.length_append]; omega))
      rw [lRPut, bt a1, bt a2]
      simp only [Int.toNat_natCast, w2, rw_se]
      rw [bf (by rw [hg]; rfl), bt a2, bt hg, bt (by rw [decide_eq_true_eq]; omega), ub_ne, Bool.and_false]

theorem uput_ok : OrcOk Try.prog 38 (.pure (uputF Ar.real)) := by
  refine pureOk (Cx.ok o_ut3 (LuPut Ar.real)) mixed 38 Try.f38 (by kernel_rfl) (by kernel_rfl) (by kernel_rfl) 100 1 (by kernel_rfl) (fun i h => ?_) fun args r h => ?_
  · obtain rfl : i = 0 := by omega
    refine Tells.mk (key := 3) (N := 22) (ks := [2, 3, 4, 7, 8, 9]) (F := LuPutF Ar.real) (by kernel_rfl) rfl fun xs H r h => ?_
    unfold LuPutF at h
    split at h
    · rename_i z out nl l nl2 n i
      replace h : (Tr.test (gPut l out i && decide (n = (l.length : Int))) (.test ((l.drop i.toNat).all goodN) _ _) .no).run some = some r := h
      have hg : (gPut l out i && decide (n = (l.length : Int))) = true := by
        cases hc : (gPut l out i && decide (n = (l.length : Int)))
        · rw [hc] at h; cases h
        · rfl
      rw [hg] at h
      simp only [gPut, Bool.and_eq_true, decide_eq_true_eq] at hg
      obtain ⟨⟨g1, g2, g3, g4⟩, rfl⟩ := hg
      obtain ⟨m, rfl⟩ := Int.eq_ofNat_of_zero_le g2
      have key := loopUPut l nl2 g1 _ m z out nl rfl (by omega) (by omega)
      rw [Int.toNat_natCast] at h
      unfold resP at key
      cases ha : (l.drop m).all goodN <;> rw [ha] at h key
      · cases h; exact key
      · cases h; exact key
    · cases h
  · unfold uputF at h
    split at h
    · rename_i l nl
      obtain ⟨hg, rfl⟩ := Tr.one h
      replace hg : l.length ≤ 17592186044416 := of_decide_eq_true hg
      refine ⟨rfl, rfl, [], ?_⟩
      rw [tUPut, bt (by simp only [rw_se, gPut, Bool.and_eq_true, decide_eq_true_eq]; refine ⟨⟨hg, ?_⟩, trivial⟩; simp)]
      simp only [rw_se, show Int.toNat 0 = 0 from rfl, List.drop_zero, List.nil_append, Bool.true_and, putL, putE]
      cases ha : l.all goodN <;> rfl
    · cases h

theorem rput_ok : OrcOk Try.prog 50 (.pure (uputF Ar.real)) := by
  refine pureOk (Cx.ok o_ut3 (LrPut Ar.real)) mixed 50 Try.f50 (by kernel_rfl) (by kernel_rfl) (by kernel_rfl) 100 1 (by kernel_rfl) (fun i h => ?_) fun args r h => ?_
  · obtain rfl : i = 0 := by omega
    refine Tells.mk (key := 3) (N := 26) (ks := [0, 2, 3, 4, 5]) (F := LrPutF Ar.real) (by kernel_rfl) rfl fun xs H r h => ?_
    unfold LrPutF at h
    split at h
    · rename_i l nl2 z out nl i
      replace h : (Tr.test (gPut l out i) (.test ((l.drop i.toNat).all goodN) _ _) .no).run some = some r := h
      have hg : gPut l out i = true := by
        cases hc : gPut l out i
        · rw [hc] at h; cases h
        · rfl
      rw [hg] at h
      simp only [gPut, decide_eq_true_eq] at hg
      obtain ⟨g1, g2, g3, g4⟩ := hg
      obtain ⟨m, rfl⟩ := Int.eq_ofNat_of_zero_le g2
      have key := loopRPut l nl2 g1 _ m z out nl rfl (by omega) (by omega)
      rw [Int.toNat_natCast] at h
      unfold resP at key
      cases ha : (l.drop m).all goodN <;> rw [ha] at h key
      · cases h; exact key
      · cases h; exact key
    · cases h
  · unfold uputF at h
    split at h
    · rename_i l nl
      obtain ⟨hg, rfl⟩ := Tr.one h
      replace hg : l.length ≤ 17592186044416 := of_decide_eq_true hg
      refine ⟨rfl, rfl, [], ?_⟩
      rw [tRPut, bt (by simp only [rw_se, gPut, decide_eq_true_eq]; refine ⟨hg, ?_⟩; simp)]
      simp only [rw_se, show Int.toNat 0 = 0 from rfl, List.drop_zero, List.nil_append, Bool.true_and, putL, putE]
      cases ha : l.all goodN <;> rfl
    · cases h

theorem o_ut4 : OOk (Out4 Ar.real) := (o_ut3.add uput_ok).add rput_ok

end Go.Proofs.Ytnbfiifkaddehaa.V.U

/- Chapter 01, utf: takes do what they tell. -/
namespace Go.Proofs.Ytnbfiifkaddehaa.V.U

open Go

set_option linter.unusedVariables false

set_option linter.unusedSimpArgs false

/-! The document's number. -/

/-! The document's taking, by trying. -/

/-! One sign. -/

end Go.Proofs.Ytnbfiifkaddehaa.V.U

/- Chapter 01, utf: one sign is taken as they tell. -/
namespace Go.Proofs.Ytnbfiifkaddehaa.V.U

open Go

set_option linter.unusedVariables false

set_option linter.unusedSimpArgs false

end Go.Proofs.Ytnbfiifkaddehaa.V.U

/- Chapter 01, utf: all takes do what they tell. -/
namespace Go.Proofs.Ytnbfiifkaddehaa.V.U

open Go

set_option linter.unusedVariables false

set_option linter.unusedSimpArgs false

theorem o_ut5 : OOk (Out5 Ar.real) := (o_ut4)

theorem o_ut6 : OOk (Out6 Ar.real) := (o_ut5)

end Go.Proofs.Ytnbfiifkaddehaa.V.U

/- Chapter 01, utf: eight bytes as one number; what is valid. -/
namespace Go.Proofs.Ytnbfiifkaddehaa.V.U

open Go

set_option linter.unusedVariables false

set_option linter.unusedSimpArgs false

/-! Eight bytes. -/

def mk : Nat → Nat
  | 0 => 0
  | n + 1 => 128 + 256 * mk n

theorem o_ut7 : OOk (Out7 Ar.real) := (o_ut6)

end Go.Proofs.Ytnbfiifkaddehaa.V.U

/- Chapter 01, utf: whether bytes are valid is told as they tell. -/
namespace Go.Proofs.Ytnbfiifkaddehaa.V.U

open Go

set_option linter.unusedVariables false

set_option linter.unusedSimpArgs false

/-! A byte from 128 on. -/

end Go.Proofs.Ytnbfiifkaddehaa.V.U

/- Chapter 01, utf: bytes are read as signs as they tell. -/
namespace Go.Proofs.Ytnbfiifkaddehaa.V.U

open Go

set_option linter.unusedVariables false

set_option linter.unusedSimpArgs false

end Go.Proofs.Ytnbfiifkaddehaa.V.U

/- Chapter 01, utf: a walk over a string's signs; signs are read as they tell. -/
namespace Go.Proofs.Ytnbfiifkaddehaa.V.U

open Go

set_option linter.unusedVariables false

set_option linter.unusedSimpArgs false

theorem bytesOf_len (s : ByteArray) : (bytesOf s).length = s.size := by
  rw [bytesOf, List.length_map, Array.length_toList]; rfl

theorem bytesOf_byte (s : ByteArray) : ∀ x ∈ bytesOf s, 0 ≤ x ∧ x < 256 := by
  intro x hx
  obtain ⟨u, _, rfl⟩ := List.mem_map.1 hx
  have := u.toNat_lt
  omega

theorem get_at (s : ByteArray) (j : Nat) (h : j < s.size) : ((s.get! j).toNat : Int) = (bytesOf s).getD j 0 := by
  have hd : j < s.data.toList.length := by rw [Array.length_toList]; exact h
  rw [bytesOf, List.getD_eq_getElem?_getD, List.getElem?_map, List.getElem?_eq_getElem hd]
  simp only [Option.map_some, Option.getD_some, Array.getElem_toList]
  have : s.get! j = s.data[j]'h := by
    show s.data[j]! = _
    exact getElem!_pos s.data j h
  rw [this]

theorem decode_ok (s : ByteArray) (p : Nat) (n : Int) (r : List Int) (hp : p ≤ s.size) (h : takeU ((bytesOf s).drop p) = some (n, r)) :
    Utf8.decode s p = (n.toNat, (ub n).length) ∧ p + (ub n).length ≤ s.size ∧ r = (bytesOf s).drop (p + (ub n).length) ∧ goodN n = true := by
  have hy : ∀ x ∈ (bytesOf s).drop p, 0 ≤ x ∧ x < 256 := fun x hx => bytesOf_byte s x (List.mem_of_mem_drop hx)
  obtain ⟨hg, he⟩ := takeU_some hy h
  have hlen : s.size - p = (ub n).length + r.length := by
    have := congrArg List.length he
    rw [List.length_drop, bytesOf_len, List.length_append] at this
    exact this
  have hpos := ub_pos n
  have hr : r = (bytesOf s).drop (p + (ub n).length) := by
    rw [← List.drop_drop, he]
    simp
  refine ⟨?_, by omega, hr, hg⟩
  have at_ : ∀ k, k < (ub n).length → ((s.get! (p + k)).toNat : Int) = (ub n).getD k 0 := by
    intro k hk
    rw [get_at s (p + k) (by omega)]
    have e1 : ((bytesOf s).drop p).getD k 0 = (bytesOf s).getD (p + k) 0 := by
      rw [List.getD_eq_getElem?_getD, List.getD_eq_getElem?_getD, List.getElem?_drop]
    rw [← e1, he, List.getD_eq_getElem?_getD, List.getD_eq_getElem?_getD, List.getElem?_append_left hk]
  have hsz : ∀ k, k < (ub n).length → p + k < s.size := fun k hk => by omega
  rw [goodN_iff] at hg
  obtain ⟨m, rfl⟩ := Int.eq_ofNat_of_zero_le hg.1
  rw [Int.toNat_natCast]
  have a0 := at_ 0 (by omega)
  unfold Utf8.decode
  simp only
  by_cases c1 : (m : Int) < 128
  · have hu : ub (m : Int) = [(m : Int)] := by unfold ub; rw [if_pos c1]
    rw [hu] at a0 ⊢
    simp only [List.getD_cons_zero] at a0
    have e : (s.get! (p + 0)).toNat = m := by omega
    simp only [e]
    rw [if_pos (show m < 128 by omega)]
    rfl
  · by_cases c2 : (m : Int) < 2048
    · have hu : ub (m : Int) = [192 + (m : Int) / 64, 128 + (m : Int) % 64] := by unfold ub; rw [if_neg c1, if_pos c2]
      have a1 := at_ 1 (by rw [hu]; simp)
      have z1 := hsz 1 (by rw [hu]; simp)
      rw [hu] at a0 a1 ⊢
      simp only [List.getD_cons_zero, List.getD_cons_succ] at a0 a1
      rw [if_neg (by omega), if_pos (by simp only [Bool.and_eq_true, beq_iff_eq, decide_eq_true_eq]; omega)]
      have e : (s.get! (p + 0)).toNat % 32 * 64 + (s.get! (p + 1)).toNat % 64 = m := by omega
      rw [e, if_pos (by omega)]
      rfl
    · by_cases c3 : (m : Int) < 65536
      · have hu : ub (m : Int) = [224 + (m : Int) / 4096, 128 + (m : Int) / 64 % 64, 128 + (m : Int) % 64] := by unfold ub; rw [if_neg c1, if_neg c2, if_pos c3]
        have a1 := at_ 1 (by rw [hu]; simp)
        have a2 := at_ 2 (by rw [hu]; simp)
        have z2 := hsz 2 (by rw [hu]; simp)
        rw [hu] at a0 a1 a2 ⊢
        simp only [List.getD_cons_zero, List.getD_cons_succ] at a0 a1 a2
        rw [if_neg (by omega), if_neg (by simp only [Bool.and_eq_true, beq_iff_eq, decide_eq_true_eq]; omega), if_pos (by simp only [Bool.and_eq_true, beq_iff_eq, decide_eq_true_eq]; omega)]
        have e : (s.get! (p + 0)).toNat % 16 * 4096 + (s.get! (p + 1)).toNat % 64 * 64 + (s.get! (p + 2)).toNat % 64 = m := by omega
        rw [e, if_pos (by simp only [Utf8.valid, Bool.and_eq_true, Bool.or_eq_true, decide_eq_true_eq]; omega)]
        rfl
      · have hu : ub (m : Int) = [240 + (m : Int) / 262144, 128 + (m : Int) / 4096 % 64, 128 + (m : Int) / 64 % 64, 128 + (m : Int) % 64] := by unfold ub; rw [if_neg c1, if_neg c2, if_neg c3]
        have a1 := at_ 1 (by rw [hu]; simp)
        have a2 := at_ 2 (by rw [hu]; simp)
        have a3 := at_ 3 (by rw [hu]; simp)
        have z3 := hsz 3 (by rw [hu]; simp)
        rw [hu] at a0 a1 a2 a3 ⊢
        simp only [List.getD_cons_zero, List.getD_cons_succ] at a0 a1 a2 a3
        rw [if_neg (by omega), if_neg (by simp only [Bool.and_eq_true, beq_iff_eq, decide_eq_true_eq]; omega), if_neg (by simp only [Bool.and_eq_true, beq_iff_eq, decide_eq_true_eq]; omega), if_pos (by simp only [Bool.and_eq_true, beq_iff_eq, decide_eq_true_eq]; omega)]
        have e : (s.get! (p + 0)).toNat % 8 * 262144 + (s.get! (p + 1)).toNat % 64 * 4096 + (s.get! (p + 2)).toNat % 64 * 64 + (s.get! (p + 3)).toNat % 64 = m := by omega
        rw [e, if_pos (by simp only [Utf8.valid, Bool.and_eq_true, Bool.or_eq_true, decide_eq_true_eq]; omega)]
        rfl

end Go.Proofs.Ytnbfiifkaddehaa.V.U

/- Chapter 01, utf: reads, and whether two lists are one, are as they tell; the calls whose answers are fixed. -/
namespace Go.Proofs.Ytnbfiifkaddehaa.V.U

open Go

set_option linter.unusedVariables false

set_option linter.unusedSimpArgs false

/-! Two lists. -/

theorem loopSame (a b : List Int) (nl nl2 : Option Bool) (x : Bool) (hl : a.length ≤ 9223372036854775806) (hab : a.length = b.length) : ∀ (q i : Nat), a.length - i = q → i ≤ a.length →
    LoopTo (Cx Ar.real (Out7 Ar.real) (Lsame Ar.real)) 100 (loopAt Try.f26 0) 26 [0, 1, 4, 5] [i64s a nl false, i64s b nl2 false, boolx x, i64x i] []
      (bif decide (a.drop i = b.drop i) then (.exit 0, [.dead, .dead, .dead, .dead], []) else (.ret, [.dead, .dead, boolx false, .dead], [])) := by
  intro q
  induction q with
  | zero =>
    intro i h1 h2
    have e1 : a.drop i = [] := by rw [List.drop_eq_nil_iff]; omega
    have e2 : b.drop i = [] := by rw [List.drop_eq_nil_iff]; omega
    rw [e1, e2]
    refine LoopTo.left (by simp) fun k => ?_
    rw [lSame, bf (by rw [decide_eq_false_iff_not]; omega)]
    exact ⟨_, rfl, forget_dead _ 4⟩
  | succ q ih =>
    intro i h1 h2
    have hi : i < a.length := by omega
    have hi2 : i < b.length := by omega
    have a1 : decide ((i : Int) < (a.length : Int)) = true := by rw [decide_eq_true_eq]; omega
    have a2 : decide ((0 : Int) ≤ (i : Int) ∧ (i : Int) < (a.length : Int)) = true := by rw [decide_eq_true_eq]; omega
    have a3 : decide ((0 : Int) ≤ (i : Int) ∧ (i : Int) < (b.length : Int)) = true := by rw [decide_eq_true_eq]; omega
    rw [drop_cons hi, drop_cons hi2]
    by_cases he : a.getD i 0 = b.getD i 0
    · have e : decide (a.getD i 0 :: a.drop (i + 1) = b.getD i 0 :: b.drop (i + 1)) = decide (a.drop (i + 1) = b.drop (i + 1)) := by
        rw [he]
        by_cases h : a.drop (i + 1) = b.drop (i + 1)
        · rw [decide_eq_true h, h, decide_eq_true rfl]
        · rw [decide_eq_false h, decide_eq_false (fun e => h (List.cons.inj e).2)]
      rw [e]
      have w2 : Ar.real.wrap .i64 ((i : Int) + 1) = ((i + 1 : Nat) : Int) := by rw [rw_wrap, wi64 (by omega) (by omega)]; omega
      refine LoopTo.next (fun k => ?_) (ih (i + 1) (by omega) (by omega))
      rw [lSame, bt a1, bt a2, bt a3]
      simp only [Int.toNat_natCast, w2]
      rw [bf (by rw [he]; simp)]
    · have e : decide (a.getD i 0 :: a.drop (i + 1) = b.getD i 0 :: b.drop (i + 1)) = false := by
        rw [decide_eq_false_iff_not]
        intro h
        exact he (List.cons.inj h).1
      rw [e]
      refine LoopTo.left (by simp) fun k => ?_
      rw [lSame, bt a1, bt a2, bt a3]
      simp only [Int.toNat_natCast]
      rw [bt (by rw [bne_iff_ne]; exact he)]
      refine ⟨_, rfl, ?_⟩
      repeat' first | exact Forget.same _ | refine Forget.cons (.inl rfl) ?_ | refine Forget.cons (.inr rfl) ?_

theorem same_ok : OrcOk Try.prog 26 (.pure (sameF Ar.real)) := by
  refine pureOk (Cx.ok o_ut7 (Lsame Ar.real)) mixed 26 Try.f26 (by kernel_rfl) (by kernel_rfl) (by kernel_rfl) 100 1 (by kernel_rfl) (fun i h => ?_) fun args r h => ?_
  · obtain rfl : i = 0 := by omega
    refine Tells.mk (key := 4) (N := 26) (ks := [0, 1, 4, 5]) (F := LsameF Ar.real) (by kernel_rfl) rfl fun xs H r h => ?_
    unfold LsameF at h
    split at h
    · rename_i a nl b nl2 x i
      replace h : (Tr.test (decide (a.length ≤ 9223372036854775806 ∧ a.length = b.length ∧ (0 : Int) ≤ i ∧ i ≤ (a.length : Int))) (.test (decide (a.drop i.toNat = b.drop i.toNat)) _ _) .no).run some = some r := h
      by_cases hg : a.length ≤ 9223372036854775806 ∧ a.length = b.length ∧ (0 : Int) ≤ i ∧ i ≤ (a.length : Int)
      · rw [decide_eq_true hg] at h
        obtain ⟨g1, g2, g3, g4⟩ := hg
        obtain ⟨m, rfl⟩ := Int.eq_ofNat_of_zero_le g3
        have key := loopSame a b nl nl2 x g1 g2 _ m rfl (by have : (m : Int) ≤ (a.length : Int) := g4; omega)
        rw [Int.toNat_natCast] at h
        cases ha : decide (a.drop m = b.drop m) <;> rw [ha] at h key
        · cases h; exact key
        · cases h; exact key
      · rw [decide_eq_false hg] at h
        cases h
    · cases h
  · unfold sameF at h
    split at h
    · rename_i a nl b nl2
      obtain ⟨hg, rfl⟩ := Tr.one h
      replace hg : a.length ≤ 9223372036854775806 := of_decide_eq_true hg
      refine ⟨rfl, rfl, [], ?_⟩
      rw [tSame]
      simp only [rw_se, show Int.toNat 0 = 0 from rfl, List.drop_zero]
      by_cases hl : a.length = b.length
      · rw [bf (by rw [hl]; simp), bt (by rw [decide_eq_true_eq]; exact ⟨hg, hl, by decide, by omega⟩)]
        cases decide (a = b) <;> rfl
      · rw [bt (by rw [bne_iff_ne]; omega)]
        have : decide (a = b) = false := by
          rw [decide_eq_false_iff_not]
          rintro rfl
          exact hl rfl
        rw [this]
    · cases h

end Go.Proofs.Ytnbfiifkaddehaa.V.U

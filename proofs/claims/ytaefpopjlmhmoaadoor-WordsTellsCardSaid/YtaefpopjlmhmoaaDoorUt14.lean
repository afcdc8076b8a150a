/-
  Chapter 01, signs: what is needed of it: the functions do what they tell.
  It speaks of whatever program; no condition.
-/
import Derived.Test.YtaefpopjlmhmoaaDoorB1
import Derived.Test.YtaefpopjlmhmoaaDoorU1

/- Chapter 01, utf: what its functions tell. -/
namespace Go.Proofs.YtaefpopjlmhmoaaDoor.V.U
open Go
set_option linter.unusedVariables false

/-! What they come to. -/
def validU (b : List Int) : Bool := (readU b).isSome
def uN (b : List Int) : Int := match takeU b with | some (n, _) => n | none => 0
def uL (b : List Int) : Int := match takeU b with | some (_, r) => (b.length : Int) - r.length | none => 0
def uE (b : List Int) : Int := match takeU b with | some _ => 0 | none => 10
def dR (b : List Int) : Int := match takeU b with | some (n, _) => n | none => 65533
def dL (b : List Int) : Int := match takeU b with | some (_, r) => (b.length : Int) - r.length | none => if b.isEmpty then 0 else 1
def putL (l : List Int) : List Int := bif l.all goodN then ups l else []
def putE (l : List Int) : Int := bif l.all goodN then 0 else 10
def rdL (b : List Int) : List Int := (readU b).getD []
def rdE (b : List Int) : Int := bif validU b then 0 else 10
def numL (o : Int) (l : List Int) : Int := l.foldl (fun o c => o * 64 + c % 64) o
def numH (n : Int) (c : Int) : Int := if n = 2 then c % 32 else if n = 3 then c % 16 else if n = 4 then c % 8 else c
def numN (b : List Int) (n : Nat) : Int := numL (numH n (b.getD 0 0)) ((b.take n).drop 1)
def tryB (b : List Int) (m : Nat) : Bool := decide (1 ≤ m ∧ m ≤ b.length) && (goodN (numN b m) && decide (ub (numN b m) = b.take m))
def wordL : List Int → Int
  | [] => 0
  | c :: s => c + 256 * wordL s
def sk32 : Nat → List Int → List Int
  | 0, b => b
  | n + 1, b => bif decide (32 < b.length) && (b.take 32).all (fun c => decide (c < 128)) then sk32 n (b.drop 32) else b
def ascB (b : List Int) : Bool := !b.isEmpty && decide (b.getD 0 0 < 128)

/-! What functions tell. -/
def goodF (A : Ar) : List X → Tr X
  | [.d (.int .i64) n] => .give (boolx (A.se (goodN n)))
  | _ => .no
def uoneF (A : Ar) : List X → Tr X
  | [.d (.int .i64) n] => .test (A.se (goodN n)) (.give (u8s (A.se (ub n)) (some false) true)) .no
  | _ => .no
def nonAscF (A : Ar) : List X → Tr X
  | [.sl (.int .u8) b (some nl) true, .d (.int .i32) n] => .test (A.se (goodN n && decide (128 ≤ n ∧ b.length ≤ 70368744177664))) (.give (u8s (A.se (b ++ ub n)) (some false) true)) .no
  | _ => .no
def appRuneF (A : Ar) : List X → Tr X
  | [.sl (.int .u8) b (some nl) true, .d (.int .i32) n] => .test (A.se (goodN n && decide (b.length ≤ 70368744177664))) (.give (u8s (A.se (b ++ ub n)) (some false) true)) .no
  | _ => .no
def uputF (A : Ar) : List X → Tr X
  | [.sl (.int .i64) l nl false] => .test (A.se (decide (l.length ≤ 17592186044416))) (.give (.tup [u8s (A.se (putL l)) (some (A.se (putL l).isEmpty)) false, i64x (A.se (putE l))])) .no
  | _ => .no
def slowF (A : Ar) : List X → Tr X
  | [.sl (.int .u8) b nl false] => .test (A.se (bytesB b && !ascB b)) (.give (.tup [i32x (A.se (dR b)), i64x (A.se (dL b))])) .no
  | _ => .no
def decF (A : Ar) : List X → Tr X
  | [.sl (.int .u8) b nl false] => .test (A.se (bytesB b)) (.give (.tup [i32x (A.se (dR b)), i64x (A.se (dL b))])) .no
  | _ => .no
def utakeF (A : Ar) : List X → Tr X
  | [.sl (.int .u8) b nl false] => .test (A.se (bytesB b)) (.give (.tup [i64x (A.se (uN b)), i64x (A.se (uL b)), i64x (A.se (uE b))])) .no
  | _ => .no
def numF (A : Ar) : List X → Tr X
  | [.sl (.int .u8) b nl false, .d (.int .i64) n] => .test (A.se (bytesB b && decide (1 ≤ n ∧ n ≤ 4 ∧ n ≤ b.length))) (.give (i64x (A.se (numN b n.toNat)))) .no
  | _ => .no
def wordF (A : Ar) : List X → Tr X
  | [.sl (.int .u8) b nl false] => .test (A.se (bytesB b && decide (8 ≤ b.length))) (.give (u64x (A.se (wordL (b.take 8))))) .no
  | _ => .no
def validF (A : Ar) : List X → Tr X
  | [.sl (.int .u8) b nl false] => .test (A.se (bytesB b && decide (b.length ≤ 1000000))) (.give (boolx (A.se (validU b)))) .no
  | _ => .no
def ureadF (A : Ar) : List X → Tr X
  | [.sl (.int .u8) b nl false] => .test (A.se (bytesB b && decide (b.length ≤ 1000000))) (.give (.tup [i64s (A.se (rdL b)) (some (A.se (rdL b).isEmpty)) false, i64x (A.se (rdE b))])) .no
  | _ => .no
def sameF (A : Ar) : List X → Tr X
  | [.sl (.int .i64) a nl false, .sl (.int .i64) b nl2 false] => .test (A.se (decide (a.length ≤ 9223372036854775806))) (.give (boolx (A.se (decide (a = b))))) .no
  | _ => .no
def awakeF : List X → Tr X
  | [] => .give (boolx true)
  | _ => .no

def noO : OT := fun _ => none
def Out1 (A : Ar) : OT := Oadd (Oadd (Oadd noO 41 (.pure (goodF A))) 43 (.pure (goodF A))) 66 (.pure (uoneF A))
def Out2 (A : Ar) : OT := Oadd (Out1 A) 77 (.own (nonAscF A))
def Out3 (A : Ar) : OT := Oadd (Out2 A) 64 (.own (appRuneF A))
def Out4 (A : Ar) : OT := Oadd (Oadd (Out3 A) 37 (.pure (uputF A))) 39 (.pure (uputF A))
def Out5 (A : Ar) : OT := Oadd (Out4 A) 75 (.pure (numF A))
def Out6 (A : Ar) : OT := Oadd (Out5 A) 61 (.pure (utakeF A))
def Out7 (A : Ar) : OT := Oadd (Out6 A) 71 (.pure (wordF A))
def Out8 (A : Ar) : OT := Oadd (Oadd (Out7 A) 49 (.pure (validF A))) 23 (.pure (sameF A))
def Out9 (A : Ar) : OT := Oadd (Oadd (Out8 A) 20 (.pure (ureadF A))) 30 (.pure (ureadF A))
def Out (A : Ar) : OT := (Out9 A)

/-! Loops -/
def gPut (l : List Int) (out : List Int) (i : Int) : Bool := decide (l.length ≤ 17592186044416 ∧ 0 ≤ i ∧ i ≤ l.length ∧ (out.length : Int) ≤ 4 * i)
def LuPutF (A : Ar) : List X → Hp → Tr (Ex × List X × Hp)
  | [.sl (.int .u8) [] (some true) true, .d (.int .i64) _, .sl (.int .u8) out (some nl) true, .sl (.int .i64) l nl2 false, .d (.int .i64) n, .d (.int .i64) i], [] =>
    .test (A.se (gPut l out i && decide (n = l.length)))
      (.test (A.se ((l.drop i.toNat).all goodN))
        (.give (.exit 0, [.dead, .dead, u8s (A.se (out ++ ups (l.drop i.toNat))) (some (A.se (nl && (ups (l.drop i.toNat)).isEmpty))) true, .dead, .dead, .dead], []))
        (.give (.ret, [u8s [] (some true) true, i64x 10, .dead, .dead, .dead, .dead], []))) .no
  | _, _ => .no
def LuPut (A : Ar) : Lp := fun k => match k with
  | 3 => some (22, [2, 3, 4, 7, 8, 9], LuPutF A)
  | _ => none
def LrPutF (A : Ar) : List X → Hp → Tr (Ex × List X × Hp)
  | [.sl (.int .i64) l nl2 false, .sl (.int .u8) [] (some true) true, .d (.int .i64) _, .sl (.int .u8) out (some nl) true, .d (.int .i64) i], [] =>
    .test (A.se (gPut l out i))
      (.test (A.se ((l.drop i.toNat).all goodN))
        (.give (.exit 0, [.dead, .dead, .dead, u8s (A.se (out ++ ups (l.drop i.toNat))) (some (A.se (nl && (ups (l.drop i.toNat)).isEmpty))) true, .dead], []))
        (.give (.ret, [.dead, u8s [] (some true) true, i64x 10, .dead, .dead], []))) .no
  | _, _ => .no
def LrPut (A : Ar) : Lp := fun k => match k with
  | 3 => some (26, [0, 2, 3, 4, 5], LrPutF A)
  | _ => none
def LnumF (A : Ar) : List X → Hp → Tr (Ex × List X × Hp)
  | [.sl (.int .u8) b nl false, .d (.int .i64) n, .d (.int .i64) o, .d (.int .i64) i], [] =>
    .test (A.se (bytesB b && decide (1 ≤ i ∧ i ≤ n ∧ n ≤ 4 ∧ n ≤ b.length ∧ 0 ≤ o ∧ o < 256 * 64 ^ (i.toNat - 1)))) (.give (.exit 0, [.dead, .dead, i64x (A.se (numL o ((b.take n.toNat).drop i.toNat))), .dead], [])) .no
  | _, _ => .no
def Lnum (A : Ar) : Lp := fun k => match k with
  | 9 => some (47, [0, 1, 5, 6], LnumF A)
  | _ => none
def LrTakeF (A : Ar) : List X → Hp → Tr (Ex × List X × Hp)
  | [.sl (.int .u8) b nl false, .d (.int .i64) _, .d (.int .i64) _, .d (.int .i64) _, .d (.int .i64) n], [] =>
    .test (A.se (bytesB b && (decide (1 ≤ n ∧ n ≤ 5) && (List.range n.toNat).all fun m => !tryB b m)))
      (.test (A.se (takeU b).isSome) (.give (.ret, [.dead, i64x (A.se (uN b)), i64x (A.se (uL b)), i64x 0, .dead], [])) (.give (.exit 0, [.dead, .dead, .dead, .dead, .dead], []))) .no
  | _, _ => .no
def LrTake (A : Ar) : Lp := fun k => match k with
  | 2 => some (34, [0, 2, 3, 4, 5], LrTakeF A)
  | _ => none
def LdecF (A : Ar) : List X → Hp → Tr (Ex × List X × Hp)
  | [.sl (.int .u8) b nl false, .d (.int .i32) _, .d (.int .i64) _, .sl (.int .u8) b2 nl2 false, .d (.int .i64) l, .d (.int .i64) i], [] =>
    .test (A.se (bytesB b && decide (b2 = b ∧ l = b.length ∧ i = 0)))
      (.test (A.se (ascB b)) (.give (.ret, [.dead, i32x (A.se (b.getD 0 0)), i64x 1, .dead, .dead, .dead], [])) (.give (.exit 0, [.sl (.int .u8) b nl false, .dead, .dead, .dead, .dead, .dead], []))) .no
  | _, _ => .no
def Ldec (A : Ar) : Lp := fun k => match k with
  | 2 => some (22, [0, 2, 3, 6, 7, 8], LdecF A)
  | _ => none
def LvalAF (A : Ar) : List X → Hp → Tr (Ex × List X × Hp)
  | [.sl (.int .u8) b nl false, .d .bool _], [] =>
    .test (A.se (bytesB b && decide (b.length ≤ 1000000)))
      (.test (A.se (validU b)) (.give (.exit 0, [.dead, .dead], [])) (.give (.ret, [.dead, boolx false], []))) .no
  | _, _ => .no
def LvalBF (A : Ar) : List X → Hp → Tr (Ex × List X × Hp)
  | [.sl (.int .u8) b nl false, .d .bool x], [] =>
    .test (A.se (bytesB b && decide (b.length ≤ 1000000))) (.give (.exit 2, [.sl (.int .u8) (A.se (sk32 b.length b)) nl false, boolx x], [])) .no
  | _, _ => .no
def Lval (A : Ar) : Lp := fun k => match k with
  | 2 => some (188, [0, 2], LvalAF A)
  | 10 => some (188, [0, 2], LvalBF A)
  | _ => none
def sg (s : ByteArray) (p : Int) : List Int := rdL ((bytesOf s).drop p.toNat)
def LuReadF (A : Ar) : List X → Hp → Tr (Ex × List X × Hp)
  | [.sl (.int .i64) out (some nl) true, .ptr 0 []], [(.unit, .tup [.d .str s, .d (.int .i64) p])] =>
    .test (A.se (decide (0 ≤ p ∧ p ≤ (s.size : Int) ∧ (out.length : Int) + ((s.size : Int) - p) ≤ 1000000) && validU ((bytesOf s).drop p.toNat)))
      (.give (.exit 0, [i64s (A.se (out ++ sg s p)) (some (A.se (nl && (sg s p).isEmpty))) true, .dead], [(.unit, iterX s (A.se (s.size : Int)))])) .no
  | _, _ => .no
def LuRead (A : Ar) : Lp := fun k => match k with
  | 5 => some (22, [4, 12], LuReadF A)
  | _ => none
def LrReadF (A : Ar) : List X → Hp → Tr (Ex × List X × Hp)
  | [.sl (.int .u8) b nl false, .sl (.int .i64) [] (some true) true, .d (.int .i64) _, .sl (.int .i64) out (some nl2) true], [] =>
    .test (A.se (bytesB b && decide (out.length + b.length ≤ 1000000)))
      (.test (A.se (validU b)) (.give (.exit 0, [.dead, .dead, .dead, i64s (A.se (out ++ rdL b)) (some (A.se (nl2 && (rdL b).isEmpty))) true], []))
        (.give (.ret, [.dead, i64s [] (some true) true, i64x 10, .dead], []))) .no
  | _, _ => .no
def LrRead (A : Ar) : Lp := fun k => match k with
  | 2 => some (28, [0, 2, 3, 4], LrReadF A)
  | _ => none
def LsameF (A : Ar) : List X → Hp → Tr (Ex × List X × Hp)
  | [.sl (.int .i64) a nl false, .sl (.int .i64) b nl2 false, .d .bool _, .d (.int .i64) i], [] =>
    .test (A.se (decide (a.length ≤ 9223372036854775806 ∧ a.length = b.length ∧ 0 ≤ i ∧ i ≤ a.length)))
      (.test (A.se (decide (a.drop i.toNat = b.drop i.toNat))) (.give (.exit 0, [.dead, .dead, .dead, .dead], [])) (.give (.ret, [.dead, .dead, boolx false, .dead], []))) .no
  | _, _ => .no
def Lsame (A : Ar) : Lp := fun k => match k with
  | 4 => some (26, [0, 1, 4, 5], LsameF A)
  | _ => none

end Go.Proofs.YtaefpopjlmhmoaaDoor.V.U

/- Chapter 01, utf: each function's tree. By program; each equation is checked by the kernel. -/
namespace Go.Proofs.YtaefpopjlmhmoaaDoor.V.U
open Go
set_option linter.unusedVariables false
set_option linter.unusedSimpArgs false

theorem tGood (A : Ar) (n : Int) : bodyX (Cx A noO noL) 100 Tryd.f41 [.d (.int .i64) n] [] =
    (bif decide (n < (0 : Int)) then some (X.d Ty.bool false, [])
    else
      bif decide (n > (1114111 : Int)) then some (X.d Ty.bool false, [])
      else
        bif decide (n ≥ (55296 : Int)) then some (X.d Ty.bool (decide (n > (57343 : Int))), [])
        else some (X.d Ty.bool true, [])) := by kernel_rfl
theorem tRGood (A : Ar) (n : Int) : bodyX (Cx A noO noL) 100 Tryd.f43 [.d (.int .i64) n] [] =
    (bif decide (n ≥ (0 : Int)) == true then
      bif decide (n ≤ (1114111 : Int)) == true then
        bif decide (n < (55296 : Int)) == false then some (X.d Ty.bool (decide (n > (57343 : Int))), [])
        else some (X.d Ty.bool true, [])
      else some (X.d Ty.bool false, [])
    else some (X.d Ty.bool false, [])) := by kernel_rfl
theorem tROne (A : Ar) (n : Int) : bodyX (Cx A noO noL) 100 Tryd.f66 [.d (.int .i64) n] [] =
    (bif decide (n < (128 : Int)) then some (X.sl (Ty.int IntKind.u8) [A.wrap IntKind.u8 n] (some false) true, [])
    else
      bif decide (n < (2048 : Int)) then
        some
          (X.sl (Ty.int IntKind.u8)
              [A.wrap IntKind.u8 (A.wrap IntKind.i64 ((192 : Int) + A.wrap IntKind.i64 (Int.tdiv n (64 : Int)))),
                A.wrap IntKind.u8 (A.wrap IntKind.i64 ((128 : Int) + Int.tmod n (64 : Int)))]
              (some false) true,
            [])
      else
        bif decide (n < (65536 : Int)) then
          some
            (X.sl (Ty.int IntKind.u8)
                [A.wrap IntKind.u8 (A.wrap IntKind.i64 ((224 : Int) + A.wrap IntKind.i64 (Int.tdiv n (4096 : Int)))),
                  A.wrap IntKind.u8
                    (A.wrap IntKind.i64 ((128 : Int) + Int.tmod (A.wrap IntKind.i64 (Int.tdiv n (64 : Int))) (64 : Int))),
                  A.wrap IntKind.u8 (A.wrap IntKind.i64 ((128 : Int) + Int.tmod n (64 : Int)))]
                (some false) true,
              [])
        else
          some
            (X.sl (Ty.int IntKind.u8)
                [A.wrap IntKind.u8 (A.wrap IntKind.i64 ((240 : Int) + A.wrap IntKind.i64 (Int.tdiv n (262144 : Int)))),
                  A.wrap IntKind.u8
                    (A.wrap IntKind.i64 ((128 : Int) + Int.tmod (A.wrap IntKind.i64 (Int.tdiv n (4096 : Int))) (64 : Int))),
                  A.wrap IntKind.u8
                    (A.wrap IntKind.i64 ((128 : Int) + Int.tmod (A.wrap IntKind.i64 (Int.tdiv n (64 : Int))) (64 : Int))),
                  A.wrap IntKind.u8 (A.wrap IntKind.i64 ((128 : Int) + Int.tmod n (64 : Int)))]
                (some false) true,
              [])) := by kernel_rfl
theorem tNonAsc (A : Ar) (b : List Int) (nl : Bool) (n : Int) : bodyX (Cx A (Out1 A) noL) 100 Tryd.f77 [.sl (.int .u8) b (some nl) true, .d (.int .i32) n] [] =
    (bif decide (A.wrap IntKind.u32 n ≤ (2047 : Int)) then
      bif
          decide
            ((List.length b +
                  List.length
                    [A.wrap IntKind.u8
                        (A.bor (8 : Nat) (192 : Int) (A.wrap IntKind.u8 (Int.fdiv n (A.p2 (6 : Int) (32 : Nat))))),
                      A.wrap IntKind.u8
                        (A.bor (8 : Nat) (128 : Int)
                          (A.wrap IntKind.u8 (A.band (8 : Nat) (A.wrap IntKind.u8 n) (63 : Int))))]) *
                (1 : Nat) ≤
              (140737488355328 : Nat)) then
        some
          (X.sl (Ty.int IntKind.u8)
              (b ++
                [A.wrap IntKind.u8
                    (A.bor (8 : Nat) (192 : Int) (A.wrap IntKind.u8 (Int.fdiv n (A.p2 (6 : Int) (32 : Nat))))),
                  A.wrap IntKind.u8
                    (A.bor (8 : Nat) (128 : Int) (A.wrap IntKind.u8 (A.band (8 : Nat) (A.wrap IntKind.u8 n) (63 : Int))))])
              (some
                (nl &&
                  List.isEmpty
                    [A.wrap IntKind.u8
                        (A.bor (8 : Nat) (192 : Int) (A.wrap IntKind.u8 (Int.fdiv n (A.p2 (6 : Int) (32 : Nat))))),
                      A.wrap IntKind.u8
                        (A.bor (8 : Nat) (128 : Int)
                          (A.wrap IntKind.u8 (A.band (8 : Nat) (A.wrap IntKind.u8 n) (63 : Int))))]))
              true,
            [])
      else none
    else
      bif decide (A.wrap IntKind.u32 n < (55296 : Int)) then
        bif
            decide
              ((List.length b +
                    List.length
                      [A.wrap IntKind.u8
                          (A.bor (8 : Nat) (224 : Int) (A.wrap IntKind.u8 (Int.fdiv n (A.p2 (12 : Int) (32 : Nat))))),
                        A.wrap IntKind.u8
                          (A.bor (8 : Nat) (128 : Int)
                            (A.wrap IntKind.u8
                              (A.band (8 : Nat) (A.wrap IntKind.u8 (Int.fdiv n (A.p2 (6 : Int) (32 : Nat)))) (63 : Int)))),
                        A.wrap IntKind.u8
                          (A.bor (8 : Nat) (128 : Int)
                            (A.wrap IntKind.u8 (A.band (8 : Nat) (A.wrap IntKind.u8 n) (63 : Int))))]) *
                  (1 : Nat) ≤
                (140737488355328 : Nat)) then
          some
            (X.sl (Ty.int IntKind.u8)
                (b ++
                  [A.wrap IntKind.u8
                      (A.bor (8 : Nat) (224 : Int) (A.wrap IntKind.u8 (Int.fdiv n (A.p2 (12 : Int) (32 : Nat))))),
                    A.wrap IntKind.u8
                      (A.bor (8 : Nat) (128 : Int)
                        (A.wrap IntKind.u8
                          (A.band (8 : Nat) (A.wrap IntKind.u8 (Int.fdiv n (A.p2 (6 : Int) (32 : Nat)))) (63 : Int)))),
                    A.wrap IntKind.u8
                      (A.bor (8 : Nat) (128 : Int)
                        (A.wrap IntKind.u8 (A.band (8 : Nat) (A.wrap IntKind.u8 n) (63 : Int))))])
                (some
                  (nl &&
                    List.isEmpty
                      [A.wrap IntKind.u8
                          (A.bor (8 : Nat) (224 : Int) (A.wrap IntKind.u8 (Int.fdiv n (A.p2 (12 : Int) (32 : Nat))))),
                        A.wrap IntKind.u8
                          (A.bor (8 : Nat) (128 : Int)
                            (A.wrap IntKind.u8
                              (A.band (8 : Nat) (A.wrap IntKind.u8 (Int.fdiv n (A.p2 (6 : Int) (32 : Nat)))) (63 : Int)))),
                        A.wrap IntKind.u8
                          (A.bor (8 : Nat) (128 : Int)
                            (A.wrap IntKind.u8 (A.band (8 : Nat) (A.wrap IntKind.u8 n) (63 : Int))))]))
                true,
              [])
        else none
      else
        bif decide ((57343 : Int) < A.wrap IntKind.u32 n) == true then
          bif decide (A.wrap IntKind.u32 n ≤ (65535 : Int)) then
            bif
                decide
                  ((List.length b +
                        List.length
                          [A.wrap IntKind.u8
                              (A.bor (8 : Nat) (224 : Int) (A.wrap IntKind.u8 (Int.fdiv n (A.p2 (12 : Int) (32 : Nat))))),
                            A.wrap IntKind.u8
                              (A.bor (8 : Nat) (128 : Int)
                                (A.wrap IntKind.u8
                                  (A.band (8 : Nat) (A.wrap IntKind.u8 (Int.fdiv n (A.p2 (6 : Int) (32 : Nat))))
                                    (63 : Int)))),
                            A.wrap IntKind.u8
                              (A.bor (8 : Nat) (128 : Int)
                                (A.wrap IntKind.u8 (A.band (8 : Nat) (A.wrap IntKind.u8 n) (63 : Int))))]) *
                      (1 : Nat) ≤
                    (140737488355328 : Nat)) then
              some
                (X.sl (Ty.int IntKind.u8)
                    (b ++
                      [A.wrap IntKind.u8
                          (A.bor (8 : Nat) (224 : Int) (A.wrap IntKind.u8 (Int.fdiv n (A.p2 (12 : Int) (32 : Nat))))),
                        A.wrap IntKind.u8
                          (A.bor (8 : Nat) (128 : Int)
                            (A.wrap IntKind.u8
                              (A.band (8 : Nat) (A.wrap IntKind.u8 (Int.fdiv n (A.p2 (6 : Int) (32 : Nat)))) (63 : Int)))),
                        A.wrap IntKind.u8
                          (A.bor (8 : Nat) (128 : Int)
                            (A.wrap IntKind.u8 (A.band (8 : Nat) (A.wrap IntKind.u8 n) (63 : Int))))])
                    (some
                      (nl &&
                        List.isEmpty
                          [A.wrap IntKind.u8
                              (A.bor (8 : Nat) (224 : Int) (A.wrap IntKind.u8 (Int.fdiv n (A.p2 (12 : Int) (32 : Nat))))),
                            A.wrap IntKind.u8
                              (A.bor (8 : Nat) (128 : Int)
                                (A.wrap IntKind.u8
                                  (A.band (8 : Nat) (A.wrap IntKind.u8 (Int.fdiv n (A.p2 (6 : Int) (32 : Nat))))
                                    (63 : Int)))),
                            A.wrap IntKind.u8
                              (A.bor (8 : Nat) (128 : Int)
                                (A.wrap IntKind.u8 (A.band (8 : Nat) (A.wrap IntKind.u8 n) (63 : Int))))]))
                    true,
                  [])
            else none
          else
            bif decide (A.wrap IntKind.u32 n > (65535 : Int)) == true then
              bif decide (A.wrap IntKind.u32 n ≤ (1114111 : Int)) then
                bif
                    decide
                      ((List.length b +
                            List.length
                              [A.wrap IntKind.u8
                                  (A.bor (8 : Nat) (240 : Int)
                                    (A.wrap IntKind.u8 (Int.fdiv n (A.p2 (18 : Int) (32 : Nat))))),
                                A.wrap IntKind.u8
                                  (A.bor (8 : Nat) (128 : Int)
                                    (A.wrap IntKind.u8
                                      (A.band (8 : Nat) (A.wrap IntKind.u8 (Int.fdiv n (A.p2 (12 : Int) (32 : Nat))))
                                        (63 : Int)))),
                                A.wrap IntKind.u8
                                  (A.bor (8 : Nat) (128 : Int)
                                    (A.wrap IntKind.u8
                                      (A.band (8 : Nat) (A.wrap IntKind.u8 (Int.fdiv n (A.p2 (6 : Int) (32 : Nat))))
                                        (63 : Int)))),
                                A.wrap IntKind.u8
                                  (A.bor (8 : Nat) (128 : Int)
                                    (A.wrap IntKind.u8 (A.band (8 : Nat) (A.wrap IntKind.u8 n) (63 : Int))))]) *
                          (1 : Nat) ≤
                        (140737488355328 : Nat)) then
                  some
                    (X.sl (Ty.int IntKind.u8)
                        (b ++
                          [A.wrap IntKind.u8
                              (A.bor (8 : Nat) (240 : Int) (A.wrap IntKind.u8 (Int.fdiv n (A.p2 (18 : Int) (32 : Nat))))),
                            A.wrap IntKind.u8
                              (A.bor (8 : Nat) (128 : Int)
                                (A.wrap IntKind.u8
                                  (A.band (8 : Nat) (A.wrap IntKind.u8 (Int.fdiv n (A.p2 (12 : Int) (32 : Nat))))
                                    (63 : Int)))),
                            A.wrap IntKind.u8
                              (A.bor (8 : Nat) (128 : Int)
                                (A.wrap IntKind.u8
                                  (A.band (8 : Nat) (A.wrap IntKind.u8 (Int.fdiv n (A.p2 (6 : Int) (32 : Nat))))
                                    (63 : Int)))),
                            A.wrap IntKind.u8
                              (A.bor (8 : Nat) (128 : Int)
                                (A.wrap IntKind.u8 (A.band (8 : Nat) (A.wrap IntKind.u8 n) (63 : Int))))])
                        (some
                          (nl &&
                            List.isEmpty
                              [A.wrap IntKind.u8
                                  (A.bor (8 : Nat) (240 : Int)
                                    (A.wrap IntKind.u8 (Int.fdiv n (A.p2 (18 : Int) (32 : Nat))))),
                                A.wrap IntKind.u8
                                  (A.bor (8 : Nat) (128 : Int)
                                    (A.wrap IntKind.u8
                                      (A.band (8 : Nat) (A.wrap IntKind.u8 (Int.fdiv n (A.p2 (12 : Int) (32 : Nat))))
                                        (63 : Int)))),
                                A.wrap IntKind.u8
                                  (A.bor (8 : Nat) (128 : Int)
                                    (A.wrap IntKind.u8
                                      (A.band (8 : Nat) (A.wrap IntKind.u8 (Int.fdiv n (A.p2 (6 : Int) (32 : Nat))))
                                        (63 : Int)))),
                                A.wrap IntKind.u8
                                  (A.bor (8 : Nat) (128 : Int)
                                    (A.wrap IntKind.u8 (A.band (8 : Nat) (A.wrap IntKind.u8 n) (63 : Int))))]))
                        true,
                      [])
                else none
              else
                bif
                    decide
                      ((List.length b + List.length [(239 : Int), (191 : Int), (189 : Int)]) * (1 : Nat) ≤
                        (140737488355328 : Nat)) then
                  some
                    (X.sl (Ty.int IntKind.u8) (b ++ [(239 : Int), (191 : Int), (189 : Int)])
                        (some (nl && List.isEmpty [(239 : Int), (191 : Int), (189 : Int)])) true,
                      [])
                else none
            else
              bif
                  decide
                    ((List.length b + List.length [(239 : Int), (191 : Int), (189 : Int)]) * (1 : Nat) ≤
                      (140737488355328 : Nat)) then
                some
                  (X.sl (Ty.int IntKind.u8) (b ++ [(239 : Int), (191 : Int), (189 : Int)])
                      (some (nl && List.isEmpty [(239 : Int), (191 : Int), (189 : Int)])) true,
                    [])
              else none
        else
          bif decide (A.wrap IntKind.u32 n > (65535 : Int)) == true then
            bif decide (A.wrap IntKind.u32 n ≤ (1114111 : Int)) then
              bif
                  decide
                    ((List.length b +
                          List.length
                            [A.wrap IntKind.u8
                                (A.bor (8 : Nat) (240 : Int) (A.wrap IntKind.u8 (Int.fdiv n (A.p2 (18 : Int) (32 : Nat))))),
                              A.wrap IntKind.u8
                                (A.bor (8 : Nat) (128 : Int)
                                  (A.wrap IntKind.u8
                                    (A.band (8 : Nat) (A.wrap IntKind.u8 (Int.fdiv n (A.p2 (12 : Int) (32 : Nat))))
                                      (63 : Int)))),
                              A.wrap IntKind.u8
                                (A.bor (8 : Nat) (128 : Int)
                                  (A.wrap IntKind.u8
                                    (A.band (8 : Nat) (A.wrap IntKind.u8 (Int.fdiv n (A.p2 (6 : Int) (32 : Nat))))
                                      (63 : Int)))),
                              A.wrap IntKind.u8
                                (A.bor (8 : Nat) (128 : Int)
                                  (A.wrap IntKind.u8 (A.band (8 : Nat) (A.wrap IntKind.u8 n) (63 : Int))))]) *
                        (1 : Nat) ≤
                      (140737488355328 : Nat)) then
                some
                  (X.sl (Ty.int IntKind.u8)
                      (b ++
                        [A.wrap IntKind.u8
                            (A.bor (8 : Nat) (240 : Int) (A.wrap IntKind.u8 (Int.fdiv n (A.p2 (18 : Int) (32 : Nat))))),
                          A.wrap IntKind.u8
                            (A.bor (8 : Nat) (128 : Int)
                              (A.wrap IntKind.u8
                                (A.band (8 : Nat) (A.wrap IntKind.u8 (Int.fdiv n (A.p2 (12 : Int) (32 : Nat))))
                                  (63 : Int)))),
                          A.wrap IntKind.u8
                            (A.bor (8 : Nat) (128 : Int)
                              (A.wrap IntKind.u8
                                (A.band (8 : Nat) (A.wrap IntKind.u8 (Int.fdiv n (A.p2 (6 : Int) (32 : Nat))))
                                  (63 : Int)))),
                          A.wrap IntKind.u8
                            (A.bor (8 : Nat) (128 : Int)
                              (A.wrap IntKind.u8 (A.band (8 : Nat) (A.wrap IntKind.u8 n) (63 : Int))))])
                      (some
                        (nl &&
                          List.isEmpty
                            [A.wrap IntKind.u8
                                (A.bor (8 : Nat) (240 : Int) (A.wrap IntKind.u8 (Int.fdiv n (A.p2 (18 : Int) (32 : Nat))))),
                              A.wrap IntKind.u8
                                (A.bor (8 : Nat) (128 : Int)
                                  (A.wrap IntKind.u8
                                    (A.band (8 : Nat) (A.wrap IntKind.u8 (Int.fdiv n (A.p2 (12 : Int) (32 : Nat))))
                                      (63 : Int)))),
                              A.wrap IntKind.u8
                                (A.bor (8 : Nat) (128 : Int)
                                  (A.wrap IntKind.u8
                                    (A.band (8 : Nat) (A.wrap IntKind.u8 (Int.fdiv n (A.p2 (6 : Int) (32 : Nat))))
                                      (63 : Int)))),
                              A.wrap IntKind.u8
                                (A.bor (8 : Nat) (128 : Int)
                                  (A.wrap IntKind.u8 (A.band (8 : Nat) (A.wrap IntKind.u8 n) (63 : Int))))]))
                      true,
                    [])
              else none
            else
              bif
                  decide
                    ((List.length b + List.length [(239 : Int), (191 : Int), (189 : Int)]) * (1 : Nat) ≤
                      (140737488355328 : Nat)) then
                some
                  (X.sl (Ty.int IntKind.u8) (b ++ [(239 : Int), (191 : Int), (189 : Int)])
                      (some (nl && List.isEmpty [(239 : Int), (191 : Int), (189 : Int)])) true,
                    [])
              else none
          else
            bif
                decide
                  ((List.length b + List.length [(239 : Int), (191 : Int), (189 : Int)]) * (1 : Nat) ≤
                    (140737488355328 : Nat)) then
              some
                (X.sl (Ty.int IntKind.u8) (b ++ [(239 : Int), (191 : Int), (189 : Int)])
                    (some (nl && List.isEmpty [(239 : Int), (191 : Int), (189 : Int)])) true,
                  [])
            else none) := by kernel_rfl
theorem tAppRune (A : Ar) (b : List Int) (nl : Bool) (n : Int) : bodyX (Cx A (Out2 A) noL) 100 Tryd.f64 [.sl (.int .u8) b (some nl) true, .d (.int .i32) n] [] =
    (bif decide (A.wrap IntKind.u32 n ≤ (127 : Int)) then
      bif decide ((List.length b + List.length [A.wrap IntKind.u8 n]) * (1 : Nat) ≤ (140737488355328 : Nat)) then
        some
          (X.sl (Ty.int IntKind.u8) (b ++ [A.wrap IntKind.u8 n]) (some (nl && List.isEmpty [A.wrap IntKind.u8 n])) true, [])
      else none
    else
      bif A.se (goodN n && decide ((128 : Int) ≤ n ∧ List.length b ≤ (70368744177664 : Nat))) then
        some (X.sl (Ty.int IntKind.u8) (A.se (b ++ ub n)) (some false) true, [])
      else none) := by kernel_rfl
theorem lUPut (A : Ar) (R : Type) (z : Int) (out : List Int) (nl : Bool) (l : List Int) (nl2 : Option Bool) (n i : Int) (k : Ex → List X → Hp → Option R) : stepF (Cx A (Out3 A) (LuPut A)) 100 (loopAt Tryd.f37 0) 22 [2, 3, 4, 7, 8, 9] [u8s [] (some true) true, i64x z, u8s out (some nl) true, i64s l nl2 false, i64x n, i64x i] [] k =
    (bif decide (i < n) then
      bif decide ((0 : Int) ≤ i ∧ i < (↑(List.length l) : Int)) then
        bif !A.se (goodN (List.getD l (Int.toNat i) (0 : Int))) then
          k Ex.ret
            [X.sl (Ty.int IntKind.u8) [] (some true) true, X.d (Ty.int IntKind.i64) (10 : Int),
              X.sl (Ty.int IntKind.u8) out (some nl) true, X.sl (Ty.int IntKind.i64) l nl2 false,
              X.d (Ty.int IntKind.i64) n, X.d (Ty.int IntKind.i64) i]
            []
        else
          bif
              A.se
                (goodN (A.wrap IntKind.i32 (List.getD l (Int.toNat i) (0 : Int))) &&
                  decide (List.length out ≤ (70368744177664 : Nat))) then
            k Ex.normal
              [X.sl (Ty.int IntKind.u8) [] (some true) true, X.d (Ty.int IntKind.i64) z,
                X.sl (Ty.int IntKind.u8)
                  (A.se (out ++ ub (A.wrap IntKind.i32 (List.getD l (Int.toNat i) (0 : Int)))))
                  (some false) true,
                X.sl (Ty.int IntKind.i64) l nl2 false, X.d (Ty.int IntKind.i64) n,
                X.d (Ty.int IntKind.i64) (A.wrap IntKind.i64 (i + (1 : Int)))]
              []
          else none
      else none
    else
      k (Ex.exit (0 : Nat))
        [X.sl (Ty.int IntKind.u8) [] (some true) true, X.d (Ty.int IntKind.i64) z,
          X.sl (Ty.int IntKind.u8) out (some nl) true, X.sl (Ty.int IntKind.i64) l nl2 false, X.d (Ty.int IntKind.i64) n,
          X.d (Ty.int IntKind.i64) i]
        []) := by kernel_rfl
theorem tUPut (A : Ar) (l : List Int) (nl2 : Option Bool) : bodyX (Cx A (Out3 A) (LuPut A)) 100 Tryd.f37 [i64s l nl2 false] [] =
    (bif
        A.se
          (gPut l [] (0 : Int) && decide ((↑(List.length l) : Int) = (↑(List.length l) : Int))) then
      bif A.se (List.all (List.drop (Int.toNat (0 : Int)) l) goodN) then
        some
          (X.tup
              [X.sl (Ty.int IntKind.u8) (A.se ([] ++ ups (List.drop (Int.toNat (0 : Int)) l)))
                  (some (A.se (true && List.isEmpty (ups (List.drop (Int.toNat (0 : Int)) l))))) false,
                X.d (Ty.int IntKind.i64) (0 : Int)],
            [])
      else some (X.tup [X.sl (Ty.int IntKind.u8) [] (some true) false, X.d (Ty.int IntKind.i64) (10 : Int)], [])
    else none) := by kernel_rfl
theorem lRPut (A : Ar) (R : Type) (l : List Int) (nl2 : Option Bool) (z : Int) (out : List Int) (nl : Bool) (i : Int) (k : Ex → List X → Hp → Option R) : stepF (Cx A (Out3 A) (LrPut A)) 100 (loopAt Tryd.f39 0) 26 [0, 2, 3, 4, 5] [i64s l nl2 false, u8s [] (some true) true, i64x z, u8s out (some nl) true, i64x i] [] k =
    (bif decide (i < (↑(List.length l) : Int)) then
      bif decide ((0 : Int) ≤ i ∧ i < (↑(List.length l) : Int)) then
        bif !A.se (goodN (List.getD l (Int.toNat i) (0 : Int))) then
          k Ex.ret
            [X.sl (Ty.int IntKind.i64) l nl2 false, X.sl (Ty.int IntKind.u8) [] (some true) true,
              X.d (Ty.int IntKind.i64) (10 : Int), X.sl (Ty.int IntKind.u8) out (some nl) true, X.d (Ty.int IntKind.i64) i]
            []
        else
          bif decide ((0 : Int) ≤ i ∧ i < (↑(List.length l) : Int)) then
            bif A.se (goodN (List.getD l (Int.toNat i) (0 : Int))) then
              bif
                  decide
                    ((List.length out +
                          List.length (A.se (ub (List.getD l (Int.toNat i) (0 : Int))))) *
                        (1 : Nat) ≤
                      (140737488355328 : Nat)) then
                k Ex.normal
                  [X.sl (Ty.int IntKind.i64) l nl2 false, X.sl (Ty.int IntKind.u8) [] (some true) true,
                    X.d (Ty.int IntKind.i64) z,
                    X.sl (Ty.int IntKind.u8) (out ++ A.se (ub (List.getD l (Int.toNat i) (0 : Int))))
                      (some (nl && List.isEmpty (A.se (ub (List.getD l (Int.toNat i) (0 : Int))))))
                      true,
                    X.d (Ty.int IntKind.i64) (A.wrap IntKind.i64 (i + (1 : Int)))]
                  []
              else none
            else none
          else none
      else none
    else
      k (Ex.exit (0 : Nat))
        [X.sl (Ty.int IntKind.i64) l nl2 false, X.sl (Ty.int IntKind.u8) [] (some true) true, X.d (Ty.int IntKind.i64) z,
          X.sl (Ty.int IntKind.u8) out (some nl) true, X.d (Ty.int IntKind.i64) i]
        []) := by kernel_rfl
theorem tRPut (A : Ar) (l : List Int) (nl2 : Option Bool) : bodyX (Cx A (Out3 A) (LrPut A)) 100 Tryd.f39 [i64s l nl2 false] [] =
    (bif A.se (gPut l [] (0 : Int)) then
      bif A.se (List.all (List.drop (Int.toNat (0 : Int)) l) goodN) then
        some
          (X.tup
              [X.sl (Ty.int IntKind.u8) (A.se ([] ++ ups (List.drop (Int.toNat (0 : Int)) l)))
                  (some (A.se (true && List.isEmpty (ups (List.drop (Int.toNat (0 : Int)) l))))) false,
                X.d (Ty.int IntKind.i64) (0 : Int)],
            [])
      else some (X.tup [X.sl (Ty.int IntKind.u8) [] (some true) false, X.d (Ty.int IntKind.i64) (10 : Int)], [])
    else none) := by kernel_rfl
theorem lNum (A : Ar) (R : Type) (b : List Int) (nl : Option Bool) (n o i : Int) (k : Ex → List X → Hp → Option R) : stepF (Cx A (Out4 A) (Lnum A)) 100 (loopAt Tryd.f75 0) 47 [0, 1, 5, 6] [u8s b nl false, i64x n, i64x o, i64x i] [] k =
    (bif decide (i < n) then
      bif decide ((0 : Int) ≤ i ∧ i < (↑(List.length b) : Int)) then
        k Ex.normal
          [X.sl (Ty.int IntKind.u8) b nl false, X.d (Ty.int IntKind.i64) n,
            X.d (Ty.int IntKind.i64)
              (A.wrap IntKind.i64
                (A.wrap IntKind.i64 (o * (64 : Int)) +
                  Int.tmod (A.wrap IntKind.i64 (List.getD b (Int.toNat i) (0 : Int))) (64 : Int))),
            X.d (Ty.int IntKind.i64) (A.wrap IntKind.i64 (i + (1 : Int)))]
          []
      else none
    else
      k (Ex.exit (0 : Nat))
        [X.sl (Ty.int IntKind.u8) b nl false, X.d (Ty.int IntKind.i64) n, X.d (Ty.int IntKind.i64) o,
          X.d (Ty.int IntKind.i64) i]
        []) := by kernel_rfl
theorem tNum (A : Ar) (b : List Int) (nl : Option Bool) (n : Int) : bodyX (Cx A (Out4 A) (Lnum A)) 100 Tryd.f75 [u8s b nl false, i64x n] [] =
    (bif decide ((0 : Int) ≤ (0 : Int) ∧ (0 : Int) < (↑(List.length b) : Int)) then
      bif n == (2 : Int) then
        bif decide ((0 : Int) ≤ (0 : Int) ∧ (0 : Int) < (↑(List.length b) : Int)) then
          bif n == (3 : Int) then
            bif decide ((0 : Int) ≤ (0 : Int) ∧ (0 : Int) < (↑(List.length b) : Int)) then
              bif n == (4 : Int) then
                bif decide ((0 : Int) ≤ (0 : Int) ∧ (0 : Int) < (↑(List.length b) : Int)) then
                  bif
                      A.se
                        (bytesB b &&
                          decide
                            ((1 : Int) ≤ (1 : Int) ∧
                              (1 : Int) ≤ n ∧
                                n ≤ (4 : Int) ∧
                                  n ≤ (↑(List.length b) : Int) ∧
                                    (0 : Int) ≤
                                        Int.tmod
                                          (A.wrap IntKind.i64
                                            (List.getD b (Int.toNat (0 : Int)) (0 : Int)))
                                          (8 : Int) ∧
                                      Int.tmod
                                          (A.wrap IntKind.i64
                                            (List.getD b (Int.toNat (0 : Int)) (0 : Int)))
                                          (8 : Int) <
                                        (256 : Int) *
                                          (64 : Int) ^ (Int.toNat (1 : Int) - (1 : Nat)))) then
                    some
                      (X.d (Ty.int IntKind.i64)
                          (A.se
                            (numL
                              (Int.tmod
                                (A.wrap IntKind.i64 (List.getD b (Int.toNat (0 : Int)) (0 : Int)))
                                (8 : Int))
                              (List.drop (Int.toNat (1 : Int)) (List.take (Int.toNat n) b)))),
                        [])
                  else none
                else none
              else
                bif
                    A.se
                      (bytesB b &&
                        decide
                          ((1 : Int) ≤ (1 : Int) ∧
                            (1 : Int) ≤ n ∧
                              n ≤ (4 : Int) ∧
                                n ≤ (↑(List.length b) : Int) ∧
                                  (0 : Int) ≤
                                      Int.tmod
                                        (A.wrap IntKind.i64
                                          (List.getD b (Int.toNat (0 : Int)) (0 : Int)))
                                        (16 : Int) ∧
                                    Int.tmod
                                        (A.wrap IntKind.i64
                                          (List.getD b (Int.toNat (0 : Int)) (0 : Int)))
                                        (16 : Int) <
                                      (256 : Int) *
                                        (64 : Int) ^ (Int.toNat (1 : Int) - (1 : Nat)))) then
                  some
                    (X.d (Ty.int IntKind.i64)
                        (A.se
                          (numL
                            (Int.tmod (A.wrap IntKind.i64 (List.getD b (Int.toNat (0 : Int)) (0 : Int)))
                              (16 : Int))
                            (List.drop (Int.toNat (1 : Int)) (List.take (Int.toNat n) b)))),
                      [])
                else none
            else none
          else
            bif n == (4 : Int) then
              bif decide ((0 : Int) ≤ (0 : Int) ∧ (0 : Int) < (↑(List.length b) : Int)) then
                bif
                    A.se
                      (bytesB b &&
                        decide
                          ((1 : Int) ≤ (1 : Int) ∧
                            (1 : Int) ≤ n ∧
                              n ≤ (4 : Int) ∧
                                n ≤ (↑(List.length b) : Int) ∧
                                  (0 : Int) ≤
                                      Int.tmod
                                        (A.wrap IntKind.i64
                                          (List.getD b (Int.toNat (0 : Int)) (0 : Int)))
                                        (8 : Int) ∧
                                    Int.tmod
                                        (A.wrap IntKind.i64
                                          (List.getD b (Int.toNat (0 : Int)) (0 : Int)))
                                        (8 : Int) <
                                      (256 : Int) *
                                        (64 : Int) ^ (Int.toNat (1 : Int) - (1 : Nat)))) then
                  some
                    (X.d (Ty.int IntKind.i64)
                        (A.se
                          (numL
                            (Int.tmod (A.wrap IntKind.i64 (List.getD b (Int.toNat (0 : Int)) (0 : Int)))
                              (8 : Int))
                            (List.drop (Int.toNat (1 : Int)) (List.take (Int.toNat n) b)))),
                      [])
                else none
              else none
            else
              bif
                  A.se
                    (bytesB b &&
                      decide
                        ((1 : Int) ≤ (1 : Int) ∧
                          (1 : Int) ≤ n ∧
                            n ≤ (4 : Int) ∧
                              n ≤ (↑(List.length b) : Int) ∧
                                (0 : Int) ≤
                                    Int.tmod
                                      (A.wrap IntKind.i64 (List.getD b (Int.toNat (0 : Int)) (0 : Int)))
                                      (32 : Int) ∧
                                  Int.tmod
                                      (A.wrap IntKind.i64 (List.getD b (Int.toNat (0 : Int)) (0 : Int)))
                                      (32 : Int) <
                                    (256 : Int) *
                                      (64 : Int) ^ (Int.toNat (1 : Int) - (1 : Nat)))) then
                some
                  (X.d (Ty.int IntKind.i64)
                      (A.se
                        (numL
                          (Int.tmod (A.wrap IntKind.i64 (List.getD b (Int.toNat (0 : Int)) (0 : Int)))
                            (32 : Int))
                          (List.drop (Int.toNat (1 : Int)) (List.take (Int.toNat n) b)))),
                    [])
              else none
        else none
      else
        bif n == (3 : Int) then
          bif decide ((0 : Int) ≤ (0 : Int) ∧ (0 : Int) < (↑(List.length b) : Int)) then
            bif n == (4 : Int) then
              bif decide ((0 : Int) ≤ (0 : Int) ∧ (0 : Int) < (↑(List.length b) : Int)) then
                bif
                    A.se
                      (bytesB b &&
                        decide
                          ((1 : Int) ≤ (1 : Int) ∧
                            (1 : Int) ≤ n ∧
                              n ≤ (4 : Int) ∧
                                n ≤ (↑(List.length b) : Int) ∧
                                  (0 : Int) ≤
                                      Int.tmod
                                        (A.wrap IntKind.i64
                                          (List.getD b (Int.toNat (0 : Int)) (0 : Int)))
                                        (8 : Int) ∧
                                    Int.tmod
                                        (A.wrap IntKind.i64
                                          (List.getD b (Int.toNat (0 : Int)) (0 : Int)))
                                        (8 : Int) <
                                      (256 : Int) *
                                        (64 : Int) ^ (Int.toNat (1 : Int) - (1 : Nat)))) then
                  some
                    (X.d (Ty.int IntKind.i64)
                        (A.se
                          (numL
                            (Int.tmod (A.wrap IntKind.i64 (List.getD b (Int.toNat (0 : Int)) (0 : Int)))
                              (8 : Int))
                            (List.drop (Int.toNat (1 : Int)) (List.take (Int.toNat n) b)))),
                      [])
                else none
              else none
            else
              bif
                  A.se
                    (bytesB b &&
                      decide
                        ((1 : Int) ≤ (1 : Int) ∧
                          (1 : Int) ≤ n ∧
                            n ≤ (4 : Int) ∧
                              n ≤ (↑(List.length b) : Int) ∧
                                (0 : Int) ≤
                                    Int.tmod
                                      (A.wrap IntKind.i64 (List.getD b (Int.toNat (0 : Int)) (0 : Int)))
                                      (16 : Int) ∧
                                  Int.tmod
                                      (A.wrap IntKind.i64 (List.getD b (Int.toNat (0 : Int)) (0 : Int)))
                                      (16 : Int) <
                                    (256 : Int) *
                                      (64 : Int) ^ (Int.toNat (1 : Int) - (1 : Nat)))) then
                some
                  (X.d (Ty.int IntKind.i64)
                      (A.se
                        (numL
                          (Int.tmod (A.wrap IntKind.i64 (List.getD b (Int.toNat (0 : Int)) (0 : Int)))
                            (16 : Int))
                          (List.drop (Int.toNat (1 : Int)) (List.take (Int.toNat n) b)))),
                    [])
              else none
          else none
        else
          bif n == (4 : Int) then
            bif decide ((0 : Int) ≤ (0 : Int) ∧ (0 : Int) < (↑(List.length b) : Int)) then
              bif
                  A.se
                    (bytesB b &&
                      decide
                        ((1 : Int) ≤ (1 : Int) ∧
                          (1 : Int) ≤ n ∧
                            n ≤ (4 : Int) ∧
                              n ≤ (↑(List.length b) : Int) ∧
                                (0 : Int) ≤
                                    Int.tmod
                                      (A.wrap IntKind.i64 (List.getD b (Int.toNat (0 : Int)) (0 : Int)))
                                      (8 : Int) ∧
                                  Int.tmod
                                      (A.wrap IntKind.i64 (List.getD b (Int.toNat (0 : Int)) (0 : Int)))
                                      (8 : Int) <
                                    (256 : Int) *
                                      (64 : Int) ^ (Int.toNat (1 : Int) - (1 : Nat)))) then
                some
                  (X.d (Ty.int IntKind.i64)
                      (A.se
                        (numL
                          (Int.tmod (A.wrap IntKind.i64 (List.getD b (Int.toNat (0 : Int)) (0 : Int)))
                            (8 : Int))
                          (List.drop (Int.toNat (1 : Int)) (List.take (Int.toNat n) b)))),
                    [])
              else none
            else none
          else
            bif
                A.se
                  (bytesB b &&
                    decide
                      ((1 : Int) ≤ (1 : Int) ∧
                        (1 : Int) ≤ n ∧
                          n ≤ (4 : Int) ∧
                            n ≤ (↑(List.length b) : Int) ∧
                              (0 : Int) ≤
                                  A.wrap IntKind.i64 (List.getD b (Int.toNat (0 : Int)) (0 : Int)) ∧
                                A.wrap IntKind.i64 (List.getD b (Int.toNat (0 : Int)) (0 : Int)) <
                                  (256 : Int) *
                                    (64 : Int) ^ (Int.toNat (1 : Int) - (1 : Nat)))) then
              some
                (X.d (Ty.int IntKind.i64)
                    (A.se
                      (numL (A.wrap IntKind.i64 (List.getD b (Int.toNat (0 : Int)) (0 : Int)))
                        (List.drop (Int.toNat (1 : Int)) (List.take (Int.toNat n) b)))),
                  [])
            else none
    else none) := by kernel_rfl
theorem lRTake (A : Ar) (R : Type) (b : List Int) (nl : Option Bool) (x y z n : Int) (k : Ex → List X → Hp → Option R) : stepF (Cx A (Out5 A) (LrTake A)) 100 (loopAt Tryd.f61 0) 34 [0, 2, 3, 4, 5] [u8s b nl false, i64x x, i64x y, i64x z, i64x n] [] k =
    (bif decide (n ≤ (4 : Int)) == true then
      bif decide (n ≤ (↑(List.length b) : Int)) then
        bif
            A.se
              (bytesB b &&
                decide
                  ((1 : Int) ≤ n ∧
                    n ≤ (4 : Int) ∧ n ≤ (↑(List.length b) : Int))) then
          bif A.se (goodN (A.se (numN b (Int.toNat n)))) == true then
            bif A.se (goodN (A.se (numN b (Int.toNat n)))) then
              bif decide ((0 : Int) ≤ n ∧ n ≤ (↑(List.length b) : Int)) then
                bif A.seq (strOf (A.se (ub (A.se (numN b (Int.toNat n)))))) (strOf (List.take (Int.toNat n) b)) then
                  k Ex.ret
                    [X.sl (Ty.int IntKind.u8) b nl false, X.d (Ty.int IntKind.i64) (A.se (numN b (Int.toNat n))),
                      X.d (Ty.int IntKind.i64) n, X.d (Ty.int IntKind.i64) (0 : Int), X.d (Ty.int IntKind.i64) n]
                    []
                else
                  k Ex.normal
                    [X.sl (Ty.int IntKind.u8) b nl false, X.d (Ty.int IntKind.i64) x, X.d (Ty.int IntKind.i64) y,
                      X.d (Ty.int IntKind.i64) z, X.d (Ty.int IntKind.i64) (A.wrap IntKind.i64 (n + (1 : Int)))]
                    []
              else none
            else none
          else
            k Ex.normal
              [X.sl (Ty.int IntKind.u8) b nl false, X.d (Ty.int IntKind.i64) x, X.d (Ty.int IntKind.i64) y,
                X.d (Ty.int IntKind.i64) z, X.d (Ty.int IntKind.i64) (A.wrap IntKind.i64 (n + (1 : Int)))]
              []
        else none
      else
        k (Ex.exit (0 : Nat))
          [X.sl (Ty.int IntKind.u8) b nl false, X.d (Ty.int IntKind.i64) x, X.d (Ty.int IntKind.i64) y,
            X.d (Ty.int IntKind.i64) z, X.d (Ty.int IntKind.i64) n]
          []
    else
      k (Ex.exit (0 : Nat))
        [X.sl (Ty.int IntKind.u8) b nl false, X.d (Ty.int IntKind.i64) x, X.d (Ty.int IntKind.i64) y,
          X.d (Ty.int IntKind.i64) z, X.d (Ty.int IntKind.i64) n]
        []) := by kernel_rfl
theorem tRTake (A : Ar) (b : List Int) (nl : Option Bool) : bodyX (Cx A (Out5 A) (LrTake A)) 100 Tryd.f61 [u8s b nl false] [] =
    (bif
        A.se
          (bytesB b &&
            (decide ((1 : Int) ≤ (1 : Int) ∧ (1 : Int) ≤ (5 : Int)) &&
              List.all (List.range (Int.toNat (1 : Int))) fun m => !tryB b m)) then
      bif A.se (Option.isSome (takeU b)) then
        some
          (X.tup
              [X.d (Ty.int IntKind.i64) (A.se (uN b)), X.d (Ty.int IntKind.i64) (A.se (uL b)),
                X.d (Ty.int IntKind.i64) (0 : Int)],
            [])
      else
        some
          (X.tup
              [X.d (Ty.int IntKind.i64) (0 : Int), X.d (Ty.int IntKind.i64) (0 : Int), X.d (Ty.int IntKind.i64) (10 : Int)],
            [])
    else none) := by kernel_rfl
theorem tWord (A : Ar) (b : List Int) (nl : Option Bool) : bodyX (Cx A (Out6 A) noL) 100 Tryd.f71 [u8s b nl false] [] =
    (bif decide ((0 : Int) ≤ (0 : Int) ∧ (0 : Int) < (↑(List.length b) : Int)) then
      bif decide ((0 : Int) ≤ (1 : Int) ∧ (1 : Int) < (↑(List.length b) : Int)) then
        bif decide ((0 : Int) ≤ (2 : Int) ∧ (2 : Int) < (↑(List.length b) : Int)) then
          bif decide ((0 : Int) ≤ (3 : Int) ∧ (3 : Int) < (↑(List.length b) : Int)) then
            bif decide ((0 : Int) ≤ (4 : Int) ∧ (4 : Int) < (↑(List.length b) : Int)) then
              bif decide ((0 : Int) ≤ (5 : Int) ∧ (5 : Int) < (↑(List.length b) : Int)) then
                bif decide ((0 : Int) ≤ (6 : Int) ∧ (6 : Int) < (↑(List.length b) : Int)) then
                  bif decide ((0 : Int) ≤ (7 : Int) ∧ (7 : Int) < (↑(List.length b) : Int)) then
                    some
                      (X.d (Ty.int IntKind.u64)
                          (A.wrap IntKind.u64
                            (A.bor (64 : Nat)
                              (A.wrap IntKind.u64
                                (A.bor (64 : Nat)
                                  (A.wrap IntKind.u64
                                    (A.bor (64 : Nat)
                                      (A.wrap IntKind.u64
                                        (A.bor (64 : Nat)
                                          (A.wrap IntKind.u64
                                            (A.bor (64 : Nat)
                                              (A.wrap IntKind.u64
                                                (A.bor (64 : Nat)
                                                  (A.wrap IntKind.u64
                                                    (A.bor (64 : Nat)
                                                      (A.wrap IntKind.u64
                                                        (List.getD b (Int.toNat (0 : Int)) (0 : Int)))
                                                      (A.wrap IntKind.u64
                                                        (A.wrap IntKind.u64
                                                            (List.getD b (Int.toNat (1 : Int))
                                                              (0 : Int)) *
                                                          A.p2 (8 : Int) (64 : Nat)))))
                                                  (A.wrap IntKind.u64
                                                    (A.wrap IntKind.u64
                                                        (List.getD b (Int.toNat (2 : Int)) (0 : Int)) *
                                                      A.p2 (16 : Int) (64 : Nat)))))
                                              (A.wrap IntKind.u64
                                                (A.wrap IntKind.u64
                                                    (List.getD b (Int.toNat (3 : Int)) (0 : Int)) *
                                                  A.p2 (24 : Int) (64 : Nat)))))
                                          (A.wrap IntKind.u64
                                            (A.wrap IntKind.u64
                                                (List.getD b (Int.toNat (4 : Int)) (0 : Int)) *
                                              A.p2 (32 : Int) (64 : Nat)))))
                                      (A.wrap IntKind.u64
                                        (A.wrap IntKind.u64
                                            (List.getD b (Int.toNat (5 : Int)) (0 : Int)) *
                                          A.p2 (40 : Int) (64 : Nat)))))
                                  (A.wrap IntKind.u64
                                    (A.wrap IntKind.u64 (List.getD b (Int.toNat (6 : Int)) (0 : Int)) *
                                      A.p2 (48 : Int) (64 : Nat)))))
                              (A.wrap IntKind.u64
                                (A.wrap IntKind.u64 (List.getD b (Int.toNat (7 : Int)) (0 : Int)) *
                                  A.p2 (56 : Int) (64 : Nat))))),
                        [])
                  else none
                else none
              else none
            else none
          else none
        else none
      else none
    else none) := by kernel_rfl
theorem lValA (A : Ar) (R : Type) (b : List Int) (nl : Option Bool) (x : Bool) (k : Ex → List X → Hp → Option R) : stepF (Cx A (Out7 A) (Lval A)) 100 (loopAt Tryd.f49 0) 188 [0, 2] [u8s b nl false, boolx x] [] k =
    (bif decide ((↑(List.length b) : Int) > (0 : Int)) then
      bif decide ((0 : Int) ≤ (0 : Int) ∧ (0 : Int) < (↑(List.length b) : Int)) then
        bif decide (List.getD b (Int.toNat (0 : Int)) (0 : Int) < (128 : Int)) then
          bif decide ((0 : Int) ≤ (1 : Int) ∧ (1 : Int) ≤ (↑(List.length b) : Int)) then
            bif decide ((↑(List.length (List.drop (Int.toNat (1 : Int)) b)) : Int) > (8 : Int)) == true then
              bif
                  A.se
                    (bytesB (List.drop (Int.toNat (1 : Int)) b) &&
                      decide ((8 : Nat) ≤ List.length (List.drop (Int.toNat (1 : Int)) b))) then
                bif
                    A.wrap IntKind.u64
                        (A.band (64 : Nat) (A.se (wordL (List.take (8 : Nat) (List.drop (Int.toNat (1 : Int)) b))))
                          (9259542123273814144 : Int)) ==
                      (0 : Int) then
                  bif
                      decide
                        ((0 : Int) ≤ (8 : Int) ∧
                          (8 : Int) ≤ (↑(List.length (List.drop (Int.toNat (1 : Int)) b)) : Int)) then
                    bif
                        decide
                            ((↑(List.length (List.drop (Int.toNat (8 : Int)) (List.drop (Int.toNat (1 : Int)) b))) : Int) >
                              (16 : Int)) ==
                          true then
                      bif
                          A.se
                            (bytesB (List.drop (Int.toNat (8 : Int)) (List.drop (Int.toNat (1 : Int)) b)) &&
                              decide
                                ((8 : Nat) ≤
                                  List.length (List.drop (Int.toNat (8 : Int)) (List.drop (Int.toNat (1 : Int)) b)))) then
                        bif
                            decide
                              ((0 : Int) ≤ (8 : Int) ∧
                                (8 : Int) ≤
                                  (↑(List.length (List.drop (Int.toNat (8 : Int)) (List.drop (Int.toNat (1 : Int)) b))) :
                                    Int)) then
                          bif
                              A.se
                                (bytesB
                                    (List.drop (Int.toNat (8 : Int))
                                      (List.drop (Int.toNat (8 : Int)) (List.drop (Int.toNat (1 : Int)) b))) &&
                                  decide
                                    ((8 : Nat) ≤
                                      List.length
                                        (List.drop (Int.toNat (8 : Int))
                                          (List.drop (Int.toNat (8 : Int)) (List.drop (Int.toNat (1 : Int)) b))))) then
                            bif
                                A.wrap IntKind.u64
                                    (A.band (64 : Nat)
                                      (A.wrap IntKind.u64
                                        (A.bor (64 : Nat)
                                          (A.se
                                            (wordL
                                              (List.take (8 : Nat)
                                                (List.drop (Int.toNat (8 : Int)) (List.drop (Int.toNat (1 : Int)) b)))))
                                          (A.se
                                            (wordL
                                              (List.take (8 : Nat)
                                                (List.drop (Int.toNat (8 : Int))
                                                  (List.drop (Int.toNat (8 : Int))
                                                    (List.drop (Int.toNat (1 : Int)) b))))))))
                                      (9259542123273814144 : Int)) ==
                                  (0 : Int) then
                              bif
                                  decide
                                    ((0 : Int) ≤ (16 : Int) ∧
                                      (16 : Int) ≤
                                        (↑(List.length
                                              (List.drop (Int.toNat (8 : Int)) (List.drop (Int.toNat (1 : Int)) b))) :
                                          Int)) then
                                bif
                                    A.se
                                      (bytesB
                                          (List.drop (Int.toNat (16 : Int))
                                            (List.drop (Int.toNat (8 : Int)) (List.drop (Int.toNat (1 : Int)) b))) &&
                                        decide
                                          (List.length
                                              (List.drop (Int.toNat (16 : Int))
                                                (List.drop (Int.toNat (8 : Int)) (List.drop (Int.toNat (1 : Int)) b))) ≤
                                            (1000000 : Nat))) then
                                  k Ex.normal
                                    [X.sl (Ty.int IntKind.u8)
                                        (A.se
                                          (sk32
                                            (List.length
                                              (List.drop (Int.toNat (16 : Int))
                                                (List.drop (Int.toNat (8 : Int)) (List.drop (Int.toNat (1 : Int)) b))))
                                            (List.drop (Int.toNat (16 : Int))
                                              (List.drop (Int.toNat (8 : Int)) (List.drop (Int.toNat (1 : Int)) b)))))
                                        nl false,
                                      X.d Ty.bool x]
                                    []
                                else none
                              else none
                            else
                              k Ex.normal
                                [X.sl (Ty.int IntKind.u8)
                                    (List.drop (Int.toNat (8 : Int)) (List.drop (Int.toNat (1 : Int)) b)) nl false,
                                  X.d Ty.bool x]
                                []
                          else none
                        else none
                      else none
                    else
                      k Ex.normal
                        [X.sl (Ty.int IntKind.u8) (List.drop (Int.toNat (8 : Int)) (List.drop (Int.toNat (1 : Int)) b)) nl
                            false,
                          X.d Ty.bool x]
                        []
                  else none
                else k Ex.normal [X.sl (Ty.int IntKind.u8) (List.drop (Int.toNat (1 : Int)) b) nl false, X.d Ty.bool x] []
              else none
            else k Ex.normal [X.sl (Ty.int IntKind.u8) (List.drop (Int.toNat (1 : Int)) b) nl false, X.d Ty.bool x] []
          else none
        else
          bif
              decide
                ((0 : Int) ≤ List.getD b (Int.toNat (0 : Int)) (0 : Int) ∧
                  List.getD b (Int.toNat (0 : Int)) (0 : Int) < (↑(256 : Nat) : Int)) then
            bif
                decide
                  ((0 : Int) ≤
                      Int.fdiv
                        (List.getD firstT (Int.toNat (List.getD b (Int.toNat (0 : Int)) (0 : Int)))
                          (0 : Int))
                        (A.p2 (4 : Int) (8 : Nat)) ∧
                    Int.fdiv
                        (List.getD firstT (Int.toNat (List.getD b (Int.toNat (0 : Int)) (0 : Int)))
                          (0 : Int))
                        (A.p2 (4 : Int) (8 : Nat)) <
                      (↑(16 : Nat) : Int)) then
              bif
                  A.wrap IntKind.i64
                      (A.wrap IntKind.u8
                        (A.band (8 : Nat)
                          (List.getD firstT (Int.toNat (List.getD b (Int.toNat (0 : Int)) (0 : Int)))
                            (0 : Int))
                          (7 : Int))) ==
                    (2 : Int) then
                bif decide ((↑(List.length b) : Int) < (2 : Int)) == false then
                  bif decide ((0 : Int) ≤ (1 : Int) ∧ (1 : Int) < (↑(List.length b) : Int)) then
                    bif
                        decide
                            (List.getD b (Int.toNat (1 : Int)) (0 : Int) <
                              (List.getD acceptT
                                  (Int.toNat
                                    (Int.fdiv
                                      (List.getD firstT
                                        (Int.toNat (List.getD b (Int.toNat (0 : Int)) (0 : Int)))
                                        (0 : Int))
                                      (A.p2 (4 : Int) (8 : Nat))))
                                  (Ty.zero
                                    (Ty.struct
                                      (Ty.prod (Ty.int IntKind.u8) (Ty.prod (Ty.int IntKind.u8) Ty.unit))))).fst) ==
                          false then
                      bif decide ((0 : Int) ≤ (1 : Int) ∧ (1 : Int) < (↑(List.length b) : Int)) then
                        bif
                            decide
                              ((List.getD acceptT
                                      (Int.toNat
                                        (Int.fdiv
                                          (List.getD firstT
                                            (Int.toNat (List.getD b (Int.toNat (0 : Int)) (0 : Int)))
                                            (0 : Int))
                                          (A.p2 (4 : Int) (8 : Nat))))
                                      (Ty.zero
                                        (Ty.struct
                                          (Ty.prod (Ty.int IntKind.u8) (Ty.prod (Ty.int IntKind.u8) Ty.unit))))).snd.fst <
                                List.getD b (Int.toNat (1 : Int)) (0 : Int)) then
                          k Ex.ret [X.sl (Ty.int IntKind.u8) b nl false, X.d Ty.bool false]
                            [(Ty.struct (Ty.prod (Ty.int IntKind.u8) (Ty.prod (Ty.int IntKind.u8) Ty.unit)),
                                X.d (Ty.struct (Ty.prod (Ty.int IntKind.u8) (Ty.prod (Ty.int IntKind.u8) Ty.unit)))
                                  (List.getD acceptT
                                    (Int.toNat
                                      (Int.fdiv
                                        (List.getD firstT
                                          (Int.toNat (List.getD b (Int.toNat (0 : Int)) (0 : Int)))
                                          (0 : Int))
                                        (A.p2 (4 : Int) (8 : Nat))))
                                    (Ty.zero
                                      (Ty.struct (Ty.prod (Ty.int IntKind.u8) (Ty.prod (Ty.int IntKind.u8) Ty.unit))))))]
                        else
                          bif
                              decide
                                ((0 : Int) ≤ (2 : Int) ∧ (2 : Int) ≤ (↑(List.length b) : Int)) then
                            k Ex.normal
                              [X.sl (Ty.int IntKind.u8) (List.drop (Int.toNat (2 : Int)) b) nl false, X.d Ty.bool x]
                              [(Ty.struct (Ty.prod (Ty.int IntKind.u8) (Ty.prod (Ty.int IntKind.u8) Ty.unit)),
                                  X.d (Ty.struct (Ty.prod (Ty.int IntKind.u8) (Ty.prod (Ty.int IntKind.u8) Ty.unit)))
                                    (List.getD acceptT
                                      (Int.toNat
                                        (Int.fdiv
                                          (List.getD firstT
                                            (Int.toNat (List.getD b (Int.toNat (0 : Int)) (0 : Int)))
                                            (0 : Int))
                                          (A.p2 (4 : Int) (8 : Nat))))
                                      (Ty.zero
                                        (Ty.struct (Ty.prod (Ty.int IntKind.u8) (Ty.prod (Ty.int IntKind.u8) Ty.unit))))))]
                          else none
                      else none
                    else
                      k Ex.ret [X.sl (Ty.int IntKind.u8) b nl false, X.d Ty.bool false]
                        [(Ty.struct (Ty.prod (Ty.int IntKind.u8) (Ty.prod (Ty.int IntKind.u8) Ty.unit)),
                            X.d (Ty.struct (Ty.prod (Ty.int IntKind.u8) (Ty.prod (Ty.int IntKind.u8) Ty.unit)))
                              (List.getD acceptT
                                (Int.toNat
                                  (Int.fdiv
                                    (List.getD firstT
                                      (Int.toNat (List.getD b (Int.toNat (0 : Int)) (0 : Int)))
                                      (0 : Int))
                                    (A.p2 (4 : Int) (8 : Nat))))
                                (Ty.zero (Ty.struct (Ty.prod (Ty.int IntKind.u8) (Ty.prod (Ty.int IntKind.u8) Ty.unit))))))]
                  else none
                else
                  k Ex.ret [X.sl (Ty.int IntKind.u8) b nl false, X.d Ty.bool false]
                    [(Ty.struct (Ty.prod (Ty.int IntKind.u8) (Ty.prod (Ty.int IntKind.u8) Ty.unit)),
                        X.d (Ty.struct (Ty.prod (Ty.int IntKind.u8) (Ty.prod (Ty.int IntKind.u8) Ty.unit)))
                          (List.getD acceptT
                            (Int.toNat
                              (Int.fdiv
                                (List.getD firstT
                                  (Int.toNat (List.getD b (Int.toNat (0 : Int)) (0 : Int)))
                                  (0 : Int))
                                (A.p2 (4 : Int) (8 : Nat))))
                            (Ty.zero (Ty.struct (Ty.prod (Ty.int IntKind.u8) (Ty.prod (Ty.int IntKind.u8) Ty.unit))))))]
              else
                bif
                    A.wrap IntKind.i64
                        (A.wrap IntKind.u8
                          (A.band (8 : Nat)
                            (List.getD firstT (Int.toNat (List.getD b (Int.toNat (0 : Int)) (0 : Int)))
                              (0 : Int))
                            (7 : Int))) ==
                      (3 : Int) then
                  bif decide ((↑(List.length b) : Int) < (3 : Int)) == false then
                    bif decide ((0 : Int) ≤ (1 : Int) ∧ (1 : Int) < (↑(List.length b) : Int)) then
                      bif
                          decide
                              (List.getD b (Int.toNat (1 : Int)) (0 : Int) <
                                (List.getD acceptT
                                    (Int.toNat
                                      (Int.fdiv
                                        (List.getD firstT
                                          (Int.toNat (List.getD b (Int.toNat (0 : Int)) (0 : Int)))
                                          (0 : Int))
                                        (A.p2 (4 : Int) (8 : Nat))))
                                    (Ty.zero
                                      (Ty.struct
                                        (Ty.prod (Ty.int IntKind.u8) (Ty.prod (Ty.int IntKind.u8) Ty.unit))))).fst) ==
                            false then
                        bif decide ((0 : Int) ≤ (1 : Int) ∧ (1 : Int) < (↑(List.length b) : Int)) then
                          bif
                              decide
                                  ((List.getD acceptT
                                          (Int.toNat
                                            (Int.fdiv
                                              (List.getD firstT
                                                (Int.toNat
                                                  (List.getD b (Int.toNat (0 : Int)) (0 : Int)))
                                                (0 : Int))
                                              (A.p2 (4 : Int) (8 : Nat))))
                                          (Ty.zero
                                            (Ty.struct
                                              (Ty.prod (Ty.int IntKind.u8)
                                                (Ty.prod (Ty.int IntKind.u8) Ty.unit))))).snd.fst <
                                    List.getD b (Int.toNat (1 : Int)) (0 : Int)) ==
                                false then
                            bif decide ((0 : Int) ≤ (2 : Int) ∧ (2 : Int) < (↑(List.length b) : Int)) then
                              bif
                                  decide (List.getD b (Int.toNat (2 : Int)) (0 : Int) < (128 : Int)) ==
                                    false then
                                bif decide ((0 : Int) ≤ (2 : Int) ∧ (2 : Int) < (↑(List.length b) : Int)) then
                                  bif
                                      decide
                                        ((191 : Int) < List.getD b (Int.toNat (2 : Int)) (0 : Int)) then
                                    k Ex.ret [X.sl (Ty.int IntKind.u8) b nl false, X.d Ty.bool false]
                                      [(Ty.struct (Ty.prod (Ty.int IntKind.u8) (Ty.prod (Ty.int IntKind.u8) Ty.unit)),
                                          X.d
                                            (Ty.struct (Ty.prod (Ty.int IntKind.u8) (Ty.prod (Ty.int IntKind.u8) Ty.unit)))
                                            (List.getD acceptT
                                              (Int.toNat
                                                (Int.fdiv
                                                  (List.getD firstT
                                                    (Int.toNat
                                                      (List.getD b (Int.toNat (0 : Int)) (0 : Int)))
                                                    (0 : Int))
                                                  (A.p2 (4 : Int) (8 : Nat))))
                                              (Ty.zero
                                                (Ty.struct
                                                  (Ty.prod (Ty.int IntKind.u8) (Ty.prod (Ty.int IntKind.u8) Ty.unit))))))]
                                  else
                                    bif
                                        decide
                                          ((0 : Int) ≤ (3 : Int) ∧
                                            (3 : Int) ≤ (↑(List.length b) : Int)) then
                                      k Ex.normal
                                        [X.sl (Ty.int IntKind.u8) (List.drop (Int.toNat (3 : Int)) b) nl false,
                                          X.d Ty.bool x]
                                        [(Ty.struct (Ty.prod (Ty.int IntKind.u8) (Ty.prod (Ty.int IntKind.u8) Ty.unit)),
                                            X.d
                                              (Ty.struct
                                                (Ty.prod (Ty.int IntKind.u8) (Ty.prod (Ty.int IntKind.u8) Ty.unit)))
                                              (List.getD acceptT
                                                (Int.toNat
                                                  (Int.fdiv
                                                    (List.getD firstT
                                                      (Int.toNat
                                                        (List.getD b (Int.toNat (0 : Int)) (0 : Int)))
                                                      (0 : Int))
                                                    (A.p2 (4 : Int) (8 : Nat))))
                                                (Ty.zero
                                                  (Ty.struct
                                                    (Ty.prod (Ty.int IntKind.u8) (Ty.prod (Ty.int IntKind.u8) Ty.unit))))))]
                                    else none
                                else none
                              else
                                k Ex.ret [X.sl (Ty.int IntKind.u8) b nl false, X.d Ty.bool false]
                                  [(Ty.struct (Ty.prod (Ty.int IntKind.u8) (Ty.prod (Ty.int IntKind.u8) Ty.unit)),
                                      X.d (Ty.struct (Ty.prod (Ty.int IntKind.u8) (Ty.prod (Ty.int IntKind.u8) Ty.unit)))
                                        (List.getD acceptT
                                          (Int.toNat
                                            (Int.fdiv
                                              (List.getD firstT
                                                (Int.toNat
                                                  (List.getD b (Int.toNat (0 : Int)) (0 : Int)))
                                                (0 : Int))
                                              (A.p2 (4 : Int) (8 : Nat))))
                                          (Ty.zero
                                            (Ty.struct
                                              (Ty.prod (Ty.int IntKind.u8) (Ty.prod (Ty.int IntKind.u8) Ty.unit))))))]
                            else none
                          else
                            k Ex.ret [X.sl (Ty.int IntKind.u8) b nl false, X.d Ty.bool false]
                              [(Ty.struct (Ty.prod (Ty.int IntKind.u8) (Ty.prod (Ty.int IntKind.u8) Ty.unit)),
                                  X.d (Ty.struct (Ty.prod (Ty.int IntKind.u8) (Ty.prod (Ty.int IntKind.u8) Ty.unit)))
                                    (List.getD acceptT
                                      (Int.toNat
                                        (Int.fdiv
                                          (List.getD firstT
                                            (Int.toNat (List.getD b (Int.toNat (0 : Int)) (0 : Int)))
                                            (0 : Int))
                                          (A.p2 (4 : Int) (8 : Nat))))
                                      (Ty.zero
                                        (Ty.struct (Ty.prod (Ty.int IntKind.u8) (Ty.prod (Ty.int IntKind.u8) Ty.unit))))))]
                        else none
                      else
                        k Ex.ret [X.sl (Ty.int IntKind.u8) b nl false, X.d Ty.bool false]
                          [(Ty.struct (Ty.prod (Ty.int IntKind.u8) (Ty.prod (Ty.int IntKind.u8) Ty.unit)),
                              X.d (Ty.struct (Ty.prod (Ty.int IntKind.u8) (Ty.prod (Ty.int IntKind.u8) Ty.unit)))
                                (List.getD acceptT
                                  (Int.toNat
                                    (Int.fdiv
                                      (List.getD firstT
                                        (Int.toNat (List.getD b (Int.toNat (0 : Int)) (0 : Int)))
                                        (0 : Int))
                                      (A.p2 (4 : Int) (8 : Nat))))
                                  (Ty.zero
                                    (Ty.struct (Ty.prod (Ty.int IntKind.u8) (Ty.prod (Ty.int IntKind.u8) Ty.unit))))))]
                    else none
                  else
                    k Ex.ret [X.sl (Ty.int IntKind.u8) b nl false, X.d Ty.bool false]
                      [(Ty.struct (Ty.prod (Ty.int IntKind.u8) (Ty.prod (Ty.int IntKind.u8) Ty.unit)),
                          X.d (Ty.struct (Ty.prod (Ty.int IntKind.u8) (Ty.prod (Ty.int IntKind.u8) Ty.unit)))
                            (List.getD acceptT
                              (Int.toNat
                                (Int.fdiv
                                  (List.getD firstT
                                    (Int.toNat (List.getD b (Int.toNat (0 : Int)) (0 : Int)))
                                    (0 : Int))
                                  (A.p2 (4 : Int) (8 : Nat))))
                              (Ty.zero (Ty.struct (Ty.prod (Ty.int IntKind.u8) (Ty.prod (Ty.int IntKind.u8) Ty.unit))))))]
                else
                  bif
                      A.wrap IntKind.i64
                          (A.wrap IntKind.u8
                            (A.band (8 : Nat)
                              (List.getD firstT
                                (Int.toNat (List.getD b (Int.toNat (0 : Int)) (0 : Int)))
                                (0 : Int))
                              (7 : Int))) ==
                        (4 : Int) then
                    bif decide ((↑(List.length b) : Int) < (4 : Int)) == false then
                      bif decide ((0 : Int) ≤ (1 : Int) ∧ (1 : Int) < (↑(List.length b) : Int)) then
                        bif
                            decide
                                (List.getD b (Int.toNat (1 : Int)) (0 : Int) <
                                  (List.getD acceptT
                                      (Int.toNat
                                        (Int.fdiv
                                          (List.getD firstT
                                            (Int.toNat (List.getD b (Int.toNat (0 : Int)) (0 : Int)))
                                            (0 : Int))
                                          (A.p2 (4 : Int) (8 : Nat))))
                                      (Ty.zero
                                        (Ty.struct
                                          (Ty.prod (Ty.int IntKind.u8) (Ty.prod (Ty.int IntKind.u8) Ty.unit))))).fst) ==
                              false then
                          bif decide ((0 : Int) ≤ (1 : Int) ∧ (1 : Int) < (↑(List.length b) : Int)) then
                            bif
                                decide
                                    ((List.getD acceptT
                                            (Int.toNat
                                              (Int.fdiv
                                                (List.getD firstT
                                                  (Int.toNat
                                                    (List.getD b (Int.toNat (0 : Int)) (0 : Int)))
                                                  (0 : Int))
                                                (A.p2 (4 : Int) (8 : Nat))))
                                            (Ty.zero
                                              (Ty.struct
                                                (Ty.prod (Ty.int IntKind.u8)
                                                  (Ty.prod (Ty.int IntKind.u8) Ty.unit))))).snd.fst <
                                      List.getD b (Int.toNat (1 : Int)) (0 : Int)) ==
                                  false then
                              bif decide ((0 : Int) ≤ (2 : Int) ∧ (2 : Int) < (↑(List.length b) : Int)) then
                                bif
                                    decide
                                        (List.getD b (Int.toNat (2 : Int)) (0 : Int) < (128 : Int)) ==
                                      false then
                                  bif decide ((0 : Int) ≤ (2 : Int) ∧ (2 : Int) < (↑(List.length b) : Int)) then
                                    bif
                                        decide
                                            ((191 : Int) <
                                              List.getD b (Int.toNat (2 : Int)) (0 : Int)) ==
                                          false then
                                      bif decide ((0 : Int) ≤ (3 : Int) ∧ (3 : Int) < (↑(List.length b) : Int)) then
                                        bif
                                            decide
                                                (List.getD b (Int.toNat (3 : Int)) (0 : Int) <
                                                  (128 : Int)) ==
                                              false then
                                          bif decide ((0 : Int) ≤ (3 : Int) ∧ (3 : Int) < (↑(List.length b) : Int)) then
                                            bif
                                                decide
                                                  ((191 : Int) <
                                                    List.getD b (Int.toNat (3 : Int)) (0 : Int)) then
                                              k Ex.ret [X.sl (Ty.int IntKind.u8) b nl false, X.d Ty.bool false]
                                                [(Ty.struct
                                                      (Ty.prod (Ty.int IntKind.u8) (Ty.prod (Ty.int IntKind.u8) Ty.unit)),
                                                    X.d
                                                      (Ty.struct
                                                        (Ty.prod (Ty.int IntKind.u8) (Ty.prod (Ty.int IntKind.u8) Ty.unit)))
                                                      (List.getD acceptT
                                                        (Int.toNat
                                                          (Int.fdiv
                                                            (List.getD firstT
                                                              (Int.toNat
                                                                (List.getD b (Int.toNat (0 : Int))
                                                                  (0 : Int)))
                                                              (0 : Int))
                                                            (A.p2 (4 : Int) (8 : Nat))))
                                                        (Ty.zero
                                                          (Ty.struct
                                                            (Ty.prod (Ty.int IntKind.u8)
                                                              (Ty.prod (Ty.int IntKind.u8) Ty.unit))))))]
                                            else
                                              bif
                                                  decide
                                                    ((0 : Int) ≤ (4 : Int) ∧
                                                      (4 : Int) ≤ (↑(List.length b) : Int)) then
                                                k Ex.normal
                                                  [X.sl (Ty.int IntKind.u8) (List.drop (Int.toNat (4 : Int)) b) nl false,
                                                    X.d Ty.bool x]
                                                  [(Ty.struct
                                                        (Ty.prod (Ty.int IntKind.u8) (Ty.prod (Ty.int IntKind.u8) Ty.unit)),
                                                      X.d
                                                        (Ty.struct
                                                          (Ty.prod (Ty.int IntKind.u8)
                                                            (Ty.prod (Ty.int IntKind.u8) Ty.unit)))
                                                        (List.getD acceptT
                                                          (Int.toNat
                                                            (Int.fdiv
                                                              (List.getD firstT
                                                                (Int.toNat
                                                                  (List.getD b (Int.toNat (0 : Int))
                                                                    (0 : Int)))
                                                                (0 : Int))
                                                              (A.p2 (4 : Int) (8 : Nat))))
                                                          (Ty.zero
                                                            (Ty.struct
                                                              (Ty.prod (Ty.int IntKind.u8)
                                                                (Ty.prod (Ty.int IntKind.u8) Ty.unit))))))]
                                              else none
                                          else none
                                        else
                                          k Ex.ret [X.sl (Ty.int IntKind.u8) b nl false, X.d Ty.bool false]
                                            [(Ty.struct (Ty.prod (Ty.int IntKind.u8) (Ty.prod (Ty.int IntKind.u8) Ty.unit)),
                                                X.d
                                                  (Ty.struct
                                                    (Ty.prod (Ty.int IntKind.u8) (Ty.prod (Ty.int IntKind.u8) Ty.unit)))
                                                  (List.getD acceptT
                                                    (Int.toNat
                                                      (Int.fdiv
                                                        (List.getD firstT
                                                          (Int.toNat
                                                            (List.getD b (Int.toNat (0 : Int))
                                                              (0 : Int)))
                                                          (0 : Int))
                                                        (A.p2 (4 : Int) (8 : Nat))))
                                                    (Ty.zero
                                                      (Ty.struct
                                                        (Ty.prod (Ty.int IntKind.u8)
                                                          (Ty.prod (Ty.int IntKind.u8) Ty.unit))))))]
                                      else none
                                    else
                                      k Ex.ret [X.sl (Ty.int IntKind.u8) b nl false, X.d Ty.bool false]
                                        [(Ty.struct (Ty.prod (Ty.int IntKind.u8) (Ty.prod (Ty.int IntKind.u8) Ty.unit)),
                                            X.d
                                              (Ty.struct
                                                (Ty.prod (Ty.int IntKind.u8) (Ty.prod (Ty.int IntKind.u8) Ty.unit)))
                                              (List.getD acceptT
                                                (Int.toNat
                                                  (Int.fdiv
                                                    (List.getD firstT
                                                      (Int.toNat
                                                        (List.getD b (Int.toNat (0 : Int)) (0 : Int)))
                                                      (0 : Int))
                                                    (A.p2 (4 : Int) (8 : Nat))))
                                                (Ty.zero
                                                  (Ty.struct
                                                    (Ty.prod (Ty.int IntKind.u8) (Ty.prod (Ty.int IntKind.u8) Ty.unit))))))]
                                  else none
                                else
                                  k Ex.ret [X.sl (Ty.int IntKind.u8) b nl false, X.d Ty.bool false]
                                    [(Ty.struct (Ty.prod (Ty.int IntKind.u8) (Ty.prod (Ty.int IntKind.u8) Ty.unit)),
                                        X.d (Ty.struct (Ty.prod (Ty.int IntKind.u8) (Ty.prod (Ty.int IntKind.u8) Ty.unit)))
                                          (List.getD acceptT
                                            (Int.toNat
                                              (Int.fdiv
                                                (List.getD firstT
                                                  (Int.toNat
                                                    (List.getD b (Int.toNat (0 : Int)) (0 : Int)))
                                                  (0 : Int))
                                                (A.p2 (4 : Int) (8 : Nat))))
                                            (Ty.zero
                                              (Ty.struct
                                                (Ty.prod (Ty.int IntKind.u8) (Ty.prod (Ty.int IntKind.u8) Ty.unit))))))]
                              else none
                            else
                              k Ex.ret [X.sl (Ty.int IntKind.u8) b nl false, X.d Ty.bool false]
                                [(Ty.struct (Ty.prod (Ty.int IntKind.u8) (Ty.prod (Ty.int IntKind.u8) Ty.unit)),
                                    X.d (Ty.struct (Ty.prod (Ty.int IntKind.u8) (Ty.prod (Ty.int IntKind.u8) Ty.unit)))
                                      (List.getD acceptT
                                        (Int.toNat
                                          (Int.fdiv
                                            (List.getD firstT
                                              (Int.toNat (List.getD b (Int.toNat (0 : Int)) (0 : Int)))
                                              (0 : Int))
                                            (A.p2 (4 : Int) (8 : Nat))))
                                        (Ty.zero
                                          (Ty.struct
                                            (Ty.prod (Ty.int IntKind.u8) (Ty.prod (Ty.int IntKind.u8) Ty.unit))))))]
                          else none
                        else
                          k Ex.ret [X.sl (Ty.int IntKind.u8) b nl false, X.d Ty.bool false]
                            [(Ty.struct (Ty.prod (Ty.int IntKind.u8) (Ty.prod (Ty.int IntKind.u8) Ty.unit)),
                                X.d (Ty.struct (Ty.prod (Ty.int IntKind.u8) (Ty.prod (Ty.int IntKind.u8) Ty.unit)))
                                  (List.getD acceptT
                                    (Int.toNat
                                      (Int.fdiv
                                        (List.getD firstT
                                          (Int.toNat (List.getD b (Int.toNat (0 : Int)) (0 : Int)))
                                          (0 : Int))
                                        (A.p2 (4 : Int) (8 : Nat))))
                                    (Ty.zero
                                      (Ty.struct (Ty.prod (Ty.int IntKind.u8) (Ty.prod (Ty.int IntKind.u8) Ty.unit))))))]
                      else none
                    else
                      k Ex.ret [X.sl (Ty.int IntKind.u8) b nl false, X.d Ty.bool false]
                        [(Ty.struct (Ty.prod (Ty.int IntKind.u8) (Ty.prod (Ty.int IntKind.u8) Ty.unit)),
                            X.d (Ty.struct (Ty.prod (Ty.int IntKind.u8) (Ty.prod (Ty.int IntKind.u8) Ty.unit)))
                              (List.getD acceptT
                                (Int.toNat
                                  (Int.fdiv
                                    (List.getD firstT
                                      (Int.toNat (List.getD b (Int.toNat (0 : Int)) (0 : Int)))
                                      (0 : Int))
                                    (A.p2 (4 : Int) (8 : Nat))))
                                (Ty.zero (Ty.struct (Ty.prod (Ty.int IntKind.u8) (Ty.prod (Ty.int IntKind.u8) Ty.unit))))))]
                  else
                    k Ex.ret [X.sl (Ty.int IntKind.u8) b nl false, X.d Ty.bool false]
                      [(Ty.struct (Ty.prod (Ty.int IntKind.u8) (Ty.prod (Ty.int IntKind.u8) Ty.unit)),
                          X.d (Ty.struct (Ty.prod (Ty.int IntKind.u8) (Ty.prod (Ty.int IntKind.u8) Ty.unit)))
                            (List.getD acceptT
                              (Int.toNat
                                (Int.fdiv
                                  (List.getD firstT
                                    (Int.toNat (List.getD b (Int.toNat (0 : Int)) (0 : Int)))
                                    (0 : Int))
                                  (A.p2 (4 : Int) (8 : Nat))))
                              (Ty.zero (Ty.struct (Ty.prod (Ty.int IntKind.u8) (Ty.prod (Ty.int IntKind.u8) Ty.unit))))))]
            else none
          else none
      else none
    else k (Ex.exit (0 : Nat)) [X.sl (Ty.int IntKind.u8) b nl false, X.d Ty.bool x] []) := by kernel_rfl
theorem lValB (A : Ar) (R : Type) (b : List Int) (nl : Option Bool) (x : Bool) (k : Ex → List X → Hp → Option R) : stepF (Cx A (Out7 A) (Lval A)) 100 (loopAt Tryd.f49 1) 188 [0, 2] [u8s b nl false, boolx x] [] k =
    (bif decide ((↑(List.length b) : Int) > (32 : Int)) == true then
      bif A.se (bytesB b && decide ((8 : Nat) ≤ List.length b)) then
        bif decide ((0 : Int) ≤ (8 : Int) ∧ (8 : Int) ≤ (↑(List.length b) : Int)) then
          bif
              A.se
                (bytesB (List.drop (Int.toNat (8 : Int)) b) &&
                  decide ((8 : Nat) ≤ List.length (List.drop (Int.toNat (8 : Int)) b))) then
            bif decide ((0 : Int) ≤ (16 : Int) ∧ (16 : Int) ≤ (↑(List.length b) : Int)) then
              bif
                  A.se
                    (bytesB (List.drop (Int.toNat (16 : Int)) b) &&
                      decide ((8 : Nat) ≤ List.length (List.drop (Int.toNat (16 : Int)) b))) then
                bif decide ((0 : Int) ≤ (24 : Int) ∧ (24 : Int) ≤ (↑(List.length b) : Int)) then
                  bif
                      A.se
                        (bytesB (List.drop (Int.toNat (24 : Int)) b) &&
                          decide ((8 : Nat) ≤ List.length (List.drop (Int.toNat (24 : Int)) b))) then
                    bif
                        A.wrap IntKind.u64
                            (A.band (64 : Nat)
                              (A.wrap IntKind.u64
                                (A.bor (64 : Nat)
                                  (A.wrap IntKind.u64
                                    (A.bor (64 : Nat) (A.se (wordL (List.take (8 : Nat) b)))
                                      (A.se (wordL (List.take (8 : Nat) (List.drop (Int.toNat (8 : Int)) b))))))
                                  (A.wrap IntKind.u64
                                    (A.bor (64 : Nat)
                                      (A.se (wordL (List.take (8 : Nat) (List.drop (Int.toNat (16 : Int)) b))))
                                      (A.se (wordL (List.take (8 : Nat) (List.drop (Int.toNat (24 : Int)) b))))))))
                              (9259542123273814144 : Int)) ==
                          (0 : Int) then
                      bif
                          decide
                            ((0 : Int) ≤ (32 : Int) ∧ (32 : Int) ≤ (↑(List.length b) : Int)) then
                        k Ex.normal [X.sl (Ty.int IntKind.u8) (List.drop (Int.toNat (32 : Int)) b) nl false, X.d Ty.bool x]
                          []
                      else none
                    else k (Ex.exit (2 : Nat)) [X.sl (Ty.int IntKind.u8) b nl false, X.d Ty.bool x] []
                  else none
                else none
              else none
            else none
          else none
        else none
      else none
    else k (Ex.exit (2 : Nat)) [X.sl (Ty.int IntKind.u8) b nl false, X.d Ty.bool x] []) := by kernel_rfl
theorem tValid (A : Ar) (b : List Int) (nl : Option Bool) : bodyX (Cx A (Out7 A) (Lval A)) 100 Tryd.f49 [u8s b nl false] [] =
    (bif
        decide
          ((0 : Int) ≤ (↑(List.length b) : Int) ∧
            (↑(List.length b) : Int) ≤ (↑(List.length b) : Int)) then
      bif decide ((↑(List.length b) : Int) ≤ (↑(List.length b) : Int)) then
        bif
            A.se
              (bytesB (List.take (Int.toNat (↑(List.length b) : Int)) b) &&
                decide (List.length (List.take (Int.toNat (↑(List.length b) : Int)) b) ≤ (1000000 : Nat))) then
          bif A.se (validU (List.take (Int.toNat (↑(List.length b) : Int)) b)) then some (X.d Ty.bool true, [])
          else some (X.d Ty.bool false, [])
        else none
      else none
    else none) := by kernel_rfl
theorem lURead (A : Ar) (R : Type) (out : List Int) (nl : Bool) (s : ByteArray) (p : Int) (k : Ex → List X → Hp → Option R) : stepF (Cx A (Out8 A) (LuRead A)) 100 (loopAt Tryd.f20 0) 22 [4, 12] [i64s out (some nl) true, .ptr 0 []] [(.unit, .tup [.d .str s, .d (.int .i64) p])] k =
    (bif decide (p < (↑(ByteArray.size s) : Int)) then
      bif
          decide
            ((List.length out + List.length [A.wrap IntKind.i64 (runeAt s p)]) * (8 : Nat) ≤ (140737488355328 : Nat)) then
        k Ex.normal
          [X.sl (Ty.int IntKind.i64) (out ++ [A.wrap IntKind.i64 (runeAt s p)])
              (some (nl && List.isEmpty [A.wrap IntKind.i64 (runeAt s p)])) true,
            X.ptr (0 : Nat) []]
          [(Ty.unit, X.tup [X.d Ty.str s, X.d (Ty.int IntKind.i64) (p + widthAt s p)])]
      else none
    else
      k (Ex.exit (0 : Nat)) [X.sl (Ty.int IntKind.i64) out (some nl) true, X.ptr (0 : Nat) []]
        [(Ty.unit, X.tup [X.d Ty.str s, X.d (Ty.int IntKind.i64) p])]) := by kernel_rfl
theorem tURead (A : Ar) (b : List Int) (nl : Option Bool) : bodyX (Cx A (Out8 A) (LuRead A)) 100 Tryd.f20 [u8s b nl false] [] =
    (bif A.se (bytesB b && decide (List.length b ≤ (1000000 : Nat))) then
      bif !A.se (validU b) then
        some (X.tup [X.sl (Ty.int IntKind.i64) [] (some true) false, X.d (Ty.int IntKind.i64) (10 : Int)], [])
      else
        bif
            A.se
              (decide
                  ((0 : Int) ≤ (0 : Int) ∧
                    (0 : Int) ≤ (↑(ByteArray.size (strOf b)) : Int) ∧
                      (↑(0 : Nat) : Int) + ((↑(ByteArray.size (strOf b)) : Int) - (0 : Int)) ≤ (1000000 : Int)) &&
                validU (List.drop (Int.toNat (0 : Int)) (bytesOf (strOf b)))) then
          some
            (X.tup
                [X.sl (Ty.int IntKind.i64) (A.se ([] ++ sg (strOf b) (0 : Int)))
                    (some (A.se (true && List.isEmpty (sg (strOf b) (0 : Int))))) false,
                  X.d (Ty.int IntKind.i64) (0 : Int)],
              [(Ty.unit,
                  X.tup [X.d Ty.str (strOf b), X.d (Ty.int IntKind.i64) (A.se (↑(ByteArray.size (strOf b)) : Int))])])
        else none
    else none) := by kernel_rfl
theorem lRRead (A : Ar) (R : Type) (b : List Int) (nl : Option Bool) (z : Int) (out : List Int) (nl2 : Bool) (k : Ex → List X → Hp → Option R) : stepF (Cx A (Out8 A) (LrRead A)) 100 (loopAt Tryd.f30 0) 28 [0, 2, 3, 4] [u8s b nl false, i64s [] (some true) true, i64x z, i64s out (some nl2) true] [] k =
    (bif decide ((↑(List.length b) : Int) > (0 : Int)) then
      bif A.se (bytesB b) then
        bif A.se (uE b) != (0 : Int) then
          k Ex.ret
            [X.sl (Ty.int IntKind.u8) b nl false, X.sl (Ty.int IntKind.i64) [] (some true) true,
              X.d (Ty.int IntKind.i64) (A.se (uE b)), X.sl (Ty.int IntKind.i64) out (some nl2) true]
            []
        else
          bif decide ((List.length out + List.length [A.se (uN b)]) * (8 : Nat) ≤ (140737488355328 : Nat)) then
            bif decide ((0 : Int) ≤ A.se (uL b) ∧ A.se (uL b) ≤ (↑(List.length b) : Int)) then
              k Ex.normal
                [X.sl (Ty.int IntKind.u8) (List.drop (Int.toNat (A.se (uL b))) b) nl false,
                  X.sl (Ty.int IntKind.i64) [] (some true) true, X.d (Ty.int IntKind.i64) z,
                  X.sl (Ty.int IntKind.i64) (out ++ [A.se (uN b)]) (some (nl2 && List.isEmpty [A.se (uN b)])) true]
                []
            else none
          else none
      else none
    else
      k (Ex.exit (0 : Nat))
        [X.sl (Ty.int IntKind.u8) b nl false, X.sl (Ty.int IntKind.i64) [] (some true) true, X.d (Ty.int IntKind.i64) z,
          X.sl (Ty.int IntKind.i64) out (some nl2) true]
        []) := by kernel_rfl
theorem tRRead (A : Ar) (b : List Int) (nl : Option Bool) : bodyX (Cx A (Out8 A) (LrRead A)) 100 Tryd.f30 [u8s b nl false] [] =
    (bif A.se (bytesB b && decide ((0 : Nat) + List.length b ≤ (1000000 : Nat))) then
      bif A.se (validU b) then
        some
          (X.tup
              [X.sl (Ty.int IntKind.i64) (A.se ([] ++ rdL b)) (some (A.se (true && List.isEmpty (rdL b)))) false,
                X.d (Ty.int IntKind.i64) (0 : Int)],
            [])
      else some (X.tup [X.sl (Ty.int IntKind.i64) [] (some true) false, X.d (Ty.int IntKind.i64) (10 : Int)], [])
    else none) := by kernel_rfl
theorem lSame (A : Ar) (R : Type) (a : List Int) (nl : Option Bool) (b : List Int) (nl2 : Option Bool) (x : Bool) (i : Int) (k : Ex → List X → Hp → Option R) : stepF (Cx A (Out7 A) (Lsame A)) 100 (loopAt Tryd.f23 0) 26 [0, 1, 4, 5] [i64s a nl false, i64s b nl2 false, boolx x, i64x i] [] k =
    (bif decide (i < (↑(List.length a) : Int)) then
      bif decide ((0 : Int) ≤ i ∧ i < (↑(List.length a) : Int)) then
        bif decide ((0 : Int) ≤ i ∧ i < (↑(List.length b) : Int)) then
          bif
              List.getD a (Int.toNat i) (0 : Int) !=
                List.getD b (Int.toNat i) (0 : Int) then
            k Ex.ret
              [X.sl (Ty.int IntKind.i64) a nl false, X.sl (Ty.int IntKind.i64) b nl2 false, X.d Ty.bool false,
                X.d (Ty.int IntKind.i64) i]
              []
          else
            k Ex.normal
              [X.sl (Ty.int IntKind.i64) a nl false, X.sl (Ty.int IntKind.i64) b nl2 false, X.d Ty.bool x,
                X.d (Ty.int IntKind.i64) (A.wrap IntKind.i64 (i + (1 : Int)))]
              []
        else none
      else none
    else
      k (Ex.exit (0 : Nat))
        [X.sl (Ty.int IntKind.i64) a nl false, X.sl (Ty.int IntKind.i64) b nl2 false, X.d Ty.bool x,
          X.d (Ty.int IntKind.i64) i]
        []) := by kernel_rfl
theorem tSame (A : Ar) (a : List Int) (nl : Option Bool) (b : List Int) (nl2 : Option Bool) : bodyX (Cx A (Out7 A) (Lsame A)) 100 Tryd.f23 [i64s a nl false, i64s b nl2 false] [] =
    (bif (↑(List.length a) : Int) != (↑(List.length b) : Int) then some (X.d Ty.bool false, [])
    else
      bif
          A.se
            (decide
              (List.length a ≤ (9223372036854775806 : Nat) ∧
                List.length a = List.length b ∧
                  (0 : Int) ≤ (0 : Int) ∧
                    (0 : Int) ≤ (↑(List.length a) : Int))) then
        bif A.se (decide (List.drop (Int.toNat (0 : Int)) a = List.drop (Int.toNat (0 : Int)) b)) then
          some (X.d Ty.bool true, [])
        else some (X.d Ty.bool false, [])
      else none) := by kernel_rfl
end Go.Proofs.YtaefpopjlmhmoaaDoor.V.U

/- Chapter 01, utf: a sign's bytes: the functions that put do what they tell. -/
namespace Go.Proofs.YtaefpopjlmhmoaaDoor.V.U
open Go
set_option linter.unusedVariables false
set_option linter.unusedSimpArgs false

theorem o_no : OOk noO := fun _ _ h => by cases h

theorem good_cond (n : Int) : goodN n = decide (0 ≤ n ∧ n ≤ 1114111 ∧ (n < 55296 ∨ 57343 < n)) := rfl

theorem good_core (n : Int) : bodyX (Cx Ar.real noO noL) 100 Tryd.f41 [.d (.int .i64) n] [] = some (boolx (Ar.real.se (goodN n)), []) := by
  rw [tGood, rw_se, good_cond]
  by_cases h1 : n < 0
  · rw [bt (decide_eq_true h1), decide_eq_false (by omega)]
  · rw [bf (decide_eq_false h1)]
    by_cases h2 : n > 1114111
    · rw [bt (decide_eq_true h2), decide_eq_false (by omega)]
    · rw [bf (decide_eq_false h2)]
      by_cases h3 : n ≥ 55296
      · rw [bt (decide_eq_true h3)]
        by_cases h4 : n > 57343
        · rw [decide_eq_true h4, decide_eq_true (by omega)]
        · rw [decide_eq_false h4, decide_eq_false (by omega)]
      · rw [bf (decide_eq_false h3), decide_eq_true (by omega)]
theorem rgood_core (n : Int) : bodyX (Cx Ar.real noO noL) 100 Tryd.f43 [.d (.int .i64) n] [] = some (boolx (Ar.real.se (goodN n)), []) := by
  rw [tRGood, rw_se, good_cond]
  by_cases h1 : n ≥ 0
  · rw [bt (by rw [decide_eq_true h1]; rfl)]
    by_cases h2 : n ≤ 1114111
    · rw [bt (by rw [decide_eq_true h2]; rfl)]
      by_cases h3 : n < 55296
      · rw [bf (by rw [decide_eq_true h3]; rfl), decide_eq_true (by omega)]
      · rw [bt (by rw [decide_eq_false h3]; rfl)]
        by_cases h4 : n > 57343
        · rw [decide_eq_true h4, decide_eq_true (by omega)]
        · rw [decide_eq_false h4, decide_eq_false (by omega)]
    · rw [bf (by rw [decide_eq_false h2]; rfl), decide_eq_false (by omega)]
  · rw [bf (by rw [decide_eq_false h1]; rfl), decide_eq_false (by omega)]

theorem good_ok : OrcOk Tryd.prog 41 (.pure (goodF Ar.real)) := by
  refine pureOk (Cx.ok o_no noL) mixed 41 Tryd.f41 (by kernel_rfl) (by kernel_rfl) (by kernel_rfl) 100 0 (by kernel_rfl) (fun i h => by omega) fun args r h => ?_
  unfold goodF at h
  split at h
  · rename_i n
    cases h
    exact ⟨rfl, rfl, [], good_core n⟩
  · cases h
theorem rgood_ok : OrcOk Tryd.prog 43 (.pure (goodF Ar.real)) := by
  refine pureOk (Cx.ok o_no noL) mixed 43 Tryd.f43 (by kernel_rfl) (by kernel_rfl) (by kernel_rfl) 100 0 (by kernel_rfl) (fun i h => by omega) fun args r h => ?_
  unfold goodF at h
  split at h
  · rename_i n
    cases h
    exact ⟨rfl, rfl, [], rgood_core n⟩
  · cases h

theorem one_core (n : Int) (h : goodN n = true) : bodyX (Cx Ar.real noO noL) 100 Tryd.f66 [.d (.int .i64) n] [] = some (u8s (ub n) (some false) true, []) := by
  rw [tROne]
  rw [goodN_iff] at h
  have t : ∀ k : Int, 0 ≤ k → Int.tdiv n k = n / k := fun k _ => Int.tdiv_eq_ediv_of_nonneg (by omega)
  have m : ∀ a k : Int, 0 ≤ a → Int.tmod a k = a % k := fun a k ha => Int.tmod_eq_emod_of_nonneg ha
  simp only [rw_wrap, t 64 (by omega), t 4096 (by omega), t 262144 (by omega)]
  have w1 : IntKind.i64.wrap (n / 64) = n / 64 := wi64 (by omega) (by omega)
  have w2 : IntKind.i64.wrap (n / 4096) = n / 4096 := wi64 (by omega) (by omega)
  have w3 : IntKind.i64.wrap (n / 262144) = n / 262144 := wi64 (by omega) (by omega)
  simp only [w1, w2, w3]
  rw [m n 64 (by omega), m (n / 64) 64 (by omega), m (n / 4096) 64 (by omega)]
  unfold ub
  by_cases h1 : n < 128
  · rw [bt (decide_eq_true h1), if_pos h1, wu8 (by omega) (by omega)]
  · rw [bf (decide_eq_false h1), if_neg h1]
    by_cases h2 : n < 2048
    · rw [bt (decide_eq_true h2), if_pos h2]
      rw [wi64 (n := 192 + n / 64) (by omega) (by omega), wi64 (n := 128 + n % 64) (by omega) (by omega), wu8 (n := 192 + n / 64) (by omega) (by omega), wu8 (n := 128 + n % 64) (by omega) (by omega)]
    · rw [bf (decide_eq_false h2), if_neg h2]
      rw [wi64 (n := 128 + n % 64) (by omega) (by omega), wu8 (n := 128 + n % 64) (by omega) (by omega), wi64 (n := 128 + n / 64 % 64) (by omega) (by omega), wu8 (n := 128 + n / 64 % 64) (by omega) (by omega)]
      by_cases h3 : n < 65536
      · rw [bt (decide_eq_true h3), if_pos h3]
        rw [wi64 (n := 224 + n / 4096) (by omega) (by omega), wu8 (n := 224 + n / 4096) (by omega) (by omega)]
      · rw [bf (decide_eq_false h3), if_neg h3]
        rw [wi64 (n := 240 + n / 262144) (by omega) (by omega), wu8 (n := 240 + n / 262144) (by omega) (by omega), wi64 (n := 128 + n / 4096 % 64) (by omega) (by omega), wu8 (n := 128 + n / 4096 % 64) (by omega) (by omega)]

theorem uone_ok : OrcOk Tryd.prog 66 (.pure (uoneF Ar.real)) := by
  refine pureOk (Cx.ok o_no noL) mixed 66 Tryd.f66 (by kernel_rfl) (by kernel_rfl) (by kernel_rfl) 100 0 (by kernel_rfl) (fun i h => by omega) fun args r h => ?_
  unfold uoneF at h
  split at h
  · rename_i n
    obtain ⟨hg, rfl⟩ := Tr.one h
    exact ⟨rfl, rfl, [], one_core n hg⟩
  · cases h

theorem o_ut1 : OOk (Out1 Ar.real) := ((o_no.add good_ok).add rgood_ok).add uone_ok

/-- Bits that do not meet are added. -/
theorem or_add {n k : Nat} {a b : Int} (hk : k < n) (ha : 0 ≤ a) (hb : 0 ≤ b) (hb2 : b < 2 ^ k) (hd : a % 2 ^ k = 0) (hn : a + 2 ^ k ≤ 2 ^ n) : Ar.real.bor n a b = a + b := by
  obtain ⟨x, rfl⟩ := Int.eq_ofNat_of_zero_le ha
  obtain ⟨y, rfl⟩ := Int.eq_ofNat_of_zero_le hb
  have hy : y < 2 ^ k := by exact_mod_cast hb2
  have hx : x % 2 ^ k = 0 := by exact_mod_cast hd
  have hxn : x + 2 ^ k ≤ 2 ^ n := by exact_mod_cast hn
  have hkn : 2 ^ k ≤ 2 ^ n := Nat.pow_le_pow_right (by omega) (by omega)
  have hpos : 0 < 2 ^ k := Nat.pow_pos (by omega)
  rw [bor_nat (by omega) (by omega)]
  have hdiv : x = 2 ^ k * (x / 2 ^ k) := by
    have := Nat.div_add_mod x (2 ^ k)
    omega
  have := Nat.two_pow_add_eq_or_of_lt hy (x / 2 ^ k)
  rw [← hdiv] at this
  rw [← this]
  rfl
theorem and_low {n k : Nat} {a : Int} (m : Int) (ha : 0 ≤ a) (han : a < 2 ^ n) (hk : k ≤ n) (hm : m = 2 ^ k - 1) : Ar.real.band n a m = a % 2 ^ k := by
  obtain ⟨x, rfl⟩ := Int.eq_ofNat_of_zero_le ha
  have hx : x < 2 ^ n := by exact_mod_cast han
  have hkn : 2 ^ k ≤ 2 ^ n := Nat.pow_le_pow_right (by omega) hk
  have hpos : 0 < 2 ^ k := Nat.pow_pos (by omega)
  have hm' : m = ((2 ^ k - 1 : Nat) : Int) := by
    rw [hm]
    have : (((2 ^ k : Nat)) : Int) = (2 : Int) ^ k := by simp
    omega
  rw [hm', band_nat hx (by omega), Nat.and_two_pow_sub_one_eq_mod]
  simp

theorem fdiv2 {a : Int} (k : Nat) : Int.fdiv a (2 ^ k) = a / 2 ^ k := by
  rw [Int.fdiv_eq_ediv_of_nonneg]
  exact Int.le_of_lt (Int.pow_pos (by omega))

theorem lowB {x : Int} (hx : 0 ≤ x) : Ar.real.wrap .u8 (Ar.real.bor 8 128 (Ar.real.wrap .u8 (Ar.real.band 8 (Ar.real.wrap .u8 x) 63))) = 128 + x % 64 := by
  have e1 : Ar.real.wrap .u8 x = x % 256 := by rw [rw_wrap, wrapu8]
  rw [e1, and_low (k := 6) 63 (by omega) (by omega) (by decide) (by decide)]
  have e2 : x % 256 % 2 ^ 6 = x % 64 := by
    have : (2 : Int) ^ 6 = 64 := by decide
    rw [this]; omega
  have p6 : (2 : Int) ^ 6 = 64 := by decide
  rw [e2, rw_wrap .u8 (x % 64), wu8 (n := x % 64) (by omega) (by omega), or_add (k := 6) (by decide) (by decide) (by omega) (by omega) (by decide) (by decide), rw_wrap, wu8 (by omega) (by omega)]
theorem hiB (c : Int) (k : Nat) {x : Int} (hk : k < 8) (hx : 0 ≤ x) (hx2 : x < 2 ^ k) (hc : 0 ≤ c) (hd : c % 2 ^ k = 0) (hn : c + 2 ^ k ≤ 256) : Ar.real.wrap .u8 (Ar.real.bor 8 c (Ar.real.wrap .u8 x)) = c + x := by
  have p8 : (2 : Int) ^ 8 = 256 := by decide
  rw [rw_wrap .u8 x, wu8 hx (by omega), or_add (k := k) hk hc hx hx2 hd (by omega), rw_wrap, wu8 (by omega) (by omega)]

theorem nonAsc_core (b : List Int) (nl : Bool) (n : Int) (h : goodN n = true) (h0 : 128 ≤ n) (hl : b.length ≤ 70368744177664) :
    bodyX (Cx Ar.real (Out1 Ar.real) noL) 100 Tryd.f77 [.sl (.int .u8) b (some nl) true, .d (.int .i32) n] [] = some (u8s (b ++ ub n) (some false) true, []) := by
  rw [tNonAsc]
  rw [goodN_iff] at h
  have p3 : (2 : Int) ^ 3 = 8 := by decide
  have p4 : (2 : Int) ^ 4 = 16 := by decide
  have p5 : (2 : Int) ^ 5 = 32 := by decide
  have w : Ar.real.wrap .u32 n = n := by rw [rw_wrap, wu32 (by omega) (by omega)]
  have d6 : Int.fdiv n (Ar.real.p2 6 32) = n / 64 := by rw [show Ar.real.p2 6 32 = (2 : Int) ^ 6 from rfl, fdiv2]; rfl
  have d12 : Int.fdiv n (Ar.real.p2 12 32) = n / 4096 := by rw [show Ar.real.p2 12 32 = (2 : Int) ^ 12 from rfl, fdiv2]; rfl
  have d18 : Int.fdiv n (Ar.real.p2 18 32) = n / 262144 := by rw [show Ar.real.p2 18 32 = (2 : Int) ^ 18 from rfl, fdiv2]; rfl
  have n6 : 0 ≤ n / 64 := by omega
  have n12 : 0 ≤ n / 4096 := by omega
  simp only [w, d6, d12, d18, lowB (show 0 ≤ n by omega), lowB n6, lowB n12]
  have len : ∀ l : List Int, l.length ≤ 4 → decide ((b.length + l.length) * 1 ≤ 140737488355328) = true := fun l hl' => by rw [decide_eq_true_eq]; omega
  have emp : ∀ (x : Int) (l : List Int), (nl && List.isEmpty (x :: l)) = false := fun x l => by simp
  unfold ub
  rw [if_neg (show ¬ n < 128 by omega)]
  by_cases h1 : n ≤ 2047
  · rw [bt (decide_eq_true h1), if_pos (show n < 2048 by omega), hiB 192 5 (by decide) (by omega) (by omega) (by decide) (by decide) (by decide), bt (len _ (by simp)), emp]
  · rw [bf (decide_eq_false h1), if_neg (show ¬ n < 2048 by omega)]
    have three : n < 65536 → Ar.real.wrap .u8 (Ar.real.bor 8 224 (Ar.real.wrap .u8 (n / 4096))) = 224 + n / 4096 := fun h2 =>
      hiB 224 4 (by decide) (by omega) (by omega) (by decide) (by decide) (by decide)
    by_cases h2 : n < 55296
    · rw [bt (decide_eq_true h2), if_pos (show n < 65536 by omega), three (by omega), bt (len _ (by simp)), emp]
    · rw [bf (decide_eq_false h2)]
      rw [bt (by rw [decide_eq_true (show (57343 : Int) < n by omega)]; rfl)]
      by_cases h3 : n ≤ 65535
      · rw [bt (decide_eq_true h3), if_pos (show n < 65536 by omega), three (by omega), bt (len _ (by simp)), emp]
      · rw [bf (decide_eq_false h3), if_neg (show ¬ n < 65536 by omega)]
        rw [bt (by rw [decide_eq_true (show n > 65535 by omega)]; rfl), bt (decide_eq_true (show n ≤ 1114111 by omega))]
        rw [hiB 240 3 (by decide) (by omega) (by omega) (by decide) (by decide) (by decide), bt (len _ (by simp)), emp]

theorem nonAsc_ok : OrcOk Tryd.prog 77 (.own (nonAscF Ar.real)) := by
  show OwnOk Tryd.prog 77 (fun args => (nonAscF Ar.real args).run some)
  refine ownOk (Cx.ok o_ut1 noL) mixed 77 Tryd.f77 (by kernel_rfl) (by kernel_rfl) (by kernel_rfl) 100 0 (by kernel_rfl) (fun i h => by omega) fun e xs nl rest r h => ?_
  replace h : (nonAscF Ar.real (.sl e xs nl true :: rest)).run some = some r := h
  unfold nonAscF at h
  split at h
  · rename_i b nl' n heq
    simp only [List.cons.injEq, X.sl.injEq, and_true] at heq
    obtain ⟨⟨rfl, hb, rfl⟩, rfl⟩ := heq
    cases hb
    obtain ⟨hg, rfl⟩ := Tr.one h
    rw [rw_se, Bool.and_eq_true, decide_eq_true_eq] at hg
    refine ⟨rfl, rfl, [], ?_⟩
    exact nonAsc_core _ _ _ hg.1 hg.2.1 hg.2.2
  · cases h

theorem o_ut2 : OOk (Out2 Ar.real) := o_ut1.add nonAsc_ok

theorem appRune_core (b : List Int) (nl : Bool) (n : Int) (h : goodN n = true) (hl : b.length ≤ 70368744177664) :
    bodyX (Cx Ar.real (Out2 Ar.real) noL) 100 Tryd.f64 [.sl (.int .u8) b (some nl) true, .d (.int .i32) n] [] = some (u8s (b ++ ub n) (some false) true, []) := by
  rw [tAppRune]
  have hg := h
  rw [goodN_iff] at h
  have w : Ar.real.wrap .u32 n = n := by rw [rw_wrap, wu32 (by omega) (by omega)]
  rw [w]
  by_cases h1 : n ≤ 127
  · have w8 : Ar.real.wrap .u8 n = n := by rw [rw_wrap, wu8 (by omega) (by omega)]
    rw [bt (decide_eq_true h1), w8, bt (by rw [decide_eq_true_eq]; simp; omega)]
    unfold ub
    rw [if_pos (show n < 128 by omega)]
    simp
  · rw [bf (decide_eq_false h1), bt (by rw [rw_se, hg, Bool.true_and, decide_eq_true_eq]; omega)]
    rfl

theorem appRune_ok : OrcOk Tryd.prog 64 (.own (appRuneF Ar.real)) := by
  show OwnOk Tryd.prog 64 (fun args => (appRuneF Ar.real args).run some)
  refine ownOk (Cx.ok o_ut2 noL) mixed 64 Tryd.f64 (by kernel_rfl) (by kernel_rfl) (by kernel_rfl) 100 0 (by kernel_rfl) (fun i h => by omega) fun e xs nl rest r h => ?_
  replace h : (appRuneF Ar.real (.sl e xs nl true :: rest)).run some = some r := h
  unfold appRuneF at h
  split at h
  · rename_i b nl' n heq
    simp only [List.cons.injEq, X.sl.injEq, and_true] at heq
    obtain ⟨⟨rfl, hb, rfl⟩, rfl⟩ := heq
    cases hb
    obtain ⟨hg, rfl⟩ := Tr.one h
    rw [rw_se, Bool.and_eq_true, decide_eq_true_eq] at hg
    refine ⟨rfl, rfl, [], ?_⟩
    exact appRune_core _ _ _ hg.1 hg.2
  · cases h

theorem o_ut3 : OOk (Out3 Ar.real) := o_ut2.add appRune_ok

end Go.Proofs.YtaefpopjlmhmoaaDoor.V.U

/- Chapter 01, utf: puts and takes do what they tell. -/
namespace Go.Proofs.YtaefpopjlmhmoaaDoor.V.U
open Go
set_option linter.unusedVariables false
set_option linter.unusedSimpArgs false

theorem ups_nil : ups ([] : List Int) = [] := rfl
theorem ub_ne (n : Int) : (ub n).isEmpty = false := by
  have := ub_pos n
  cases h : ub n with
  | nil => rw [h] at this; simp at this
  | cons _ _ => rfl
theorem ub_le4 (n : Int) : (ub n).length ≤ 4 := by
  rw [ub_len]; split
  · omega
  · split
    · omega
    · split <;> omega

def resP (out l : List Int) (nl : Bool) (pre post : List X) : Ex × List X × Hp :=
  bif l.all goodN then (.exit 0, pre ++ .dead :: .dead :: u8s (out ++ ups l) (some (nl && (ups l).isEmpty)) true :: post, [])
  else (.ret, pre ++ u8s [] (some true) true :: i64x 10 :: .dead :: post, [])
theorem resP_nil (out : List Int) (nl : Bool) (pre post : List X) : resP out [] nl pre post = (.exit 0, pre ++ .dead :: .dead :: u8s out (some nl) true :: post, []) := by
  simp [resP, ups_nil]
theorem resP_bad {c : Int} {l : List Int} (h : goodN c = false) (out : List Int) (nl : Bool) (pre post : List X) : resP out (c :: l) nl pre post = (.ret, pre ++ u8s [] (some true) true :: i64x 10 :: .dead :: post, []) := by
  simp [resP, h]
theorem resP_good {c : Int} {l : List Int} (h : goodN c = true) (out : List Int) (nl : Bool) (pre post : List X) : resP out (c :: l) nl pre post = resP (out ++ ub c) l false pre post := by
  unfold resP
  have e : (ub c ++ ups l).isEmpty = false := by
    have := ub_ne c
    cases h : ub c with
    | nil => rw [h] at this; cases this
    | cons _ _ => rfl
  rw [List.all_cons, h, Bool.true_and, ups_cons, e, List.append_assoc, Bool.and_false, Bool.false_and]

theorem loopUPut (l : List Int) (nl2 : Option Bool) (hl : l.length ≤ 17592186044416) : ∀ (q i : Nat) (z : Int) (out : List Int) (nl : Bool), l.length - i = q → i ≤ l.length → out.length ≤ 4 * i →
    LoopTo (Cx Ar.real (Out3 Ar.real) (LuPut Ar.real)) 100 (loopAt Tryd.f37 0) 22 [2, 3, 4, 7, 8, 9] [u8s [] (some true) true, i64x z, u8s out (some nl) true, i64s l nl2 false, i64x l.length, i64x i] [] (resP out (l.drop i) nl [] [.dead, .dead, .dead]) := by
  intro q
  induction q with
  | zero =>
    intro i z out nl h1 h2 h3
    have e1 : l.drop i = [] := by rw [List.drop_eq_nil_iff]; omega
    rw [e1, resP_nil]
    refine LoopTo.left (by simp) fun k => ?_
    rw [lUPut, bf (by rw [decide_eq_false_iff_not]; omega)]
    refine ⟨_, rfl, ?_⟩
    repeat' first | exact Forget.same _ | refine Forget.cons (.inl rfl) ?_ | refine Forget.cons (.inr rfl) ?_
  | succ q ih =>
    intro i z out nl h1 h2 h3
    have hi : i < l.length := by omega
    rw [drop_cons hi]
    have a1 : decide ((i : Int) < (l.length : Int)) = true := by rw [decide_eq_true_eq]; omega
    have a2 : decide ((0 : Int) ≤ (i : Int) ∧ (i : Int) < (l.length : Int)) = true := by rw [decide_eq_true_eq]; omega
    cases hg : goodN (l.getD i 0) with
    | false =>
      rw [resP_bad hg]
      refine LoopTo.left (by simp) fun k => ?_
      rw [lUPut, bt a1, bt a2, bt (by rw [rw_se, Int.toNat_natCast, hg]; rfl)]
      refine ⟨_, rfl, ?_⟩
      repeat' first | exact Forget.same _ | refine Forget.cons (.inl rfl) ?_ | refine Forget.cons (.inr rfl) ?_
    | true =>
      rw [resP_good hg]
      have hg' := goodN_iff.1 hg
      have w : Ar.real.wrap .i32 (l.getD i 0) = l.getD i 0 := by rw [rw_wrap, wi32 (by omega) (by omega)]
      have w2 : Ar.real.wrap .i64 ((i : Int) + 1) = ((i + 1 : Nat) : Int) := by rw [rw_wrap, wi64 (by omega) (by omega)]; omega
      refine LoopTo.next (fun k => ?_) (ih (i + 1) z (out ++ ub (l.getD i 0)) false (by omega) (by omega) (by have := ub_le4 (l.getD i 0); rw [List.length_append]; omega))
      rw [lUPut, bt a1, bt a2]
      simp only [Int.toNat_natCast, w, w2, rw_se]
      rw [bf (by rw [hg]; rfl), bt (by rw [hg, Bool.true_and, decide_eq_true_eq]; omega)]

theorem loopRPut (l : List Int) (nl2 : Option Bool) (hl : l.length ≤ 17592186044416) : ∀ (q i : Nat) (z : Int) (out : List Int) (nl : Bool), l.length - i = q → i ≤ l.length → out.length ≤ 4 * i →
    LoopTo (Cx Ar.real (Out3 Ar.real) (LrPut Ar.real)) 100 (loopAt Tryd.f39 0) 26 [0, 2, 3, 4, 5] [i64s l nl2 false, u8s [] (some true) true, i64x z, u8s out (some nl) true, i64x i] [] (resP out (l.drop i) nl [.dead] [.dead]) := by
  intro q
  induction q with
  | zero =>
    intro i z out nl h1 h2 h3
    have e1 : l.drop i = [] := by rw [List.drop_eq_nil_iff]; omega
    rw [e1, resP_nil]
    refine LoopTo.left (by simp) fun k => ?_
    rw [lRPut, bf (by rw [decide_eq_false_iff_not]; omega)]
    refine ⟨_, rfl, ?_⟩
    repeat' first | exact Forget.same _ | refine Forget.cons (.inl rfl) ?_ | refine Forget.cons (.inr rfl) ?_
  | succ q ih =>
    intro i z out nl h1 h2 h3
    have hi : i < l.length := by omega
    rw [drop_cons hi]
    have a1 : decide ((i : Int) < (l.length : Int)) = true := by rw [decide_eq_true_eq]; omega
    have a2 : decide ((0 : Int) ≤ (i : Int) ∧ (i : Int) < (l.length : Int)) = true := by rw [decide_eq_true_eq]; omega
    cases hg : goodN (l.getD i 0) with
    | false =>
      rw [resP_bad hg]
      refine LoopTo.left (by simp) fun k => ?_
      rw [lRPut, bt a1, bt a2, bt (by rw [rw_se, Int.toNat_natCast, hg]; rfl)]
      refine ⟨_, rfl, ?_⟩
      repeat' first | exact Forget.same _ | refine Forget.cons (.inl rfl) ?_ | refine Forget.cons (.inr rfl) ?_
    | true =>
      rw [resP_good hg]
      have w2 : Ar.real.wrap .i64 ((i : Int) + 1) = ((i + 1 : Nat) : Int) := by rw [rw_wrap, wi64 (by omega) (by omega)]; omega
      have hb := ub_le4 (l.getD i 0)
      refine LoopTo.next (fun k => ?_) (ih (i + 1) z (out ++ ub (l.getD i 0)) false (by omega) (by omega) (by rw [List.length_append]; omega))
      rw [lRPut, bt a1, bt a2]
      simp only [Int.toNat_natCast, w2, rw_se]
      rw [bf (by rw [hg]; rfl), bt a2, bt hg, bt (by rw [decide_eq_true_eq]; omega), ub_ne, Bool.and_false]

theorem uput_ok : OrcOk Tryd.prog 37 (.pure (uputF Ar.real)) := by
  refine pureOk (Cx.ok o_ut3 (LuPut Ar.real)) mixed 37 Tryd.f37 (by kernel_rfl) (by kernel_rfl) (by kernel_rfl) 100 1 (by kernel_rfl) (fun i h => ?_) fun args r h => ?_
  · obtain rfl : i = 0 := by omega
    refine Tells.mk (key := 3) (N := 22) (ks := [2, 3, 4, 7, 8, 9]) (F := LuPutF Ar.real) (by kernel_rfl) rfl fun xs H r h => ?_
    unfold LuPutF at h
    split at h
    · rename_i z out nl l nl2 n i
      replace h : (Tr.test (gPut l out i && decide (n = (l.length : Int))) (.test ((l.drop i.toNat).all goodN) _ _) .no).run some = some r := h
      have hg : (gPut l out i && decide (n = (l.length : Int))) = true := by
        cases hc : (gPut l out i && decide (n = (l.length : Int)))
        · rw [hc] at h; cases h
        · rfl
      rw [hg] at h
      simp only [gPut, Bool.and_eq_true, decide_eq_true_eq] at hg
      obtain ⟨⟨g1, g2, g3, g4⟩, rfl⟩ := hg
      obtain ⟨m, rfl⟩ := Int.eq_ofNat_of_zero_le g2
      have key := loopUPut l nl2 g1 _ m z out nl rfl (by omega) (by omega)
      rw [Int.toNat_natCast] at h
      unfold resP at key
      cases ha : (l.drop m).all goodN <;> rw [ha] at h key
      · cases h; exact key
      · cases h; exact key
    · cases h
  · unfold uputF at h
    split at h
    · rename_i l nl
      obtain ⟨hg, rfl⟩ := Tr.one h
      replace hg : l.length ≤ 17592186044416 := of_decide_eq_true hg
      refine ⟨rfl, rfl, [], ?_⟩
      rw [tUPut, bt (by simp only [rw_se, gPut, Bool.and_eq_true, decide_eq_true_eq]; refine ⟨⟨hg, ?_⟩, trivial⟩; simp)]
      simp only [rw_se, show Int.toNat 0 = 0 from rfl, List.drop_zero, List.nil_append, Bool.true_and, putL, putE]
      cases ha : l.all goodN <;> rfl
    · cases h

theorem rput_ok : OrcOk Tryd.prog 39 (.pure (uputF Ar.real)) := by
  refine pureOk (Cx.ok o_ut3 (LrPut Ar.real)) mixed 39 Tryd.f39 (by kernel_rfl) (by kernel_rfl) (by kernel_rfl) 100 1 (by kernel_rfl) (fun i h => ?_) fun args r h => ?_
  · obtain rfl : i = 0 := by omega
    refine Tells.mk (key := 3) (N := 26) (ks := [0, 2, 3, 4, 5]) (F := LrPutF Ar.real) (by kernel_rfl) rfl fun xs H r h => ?_
    unfold LrPutF at h
    split at h
    · rename_i l nl2 z out nl i
      replace h : (Tr.test (gPut l out i) (.test ((l.drop i.toNat).all goodN) _ _) .no).run some = some r := h
      have hg : gPut l out i = true := by
        cases hc : gPut l out i
        · rw [hc] at h; cases h
        · rfl
      rw [hg] at h
      simp only [gPut, decide_eq_true_eq] at hg
      obtain ⟨g1, g2, g3, g4⟩ := hg
      obtain ⟨m, rfl⟩ := Int.eq_ofNat_of_zero_le g2
      have key := loopRPut l nl2 g1 _ m z out nl rfl (by omega) (by omega)
      rw [Int.toNat_natCast] at h
      unfold resP at key
      cases ha : (l.drop m).all goodN <;> rw [ha] at h key
      · cases h; exact key
      · cases h; exact key
    · cases h
  · unfold uputF at h
    split at h
    · rename_i l nl
      obtain ⟨hg, rfl⟩ := Tr.one h
      replace hg : l.length ≤ 17592186044416 := of_decide_eq_true hg
      refine ⟨rfl, rfl, [], ?_⟩
      rw [tRPut, bt (by simp only [rw_se, gPut, decide_eq_true_eq]; refine ⟨hg, ?_⟩; simp)]
      simp only [rw_se, show Int.toNat 0 = 0 from rfl, List.drop_zero, List.nil_append, Bool.true_and, putL, putE]
      cases ha : l.all goodN <;> rfl
    · cases h

theorem o_ut4 : OOk (Out4 Ar.real) := (o_ut3.add uput_ok).add rput_ok

end Go.Proofs.YtaefpopjlmhmoaaDoor.V.U

/- Chapter 01, utf: takes do what they tell. -/
namespace Go.Proofs.YtaefpopjlmhmoaaDoor.V.U
open Go
set_option linter.unusedVariables false
set_option linter.unusedSimpArgs false

/-! The document's number. -/
theorem numL_cons (o c : Int) (l : List Int) : numL o (c :: l) = numL (o * 64 + c % 64) l := rfl
theorem loopNum (b : List Int) (nl : Option Bool) (n : Nat) (hy : ∀ x ∈ b, 0 ≤ x ∧ x < 256) (hn : n ≤ 4) (hb : n ≤ b.length) : ∀ (q i : Nat) (o : Int), n - i = q → 1 ≤ i → i ≤ n → 0 ≤ o → o < 256 * 64 ^ (i - 1) →
    LoopTo (Cx Ar.real (Out4 Ar.real) (Lnum Ar.real)) 100 (loopAt Tryd.f75 0) 47 [0, 1, 5, 6] [u8s b nl false, i64x n, i64x o, i64x i] [] (.exit 0, [.dead, .dead, i64x (numL o ((b.take n).drop i)), .dead], []) := by
  intro q
  induction q with
  | zero =>
    intro i o h1 h2 h3 h4 h5
    have hi : i = n := by omega
    subst hi
    have e1 : (b.take i).drop i = [] := by rw [List.drop_eq_nil_iff, List.length_take]; omega
    rw [e1]
    refine LoopTo.left (by simp) fun k => ?_
    rw [lNum, bf (by rw [decide_eq_false_iff_not]; omega)]
    refine ⟨_, rfl, ?_⟩
    repeat' first | exact Forget.same _ | refine Forget.cons (.inl rfl) ?_ | refine Forget.cons (.inr rfl) ?_
  | succ q ih =>
    intro i o h1 h2 h3 h4 h5
    have hi : i < (b.take n).length := by rw [List.length_take]; omega
    have hx := hy _ (getD_mem (show i < b.length by omega))
    have e0 : (b.take n).getD i 0 = b.getD i 0 := by
      rw [List.getD_eq_getElem?_getD, List.getD_eq_getElem?_getD, List.getElem?_take, if_pos (by omega)]
    rw [drop_cons hi, numL_cons, e0]
    have hp : (64 : Int) ^ (i + 1 - 1) = 64 ^ (i - 1) * 64 := by
      rw [show i + 1 - 1 = (i - 1) + 1 by omega, Int.pow_succ]
    have hp3 : (64 : Int) ^ (i - 1) ≤ 64 ^ 2 := by
      have : i - 1 ≤ 2 := by omega
      have h := Nat.pow_le_pow_right (show 0 < 64 by omega) this
      exact_mod_cast h
    have p2 : (64 : Int) ^ 2 = 4096 := by decide
    have hm : Int.tmod (b.getD i 0) 64 = b.getD i 0 % 64 := Int.tmod_eq_emod_of_nonneg hx.1
    have w1 : Ar.real.wrap .i64 (b.getD i 0) = b.getD i 0 := by rw [rw_wrap, wi64 (by omega) (by omega)]
    have w2 : Ar.real.wrap .i64 (o * 64) = o * 64 := by rw [rw_wrap, wi64 (by omega) (by omega)]
    have w3 : Ar.real.wrap .i64 (o * 64 + b.getD i 0 % 64) = o * 64 + b.getD i 0 % 64 := by rw [rw_wrap, wi64 (by omega) (by omega)]
    have w4 : Ar.real.wrap .i64 ((i : Int) + 1) = ((i + 1 : Nat) : Int) := by rw [rw_wrap, wi64 (by omega) (by omega)]; omega
    refine LoopTo.next (fun k => ?_) (ih (i + 1) (o * 64 + b.getD i 0 % 64) (by omega) (by omega) (by omega) (by omega) (by rw [hp]; omega))
    rw [lNum, bt (by rw [decide_eq_true_eq]; omega), bt (by rw [decide_eq_true_eq]; omega)]
    simp only [Int.toNat_natCast, w1, w2, hm, w3, w4]

theorem num_core (b : List Int) (nl : Option Bool) (n : Nat) (hy : ∀ x ∈ b, 0 ≤ x ∧ x < 256) (h1 : 1 ≤ n) (hn : n ≤ 4) (hb : n ≤ b.length) :
    bodyX (Cx Ar.real (Out4 Ar.real) (Lnum Ar.real)) 100 Tryd.f75 [u8s b nl false, i64x n] [] = some (i64x (numN b n), []) := by
  rw [tNum]
  have hx := hy _ (getD_mem (show 0 < b.length by omega))
  have a : decide ((0 : Int) ≤ 0 ∧ (0 : Int) < (b.length : Int)) = true := by rw [decide_eq_true_eq]; omega
  have w1 : Ar.real.wrap .i64 (b.getD (Int.toNat 0) 0) = b.getD 0 0 := by rw [show Int.toNat 0 = 0 from rfl, rw_wrap, wi64 (by omega) (by omega)]
  have hm : ∀ k : Int, Int.tmod (b.getD 0 0) k = b.getD 0 0 % k := fun k => Int.tmod_eq_emod_of_nonneg hx.1
  have p0 : (64 : Int) ^ (1 - 1) = 1 := by decide
  simp only [w1, hm, p0, rw_se, show Int.toNat 1 = 1 from rfl, Int.toNat_natCast]
  have g : ∀ o : Int, 0 ≤ o → o < 256 → (bytesB b && decide ((1 : Int) ≤ 1 ∧ (1 : Int) ≤ (n : Int) ∧ (n : Int) ≤ 4 ∧ (n : Int) ≤ (b.length : Int) ∧ 0 ≤ o ∧ o < 256 * 1)) = true := by
    intro o h0 h2
    rw [bytesB_iff.2 hy, Bool.true_and, decide_eq_true_eq]
    omega
  rw [bt a]
  have hc : n = 1 ∨ n = 2 ∨ n = 3 ∨ n = 4 := by omega
  rcases hc with rfl | rfl | rfl | rfl
  · rw [bf (by decide), bf (by decide), bf (by decide), bt (g _ hx.1 hx.2)]
    rfl
  · rw [bt (by decide), bt a, bf (by decide), bf (by decide), bt (g _ (by omega) (by omega))]
    rfl
  · rw [bf (by decide), bt (by decide), bt a, bf (by decide), bt (g _ (by omega) (by omega))]
    rfl
  · rw [bf (by decide), bf (by decide), bt (by decide), bt a, bt (g _ (by omega) (by omega))]
    rfl

theorem num_ok : OrcOk Tryd.prog 75 (.pure (numF Ar.real)) := by
  refine pureOk (Cx.ok o_ut4 (Lnum Ar.real)) mixed 75 Tryd.f75 (by kernel_rfl) (by kernel_rfl) (by kernel_rfl) 100 1 (by kernel_rfl) (fun i h => ?_) fun args r h => ?_
  · obtain rfl : i = 0 := by omega
    refine Tells.mk (key := 9) (N := 47) (ks := [0, 1, 5, 6]) (F := LnumF Ar.real) (by kernel_rfl) rfl fun xs H r h => ?_
    unfold LnumF at h
    split at h
    · rename_i b nl n o i
      obtain ⟨hg, rfl⟩ := Tr.one h
      simp only [rw_se, Bool.and_eq_true, decide_eq_true_eq, bytesB_iff] at hg ⊢
      dsimp only [Ty.den] at hg
      obtain ⟨g0, g1, g2, g3, g4, g5, g6⟩ := hg
      obtain ⟨m, rfl⟩ := Int.eq_ofNat_of_zero_le (Int.le_trans (by decide : (0 : Int) ≤ 1) g1)
      obtain ⟨n', rfl⟩ := Int.eq_ofNat_of_zero_le (Int.le_trans (Int.le_trans (by decide : (0 : Int) ≤ 1) g1) g2)
      exact loopNum b nl n' g0 (by omega) (by omega) _ m o rfl (by omega) (by omega) g5 (by simpa using g6)
    · cases h
  · unfold numF at h
    split at h
    · rename_i b nl n
      obtain ⟨hg, rfl⟩ := Tr.one h
      simp only [rw_se, Bool.and_eq_true, decide_eq_true_eq, bytesB_iff] at hg ⊢
      dsimp only [Ty.den] at hg
      obtain ⟨g0, g1, g2, g3⟩ := hg
      obtain ⟨n', rfl⟩ := Int.eq_ofNat_of_zero_le (Int.le_trans (by decide : (0 : Int) ≤ 1) g1)
      exact ⟨rfl, rfl, [], num_core b nl n' g0 (by omega) (by omega) (by omega)⟩
    · cases h

/-! The document's taking, by trying. -/
theorem numN_ub {n : Int} (h : goodN n = true) (r : List Int) : numN (ub n ++ r) (ub n).length = n := by
  rw [goodN_iff] at h
  unfold ub
  split
  · rfl
  · split
    · show numL ((192 + n / 64) % 32) [128 + n % 64] = n
      simp only [numL, List.foldl_cons, List.foldl_nil]
      omega
    · split
      · show numL ((224 + n / 4096) % 16) [128 + n / 64 % 64, 128 + n % 64] = n
        simp only [numL, List.foldl_cons, List.foldl_nil]
        omega
      · show numL ((240 + n / 262144) % 8) [128 + n / 4096 % 64, 128 + n / 64 % 64, 128 + n % 64] = n
        simp only [numL, List.foldl_cons, List.foldl_nil]
        omega

theorem try_some {b : List Int} {m : Nat} (h : tryB b m = true) : takeU b = some (numN b m, b.drop m) ∧ 1 ≤ m ∧ m ≤ b.length := by
  simp only [tryB, Bool.and_eq_true, decide_eq_true_eq] at h
  obtain ⟨⟨h1, h2⟩, h3, h4⟩ := h
  refine ⟨?_, h1, h2⟩
  have := takeU_ub h3 (b.drop m)
  rw [h4, List.take_append_drop] at this
  exact this
theorem try_of {b r : List Int} {n : Int} (hb : ∀ x ∈ b, 0 ≤ x ∧ x < 256) (h : takeU b = some (n, r)) : tryB b (ub n).length = true ∧ b.length = (ub n).length + r.length ∧ goodN n = true := by
  obtain ⟨h1, h2⟩ := takeU_some hb h
  have hn := numN_ub h1 r
  have hl : b.length = (ub n).length + r.length := by rw [h2, List.length_append]
  rw [← h2] at hn
  refine ⟨?_, hl, h1⟩
  simp only [tryB, Bool.and_eq_true, decide_eq_true_eq]
  refine ⟨⟨ub_pos n, by omega⟩, by rw [hn]; exact h1, ?_⟩
  rw [hn]
  conv => rhs; rw [h2]
  simp

def resT (b : List Int) : Ex × List X × Hp :=
  bif (takeU b).isSome then (.ret, [.dead, i64x (uN b), i64x (uL b), i64x 0, .dead], []) else (.exit 0, [.dead, .dead, .dead, .dead, .dead], [])
theorem loopRTake (b : List Int) (nl : Option Bool) (x y z : Int) (hy : ∀ x ∈ b, 0 ≤ x ∧ x < 256) : ∀ (q n : Nat), 5 - n = q → 1 ≤ n → n ≤ 5 → (∀ m, m < n → tryB b m = false) →
    LoopTo (Cx Ar.real (Out5 Ar.real) (LrTake Ar.real)) 100 (loopAt Tryd.f61 0) 34 [0, 2, 3, 4, 5] [u8s b nl false, i64x x, i64x y, i64x z, i64x n] [] (resT b) := by
  have no : ∀ n : Nat, (n = 5 ∨ b.length < n) → (∀ m, m < n → tryB b m = false) → takeU b = none := by
    intro n hn hm
    cases ht : takeU b with
    | none => rfl
    | some p =>
      obtain ⟨v, r⟩ := p
      obtain ⟨h1, h2, _⟩ := try_of hy ht
      have h4 := ub_le4 v
      have := hm (ub v).length (by omega)
      rw [h1] at this
      cases this
  have stop : ∀ n : Nat, (n = 5 ∨ b.length < n) → (∀ m, m < n → tryB b m = false) → resT b = (.exit 0, [.dead, .dead, .dead, .dead, .dead], []) := by
    intro n h1 h2
    unfold resT
    rw [no n h1 h2]
    rfl
  intro q
  induction q with
  | zero =>
    intro n h1 h2 h3 h4
    rw [stop n (by omega) h4]
    refine LoopTo.left (by simp) fun k => ?_
    rw [lRTake, bf (by rw [decide_eq_false (by omega)]; rfl)]
    exact ⟨_, rfl, forget_dead _ 5⟩
  | succ q ih =>
    intro n h1 h2 h3 h4
    have a1 : (decide ((n : Int) ≤ 4) == true) = true := by rw [decide_eq_true (by omega)]; rfl
    by_cases hl : n ≤ b.length
    · have w4 : Ar.real.wrap .i64 ((n : Int) + 1) = ((n + 1 : Nat) : Int) := by rw [rw_wrap, wi64 (by omega) (by omega)]; omega
      have a2 : decide ((n : Int) ≤ (b.length : Int)) = true := by rw [decide_eq_true_eq]; omega
      have a3 : (bytesB b && decide ((1 : Int) ≤ (n : Int) ∧ (n : Int) ≤ 4 ∧ (n : Int) ≤ (b.length : Int))) = true := by
        rw [bytesB_iff.2 hy, Bool.true_and, decide_eq_true_eq]; omega
      cases hg : goodN (numN b n) with
      | false =>
        refine LoopTo.next (fun k => ?_) (ih (n + 1) (by omega) (by omega) (by omega) (fun m hm => ?_))
        · rw [lRTake, bt a1, bt a2]
          simp only [rw_se, Int.toNat_natCast, w4]
          rw [bt a3, bf (by rw [hg]; rfl)]
        · by_cases e : m = n
          · subst e
            simp [tryB, hg]
          · exact h4 m (by omega)
      | true =>
        have hs : Ar.real.seq (strOf (ub (numN b n))) (strOf (b.take n)) = decide (ub (numN b n) = b.take n) := seq_str (ub_byts hg) (fun x hx => hy x (List.mem_of_mem_take hx))
        have a4 : decide ((0 : Int) ≤ (n : Int) ∧ (n : Int) ≤ (b.length : Int)) = true := by rw [decide_eq_true_eq]; omega
        by_cases he : ub (numN b n) = b.take n
        · have ht : tryB b n = true := by
            simp only [tryB, hg, he, Bool.and_eq_true, decide_eq_true_eq]
            exact ⟨⟨h2, hl⟩, trivial, trivial⟩
          obtain ⟨t1, _⟩ := try_some ht
          have r1 : uN b = numN b n := by simp [uN, t1]
          have r2 : uL b = n := by simp only [uL, t1, List.length_drop]; omega
          have : resT b = (.ret, [.dead, i64x (numN b n), i64x n, i64x 0, .dead], []) := by
            unfold resT
            rw [r1, r2, t1]
            rfl
          rw [this]
          refine LoopTo.left (by simp) fun k => ?_
          rw [lRTake, bt a1, bt a2]
          simp only [rw_se, Int.toNat_natCast]
          rw [bt a3, bt (by rw [hg]; rfl), bt hg, bt a4, bt (by rw [hs]; exact decide_eq_true he)]
          refine ⟨_, rfl, ?_⟩
          repeat' first | exact Forget.same _ | refine Forget.cons (.inl rfl) ?_ | refine Forget.cons (.inr rfl) ?_
        · refine LoopTo.next (fun k => ?_) (ih (n + 1) (by omega) (by omega) (by omega) (fun m hm => ?_))
          · rw [lRTake, bt a1, bt a2]
            simp only [rw_se, Int.toNat_natCast, w4]
            rw [bt a3, bt (by rw [hg]; rfl), bt hg, bt a4, bf (by rw [hs]; exact decide_eq_false he)]
          · by_cases e : m = n
            · subst e
              simp [tryB, he]
            · exact h4 m (by omega)
    · rw [stop n (by omega) h4]
      refine LoopTo.left (by simp) fun k => ?_
      rw [lRTake, bt a1, bf (by rw [decide_eq_false_iff_not]; omega)]
      exact ⟨_, rfl, forget_dead _ 5⟩

/-! One sign. -/
theorem takeU_asc {b : List Int} (h : ascB b = true) : takeU b = some (b.getD 0 0, b.drop 1) := by
  cases b with
  | nil => simp [ascB] at h
  | cons c r =>
    have : c < 128 := by simpa [ascB] using h
    simp [takeU, this]

end Go.Proofs.YtaefpopjlmhmoaaDoor.V.U

/- Chapter 01, utf: one sign is taken as they tell. -/
namespace Go.Proofs.YtaefpopjlmhmoaaDoor.V.U
open Go
set_option linter.unusedVariables false
set_option linter.unusedSimpArgs false

/-- The table of first bytes. -/
def fx (n : Nat) : Int := if n < 128 then 240 else if n < 194 then 241 else if n < 224 then 2 else if n = 224 then 19 else if n = 237 then 35 else if n < 240 then 3 else if n = 240 then 52 else if n < 244 then 4 else if n = 244 then 68 else 241
theorem first_at {c : Int} (h0 : 0 ≤ c) (h1 : c < 256) : List.getD firstT c.toNat 0 = fx c.toNat := by
  have h : ((List.range 256).all fun n => decide (List.getD firstT n 0 = fx n)) = true := by kernel_rfl
  rw [List.all_eq_true] at h
  have := h c.toNat (by rw [List.mem_range]; omega)
  simpa using this

/-- What the slow way comes to. -/
def slowV (c : Int) (s : List Int) (lo hi sz : Int) : Option (Int × Int) :=
  match s with
  | [] => none
  | d :: s1 => if d < lo ∨ hi < d then none else if sz ≤ 2 then some (c % 32 * 64 + d % 64, 2) else match s1 with
    | [] => none
    | e :: s2 => if e < 128 ∨ 191 < e then none else if sz ≤ 3 then some (c % 16 * 4096 + d % 64 * 64 + e % 64, 3) else match s2 with
      | [] => none
      | f :: _ => if f < 128 ∨ 191 < f then none else some (c % 8 * 262144 + d % 64 * 4096 + e % 64 * 64 + f % 64, 4)
def slowX (v : Option (Int × Int)) : X := match v with
  | some (n, k) => .tup [i32x n, i64x k]
  | none => .tup [i32x 65533, i64x 1]

theorem low6 {d : Int} (h : 0 ≤ d ∧ d < 256) : Ar.real.wrap .i32 (Ar.real.wrap .u8 (Ar.real.band 8 d 63)) = d % 64 := by
  have p6 : (2 : Int) ^ 6 = 64 := by decide
  rw [and_low (k := 6) 63 h.1 (by simpa using h.2) (by decide) (by decide), p6, rw_wrap, rw_wrap, wu8 (by omega) (by omega), wi32 (by omega) (by omega)]
theorem lowK {c m : Int} (k : Nat) (h : 0 ≤ c ∧ c < 256) (hk : k ≤ 8) (hm : m = 2 ^ k - 1) (q : Int) (hq : q = 2 ^ k) (h1 : 0 < q) (h2 : q ≤ 256) : Ar.real.wrap .i32 (Ar.real.wrap .u8 (Ar.real.band 8 c m)) = c % q := by
  have e1 := Int.emod_nonneg c (show q ≠ 0 by omega)
  have e2 := Int.emod_lt_of_pos c h1
  rw [and_low (k := k) m h.1 (by simpa using h.2) hk hm, ← hq, rw_wrap, rw_wrap, wu8 (by omega) (by omega), wi32 (by omega) (by omega)]

theorem p2_32 (k : Nat) (b : Int) (hb : b = (k : Int)) (hk : k ≤ 32) : Ar.real.p2 b 32 = 2 ^ k := by
  rw [rw_p2, hb, Int.toNat_natCast, Nat.min_eq_left hk]

end Go.Proofs.YtaefpopjlmhmoaaDoor.V.U

/- Chapter 01, utf: all takes do what they tell. -/
namespace Go.Proofs.YtaefpopjlmhmoaaDoor.V.U
open Go
set_option linter.unusedVariables false
set_option linter.unusedSimpArgs false

def tk (b : List Int) : Option (Int × Int) := match takeU b with
  | some (n, r) => some (n, (b.length : Int) - r.length)
  | none => none
theorem slowX_tk {b : List Int} (h : b ≠ []) : slowX (tk b) = .tup [i32x (dR b), i64x (dL b)] := by
  unfold tk dR dL
  cases takeU b with
  | none =>
    have : b.isEmpty = false := by cases b with | nil => exact absurd rfl h | cons _ _ => rfl
    simp [slowX, this]
  | some p => rfl

theorem con_iff {d : Int} : con d ↔ 128 ≤ d ∧ d < 192 := Iff.rfl

theorem cls2 (c : Int) (s : List Int) (h : 194 ≤ c ∧ c < 224) (hs : ∀ x ∈ s, 0 ≤ x ∧ x < 256) : (bif decide ((s.length : Int) + 1 < 2) then none else slowV c s 128 191 2) = tk (c :: s) := by
  unfold tk
  rw [takeU, if_neg (by omega), if_pos (by omega)]
  cases s with
  | nil => rw [bt (by decide)]; rfl
  | cons d r =>
    rw [bf (by rw [decide_eq_false_iff_not, List.length_cons]; omega)]
    simp only [slowV, utk2]
    by_cases hd : con d
    · rw [con_iff] at hd
      rw [if_neg (by omega), if_pos (by decide), if_pos ⟨h.1, hd⟩]
      simp only [List.length_cons, Option.some.injEq, Prod.mk.injEq]
      omega
    · rw [if_neg (fun h : 194 ≤ c ∧ con d => hd h.2)]
      rw [con_iff] at hd
      rw [if_pos (by omega)]

theorem cls3 (c lo hi : Int) (s : List Int) (h : (c = 224 ∧ lo = 160 ∧ hi = 191) ∨ (225 ≤ c ∧ c < 240 ∧ c ≠ 237 ∧ lo = 128 ∧ hi = 191) ∨ (c = 237 ∧ lo = 128 ∧ hi = 159)) (hs : ∀ x ∈ s, 0 ≤ x ∧ x < 256) :
    (bif decide ((s.length : Int) + 1 < 3) then none else slowV c s lo hi 3) = tk (c :: s) := by
  unfold tk
  rw [takeU, if_neg (by omega), if_neg (by omega), if_pos (by omega)]
  match s with
  | [] => rw [bt (by decide)]; rfl
  | [d] => rw [bt (by rw [decide_eq_true_eq]; simp)]; rfl
  | d :: e :: r =>
    have hd := hs d (by simp)
    have he := hs e (by simp)
    rw [bf (by rw [decide_eq_false_iff_not, List.length_cons, List.length_cons]; omega)]
    simp only [slowV, utk3]
    by_cases g : con d ∧ con e ∧ goodN ((c - 224) * 4096 + (d - 128) * 64 + (e - 128)) = true ∧ 2048 ≤ (c - 224) * 4096 + (d - 128) * 64 + (e - 128)
    · rw [if_pos g]
      rw [con_iff, con_iff, goodN_iff] at g
      rw [if_neg (by omega), if_neg (by decide), if_neg (by omega), if_pos (by decide)]
      simp only [List.length_cons, Option.some.injEq, Prod.mk.injEq]
      omega
    · rw [if_neg g]
      rw [con_iff, con_iff, goodN_iff] at g
      by_cases g1 : d < lo ∨ hi < d
      · rw [if_pos g1]
      · rw [if_neg g1, if_neg (by decide), if_pos (by omega)]

theorem cls4 (c lo hi : Int) (s : List Int) (h : (c = 240 ∧ lo = 144 ∧ hi = 191) ∨ (241 ≤ c ∧ c < 244 ∧ lo = 128 ∧ hi = 191) ∨ (c = 244 ∧ lo = 128 ∧ hi = 143)) (hs : ∀ x ∈ s, 0 ≤ x ∧ x < 256) :
    (bif decide ((s.length : Int) + 1 < 4) then none else slowV c s lo hi 4) = tk (c :: s) := by
  unfold tk
  rw [takeU, if_neg (by omega), if_neg (by omega), if_neg (by omega)]
  match s with
  | [] => rw [bt (by decide)]; rfl
  | [d] => rw [bt (by rw [decide_eq_true_eq]; simp)]; rfl
  | [d, e] => rw [bt (by rw [decide_eq_true_eq]; simp)]; rfl
  | d :: e :: f :: r =>
    have hd := hs d (by simp)
    have he := hs e (by simp)
    have hf := hs f (by simp)
    rw [bf (by rw [decide_eq_false_iff_not, List.length_cons, List.length_cons, List.length_cons]; omega)]
    simp only [slowV, utk4]
    by_cases g : con d ∧ con e ∧ con f ∧ goodN ((c - 240) * 262144 + (d - 128) * 4096 + (e - 128) * 64 + (f - 128)) = true ∧ 65536 ≤ (c - 240) * 262144 + (d - 128) * 4096 + (e - 128) * 64 + (f - 128)
    · rw [if_pos g]
      rw [con_iff, con_iff, con_iff, goodN_iff] at g
      rw [if_neg (by omega), if_neg (by decide), if_neg (by omega), if_neg (by decide), if_neg (by omega)]
      simp only [List.length_cons, Option.some.injEq, Prod.mk.injEq]
      omega
    · rw [if_neg g]
      rw [con_iff, con_iff, con_iff, goodN_iff] at g
      by_cases g1 : d < lo ∨ hi < d
      · rw [if_pos g1]
      · rw [if_neg g1, if_neg (by decide)]
        by_cases g2 : e < 128 ∨ 191 < e
        · rw [if_pos g2]
        · rw [if_neg g2, if_neg (by decide), if_pos (by omega)]

theorem clsBad (c : Int) (s : List Int) (h : (128 ≤ c ∧ c < 194) ∨ 245 ≤ c) (hs : ∀ x ∈ s, 0 ≤ x ∧ x < 256) : none = tk (c :: s) := by
  unfold tk
  rw [takeU, if_neg (by omega)]
  by_cases h1 : c < 224
  · rw [if_pos h1]
    cases s with
    | nil => rfl
    | cons d r => simp only [utk2]; rw [if_neg (by omega)]
  · rw [if_neg h1, if_neg (by omega)]
    match s with
    | [] => rfl
    | [d] => rfl
    | [d, e] => rfl
    | d :: e :: f :: r =>
      simp only [utk4]
      rw [if_neg]
      rw [con_iff, con_iff, con_iff, goodN_iff]
      omega

theorem o_ut5 : OOk (Out5 Ar.real) := (o_ut4).add num_ok

theorem rtake_ok : OrcOk Tryd.prog 61 (.pure (utakeF Ar.real)) := by
  refine pureOk (Cx.ok o_ut5 (LrTake Ar.real)) mixed 61 Tryd.f61 (by kernel_rfl) (by kernel_rfl) (by kernel_rfl) 100 1 (by kernel_rfl) (fun i h => ?_) fun args r h => ?_
  · obtain rfl : i = 0 := by omega
    refine Tells.mk (key := 2) (N := 34) (ks := [0, 2, 3, 4, 5]) (F := LrTakeF Ar.real) (by kernel_rfl) rfl fun xs H r h => ?_
    unfold LrTakeF at h
    split at h
    · rename_i b nl x y z n
      replace h : (Tr.test (bytesB b && (decide ((1 : Int) ≤ n ∧ n ≤ (5 : Int)) && (List.range n.toNat).all fun m => !tryB b m)) (.test (takeU b).isSome _ _) .no).run some = some r := h
      have hg : (bytesB b && (decide ((1 : Int) ≤ n ∧ n ≤ (5 : Int)) && (List.range n.toNat).all fun m => !tryB b m)) = true := by
        cases hc : (bytesB b && (decide ((1 : Int) ≤ n ∧ n ≤ (5 : Int)) && (List.range n.toNat).all fun m => !tryB b m))
        · rw [hc] at h; cases h
        · rfl
      rw [hg] at h
      simp only [Bool.and_eq_true, decide_eq_true_eq, bytesB_iff, List.all_eq_true, List.mem_range, Bool.not_eq_true'] at hg
      obtain ⟨g1, ⟨g2, g3⟩, g4⟩ := hg
      obtain ⟨m, rfl⟩ := Int.eq_ofNat_of_zero_le (Int.le_trans (by decide : (0 : Int) ≤ 1) g2)
      have key := loopRTake b nl x y z g1 _ m rfl (by have : (1 : Int) ≤ (m : Int) := g2; omega) (by have : (m : Int) ≤ 5 := g3; omega) (fun k hk => g4 k (by rw [Int.toNat_natCast]; exact hk))
      unfold resT at key
      cases ha : (takeU b).isSome <;> rw [ha] at h key
      · cases h; exact key
      · cases h; exact key
    · cases h
  · unfold utakeF at h
    split at h
    · rename_i b nl
      obtain ⟨hg, rfl⟩ := Tr.one h
      rw [rw_se] at hg
      refine ⟨rfl, rfl, [], ?_⟩
      rw [tRTake, bt (by rw [rw_se, hg]; simp [tryB])]
      simp only [rw_se]
      cases ht : takeU b with
      | none => simp [uN, uL, uE, ht]
      | some p => simp [uN, uL, uE, ht]
    · cases h

theorem o_ut6 : OOk (Out6 Ar.real) := (o_ut5).add rtake_ok

end Go.Proofs.YtaefpopjlmhmoaaDoor.V.U

/- Chapter 01, utf: eight bytes as one number; what is valid. -/
namespace Go.Proofs.YtaefpopjlmhmoaaDoor.V.U
open Go
set_option linter.unusedVariables false
set_option linter.unusedSimpArgs false

/-! Eight bytes. -/
def wl : List Nat → Nat
  | [] => 0
  | c :: s => c + 256 * wl s
def mk : Nat → Nat
  | 0 => 0
  | n + 1 => 128 + 256 * mk n
theorem and128 (c : Nat) (h : c < 256) : c &&& 128 = 0 ↔ c < 128 := by
  have key : ((List.range 256).all fun c => (c &&& 128 == 0) == decide (c < 128)) = true := by decide +kernel
  rw [List.all_eq_true] at key
  have := key c (List.mem_range.2 h)
  rw [beq_iff_eq] at this
  by_cases h1 : c < 128
  · simp only [h1, decide_true, beq_iff_eq] at this
    exact ⟨fun _ => h1, fun _ => this⟩
  · simp only [h1, decide_false, beq_eq_false_iff_ne] at this
    exact ⟨fun e => absurd e this, fun e => absurd e h1⟩
theorem land_mask : ∀ l : List Nat, (∀ c ∈ l, c < 256) → (wl l &&& mk l.length = 0 ↔ ∀ c ∈ l, c < 128)
  | [], _ => by simp [wl, mk]
  | c :: s, h => by
    have hc := h c (by simp)
    have ih := land_mask s (fun x hx => h x (by simp [hx]))
    have p : (2 : Nat) ^ 8 = 256 := by decide
    have e1 : (wl (c :: s) &&& mk (c :: s).length) % 2 ^ 8 = c &&& 128 := by
      rw [Nat.and_mod_two_pow]
      simp only [wl, mk, List.length_cons, p]
      rw [show (c + 256 * wl s) % 256 = c by omega, show (128 + 256 * mk s.length) % 256 = 128 by omega]
    have e2 : (wl (c :: s) &&& mk (c :: s).length) / 2 ^ 8 = wl s &&& mk s.length := by
      rw [Nat.and_div_two_pow]
      simp only [wl, mk, List.length_cons, p]
      rw [show (c + 256 * wl s) / 256 = wl s by omega, show (128 + 256 * mk s.length) / 256 = mk s.length by omega]
    rw [p] at e1 e2
    have a := and128 c hc
    constructor
    · intro h0
      rw [h0] at e1 e2
      have h1 := a.1 (by omega)
      have h2 := ih.1 (by omega)
      intro x hx
      rcases List.mem_cons.1 hx with rfl | hx
      · exact h1
      · exact h2 x hx
    · intro h0
      have h1 := a.2 (h0 c (by simp))
      have h2 := ih.2 (fun x hx => h0 x (by simp [hx]))
      omega
theorem wl_lt : ∀ l : List Nat, (∀ c ∈ l, c < 256) → wl l < 256 ^ l.length
  | [], _ => by simp [wl]
  | c :: s, h => by
    have hc := h c (by simp)
    have ih := wl_lt s (fun x hx => h x (by simp [hx]))
    simp only [wl, List.length_cons, Nat.pow_succ]
    omega
theorem wordL_wl : ∀ l : List Int, (∀ c ∈ l, 0 ≤ c ∧ c < 256) → wordL l = (wl (l.map Int.toNat) : Nat)
  | [], _ => rfl
  | c :: s, h => by
    have hc := h c (by simp)
    have ih := wordL_wl s (fun x hx => h x (by simp [hx]))
    simp only [wordL, wl, List.map_cons, ih]
    omega
theorem map_lt {l : List Int} (h : ∀ c ∈ l, 0 ≤ c ∧ c < 256) : ∀ c ∈ l.map Int.toNat, c < 256 := by
  intro c hc
  obtain ⟨x, hx, rfl⟩ := List.mem_map.1 hc
  have := h x hx
  omega
def asc (l : List Int) : Bool := l.all fun c => decide (c < 128)
theorem asc_iff {l : List Int} : asc l = true ↔ ∀ c ∈ l, c < 128 := by simp [asc]
theorem asc_nat {l : List Int} (h : ∀ c ∈ l, 0 ≤ c ∧ c < 256) : asc l = true ↔ ∀ c ∈ l.map Int.toNat, c < 128 := by
  rw [asc_iff]
  constructor
  · intro h1 c hc
    obtain ⟨x, hx, rfl⟩ := List.mem_map.1 hc
    have := h1 x hx
    have := h x hx
    omega
  · intro h1 c hc
    have := h1 c.toNat (List.mem_map.2 ⟨c, hc, rfl⟩)
    have := h c hc
    omega

theorem mk8 : ((mk 8 : Nat) : Int) = 9259542123273814144 := by decide
theorem band_word {x : Nat} (h : x < 2 ^ 64) : Ar.real.wrap .u64 (Ar.real.band 64 (x : Int) 9259542123273814144) = ((x &&& mk 8 : Nat) : Int) := by
  rw [← mk8, band_nat h (by decide), rw_wrap]
  have : x &&& mk 8 ≤ mk 8 := Nat.and_le_right
  have m8 : mk 8 = 9259542123273814144 := by decide
  rw [wu64 (by omega) (by omega)]

theorem word_test {l : List Int} (h : ∀ c ∈ l, 0 ≤ c ∧ c < 256) (hl : l.length = 8) : (Ar.real.wrap .u64 (Ar.real.band 64 (wordL l) 9259542123273814144) == (0 : Int)) = asc l := by
  have hm := map_lt h
  have hw := wl_lt _ hm
  rw [List.length_map, hl] at hw
  rw [wordL_wl l h, band_word (Nat.lt_of_lt_of_le hw (by decide))]
  have key := land_mask _ hm
  rw [List.length_map, hl, ← asc_nat h] at key
  cases ha : asc l with
  | true => rw [beq_iff_eq, key.2 ha]; rfl
  | false =>
    rw [beq_eq_false_iff_ne]
    intro e
    rw [key.1 (by omega)] at ha
    cases ha

theorem bor_word {x y : Nat} (hx : x < 2 ^ 64) (hy : y < 2 ^ 64) : Ar.real.wrap .u64 (Ar.real.bor 64 (x : Int) (y : Int)) = ((x ||| y : Nat) : Int) := by
  rw [bor_nat hx hy, rw_wrap]
  have := Nat.or_lt_two_pow hx hy
  rw [wu64 (by omega) (by omega)]

theorem or_mask (x y m : Nat) : (x ||| y) &&& m = 0 ↔ x &&& m = 0 ∧ y &&& m = 0 := by
  rw [Nat.and_or_distrib_right, Nat.or_eq_zero_iff]

theorem word2_test {l m : List Int} (h : ∀ c ∈ l, 0 ≤ c ∧ c < 256) (hl : l.length = 8) (h' : ∀ c ∈ m, 0 ≤ c ∧ c < 256) (hm' : m.length = 8) :
    (Ar.real.wrap .u64 (Ar.real.band 64 (Ar.real.wrap .u64 (Ar.real.bor 64 (wordL l) (wordL m))) 9259542123273814144) == (0 : Int)) = (asc l && asc m) := by
  have w1 := wl_lt _ (map_lt h)
  have w2 := wl_lt _ (map_lt h')
  rw [List.length_map, hl] at w1
  rw [List.length_map, hm'] at w2
  have w1' := Nat.lt_of_lt_of_le w1 (show 256 ^ 8 ≤ 2 ^ 64 by decide)
  have w2' := Nat.lt_of_lt_of_le w2 (show 256 ^ 8 ≤ 2 ^ 64 by decide)
  rw [wordL_wl l h, wordL_wl m h', bor_word w1' w2', band_word (Nat.or_lt_two_pow w1' w2')]
  have k1 := land_mask _ (map_lt h)
  have k2 := land_mask _ (map_lt h')
  rw [List.length_map, hl, ← asc_nat h] at k1
  rw [List.length_map, hm', ← asc_nat h'] at k2
  have k := or_mask (wl (l.map Int.toNat)) (wl (m.map Int.toNat)) (mk 8)
  rw [k1, k2] at k
  cases ha : (asc l && asc m) with
  | true =>
    rw [Bool.and_eq_true] at ha
    rw [beq_iff_eq, k.2 ha]; rfl
  | false =>
    rw [beq_eq_false_iff_ne]
    intro e
    have := k.1 (by omega)
    rw [this.1, this.2] at ha
    cases ha

theorem word4_test {l m n o : List Int} (h : ∀ c ∈ l, 0 ≤ c ∧ c < 256) (hl : l.length = 8) (h' : ∀ c ∈ m, 0 ≤ c ∧ c < 256) (hm' : m.length = 8) (h2 : ∀ c ∈ n, 0 ≤ c ∧ c < 256) (hn : n.length = 8) (h3 : ∀ c ∈ o, 0 ≤ c ∧ c < 256) (ho : o.length = 8) :
    (Ar.real.wrap .u64 (Ar.real.band 64 (Ar.real.wrap .u64 (Ar.real.bor 64 (Ar.real.wrap .u64 (Ar.real.bor 64 (wordL l) (wordL m))) (Ar.real.wrap .u64 (Ar.real.bor 64 (wordL n) (wordL o))))) 9259542123273814144) == (0 : Int)) = (asc l && asc m && (asc n && asc o)) := by
  have w1 := wl_lt _ (map_lt h)
  have w2 := wl_lt _ (map_lt h')
  have w3 := wl_lt _ (map_lt h2)
  have w4 := wl_lt _ (map_lt h3)
  rw [List.length_map, hl] at w1
  rw [List.length_map, hm'] at w2
  rw [List.length_map, hn] at w3
  rw [List.length_map, ho] at w4
  have w1' := Nat.lt_of_lt_of_le w1 (show 256 ^ 8 ≤ 2 ^ 64 by decide)
  have w2' := Nat.lt_of_lt_of_le w2 (show 256 ^ 8 ≤ 2 ^ 64 by decide)
  have w3' := Nat.lt_of_lt_of_le w3 (show 256 ^ 8 ≤ 2 ^ 64 by decide)
  have w4' := Nat.lt_of_lt_of_le w4 (show 256 ^ 8 ≤ 2 ^ 64 by decide)
  rw [wordL_wl l h, wordL_wl m h', wordL_wl n h2, wordL_wl o h3, bor_word w1' w2', bor_word w3' w4', bor_word (Nat.or_lt_two_pow w1' w2') (Nat.or_lt_two_pow w3' w4'), band_word (Nat.or_lt_two_pow (Nat.or_lt_two_pow w1' w2') (Nat.or_lt_two_pow w3' w4'))]
  have k1 := land_mask _ (map_lt h)
  have k2 := land_mask _ (map_lt h')
  have k3 := land_mask _ (map_lt h2)
  have k4 := land_mask _ (map_lt h3)
  rw [List.length_map, hl, ← asc_nat h] at k1
  rw [List.length_map, hm', ← asc_nat h'] at k2
  rw [List.length_map, hn, ← asc_nat h2] at k3
  rw [List.length_map, ho, ← asc_nat h3] at k4
  have k := (or_mask (wl (l.map Int.toNat) ||| wl (m.map Int.toNat)) (wl (n.map Int.toNat) ||| wl (o.map Int.toNat)) (mk 8)).trans (and_congr ((or_mask _ _ _).trans (and_congr k1 k2)) ((or_mask _ _ _).trans (and_congr k3 k4)))
  cases ha : (asc l && asc m && (asc n && asc o)) with
  | true =>
    rw [Bool.and_eq_true, Bool.and_eq_true, Bool.and_eq_true] at ha
    rw [beq_iff_eq, k.2 ha]; rfl
  | false =>
    rw [beq_eq_false_iff_ne]
    intro e
    have := k.1 (by omega)
    rw [this.1.1, this.1.2, this.2.1, this.2.2] at ha
    cases ha

theorem or_up {n k : Nat} {a b : Int} (hk : k < n) (ha : 0 ≤ a) (ha2 : a < 2 ^ k) (hb : 0 ≤ b) (hd : b % 2 ^ k = 0) (hn : b + 2 ^ k ≤ 2 ^ n) : Ar.real.bor n a b = a + b := by
  have : Ar.real.bor n a b = Ar.real.bor n b a := by rw [rw_bor, rw_bor, BitVec.or_comm]
  rw [this, or_add hk hb ha ha2 hd hn]
  omega
theorem p2_64 (k : Nat) (b : Int) (hb : b = (k : Int)) (hk : k ≤ 64) : Ar.real.p2 b 64 = 2 ^ k := by
  rw [rw_p2, hb, Int.toNat_natCast, Nat.min_eq_left hk]

theorem word_step (kb : Int) (k : Nat) (a c q : Int) (hq : Ar.real.p2 kb 64 = q) (hq2 : q = 2 ^ k) (hk : k ≤ 56) (ha : 0 ≤ a ∧ a < q) (hc : 0 ≤ c ∧ c < 256) (hle : 256 * q ≤ 18446744073709551616) (hm : ∀ c : Int, (c * q) % q = 0) (hmul : 0 ≤ c * q ∧ c * q ≤ 255 * q) :
    Ar.real.wrap .u64 (Ar.real.bor 64 a (Ar.real.wrap .u64 (Ar.real.wrap .u64 c * Ar.real.p2 kb 64))) = a + c * q := by
  have w1 : Ar.real.wrap .u64 c = c := by rw [rw_wrap, wu64 (by omega) (by omega)]
  have p64 : (2 : Int) ^ 64 = 18446744073709551616 := by decide
  rw [w1, hq]
  have w2 : Ar.real.wrap .u64 (c * q) = c * q := by rw [rw_wrap, wu64 (by omega) (by omega)]
  rw [w2, or_up (k := k) (by omega) ha.1 (by rw [← hq2]; exact ha.2) hmul.1 (by rw [← hq2]; exact hm c) (by rw [← hq2, p64]; omega), rw_wrap, wu64 (by omega) (by omega)]

theorem word_core (b : List Int) (nl : Option Bool) (hy : ∀ x ∈ b, 0 ≤ x ∧ x < 256) (hl : 8 ≤ b.length) :
    bodyX (Cx Ar.real (Out6 Ar.real) noL) 100 Tryd.f71 [u8s b nl false] [] = some (u64x (wordL (b.take 8)), []) := by
  match b, hl with
  | c0 :: c1 :: c2 :: c3 :: c4 :: c5 :: c6 :: c7 :: r, _ =>
    have h0 := hy c0 (by simp)
    have h1 := hy c1 (by simp)
    have h2 := hy c2 (by simp)
    have h3 := hy c3 (by simp)
    have h4 := hy c4 (by simp)
    have h5 := hy c5 (by simp)
    have h6 := hy c6 (by simp)
    have h7 := hy c7 (by simp)
    rw [tWord]
    have hlen : (((c0 :: c1 :: c2 :: c3 :: c4 :: c5 :: c6 :: c7 :: r).length : Nat) : Int) = r.length + 8 := by simp only [List.length_cons]; omega
    simp only [hlen, show Int.toNat 0 = 0 from rfl, show Int.toNat 1 = 1 from rfl, show Int.toNat 2 = 2 from rfl, show Int.toNat 3 = 3 from rfl, show Int.toNat 4 = 4 from rfl, show Int.toNat 5 = 5 from rfl, show Int.toNat 6 = 6 from rfl, show Int.toNat 7 = 7 from rfl, List.getD_cons_zero, List.getD_cons_succ]
    iterate 8 rw [bt (by rw [decide_eq_true_eq]; omega)]
    have w0 : Ar.real.wrap .u64 c0 = c0 := by rw [rw_wrap, wu64 (by omega) (by omega)]
    have s1 := word_step 8 8 c0 c1 256 ((p2_64 8 _ rfl (by decide)).trans (by decide)) (by decide) (by decide) (by omega) h1 (by omega) (by intro c; omega) (by omega)
    have s2 := word_step 16 16 (c0 + c1 * 256) c2 65536 ((p2_64 16 _ rfl (by decide)).trans (by decide)) (by decide) (by decide) (by omega) h2 (by omega) (by intro c; omega) (by omega)
    have s3 := word_step 24 24 (c0 + c1 * 256 + c2 * 65536) c3 16777216 ((p2_64 24 _ rfl (by decide)).trans (by decide)) (by decide) (by decide) (by omega) h3 (by omega) (by intro c; omega) (by omega)
    have s4 := word_step 32 32 (c0 + c1 * 256 + c2 * 65536 + c3 * 16777216) c4 4294967296 ((p2_64 32 _ rfl (by decide)).trans (by decide)) (by decide) (by decide) (by omega) h4 (by omega) (by intro c; omega) (by omega)
    have s5 := word_step 40 40 (c0 + c1 * 256 + c2 * 65536 + c3 * 16777216 + c4 * 4294967296) c5 1099511627776 ((p2_64 40 _ rfl (by decide)).trans (by decide)) (by decide) (by decide) (by omega) h5 (by omega) (by intro c; omega) (by omega)
    have s6 := word_step 48 48 (c0 + c1 * 256 + c2 * 65536 + c3 * 16777216 + c4 * 4294967296 + c5 * 1099511627776) c6 281474976710656 ((p2_64 48 _ rfl (by decide)).trans (by decide)) (by decide) (by decide) (by omega) h6 (by omega) (by intro c; omega) (by omega)
    have s7 := word_step 56 56 (c0 + c1 * 256 + c2 * 65536 + c3 * 16777216 + c4 * 4294967296 + c5 * 1099511627776 + c6 * 281474976710656) c7 72057594037927936 ((p2_64 56 _ rfl (by decide)).trans (by decide)) (by decide) (by decide) (by omega) h7 (by omega) (by intro c; omega) (by omega)
    rw [w0, s1, s2, s3, s4, s5, s6, s7]
    clear s1 s2 s3 s4 s5 s6 s7
    have e : c0 + c1 * 256 + c2 * 65536 + c3 * 16777216 + c4 * 4294967296 + c5 * 1099511627776 + c6 * 281474976710656 + c7 * 72057594037927936 = wordL [c0, c1, c2, c3, c4, c5, c6, c7] := by
      simp only [wordL]
      omega
    rw [e]
    rfl

theorem word_ok : OrcOk Tryd.prog 71 (.pure (wordF Ar.real)) := by
  refine pureOk (Cx.ok o_ut6 noL) mixed 71 Tryd.f71 (by kernel_rfl) (by kernel_rfl) (by kernel_rfl) 100 0 (by kernel_rfl) (fun i h => by omega) fun args r h => ?_
  unfold wordF at h
  split at h
  · rename_i b nl
    obtain ⟨hg, rfl⟩ := Tr.one h
    rw [rw_se, Bool.and_eq_true, bytesB_iff, decide_eq_true_eq] at hg
    exact ⟨rfl, rfl, [], word_core b nl hg.1 hg.2⟩
  · cases h

theorem o_ut7 : OOk (Out7 Ar.real) := (o_ut6).add word_ok

end Go.Proofs.YtaefpopjlmhmoaaDoor.V.U

/- Chapter 01, utf: whether bytes are valid is told as they tell. -/
namespace Go.Proofs.YtaefpopjlmhmoaaDoor.V.U
open Go
set_option linter.unusedVariables false
set_option linter.unusedSimpArgs false

theorem valid_nil : validU [] = true := rfl
theorem valid_step {b : List Int} (hy : ∀ x ∈ b, 0 ≤ x ∧ x < 256) (hne : b ≠ []) : validU b = match takeU b with
    | some (_, r) => validU r
    | none => false := by
  unfold validU
  rw [readU_step hy hne]
  cases takeU b with
  | none => rfl
  | some p => simp
theorem valid_asc1 {c : Int} {s : List Int} (hy : ∀ x ∈ (c :: s), 0 ≤ x ∧ x < 256) (h : c < 128) : validU (c :: s) = validU s := by
  rw [valid_step hy (by simp)]
  simp [takeU, h]
theorem valid_asc : ∀ (k : Nat) (b : List Int), (∀ x ∈ b, 0 ≤ x ∧ x < 256) → asc (b.take k) = true → validU b = validU (b.drop k)
  | 0, b, _, _ => by simp
  | k + 1, [], _, _ => by simp
  | k + 1, c :: s, hy, h => by
    simp only [asc, List.take_succ_cons, List.all_cons, Bool.and_eq_true, decide_eq_true_eq] at h
    rw [valid_asc1 hy h.1, List.drop_succ_cons]
    exact valid_asc k s (fun x hx => hy x (by simp [hx])) h.2

theorem sk32_props : ∀ (n : Nat) (b : List Int), (∀ x ∈ b, 0 ≤ x ∧ x < 256) → (∀ x ∈ sk32 n b, 0 ≤ x ∧ x < 256) ∧ validU (sk32 n b) = validU b ∧ (sk32 n b).length ≤ b.length
  | 0, b, hy => ⟨hy, rfl, Nat.le_refl _⟩
  | n + 1, b, hy => by
    unfold sk32
    cases hc : (decide (32 < b.length) && (b.take 32).all fun c => decide (c < 128)) with
    | false => exact ⟨hy, rfl, Nat.le_refl _⟩
    | true =>
      rw [Bool.and_eq_true] at hc
      have hy' : ∀ x ∈ b.drop 32, 0 ≤ x ∧ x < 256 := fun x hx => hy x (List.mem_of_mem_drop hx)
      obtain ⟨h1, h2, h3⟩ := sk32_props n (b.drop 32) hy'
      refine ⟨h1, h2.trans (valid_asc 32 b hy hc.2).symm, ?_⟩
      rw [List.length_drop] at h3
      exact Nat.le_trans h3 (by omega)

theorem take_bytes {b : List Int} (hy : ∀ x ∈ b, 0 ≤ x ∧ x < 256) (k n : Nat) : ∀ x ∈ (b.drop k).take n, 0 ≤ x ∧ x < 256 :=
  fun x hx => hy x (List.mem_of_mem_drop (List.mem_of_mem_take hx))
theorem take_len {b : List Int} (k : Nat) (h : k + 8 ≤ b.length) : ((b.drop k).take 8).length = 8 := by
  rw [List.length_take, List.length_drop]; omega
theorem asc_take32 (b : List Int) : asc (b.take 32) = (asc ((b.drop 0).take 8) && asc ((b.drop 8).take 8) && (asc ((b.drop 16).take 8) && asc ((b.drop 24).take 8))) := by
  have e : b.take 32 = (b.drop 0).take 8 ++ ((b.drop 8).take 8 ++ ((b.drop 16).take 8 ++ (b.drop 24).take 8)) := by
    rw [List.drop_zero]
    conv => lhs; rw [show (32 : Nat) = 8 + (8 + (8 + 8)) by rfl]
    rw [List.take_add, List.take_add, List.take_add, List.drop_drop, List.drop_drop]
  rw [e]
  simp [asc, List.all_append, Bool.and_assoc]

theorem loopValB (nl : Option Bool) (x : Bool) : ∀ (n : Nat) (b : List Int), b.length ≤ n → (∀ x ∈ b, 0 ≤ x ∧ x < 256) →
    LoopTo (Cx Ar.real (Out7 Ar.real) (Lval Ar.real)) 100 (loopAt Tryd.f49 1) 188 [0, 2] [u8s b nl false, boolx x] [] (.exit 2, [u8s (sk32 n b) nl false, boolx x], []) := by
  intro n
  induction n with
  | zero =>
    intro b hl hy
    have : b = [] := by cases b with | nil => rfl | cons _ _ => simp at hl
    subst this
    refine LoopTo.done (by simp) fun k => ?_
    rw [lValB, bf (by decide)]
    rfl
  | succ n ih =>
    intro b hl hy
    unfold sk32
    by_cases h32 : 32 < b.length
    · rw [decide_eq_true h32, Bool.true_and]
      have g : ∀ m : Nat, m + 8 ≤ b.length → (bytesB (b.drop m) && decide (8 ≤ (b.drop m).length)) = true := by
        intro m hm
        rw [bytesB_iff.2 (fun x hx => hy x (List.mem_of_mem_drop hx)), Bool.true_and, decide_eq_true_eq, List.length_drop]
        omega
      have g0 : (bytesB b && decide (8 ≤ b.length)) = true := by
        rw [bytesB_iff.2 hy, Bool.true_and, decide_eq_true_eq]; omega
      have t := word4_test (take_bytes hy 0 8) (take_len 0 (by omega)) (take_bytes hy 8 8) (take_len 8 (by omega)) (take_bytes hy 16 8) (take_len 16 (by omega)) (take_bytes hy 24 8) (take_len 24 (by omega))
      rw [← asc_take32, List.drop_zero] at t
      have hA : ∀ q : Int, q ≤ 32 → decide ((0 : Int) ≤ q ∧ q ≤ (b.length : Int)) = decide ((0 : Int) ≤ q) := by
        intro q hq
        by_cases h0 : (0 : Int) ≤ q
        · rw [decide_eq_true h0, decide_eq_true (by omega)]
        · rw [decide_eq_false h0, decide_eq_false (by omega)]
      have step : ∀ (R : Type) (k : Ex → List X → Hp → Option R), stepF (Cx Ar.real (Out7 Ar.real) (Lval Ar.real)) 100 (loopAt Tryd.f49 1) 188 [0, 2] [u8s b nl false, boolx x] [] k =
          bif asc (b.take 32) then k .normal [u8s (b.drop 32) nl false, boolx x] [] else k (.exit 2) [u8s b nl false, boolx x] [] := by
        intro R k
        rw [lValB]
        simp only [rw_se, show Int.toNat 8 = 8 from rfl, show Int.toNat 16 = 16 from rfl, show Int.toNat 24 = 24 from rfl, show Int.toNat 32 = 32 from rfl]
        rw [bt (by rw [decide_eq_true (by omega)]; rfl), bt g0, bt (by rw [hA 8 (by decide)]; decide), bt (g 8 (by omega)), bt (by rw [hA 16 (by decide)]; decide), bt (g 16 (by omega)), bt (by rw [hA 24 (by decide)]; decide), bt (g 24 (by omega)), t]
        rw [bt (a := k .normal _ _) (by rw [hA 32 (by decide)]; decide)]
      have ha : ((b.take 32).all fun c => decide (c < 128)) = asc (b.take 32) := rfl
      rw [ha]
      cases hc : asc (b.take 32) with
      | true =>
        rw [cond_true]
        refine LoopTo.next (fun k => ?_) (ih (b.drop 32) (by rw [List.length_drop]; omega) (fun x hx => hy x (List.mem_of_mem_drop hx)))
        rw [step, hc]
        rfl
      | false =>
        rw [cond_false]
        refine LoopTo.done (by simp) fun k => ?_
        rw [step, hc]
        rfl
    · rw [decide_eq_false h32, Bool.false_and, cond_false]
      refine LoopTo.done (by simp) fun k => ?_
      rw [lValB, bf (by rw [decide_eq_false (by omega)]; rfl)]

/-! A byte from 128 on. -/
def SS : Ty := .struct (.prod (.int .u8) (.prod (.int .u8) .unit))
def HS (lo hi : Int) : Hp := [(SS, X.d SS (lo, hi, ()))]

theorem valA_hi (R : Type) (k : Ex → List X → Hp → Option R) (c : Int) (s : List Int) (nl : Option Bool) (x : Bool) (v lo hi sz idx : Int) (hc : 0 ≤ c ∧ c < 256) (h128 : 128 ≤ c) (hv : List.getD firstT c.toNat 0 = v)
    (hsz : Ar.real.wrap .i64 (Ar.real.wrap .u8 (Ar.real.band 8 v 7)) = sz) (hsz2 : sz = 2 ∨ sz = 3 ∨ sz = 4) (hidx : Int.fdiv v (Ar.real.p2 4 8) = idx) (hidx2 : 0 ≤ idx ∧ idx < 16)
    (hacc : List.getD acceptT idx.toNat (Ty.zero (.struct (.prod (.int .u8) (.prod (.int .u8) .unit)))) = (lo, hi, ())) :
    stepF (Cx Ar.real (Out7 Ar.real) (Lval Ar.real)) 100 (loopAt Tryd.f49 0) 188 [0, 2] [u8s (c :: s) nl false, boolx x] [] k =
      match (bif decide ((s.length : Int) + 1 < sz) then none else slowV c s lo hi sz) with
      | some (_, n) => k .normal [u8s ((c :: s).drop n.toNat) nl false, boolx x] (HS lo hi)
      | none => k .ret [u8s (c :: s) nl false, boolx false] (HS lo hi) := by
  rw [lValA]
  have hl : (((c :: s).length : Nat) : Int) = (s.length : Int) + 1 := by simp
  simp only [show Int.toNat 0 = 0 from rfl, List.getD_cons_zero, hv, hsz, hidx, hacc, hl]
  rw [bt (by rw [decide_eq_true_eq]; omega), bt (by rw [decide_eq_true_eq]; omega), bf (by rw [decide_eq_false_iff_not]; omega), bt (by rw [decide_eq_true_eq]; exact ⟨hc.1, by simpa using hc.2⟩), bt (by rw [decide_eq_true_eq]; exact ⟨hidx2.1, by simpa using hidx2.2⟩)]
  have short : ∀ n : Int, (s.length : Int) + 1 < n → (bif decide ((s.length : Int) + 1 < n) then (none : Option (Int × Int)) else slowV c s lo hi n) = none := fun n h => by rw [decide_eq_true h]; rfl
  have long : ∀ n : Int, ¬ (s.length : Int) + 1 < n → (bif decide ((s.length : Int) + 1 < n) then (none : Option (Int × Int)) else slowV c s lo hi n) = slowV c s lo hi n := fun n h => by rw [decide_eq_false h]; rfl
  rcases hsz2 with e | e | e <;> subst e
  · rw [bt (c := (2 : Int) == 2) (by decide)]
    by_cases h1 : (s.length : Int) + 1 < 2
    · rw [bf (by rw [decide_eq_true h1]; rfl), short _ h1]
      rfl
    · rw [bt (by rw [decide_eq_false h1]; rfl), long _ h1]
      cases s with
      | nil => simp at h1
      | cons d r =>
        rw [List.length_cons]
        simp only [show Int.toNat 1 = 1 from rfl, List.getD_cons_succ, List.getD_cons_zero, slowV]
        have a : decide ((0 : Int) ≤ 1 ∧ (1 : Int) < ((r.length + 1 : Nat) : Int) + 1) = true := by rw [decide_eq_true_eq]; omega
        rw [bt a]
        by_cases g1 : d < lo
        · rw [bf (by rw [decide_eq_true g1]; rfl), if_pos (.inl g1)]
          rfl
        · rw [bt (by rw [decide_eq_false g1]; rfl), bt a]
          by_cases g2 : hi < d
          · rw [bt (decide_eq_true g2), if_pos (.inr g2)]
            rfl
          · rw [bf (decide_eq_false g2), if_neg (by omega), if_pos (by decide), bt (by rw [decide_eq_true_eq]; omega)]
            rfl
  · rw [bf (c := (3 : Int) == 2) (by decide), bt (c := (3 : Int) == 3) (by decide)]
    by_cases h1 : (s.length : Int) + 1 < 3
    · rw [bf (by rw [decide_eq_true h1]; rfl), short _ h1]
      rfl
    · rw [bt (by rw [decide_eq_false h1]; rfl), long _ h1]
      match s, h1 with
      | [], h1 => simp at h1
      | [d], h1 => simp at h1
      | d :: f :: r, h1 =>
        rw [List.length_cons, List.length_cons]
        simp only [show Int.toNat 1 = 1 from rfl, show Int.toNat 2 = 2 from rfl, List.getD_cons_succ, List.getD_cons_zero, slowV]
        have a : decide ((0 : Int) ≤ 1 ∧ (1 : Int) < ((r.length + 1 + 1 : Nat) : Int) + 1) = true := by rw [decide_eq_true_eq]; omega
        have a2 : decide ((0 : Int) ≤ 2 ∧ (2 : Int) < ((r.length + 1 + 1 : Nat) : Int) + 1) = true := by rw [decide_eq_true_eq]; omega
        rw [bt a]
        by_cases g1 : d < lo
        · rw [bf (by rw [decide_eq_true g1]; rfl), if_pos (.inl g1)]
          rfl
        · rw [bt (by rw [decide_eq_false g1]; rfl), bt a]
          by_cases g2 : hi < d
          · rw [bf (by rw [decide_eq_true g2]; rfl), if_pos (.inr g2)]
            rfl
          · rw [bt (by rw [decide_eq_false g2]; rfl), bt a2, if_neg (by omega), if_neg (by decide)]
            by_cases g4 : f < 128
            · rw [bf (by rw [decide_eq_true g4]; rfl), if_pos (.inl g4)]
              rfl
            · rw [bt (by rw [decide_eq_false g4]; rfl), bt a2]
              by_cases g5 : 191 < f
              · rw [bt (decide_eq_true g5), if_pos (.inr g5)]
                rfl
              · rw [bf (decide_eq_false g5), if_neg (by omega), if_pos (by decide), bt (by rw [decide_eq_true_eq]; omega)]
                rfl
  · rw [bf (c := (4 : Int) == 2) (by decide), bf (c := (4 : Int) == 3) (by decide), bt (c := (4 : Int) == 4) (by decide)]
    by_cases h1 : (s.length : Int) + 1 < 4
    · rw [bf (by rw [decide_eq_true h1]; rfl), short _ h1]
      rfl
    · rw [bt (by rw [decide_eq_false h1]; rfl), long _ h1]
      match s, h1 with
      | [], h1 => simp at h1
      | [d], h1 => simp at h1
      | [d, f], h1 => simp at h1
      | d :: f :: g :: r, h1 =>
        rw [List.length_cons, List.length_cons, List.length_cons]
        simp only [show Int.toNat 1 = 1 from rfl, show Int.toNat 2 = 2 from rfl, show Int.toNat 3 = 3 from rfl, List.getD_cons_succ, List.getD_cons_zero, slowV]
        have a : decide ((0 : Int) ≤ 1 ∧ (1 : Int) < ((r.length + 1 + 1 + 1 : Nat) : Int) + 1) = true := by rw [decide_eq_true_eq]; omega
        have a2 : decide ((0 : Int) ≤ 2 ∧ (2 : Int) < ((r.length + 1 + 1 + 1 : Nat) : Int) + 1) = true := by rw [decide_eq_true_eq]; omega
        have a3 : decide ((0 : Int) ≤ 3 ∧ (3 : Int) < ((r.length + 1 + 1 + 1 : Nat) : Int) + 1) = true := by rw [decide_eq_true_eq]; omega
        rw [bt a]
        by_cases g1 : d < lo
        · rw [bf (by rw [decide_eq_true g1]; rfl), if_pos (.inl g1)]
          rfl
        · rw [bt (by rw [decide_eq_false g1]; rfl), bt a]
          by_cases g2 : hi < d
          · rw [bf (by rw [decide_eq_true g2]; rfl), if_pos (.inr g2)]
            rfl
          · rw [bt (by rw [decide_eq_false g2]; rfl), bt a2, if_neg (by omega), if_neg (by decide)]
            by_cases g4 : f < 128
            · rw [bf (by rw [decide_eq_true g4]; rfl), if_pos (.inl g4)]
              rfl
            · rw [bt (by rw [decide_eq_false g4]; rfl), bt a2]
              by_cases g5 : 191 < f
              · rw [bf (by rw [decide_eq_true g5]; rfl), if_pos (.inr g5)]
                rfl
              · rw [bt (by rw [decide_eq_false g5]; rfl), bt a3, if_neg (by omega), if_neg (by decide)]
                by_cases g7 : g < 128
                · rw [bf (by rw [decide_eq_true g7]; rfl), if_pos (.inl g7)]
                  rfl
                · rw [bt (by rw [decide_eq_false g7]; rfl), bt a3]
                  by_cases g8 : 191 < g
                  · rw [bt (decide_eq_true g8), if_pos (.inr g8)]
                    rfl
                  · rw [bf (decide_eq_false g8), if_neg (by omega), bt (by rw [decide_eq_true_eq]; omega)]
                    rfl

theorem valA_bad (R : Type) (k : Ex → List X → Hp → Option R) (c : Int) (s : List Int) (nl : Option Bool) (x : Bool) (hc : 0 ≤ c ∧ c < 256) (h128 : 128 ≤ c) (hv : List.getD firstT c.toNat 0 = 241) :
    stepF (Cx Ar.real (Out7 Ar.real) (Lval Ar.real)) 100 (loopAt Tryd.f49 0) 188 [0, 2] [u8s (c :: s) nl false, boolx x] [] k = k .ret [u8s (c :: s) nl false, boolx false] (HS 0 0) := by
  rw [lValA]
  have hl : (((c :: s).length : Nat) : Int) = (s.length : Int) + 1 := by simp
  have hsz : Ar.real.wrap .i64 (Ar.real.wrap .u8 (Ar.real.band 8 241 7)) = 1 := by decide
  have hidx : Int.fdiv 241 (Ar.real.p2 4 8) = 15 := by decide
  have hacc : List.getD acceptT (Int.toNat 15) (Ty.zero (.struct (.prod (.int .u8) (.prod (.int .u8) .unit)))) = (0, 0, ()) := rfl
  simp only [show Int.toNat 0 = 0 from rfl, List.getD_cons_zero, hv, hsz, hidx, hacc, hl]
  rw [bt (by rw [decide_eq_true_eq]; omega), bt (by rw [decide_eq_true_eq]; omega), bf (by rw [decide_eq_false_iff_not]; omega), bt (by rw [decide_eq_true_eq]; exact ⟨hc.1, by simpa using hc.2⟩), bt (by decide), bf (by decide), bf (by decide), bf (by decide)]
  rfl

end Go.Proofs.YtaefpopjlmhmoaaDoor.V.U

/- Chapter 01, utf: bytes are read as signs as they tell. -/
namespace Go.Proofs.YtaefpopjlmhmoaaDoor.V.U
open Go
set_option linter.unusedVariables false
set_option linter.unusedSimpArgs false

def resV (b : List Int) : Ex × List X × Hp := bif validU b then (.exit 0, [.dead, .dead], []) else (.ret, [.dead, boolx false], [])

theorem hs_weak (lo hi : Int) : HWeak (HS lo hi) [] := HWeak.of trivial rfl

theorem valid_tk {c : Int} {s : List Int} (hy : ∀ x ∈ (c :: s), 0 ≤ x ∧ x < 256) : validU (c :: s) = match tk (c :: s) with
    | some (_, k) => validU ((c :: s).drop k.toNat)
    | none => false := by
  rw [valid_step hy (by simp)]
  unfold tk
  cases ht : takeU (c :: s) with
  | none => rfl
  | some p =>
    obtain ⟨n, r⟩ := p
    obtain ⟨_, h2, _⟩ := try_of hy ht
    obtain ⟨_, h3⟩ := takeU_some hy ht
    have e : (((c :: s).length : Int) - (r.length : Int)).toNat = (ub n).length := by omega
    simp only [e]
    congr 1
    conv => rhs; rw [h3]
    simp

theorem tk_pos {c : Int} {s : List Int} (hy : ∀ x ∈ (c :: s), 0 ≤ x ∧ x < 256) {n k : Int} (h : tk (c :: s) = some (n, k)) : 1 ≤ k.toNat := by
  unfold tk at h
  cases ht : takeU (c :: s) with
  | none => rw [ht] at h; cases h
  | some p =>
    obtain ⟨n', r⟩ := p
    rw [ht] at h
    obtain ⟨_, h2, _⟩ := try_of hy ht
    have := ub_pos n'
    simp only [Option.some.injEq, Prod.mk.injEq] at h
    omega

theorem loopValA (nl : Option Bool) : ∀ (n : Nat) (b : List Int) (x : Bool), b.length ≤ n → b.length ≤ 1000000 → (∀ x ∈ b, 0 ≤ x ∧ x < 256) →
    LoopTo (Cx Ar.real (Out7 Ar.real) (Lval Ar.real)) 100 (loopAt Tryd.f49 0) 188 [0, 2] [u8s b nl false, boolx x] [] (resV b) := by
  intro n
  induction n with
  | zero =>
    intro b x hl h6 hy
    have : b = [] := by cases b with | nil => rfl | cons _ _ => simp at hl
    subst this
    refine LoopTo.left (by simp [resV, valid_nil]) fun k => ?_
    rw [lValA, bf (by decide)]
    exact ⟨_, rfl, forget_dead _ 2⟩
  | succ n ih =>
    intro b x hl h6 hy
    cases b with
    | nil =>
      refine LoopTo.left (by simp [resV, valid_nil]) fun k => ?_
      rw [lValA, bf (by decide)]
      exact ⟨_, rfl, forget_dead _ 2⟩
    | cons c s =>
      have hc := hy c (by simp)
      have hs : ∀ x ∈ s, 0 ≤ x ∧ x < 256 := fun x hx => hy x (by simp [hx])
      simp only [List.length_cons] at hl h6
      by_cases h128 : c < 128
      · -- below 128
        have hv := valid_asc1 hy h128
        have rv : ∀ b', validU b' = validU s → resV b' = resV (c :: s) := fun b' h => by unfold resV; rw [hv, h]
        have hl1 : (((c :: s).length : Nat) : Int) = (s.length : Int) + 1 := by simp
        have hds : ∀ m : Nat, ∀ x ∈ s.drop m, 0 ≤ x ∧ x < 256 := fun m x hx => hs x (List.mem_of_mem_drop hx)
        have gw : ∀ m : Nat, m + 8 ≤ s.length → (bytesB (s.drop m) && decide (8 ≤ (s.drop m).length)) = true := by
          intro m hm
          rw [bytesB_iff.2 (hds m), Bool.true_and, decide_eq_true_eq, List.length_drop]
          omega
        have step : ∀ (R : Type) (k : Ex → List X → Hp → Option R), stepF (Cx Ar.real (Out7 Ar.real) (Lval Ar.real)) 100 (loopAt Tryd.f49 0) 188 [0, 2] [u8s (c :: s) nl false, boolx x] [] k =
            bif decide (8 < s.length) && asc (s.take 8) then
              (bif decide (24 < s.length) && (asc ((s.drop 8).take 8) && asc ((s.drop 16).take 8)) then k .normal [u8s (sk32 (s.drop 24).length (s.drop 24)) nl false, boolx x] []
               else k .normal [u8s (s.drop 8) nl false, boolx x] [])
            else k .normal [u8s s nl false, boolx x] [] := by
          intro R k
          rw [lValA]
          simp only [rw_se, show Int.toNat 0 = 0 from rfl, show Int.toNat 1 = 1 from rfl, show Int.toNat 8 = 8 from rfl, show Int.toNat 16 = 16 from rfl, List.getD_cons_zero, List.drop_succ_cons, List.drop_zero, hl1, List.drop_drop]
          rw [bt (by rw [decide_eq_true_eq]; omega), bt (by rw [decide_eq_true_eq]; omega), bt (decide_eq_true h128), bt (by rw [decide_eq_true_eq]; omega)]
          by_cases h8 : 8 < s.length
          · rw [decide_eq_true h8, Bool.true_and]
            rw [bt (by rw [decide_eq_true (by omega)]; rfl)]
            have g0 := gw 0 (by omega)
            rw [List.drop_zero] at g0
            have t1 := word_test (take_bytes hs 0 8) (take_len 0 (by omega))
            rw [List.drop_zero] at t1
            rw [bt g0, t1]
            cases ha : asc (s.take 8) with
            | false => rfl
            | true =>
              simp only [cond_true]
              have hl8 : (((s.drop 8).length : Nat) : Int) = (s.length : Int) - 8 := by rw [List.length_drop]; omega
              simp only [hl8]
              rw [bt (by rw [decide_eq_true_eq]; omega)]
              by_cases h24 : 24 < s.length
              · rw [decide_eq_true h24, Bool.true_and]
                rw [bt (by rw [decide_eq_true (by omega)]; rfl), bt (gw 8 (by omega)), bt (by rw [decide_eq_true_eq]; omega), bt (gw 16 (by omega))]
                have t2 := word2_test (take_bytes hs 8 8) (take_len 8 (by omega)) (take_bytes hs 16 8) (take_len 16 (by omega))
                rw [t2]
                cases hb : (asc ((s.drop 8).take 8) && asc ((s.drop 16).take 8)) with
                | false => rfl
                | true =>
                  simp only [cond_true]
                  rw [bt (by rw [decide_eq_true_eq]; omega), bt (by rw [bytesB_iff.2 (hds _), Bool.true_and, decide_eq_true_eq, List.length_drop]; omega)]
              · rw [decide_eq_false h24, Bool.false_and, cond_false]
                rw [bf (by rw [decide_eq_false (by omega)]; rfl)]
          · rw [decide_eq_false h8, Bool.false_and, cond_false]
            rw [bf (by rw [decide_eq_false (by omega)]; rfl)]
        cases c1 : (decide (8 < s.length) && asc (s.take 8)) with
        | false =>
          rw [← rv s rfl]
          refine LoopTo.next (fun k => ?_) (ih s x (by omega) (by omega) hs)
          rw [step, c1]
          rfl
        | true =>
          rw [Bool.and_eq_true] at c1
          have v8 := valid_asc 8 s hs c1.2
          cases c2 : (decide (24 < s.length) && (asc ((s.drop 8).take 8) && asc ((s.drop 16).take 8))) with
          | false =>
            rw [← rv (s.drop 8) v8.symm]
            refine LoopTo.next (fun k => ?_) (ih (s.drop 8) x (by rw [List.length_drop]; omega) (by rw [List.length_drop]; omega) (hds 8))
            rw [step, c1.1, c1.2, c2]
            rfl
          | true =>
            rw [Bool.and_eq_true, Bool.and_eq_true] at c2
            have v16 := valid_asc 8 (s.drop 8) (hds 8) c2.2.1
            rw [List.drop_drop] at v16
            have v24 := valid_asc 8 (s.drop 16) (hds 16) c2.2.2
            rw [List.drop_drop] at v24
            obtain ⟨p1, p2, p3⟩ := sk32_props (s.drop 24).length (s.drop 24) (hds 24)
            have hld : (s.drop 24).length = s.length - 24 := List.length_drop
            rw [← rv (sk32 (s.drop 24).length (s.drop 24)) (p2.trans (v24.symm.trans (v16.symm.trans v8.symm)))]
            refine LoopTo.next (fun k => ?_) (ih (sk32 (s.drop 24).length (s.drop 24)) x (by omega) (by omega) p1)
            rw [step, c1.1, c1.2, c2.1, c2.2.1, c2.2.2]
            rfl
      · -- from 128 on
        obtain ⟨m, rfl⟩ := Int.eq_ofNat_of_zero_le hc.1
        have hf := first_at hc.1 hc.2
        rw [Int.toNat_natCast] at hf
        have fin : ∀ (lo hi : Int), (∀ (R : Type) (k : Ex → List X → Hp → Option R), stepF (Cx Ar.real (Out7 Ar.real) (Lval Ar.real)) 100 (loopAt Tryd.f49 0) 188 [0, 2] [u8s ((m : Int) :: s) nl false, boolx x] [] k =
            match tk ((m : Int) :: s) with
            | some (_, n) => k .normal [u8s (((m : Int) :: s).drop n.toNat) nl false, boolx x] (HS lo hi)
            | none => k .ret [u8s ((m : Int) :: s) nl false, boolx false] (HS lo hi)) →
            LoopTo (Cx Ar.real (Out7 Ar.real) (Lval Ar.real)) 100 (loopAt Tryd.f49 0) 188 [0, 2] [u8s ((m : Int) :: s) nl false, boolx x] [] (resV ((m : Int) :: s)) := by
          intro lo hi step
          have hv := valid_tk hy
          cases ht : tk ((m : Int) :: s) with
          | none =>
            rw [ht] at hv
            have : resV ((m : Int) :: s) = (.ret, [.dead, boolx false], []) := by unfold resV; rw [hv]; rfl
            rw [this]
            refine LoopTo.end (ys := [u8s ((m : Int) :: s) nl false, boolx false]) (by simp) (fun k => ?_) (Forget.cons (.inl rfl) (Forget.same _)) (hs_weak lo hi) (by simp) (.inr rfl)
            rw [step, ht]
          | some p =>
            obtain ⟨v, n'⟩ := p
            rw [ht] at hv
            have hp := tk_pos hy ht
            have : resV ((m : Int) :: s) = resV (((m : Int) :: s).drop n'.toNat) := by unfold resV; rw [hv]
            rw [this]
            refine LoopTo.weak (ys := [u8s (((m : Int) :: s).drop n'.toNat) nl false, boolx x]) (fun k => ?_) (Forget.same _) (hs_weak lo hi) (by simp) (.inr rfl) (ih (((m : Int) :: s).drop n'.toNat) x (by rw [List.length_drop, List.length_cons]; omega) (by rw [List.length_drop, List.length_cons]; omega) (fun x hx => hy x (List.mem_of_mem_drop hx)))
            rw [step, ht]
        have go : ∀ (v lo hi sz idx : Int), fx m = v → Ar.real.wrap .i64 (Ar.real.wrap .u8 (Ar.real.band 8 v 7)) = sz → (sz = 2 ∨ sz = 3 ∨ sz = 4) → Int.fdiv v (Ar.real.p2 4 8) = idx → (0 ≤ idx ∧ idx < 16) →
            List.getD acceptT idx.toNat (Ty.zero (.struct (.prod (.int .u8) (.prod (.int .u8) .unit)))) = (lo, hi, ()) → (bif decide ((s.length : Int) + 1 < sz) then none else slowV m s lo hi sz) = tk ((m : Int) :: s) →
            LoopTo (Cx Ar.real (Out7 Ar.real) (Lval Ar.real)) 100 (loopAt Tryd.f49 0) 188 [0, 2] [u8s ((m : Int) :: s) nl false, boolx x] [] (resV ((m : Int) :: s)) := by
          intro v lo hi sz idx e1 e3 e4 e5 e6 e7 e8
          refine fin lo hi fun R k => ?_
          rw [valA_hi R k m s nl x v lo hi sz idx hc (by omega) (by rw [Int.toNat_natCast, hf, e1]) e3 e4 e5 e6 e7, e8]
          all_goals (cases tk ((m : Int) :: s) <;> rfl)
        have bad : fx m = 241 → none = tk ((m : Int) :: s) → LoopTo (Cx Ar.real (Out7 Ar.real) (Lval Ar.real)) 100 (loopAt Tryd.f49 0) 188 [0, 2] [u8s ((m : Int) :: s) nl false, boolx x] [] (resV ((m : Int) :: s)) := by
          intro e1 e2
          refine fin 0 0 fun R k => ?_
          rw [valA_bad R k m s nl x hc (by omega) (by rw [Int.toNat_natCast, hf, e1]), ← e2]
        have n1 : ¬ m < 128 := by omega
        by_cases c1 : m < 194
        · exact bad (by simp [fx, n1, c1]) (clsBad _ _ (.inl (by omega)) hs)
        by_cases c2 : m < 224
        · exact go 2 128 191 2 0 (by simp [fx, n1, c1, c2]) (by decide) (by decide) (by decide) (by decide) rfl (cls2 _ _ (by omega) hs)
        by_cases c3 : m = 224
        · exact go 19 160 191 3 1 (by simp [fx, n1, c1, c2, c3]) (by decide) (by decide) (by decide) (by decide) rfl (cls3 _ _ _ _ (by omega) hs)
        by_cases c4 : m = 237
        · exact go 35 128 159 3 2 (by simp [fx, n1, c1, c2, c3, c4]) (by decide) (by decide) (by decide) (by decide) rfl (cls3 _ _ _ _ (by omega) hs)
        by_cases c5 : m < 240
        · exact go 3 128 191 3 0 (by simp [fx, n1, c1, c2, c3, c4, c5]) (by decide) (by decide) (by decide) (by decide) rfl (cls3 _ _ _ _ (by omega) hs)
        by_cases c6 : m = 240
        · exact go 52 144 191 4 3 (by simp [fx, n1, c1, c2, c3, c4, c5, c6]) (by decide) (by decide) (by decide) (by decide) rfl (cls4 _ _ _ _ (by omega) hs)
        by_cases c7 : m < 244
        · exact go 4 128 191 4 0 (by simp [fx, n1, c1, c2, c3, c4, c5, c6, c7]) (by decide) (by decide) (by decide) (by decide) rfl (cls4 _ _ _ _ (by omega) hs)
        by_cases c8 : m = 244
        · exact go 68 128 143 4 4 (by simp [fx, n1, c1, c2, c3, c4, c5, c6, c7, c8]) (by decide) (by decide) (by decide) (by decide) rfl (cls4 _ _ _ _ (by omega) hs)
        exact bad (by simp [fx, n1, c1, c2, c3, c4, c5, c6, c7, c8]) (clsBad _ _ (.inr (by omega)) hs)

theorem valid_ok : OrcOk Tryd.prog 49 (.pure (validF Ar.real)) := by
  refine pureOk (Cx.ok o_ut7 (Lval Ar.real)) mixed 49 Tryd.f49 (by kernel_rfl) (by kernel_rfl) (by kernel_rfl) 100 2 (by kernel_rfl) (fun i h => ?_) fun args r h => ?_
  · have hi : i = 0 ∨ i = 1 := by omega
    rcases hi with rfl | rfl
    · refine Tells.mk (key := 2) (N := 188) (ks := [0, 2]) (F := LvalAF Ar.real) (by kernel_rfl) rfl fun xs H r h => ?_
      unfold LvalAF at h
      split at h
      · rename_i b nl x
        replace h : (Tr.test (bytesB b && decide (b.length ≤ 1000000)) (.test (validU b) _ _) .no).run some = some r := h
        have hg : (bytesB b && decide (b.length ≤ 1000000)) = true := by
          cases hc : (bytesB b && decide (b.length ≤ 1000000))
          · rw [hc] at h; cases h
          · rfl
        rw [hg] at h
        simp only [Bool.and_eq_true, decide_eq_true_eq, bytesB_iff] at hg
        have key := loopValA nl b.length b x (Nat.le_refl _) hg.2 hg.1
        unfold resV at key
        cases ha : validU b <;> rw [ha] at h key
        · cases h; exact key
        · cases h; exact key
      · cases h
    · refine Tells.mk (key := 10) (N := 188) (ks := [0, 2]) (F := LvalBF Ar.real) (by kernel_rfl) rfl fun xs H r h => ?_
      unfold LvalBF at h
      split at h
      · rename_i b nl x
        obtain ⟨hg, rfl⟩ := Tr.one h
        rw [rw_se, Bool.and_eq_true, decide_eq_true_eq, bytesB_iff] at hg
        exact loopValB nl x b.length b (Nat.le_refl _) hg.1
      · cases h
  · unfold validF at h
    split at h
    · rename_i b nl
      obtain ⟨hg, rfl⟩ := Tr.one h
      rw [rw_se] at hg
      refine ⟨rfl, rfl, [], ?_⟩
      rw [tValid]
      simp only [rw_se, Int.toNat_natCast, List.take_length]
      rw [bt (by rw [decide_eq_true_eq]; omega), bt (by rw [decide_eq_true_eq]; omega), bt hg]
      cases validU b <;> rfl
    · cases h

end Go.Proofs.YtaefpopjlmhmoaaDoor.V.U

/- Chapter 01, utf: a walk over a string's signs; signs are read as they tell. -/
namespace Go.Proofs.YtaefpopjlmhmoaaDoor.V.U
open Go
set_option linter.unusedVariables false
set_option linter.unusedSimpArgs false

theorem bytesOf_len (s : ByteArray) : (bytesOf s).length = s.size := by
  rw [bytesOf, List.length_map, Array.length_toList]; rfl
theorem bytesOf_str {b : List Int} (hy : ∀ x ∈ b, 0 ≤ x ∧ x < 256) : bytesOf (strOf b) = b := by
  rw [bytesOf, strOfNums_data, List.map_map]
  have : ∀ l : List Int, (∀ x ∈ l, 0 ≤ x ∧ x < 256) → l.map ((fun b : UInt8 => (b.toNat : Int)) ∘ fun n => UInt8.ofNat n.toNat) = l := by
    intro l
    induction l with
    | nil => intro _; rfl
    | cons x l ih =>
      intro h
      have hx := h x (by simp)
      rw [List.map_cons, ih (fun y hy => h y (by simp [hy]))]
      congr 1
      simp only [Function.comp]
      rw [UInt8.toNat_ofNat', Nat.mod_eq_of_lt (by omega)]
      omega
  exact this b hy
theorem bytesOf_byte (s : ByteArray) : ∀ x ∈ bytesOf s, 0 ≤ x ∧ x < 256 := by
  intro x hx
  obtain ⟨u, _, rfl⟩ := List.mem_map.1 hx
  have := u.toNat_lt
  omega
theorem get_at (s : ByteArray) (j : Nat) (h : j < s.size) : ((s.get! j).toNat : Int) = (bytesOf s).getD j 0 := by
  have hd : j < s.data.toList.length := by rw [Array.length_toList]; exact h
  rw [bytesOf, List.getD_eq_getElem?_getD, List.getElem?_map, List.getElem?_eq_getElem hd]
  simp only [Option.map_some, Option.getD_some, Array.getElem_toList]
  have : s.get! j = s.data[j]'h := by
    show s.data[j]! = _
    exact getElem!_pos s.data j h
  rw [this]

theorem decode_ok (s : ByteArray) (p : Nat) (n : Int) (r : List Int) (hp : p ≤ s.size) (h : takeU ((bytesOf s).drop p) = some (n, r)) :
    Utf8.decode s p = (n.toNat, (ub n).length) ∧ p + (ub n).length ≤ s.size ∧ r = (bytesOf s).drop (p + (ub n).length) ∧ goodN n = true := by
  have hy : ∀ x ∈ (bytesOf s).drop p, 0 ≤ x ∧ x < 256 := fun x hx => bytesOf_byte s x (List.mem_of_mem_drop hx)
  obtain ⟨hg, he⟩ := takeU_some hy h
  have hlen : s.size - p = (ub n).length + r.length := by
    have := congrArg List.length he
    rw [List.length_drop, bytesOf_len, List.length_append] at this
    exact this
  have hpos := ub_pos n
  have hr : r = (bytesOf s).drop (p + (ub n).length) := by
    rw [← List.drop_drop, he]
    simp
  refine ⟨?_, by omega, hr, hg⟩
  have at_ : ∀ k, k < (ub n).length → ((s.get! (p + k)).toNat : Int) = (ub n).getD k 0 := by
    intro k hk
    rw [get_at s (p + k) (by omega)]
    have e1 : ((bytesOf s).drop p).getD k 0 = (bytesOf s).getD (p + k) 0 := by
      rw [List.getD_eq_getElem?_getD, List.getD_eq_getElem?_getD, List.getElem?_drop]
    rw [← e1, he, List.getD_eq_getElem?_getD, List.getD_eq_getElem?_getD, List.getElem?_append_left hk]
  have hsz : ∀ k, k < (ub n).length → p + k < s.size := fun k hk => by omega
  rw [goodN_iff] at hg
  obtain ⟨m, rfl⟩ := Int.eq_ofNat_of_zero_le hg.1
  rw [Int.toNat_natCast]
  have a0 := at_ 0 (by omega)
  unfold Utf8.decode
  simp only
  by_cases c1 : (m : Int) < 128
  · have hu : ub (m : Int) = [(m : Int)] := by unfold ub; rw [if_pos c1]
    rw [hu] at a0 ⊢
    simp only [List.getD_cons_zero] at a0
    have e : (s.get! (p + 0)).toNat = m := by omega
    simp only [e]
    rw [if_pos (show m < 128 by omega)]
    rfl
  · by_cases c2 : (m : Int) < 2048
    · have hu : ub (m : Int) = [192 + (m : Int) / 64, 128 + (m : Int) % 64] := by unfold ub; rw [if_neg c1, if_pos c2]
      have a1 := at_ 1 (by rw [hu]; simp)
      have z1 := hsz 1 (by rw [hu]; simp)
      rw [hu] at a0 a1 ⊢
      simp only [List.getD_cons_zero, List.getD_cons_succ] at a0 a1
      rw [if_neg (by omega), if_pos (by simp only [Bool.and_eq_true, beq_iff_eq, decide_eq_true_eq]; omega)]
      have e : (s.get! (p + 0)).toNat % 32 * 64 + (s.get! (p + 1)).toNat % 64 = m := by omega
      rw [e, if_pos (by omega)]
      rfl
    · by_cases c3 : (m : Int) < 65536
      · have hu : ub (m : Int) = [224 + (m : Int) / 4096, 128 + (m : Int) / 64 % 64, 128 + (m : Int) % 64] := by unfold ub; rw [if_neg c1, if_neg c2, if_pos c3]
        have a1 := at_ 1 (by rw [hu]; simp)
        have a2 := at_ 2 (by rw [hu]; simp)
        have z2 := hsz 2 (by rw [hu]; simp)
        rw [hu] at a0 a1 a2 ⊢
        simp only [List.getD_cons_zero, List.getD_cons_succ] at a0 a1 a2
        rw [if_neg (by omega), if_neg (by simp only [Bool.and_eq_true, beq_iff_eq, decide_eq_true_eq]; omega), if_pos (by simp only [Bool.and_eq_true, beq_iff_eq, decide_eq_true_eq]; omega)]
        have e : (s.get! (p + 0)).toNat % 16 * 4096 + (s.get! (p + 1)).toNat % 64 * 64 + (s.get! (p + 2)).toNat % 64 = m := by omega
        rw [e, if_pos (by simp only [Utf8.valid, Bool.and_eq_true, Bool.or_eq_true, decide_eq_true_eq]; omega)]
        rfl
      · have hu : ub (m : Int) = [240 + (m : Int) / 262144, 128 + (m : Int) / 4096 % 64, 128 + (m : Int) / 64 % 64, 128 + (m : Int) % 64] := by unfold ub; rw [if_neg c1, if_neg c2, if_neg c3]
        have a1 := at_ 1 (by rw [hu]; simp)
        have a2 := at_ 2 (by rw [hu]; simp)
        have a3 := at_ 3 (by rw [hu]; simp)
        have z3 := hsz 3 (by rw [hu]; simp)
        rw [hu] at a0 a1 a2 a3 ⊢
        simp only [List.getD_cons_zero, List.getD_cons_succ] at a0 a1 a2 a3
        rw [if_neg (by omega), if_neg (by simp only [Bool.and_eq_true, beq_iff_eq, decide_eq_true_eq]; omega), if_neg (by simp only [Bool.and_eq_true, beq_iff_eq, decide_eq_true_eq]; omega), if_pos (by simp only [Bool.and_eq_true, beq_iff_eq, decide_eq_true_eq]; omega)]
        have e : (s.get! (p + 0)).toNat % 8 * 262144 + (s.get! (p + 1)).toNat % 64 * 4096 + (s.get! (p + 2)).toNat % 64 * 64 + (s.get! (p + 3)).toNat % 64 = m := by omega
        rw [e, if_pos (by simp only [Utf8.valid, Bool.and_eq_true, Bool.or_eq_true, decide_eq_true_eq]; omega)]
        rfl

end Go.Proofs.YtaefpopjlmhmoaaDoor.V.U

/- Chapter 01, utf: reads, and whether two lists are one, are as they tell; the calls whose answers are fixed. -/
namespace Go.Proofs.YtaefpopjlmhmoaaDoor.V.U
open Go
set_option linter.unusedVariables false
set_option linter.unusedSimpArgs false

theorem rdL_cons {b r : List Int} {n : Int} (hy : ∀ x ∈ b, 0 ≤ x ∧ x < 256) (hne : b ≠ []) (ht : takeU b = some (n, r)) (hv : validU r = true) : rdL b = n :: rdL r := by
  unfold rdL
  rw [readU_step hy hne, ht]
  show ((readU r).map (n :: ·)).getD [] = n :: (readU r).getD []
  unfold validU at hv
  cases h : readU r with
  | none => rw [h] at hv; cases hv
  | some l => rfl
theorem rdL_nil : rdL [] = [] := rfl

theorem loopURead (s : ByteArray) : ∀ (q p : Nat) (out : List Int) (nl : Bool), s.size - p = q → p ≤ s.size → out.length + (s.size - p) ≤ 1000000 → validU ((bytesOf s).drop p) = true →
    LoopTo (Cx Ar.real (Out8 Ar.real) (LuRead Ar.real)) 100 (loopAt Tryd.f20 0) 22 [4, 12] [i64s out (some nl) true, .ptr 0 []] [(.unit, .tup [.d .str s, .d (.int .i64) (p : Int)])]
      (.exit 0, [i64s (out ++ rdL ((bytesOf s).drop p)) (some (nl && (rdL ((bytesOf s).drop p)).isEmpty)) true, .dead], [(.unit, iterX s (s.size : Int))]) := by
  intro q
  induction q using Nat.strongRecOn with
  | _ q ih =>
    intro p out nl h1 h2 h3 hv
    by_cases hp : p < s.size
    · have hy : ∀ x ∈ (bytesOf s).drop p, 0 ≤ x ∧ x < 256 := fun x hx => bytesOf_byte s x (List.mem_of_mem_drop hx)
      have hne : (bytesOf s).drop p ≠ [] := by
        intro e
        have := congrArg List.length e
        rw [List.length_drop, bytesOf_len] at this
        simp at this
        omega
      have hst := valid_step hy hne
      rw [hv] at hst
      cases ht : takeU ((bytesOf s).drop p) with
      | none => rw [ht] at hst; cases hst
      | some v =>
        obtain ⟨n, r⟩ := v
        rw [ht] at hst
        obtain ⟨d1, d2, d3, d4⟩ := decode_ok s p n r h2 ht
        have hpos := ub_pos n
        have hg := goodN_iff.1 d4
        rw [rdL_cons hy hne ht hst.symm]
        have e1 : runeAt s (p : Int) = n := by
          unfold runeAt
          rw [Int.toNat_natCast, d1]
          simp only
          omega
        have e2 : (p : Int) + widthAt s (p : Int) = ((p + (ub n).length : Nat) : Int) := by
          unfold widthAt
          rw [Int.toNat_natCast, d1]
          omega
        have w : Ar.real.wrap .i64 n = n := by rw [rw_wrap, wi64 (by omega) (by omega)]
        have e3 : (out ++ n :: rdL r, (nl && (n :: rdL r).isEmpty)) = ((out ++ [n]) ++ rdL ((bytesOf s).drop (p + (ub n).length)), (false && (rdL ((bytesOf s).drop (p + (ub n).length))).isEmpty)) := by
          rw [← d3]; simp
        rw [Prod.mk.injEq] at e3
        rw [e3.1, e3.2]
        refine LoopTo.next (fun k => ?_) (ih (s.size - (p + (ub n).length)) (by omega) (p + (ub n).length) (out ++ [n]) false rfl d2 (by rw [List.length_append]; simp only [List.length_cons, List.length_nil]; omega) (by rw [← d3]; exact hst.symm))
        rw [lURead, bt (by rw [decide_eq_true_eq]; omega)]
        simp only [e1, e2, w]
        rw [bt (by rw [decide_eq_true_eq]; simp only [List.length_cons, List.length_nil]; omega)]
        simp only [List.isEmpty_cons, Bool.and_false]
    · have e : p = s.size := by omega
      subst e
      have hd : (bytesOf s).drop s.size = [] := by rw [List.drop_eq_nil_iff, bytesOf_len]; exact Nat.le_refl _
      rw [hd, rdL_nil]
      refine LoopTo.left (by simp) fun k => ?_
      rw [lURead, bf (by rw [decide_eq_false_iff_not]; omega)]
      simp only [List.append_nil, List.isEmpty_nil, Bool.and_true]
      exact ⟨_, rfl, Forget.cons (.inr rfl) (Forget.cons (.inl rfl) (Forget.same _))⟩

theorem strOf_size (b : List Int) : (strOf b).size = b.length := by
  have : (strOf b).size = (strOf b).data.toList.length := by rw [Array.length_toList]; rfl
  rw [this, strOfNums_data, List.length_map]

theorem uread_ok (o8 : OOk (Out8 Ar.real)) : OrcOk Tryd.prog 20 (.pure (ureadF Ar.real)) := by
  refine pureOk (Cx.ok o8 (LuRead Ar.real)) mixed 20 Tryd.f20 (by kernel_rfl) (by kernel_rfl) (by kernel_rfl) 100 1 (by kernel_rfl) (fun i h => ?_) fun args r h => ?_
  · obtain rfl : i = 0 := by omega
    refine Tells.mk (key := 5) (N := 22) (ks := [4, 12]) (F := LuReadF Ar.real) (by kernel_rfl) rfl fun xs H r h => ?_
    unfold LuReadF at h
    split at h
    · rename_i out nl s p
      obtain ⟨hg, rfl⟩ := Tr.one h
      simp only [rw_se, Bool.and_eq_true, decide_eq_true_eq] at hg ⊢
      dsimp only [Ty.den] at hg
      obtain ⟨⟨g1, g2, g3⟩, g4⟩ := hg
      obtain ⟨m, rfl⟩ := Int.eq_ofNat_of_zero_le g1
      rw [Int.toNat_natCast] at g4
      have := loopURead s _ m out nl rfl (by have : (m : Int) ≤ (s.size : Int) := g2; omega) (by have : (out.length : Int) + ((s.size : Int) - (m : Int)) ≤ 1000000 := g3; have : (m : Int) ≤ (s.size : Int) := g2; omega) g4
      simp only [sg, Int.toNat_natCast]
      exact this
    · cases h
  · unfold ureadF at h
    split at h
    · rename_i b nl
      obtain ⟨hg, rfl⟩ := Tr.one h
      rw [rw_se] at hg
      have hg' := hg
      rw [Bool.and_eq_true, decide_eq_true_eq, bytesB_iff] at hg'
      refine ⟨rfl, rfl, ?_⟩
      rw [tURead, bt (by rw [rw_se]; exact hg)]
      simp only [rw_se, sg, show Int.toNat 0 = 0 from rfl, List.drop_zero, bytesOf_str hg'.1, strOf_size, List.nil_append, Bool.true_and]
      cases hv : validU b with
      | false =>
        refine ⟨[], ?_⟩
        have : rdL b = [] := by
          unfold validU at hv
          unfold rdL
          cases h : readU b with
          | none => rfl
          | some _ => rw [h] at hv; cases hv
        rw [bt (by rfl), this]
        simp only [rdE, hv]
        rfl
      | true =>
        rw [bf (by rfl), bt (by rw [Bool.and_true, decide_eq_true_eq]; refine ⟨Int.le_refl _, ?_, ?_⟩ <;> omega)]
        simp only [rdE, hv]
        exact ⟨_, rfl⟩
    · cases h

def resR (b out : List Int) (nl2 : Bool) : Ex × List X × Hp :=
  bif validU b then (.exit 0, [.dead, .dead, .dead, i64s (out ++ rdL b) (some (nl2 && (rdL b).isEmpty)) true], []) else (.ret, [.dead, i64s [] (some true) true, i64x 10, .dead], [])
theorem loopRRead (nl : Option Bool) (z : Int) : ∀ (n : Nat) (b out : List Int) (nl2 : Bool), b.length ≤ n → out.length + b.length ≤ 1000000 → (∀ x ∈ b, 0 ≤ x ∧ x < 256) →
    LoopTo (Cx Ar.real (Out8 Ar.real) (LrRead Ar.real)) 100 (loopAt Tryd.f30 0) 28 [0, 2, 3, 4] [u8s b nl false, i64s [] (some true) true, i64x z, i64s out (some nl2) true] [] (resR b out nl2) := by
  have base : ∀ (out : List Int) (nl2 : Bool), LoopTo (Cx Ar.real (Out8 Ar.real) (LrRead Ar.real)) 100 (loopAt Tryd.f30 0) 28 [0, 2, 3, 4] [u8s [] nl false, i64s [] (some true) true, i64x z, i64s out (some nl2) true] [] (resR [] out nl2) := by
    intro out nl2
    have e : resR [] out nl2 = (.exit 0, [.dead, .dead, .dead, i64s out (some nl2) true], []) := by simp [resR, valid_nil, rdL_nil]
    rw [e]
    refine LoopTo.left (by simp) fun k => ?_
    rw [lRRead, bf (by decide)]
    refine ⟨_, rfl, ?_⟩
    repeat' first | exact Forget.same _ | refine Forget.cons (.inl rfl) ?_ | refine Forget.cons (.inr rfl) ?_
  intro n
  induction n with
  | zero =>
    intro b out nl2 h1 h2 hy
    have : b = [] := by cases b with | nil => rfl | cons _ _ => simp at h1
    subst this
    exact base out nl2
  | succ n ih =>
    intro b out nl2 h1 h2 hy
    by_cases hb : b = []
    · subst hb
      exact base out nl2
    · have hpos : 0 < b.length := List.length_pos_iff.2 hb
      have hst := valid_step hy hb
      have hyB := bytesB_iff.2 hy
      cases ht : takeU b with
      | none =>
        rw [ht] at hst
        have e : resR b out nl2 = (.ret, [.dead, i64s [] (some true) true, i64x 10, .dead], []) := by unfold resR; rw [show validU b = false from hst]; rfl
        have eE : uE b = 10 := by simp [uE, ht]
        rw [e]
        refine LoopTo.left (by simp) fun k => ?_
        rw [lRRead, bt (by rw [decide_eq_true_eq]; omega)]
        simp only [rw_se, eE]
        rw [bt hyB, bt (by decide)]
        refine ⟨_, rfl, ?_⟩
        repeat' first | exact Forget.same _ | refine Forget.cons (.inl rfl) ?_ | refine Forget.cons (.inr rfl) ?_
      | some v =>
        obtain ⟨c, r⟩ := v
        rw [ht] at hst
        obtain ⟨_, g2, _⟩ := try_of hy ht
        have hu := ub_pos c
        obtain ⟨_, g4⟩ := takeU_some hy ht
        have eE : uE b = 0 := by simp [uE, ht]
        have eN : uN b = c := by simp [uN, ht]
        have eL : uL b = ((ub c).length : Int) := by simp only [uL, ht]; omega
        have hr : b.drop (ub c).length = r := by conv => lhs; rw [g4]; simp
        have hyr : ∀ x ∈ r, 0 ≤ x ∧ x < 256 := fun x hx => hy x (by rw [g4]; simp [hx])
        have e : resR b out nl2 = resR r (out ++ [c]) false := by
          unfold resR
          rw [show validU b = validU r from hst]
          cases hv : validU r with
          | false => rfl
          | true => rw [rdL_cons hy hb ht hv]; simp
        rw [e]
        refine LoopTo.next (fun k => ?_) (ih r (out ++ [c]) false (by omega) (by rw [List.length_append]; simp only [List.length_cons, List.length_nil]; omega) hyr)
        rw [lRRead, bt (by rw [decide_eq_true_eq]; omega)]
        simp only [rw_se, eE, eN, eL, Int.toNat_natCast, hr]
        rw [bt hyB, bf (by decide), bt (by rw [decide_eq_true_eq]; simp only [List.length_cons, List.length_nil]; omega), bt (by rw [decide_eq_true_eq]; omega)]
        simp only [List.isEmpty_cons, Bool.and_false]

theorem rread_ok (o8 : OOk (Out8 Ar.real)) : OrcOk Tryd.prog 30 (.pure (ureadF Ar.real)) := by
  refine pureOk (Cx.ok o8 (LrRead Ar.real)) mixed 30 Tryd.f30 (by kernel_rfl) (by kernel_rfl) (by kernel_rfl) 100 1 (by kernel_rfl) (fun i h => ?_) fun args r h => ?_
  · obtain rfl : i = 0 := by omega
    refine Tells.mk (key := 2) (N := 28) (ks := [0, 2, 3, 4]) (F := LrReadF Ar.real) (by kernel_rfl) rfl fun xs H r h => ?_
    unfold LrReadF at h
    split at h
    · rename_i b nl z out nl2
      replace h : (Tr.test (bytesB b && decide (out.length + b.length ≤ 1000000)) (.test (validU b) _ _) .no).run some = some r := h
      have hg : (bytesB b && decide (out.length + b.length ≤ 1000000)) = true := by
        cases hc : (bytesB b && decide (out.length + b.length ≤ 1000000))
        · rw [hc] at h; cases h
        · rfl
      rw [hg] at h
      rw [Bool.and_eq_true, decide_eq_true_eq, bytesB_iff] at hg
      have key := loopRRead nl z b.length b out nl2 (Nat.le_refl _) hg.2 hg.1
      unfold resR at key
      cases ha : validU b <;> rw [ha] at h key
      · cases h; exact key
      · cases h; exact key
    · cases h
  · unfold ureadF at h
    split at h
    · rename_i b nl
      obtain ⟨hg, rfl⟩ := Tr.one h
      rw [rw_se] at hg
      have hg' := hg
      rw [Bool.and_eq_true, decide_eq_true_eq, bytesB_iff] at hg'
      refine ⟨rfl, rfl, [], ?_⟩
      rw [tRRead, bt (by rw [rw_se, Bool.and_eq_true, decide_eq_true_eq, bytesB_iff]; exact ⟨hg'.1, by omega⟩)]
      simp only [rw_se, List.nil_append, Bool.true_and]
      cases hv : validU b with
      | false =>
        have : rdL b = [] := by
          unfold validU at hv
          unfold rdL
          cases h : readU b with
          | none => rfl
          | some _ => rw [h] at hv; cases hv
        rw [this]
        simp only [rdE, hv]
        rfl
      | true =>
        simp only [rdE, hv]
        rfl
    · cases h

/-! Two lists. -/
theorem loopSame (a b : List Int) (nl nl2 : Option Bool) (x : Bool) (hl : a.length ≤ 9223372036854775806) (hab : a.length = b.length) : ∀ (q i : Nat), a.length - i = q → i ≤ a.length →
    LoopTo (Cx Ar.real (Out7 Ar.real) (Lsame Ar.real)) 100 (loopAt Tryd.f23 0) 26 [0, 1, 4, 5] [i64s a nl false, i64s b nl2 false, boolx x, i64x i] []
      (bif decide (a.drop i = b.drop i) then (.exit 0, [.dead, .dead, .dead, .dead], []) else (.ret, [.dead, .dead, boolx false, .dead], [])) := by
  intro q
  induction q with
  | zero =>
    intro i h1 h2
    have e1 : a.drop i = [] := by rw [List.drop_eq_nil_iff]; omega
    have e2 : b.drop i = [] := by rw [List.drop_eq_nil_iff]; omega
    rw [e1, e2]
    refine LoopTo.left (by simp) fun k => ?_
    rw [lSame, bf (by rw [decide_eq_false_iff_not]; omega)]
    exact ⟨_, rfl, forget_dead _ 4⟩
  | succ q ih =>
    intro i h1 h2
    have hi : i < a.length := by omega
    have hi2 : i < b.length := by omega
    have a1 : decide ((i : Int) < (a.length : Int)) = true := by rw [decide_eq_true_eq]; omega
    have a2 : decide ((0 : Int) ≤ (i : Int) ∧ (i : Int) < (a.length : Int)) = true := by rw [decide_eq_true_eq]; omega
    have a3 : decide ((0 : Int) ≤ (i : Int) ∧ (i : Int) < (b.length : Int)) = true := by rw [decide_eq_true_eq]; omega
    rw [drop_cons hi, drop_cons hi2]
    by_cases he : a.getD i 0 = b.getD i 0
    · have e : decide (a.getD i 0 :: a.drop (i + 1) = b.getD i 0 :: b.drop (i + 1)) = decide (a.drop (i + 1) = b.drop (i + 1)) := by
        rw [he]
        by_cases h : a.drop (i + 1) = b.drop (i + 1)
        · rw [decide_eq_true h, h, decide_eq_true rfl]
        · rw [decide_eq_false h, decide_eq_false (fun e => h (List.cons.inj e).2)]
      rw [e]
      have w2 : Ar.real.wrap .i64 ((i : Int) + 1) = ((i + 1 : Nat) : Int) := by rw [rw_wrap, wi64 (by omega) (by omega)]; omega
      refine LoopTo.next (fun k => ?_) (ih (i + 1) (by omega) (by omega))
      rw [lSame, bt a1, bt a2, bt a3]
      simp only [Int.toNat_natCast, w2]
      rw [bf (by rw [he]; simp)]
    · have e : decide (a.getD i 0 :: a.drop (i + 1) = b.getD i 0 :: b.drop (i + 1)) = false := by
        rw [decide_eq_false_iff_not]
        intro h
        exact he (List.cons.inj h).1
      rw [e]
      refine LoopTo.left (by simp) fun k => ?_
      rw [lSame, bt a1, bt a2, bt a3]
      simp only [Int.toNat_natCast]
      rw [bt (by rw [bne_iff_ne]; exact he)]
      refine ⟨_, rfl, ?_⟩
      repeat' first | exact Forget.same _ | refine Forget.cons (.inl rfl) ?_ | refine Forget.cons (.inr rfl) ?_

theorem same_ok : OrcOk Tryd.prog 23 (.pure (sameF Ar.real)) := by
  refine pureOk (Cx.ok o_ut7 (Lsame Ar.real)) mixed 23 Tryd.f23 (by kernel_rfl) (by kernel_rfl) (by kernel_rfl) 100 1 (by kernel_rfl) (fun i h => ?_) fun args r h => ?_
  · obtain rfl : i = 0 := by omega
    refine Tells.mk (key := 4) (N := 26) (ks := [0, 1, 4, 5]) (F := LsameF Ar.real) (by kernel_rfl) rfl fun xs H r h => ?_
    unfold LsameF at h
    split at h
    · rename_i a nl b nl2 x i
      replace h : (Tr.test (decide (a.length ≤ 9223372036854775806 ∧ a.length = b.length ∧ (0 : Int) ≤ i ∧ i ≤ (a.length : Int))) (.test (decide (a.drop i.toNat = b.drop i.toNat)) _ _) .no).run some = some r := h
      by_cases hg : a.length ≤ 9223372036854775806 ∧ a.length = b.length ∧ (0 : Int) ≤ i ∧ i ≤ (a.length : Int)
      · rw [decide_eq_true hg] at h
        obtain ⟨g1, g2, g3, g4⟩ := hg
        obtain ⟨m, rfl⟩ := Int.eq_ofNat_of_zero_le g3
        have key := loopSame a b nl nl2 x g1 g2 _ m rfl (by have : (m : Int) ≤ (a.length : Int) := g4; omega)
        rw [Int.toNat_natCast] at h
        cases ha : decide (a.drop m = b.drop m) <;> rw [ha] at h key
        · cases h; exact key
        · cases h; exact key
      · rw [decide_eq_false hg] at h
        cases h
    · cases h
  · unfold sameF at h
    split at h
    · rename_i a nl b nl2
      obtain ⟨hg, rfl⟩ := Tr.one h
      replace hg : a.length ≤ 9223372036854775806 := of_decide_eq_true hg
      refine ⟨rfl, rfl, [], ?_⟩
      rw [tSame]
      simp only [rw_se, show Int.toNat 0 = 0 from rfl, List.drop_zero]
      by_cases hl : a.length = b.length
      · rw [bf (by rw [hl]; simp), bt (by rw [decide_eq_true_eq]; exact ⟨hg, hl, by decide, by omega⟩)]
        cases decide (a = b) <;> rfl
      · rw [bt (by rw [bne_iff_ne]; omega)]
        have : decide (a = b) = false := by
          rw [decide_eq_false_iff_not]
          rintro rfl
          exact hl rfl
        rw [this]
    · cases h

theorem o_ut8 : OOk (Out8 Ar.real) := (o_ut7.add valid_ok).add same_ok
theorem o_ut9 : OOk (Out9 Ar.real) := (o_ut8.add (uread_ok o_ut8)).add (rread_ok o_ut8)

end Go.Proofs.YtaefpopjlmhmoaaDoor.V.U

/-
  Chapter 01, utf: what its functions tell.
  It speaks of the pinned program alone; no condition.
-/
import Derived.Test.YtnjlfeigcappjaaDoorB1
import Derived.Test.YtnjlfeigcappjaaDoorU1
namespace Go.Proofs.YtnjlfeigcappjaaDoor.V
open Go
set_option linter.unusedVariables false

/-! What they come to. -/
def validU (b : List Int) : Bool := (readU b).isSome
def uN (b : List Int) : Int := match takeU b with | some (n, _) => n | none => 0
def uL (b : List Int) : Int := match takeU b with | some (_, r) => (b.length : Int) - r.length | none => 0
def uE (b : List Int) : Int := match takeU b with | some _ => 0 | none => 10
def dR (b : List Int) : Int := match takeU b with | some (n, _) => n | none => 65533
def dL (b : List Int) : Int := match takeU b with | some (_, r) => (b.length : Int) - r.length | none => if b.isEmpty then 0 else 1
def putL (l : List Int) : List Int := bif l.all goodN then ups l else []
def putE (l : List Int) : Int := bif l.all goodN then 0 else 10
def rdL (b : List Int) : List Int := (readU b).getD []
def rdE (b : List Int) : Int := bif validU b then 0 else 10
def numL (o : Int) (l : List Int) : Int := l.foldl (fun o c => o * 64 + c % 64) o
def numH (n : Int) (c : Int) : Int := if n = 2 then c % 32 else if n = 3 then c % 16 else if n = 4 then c % 8 else c
def numN (b : List Int) (n : Nat) : Int := numL (numH n (b.getD 0 0)) ((b.take n).drop 1)
def tryB (b : List Int) (m : Nat) : Bool := decide (1 ≤ m ∧ m ≤ b.length) && (goodN (numN b m) && decide (ub (numN b m) = b.take m))
def wordL : List Int → Int
  | [] => 0
  | c :: s => c + 256 * wordL s
def sk32 : Nat → List Int → List Int
  | 0, b => b
  | n + 1, b => bif decide (32 < b.length) && (b.take 32).all (fun c => decide (c < 128)) then sk32 n (b.drop 32) else b
def ascB (b : List Int) : Bool := !b.isEmpty && decide (b.getD 0 0 < 128)

/-! What functions tell. -/
def goodF (A : Ar) : List X → Tr X
  | [.d (.int .i64) n] => .give (boolx (A.se (goodN n)))
  | _ => .no
def uoneF (A : Ar) : List X → Tr X
  | [.d (.int .i64) n] => .test (A.se (goodN n)) (.give (u8s (A.se (ub n)) (some false) true)) .no
  | _ => .no
def nonAscF (A : Ar) : List X → Tr X
  | [.sl (.int .u8) b (some nl) true, .d (.int .i32) n] => .test (A.se (goodN n && decide (128 ≤ n ∧ b.length ≤ 70368744177664))) (.give (u8s (A.se (b ++ ub n)) (some false) true)) .no
  | _ => .no
def appRuneF (A : Ar) : List X → Tr X
  | [.sl (.int .u8) b (some nl) true, .d (.int .i32) n] => .test (A.se (goodN n && decide (b.length ≤ 70368744177664))) (.give (u8s (A.se (b ++ ub n)) (some false) true)) .no
  | _ => .no
def uputF (A : Ar) : List X → Tr X
  | [.sl (.int .i64) l nl false] => .test (A.se (decide (l.length ≤ 17592186044416))) (.give (.tup [u8s (A.se (putL l)) (some (A.se (putL l).isEmpty)) false, i64x (A.se (putE l))])) .no
  | _ => .no
def slowF (A : Ar) : List X → Tr X
  | [.sl (.int .u8) b nl false] => .test (A.se (bytesB b && !ascB b)) (.give (.tup [i32x (A.se (dR b)), i64x (A.se (dL b))])) .no
  | _ => .no
def decF (A : Ar) : List X → Tr X
  | [.sl (.int .u8) b nl false] => .test (A.se (bytesB b)) (.give (.tup [i32x (A.se (dR b)), i64x (A.se (dL b))])) .no
  | _ => .no
def utakeF (A : Ar) : List X → Tr X
  | [.sl (.int .u8) b nl false] => .test (A.se (bytesB b)) (.give (.tup [i64x (A.se (uN b)), i64x (A.se (uL b)), i64x (A.se (uE b))])) .no
  | _ => .no
def numF (A : Ar) : List X → Tr X
  | [.sl (.int .u8) b nl false, .d (.int .i64) n] => .test (A.se (bytesB b && decide (1 ≤ n ∧ n ≤ 4 ∧ n ≤ b.length))) (.give (i64x (A.se (numN b n.toNat)))) .no
  | _ => .no
def wordF (A : Ar) : List X → Tr X
  | [.sl (.int .u8) b nl false] => .test (A.se (bytesB b && decide (8 ≤ b.length))) (.give (u64x (A.se (wordL (b.take 8))))) .no
  | _ => .no
def validF (A : Ar) : List X → Tr X
  | [.sl (.int .u8) b nl false] => .test (A.se (bytesB b && decide (b.length ≤ 1000000))) (.give (boolx (A.se (validU b)))) .no
  | _ => .no
def ureadF (A : Ar) : List X → Tr X
  | [.sl (.int .u8) b nl false] => .test (A.se (bytesB b && decide (b.length ≤ 1000000))) (.give (.tup [i64s (A.se (rdL b)) (some (A.se (rdL b).isEmpty)) false, i64x (A.se (rdE b))])) .no
  | _ => .no
def sameF (A : Ar) : List X → Tr X
  | [.sl (.int .i64) a nl false, .sl (.int .i64) b nl2 false] => .test (A.se (decide (a.length ≤ 9223372036854775806))) (.give (boolx (A.se (decide (a = b))))) .no
  | _ => .no
def awakeF : List X → Tr X
  | [] => .give (boolx true)
  | _ => .no

def noO : OT := fun _ => none
def Out1 (A : Ar) : OT := Oadd (Oadd (Oadd noO 18 (.pure (goodF A))) 19 (.pure (goodF A))) 21 (.pure (uoneF A))
def Out2 (A : Ar) : OT := Oadd (Out1 A) 25 (.own (nonAscF A))
def Out3 (A : Ar) : OT := Oadd (Out2 A) 20 (.own (appRuneF A))
def Out4 (A : Ar) : OT := Oadd (Oadd (Out3 A) 11 (.pure (uputF A))) 12 (.pure (uputF A))
def Out5 (A : Ar) : OT := Oadd (Oadd (Out4 A) 26 (.pure (slowF A))) 23 (.pure (numF A))
def Out6 (A : Ar) : OT := Oadd (Oadd (Out5 A) 22 (.pure (decF A))) 14 (.pure (utakeF A))
def Out7 (A : Ar) : OT := Oadd (Oadd (Out6 A) 13 (.pure (utakeF A))) 27 (.pure (wordF A))
def Out8 (A : Ar) : OT := Oadd (Oadd (Out7 A) 24 (.pure (validF A))) 17 (.pure (sameF A))
def Out9 (A : Ar) : OT := Oadd (Oadd (Out8 A) 15 (.pure (ureadF A))) 16 (.pure (ureadF A))
def Out (A : Ar) : OT := Oadd (Out9 A) 10 (.pure awakeF)

/-! Loops -/
def gPut (l : List Int) (out : List Int) (i : Int) : Bool := decide (l.length ≤ 17592186044416 ∧ 0 ≤ i ∧ i ≤ l.length ∧ (out.length : Int) ≤ 4 * i)
def LuPutF (A : Ar) : List X → Hp → Tr (Ex × List X × Hp)
  | [.sl (.int .u8) [] (some true) true, .d (.int .i64) _, .sl (.int .u8) out (some nl) true, .sl (.int .i64) l nl2 false, .d (.int .i64) n, .d (.int .i64) i], [] =>
    .test (A.se (gPut l out i && decide (n = l.length)))
      (.test (A.se ((l.drop i.toNat).all goodN))
        (.give (.exit 0, [.dead, .dead, u8s (A.se (out ++ ups (l.drop i.toNat))) (some (A.se (nl && (ups (l.drop i.toNat)).isEmpty))) true, .dead, .dead, .dead], []))
        (.give (.ret, [u8s [] (some true) true, i64x 10, .dead, .dead, .dead, .dead], []))) .no
  | _, _ => .no
def LuPut (A : Ar) : Lp := fun k => match k with
  | 3 => some (22, [2, 3, 4, 7, 8, 9], LuPutF A)
  | _ => none
def LrPutF (A : Ar) : List X → Hp → Tr (Ex × List X × Hp)
  | [.sl (.int .i64) l nl2 false, .sl (.int .u8) [] (some true) true, .d (.int .i64) _, .sl (.int .u8) out (some nl) true, .d (.int .i64) i], [] =>
    .test (A.se (gPut l out i))
      (.test (A.se ((l.drop i.toNat).all goodN))
        (.give (.exit 0, [.dead, .dead, .dead, u8s (A.se (out ++ ups (l.drop i.toNat))) (some (A.se (nl && (ups (l.drop i.toNat)).isEmpty))) true, .dead], []))
        (.give (.ret, [.dead, u8s [] (some true) true, i64x 10, .dead, .dead], []))) .no
  | _, _ => .no
def LrPut (A : Ar) : Lp := fun k => match k with
  | 3 => some (26, [0, 2, 3, 4, 5], LrPutF A)
  | _ => none
def LnumF (A : Ar) : List X → Hp → Tr (Ex × List X × Hp)
  | [.sl (.int .u8) b nl false, .d (.int .i64) n, .d (.int .i64) o, .d (.int .i64) i], [] =>
    .test (A.se (bytesB b && decide (1 ≤ i ∧ i ≤ n ∧ n ≤ 4 ∧ n ≤ b.length ∧ 0 ≤ o ∧ o < 256 * 64 ^ (i.toNat - 1)))) (.give (.exit 0, [.dead, .dead, i64x (A.se (numL o ((b.take n.toNat).drop i.toNat))), .dead], [])) .no
  | _, _ => .no
def Lnum (A : Ar) : Lp := fun k => match k with
  | 9 => some (47, [0, 1, 5, 6], LnumF A)
  | _ => none
def LrTakeF (A : Ar) : List X → Hp → Tr (Ex × List X × Hp)
  | [.sl (.int .u8) b nl false, .d (.int .i64) _, .d (.int .i64) _, .d (.int .i64) _, .d (.int .i64) n], [] =>
    .test (A.se (bytesB b && (decide (1 ≤ n ∧ n ≤ 5) && (List.range n.toNat).all fun m => !tryB b m)))
      (.test (A.se (takeU b).isSome) (.give (.ret, [.dead, i64x (A.se (uN b)), i64x (A.se (uL b)), i64x 0, .dead], [])) (.give (.exit 0, [.dead, .dead, .dead, .dead, .dead], []))) .no
  | _, _ => .no
def LrTake (A : Ar) : Lp := fun k => match k with
  | 2 => some (34, [0, 2, 3, 4, 5], LrTakeF A)
  | _ => none
def LdecF (A : Ar) : List X → Hp → Tr (Ex × List X × Hp)
  | [.sl (.int .u8) b nl false, .d (.int .i32) _, .d (.int .i64) _, .sl (.int .u8) b2 nl2 false, .d (.int .i64) l, .d (.int .i64) i], [] =>
    .test (A.se (bytesB b && decide (b2 = b ∧ l = b.length ∧ i = 0)))
      (.test (A.se (ascB b)) (.give (.ret, [.dead, i32x (A.se (b.getD 0 0)), i64x 1, .dead, .dead, .dead], [])) (.give (.exit 0, [.sl (.int .u8) b nl false, .dead, .dead, .dead, .dead, .dead], []))) .no
  | _, _ => .no
def Ldec (A : Ar) : Lp := fun k => match k with
  | 2 => some (22, [0, 2, 3, 6, 7, 8], LdecF A)
  | _ => none
def LvalAF (A : Ar) : List X → Hp → Tr (Ex × List X × Hp)
  | [.sl (.int .u8) b nl false, .d .bool _], [] =>
    .test (A.se (bytesB b && decide (b.length ≤ 1000000)))
      (.test (A.se (validU b)) (.give (.exit 0, [.dead, .dead], [])) (.give (.ret, [.dead, boolx false], []))) .no
  | _, _ => .no
def LvalBF (A : Ar) : List X → Hp → Tr (Ex × List X × Hp)
  | [.sl (.int .u8) b nl false, .d .bool x], [] =>
    .test (A.se (bytesB b && decide (b.length ≤ 1000000))) (.give (.exit 2, [.sl (.int .u8) (A.se (sk32 b.length b)) nl false, boolx x], [])) .no
  | _, _ => .no
def Lval (A : Ar) : Lp := fun k => match k with
  | 2 => some (188, [0, 2], LvalAF A)
  | 10 => some (188, [0, 2], LvalBF A)
  | _ => none
def sg (s : ByteArray) (p : Int) : List Int := rdL ((bytesOf s).drop p.toNat)
def LuReadF (A : Ar) : List X → Hp → Tr (Ex × List X × Hp)
  | [.sl (.int .i64) out (some nl) true, .ptr 0 []], [(.unit, .tup [.d .str s, .d (.int .i64) p])] =>
    .test (A.se (decide (0 ≤ p ∧ p ≤ (s.size : Int) ∧ (out.length : Int) + ((s.size : Int) - p) ≤ 1000000) && validU ((bytesOf s).drop p.toNat)))
      (.give (.exit 0, [i64s (A.se (out ++ sg s p)) (some (A.se (nl && (sg s p).isEmpty))) true, .dead], [(.unit, iterX s (A.se (s.size : Int)))])) .no
  | _, _ => .no
def LuRead (A : Ar) : Lp := fun k => match k with
  | 5 => some (22, [4, 12], LuReadF A)
  | _ => none
def LrReadF (A : Ar) : List X → Hp → Tr (Ex × List X × Hp)
  | [.sl (.int .u8) b nl false, .sl (.int .i64) [] (some true) true, .d (.int .i64) _, .sl (.int .i64) out (some nl2) true], [] =>
    .test (A.se (bytesB b && decide (out.length + b.length ≤ 1000000)))
      (.test (A.se (validU b)) (.give (.exit 0, [.dead, .dead, .dead, i64s (A.se (out ++ rdL b)) (some (A.se (nl2 && (rdL b).isEmpty))) true], []))
        (.give (.ret, [.dead, i64s [] (some true) true, i64x 10, .dead], []))) .no
  | _, _ => .no
def LrRead (A : Ar) : Lp := fun k => match k with
  | 2 => some (28, [0, 2, 3, 4], LrReadF A)
  | _ => none
def LsameF (A : Ar) : List X → Hp → Tr (Ex × List X × Hp)
  | [.sl (.int .i64) a nl false, .sl (.int .i64) b nl2 false, .d .bool _, .d (.int .i64) i], [] =>
    .test (A.se (decide (a.length ≤ 9223372036854775806 ∧ a.length = b.length ∧ 0 ≤ i ∧ i ≤ a.length)))
      (.test (A.se (decide (a.drop i.toNat = b.drop i.toNat))) (.give (.exit 0, [.dead, .dead, .dead, .dead], [])) (.give (.ret, [.dead, .dead, boolx false, .dead], []))) .no
  | _, _ => .no
def Lsame (A : Ar) : Lp := fun k => match k with
  | 4 => some (26, [0, 1, 4, 5], LsameF A)
  | _ => none

end Go.Proofs.YtnjlfeigcappjaaDoor.V

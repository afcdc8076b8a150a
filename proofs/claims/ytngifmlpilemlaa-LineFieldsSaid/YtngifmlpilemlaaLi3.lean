/-
  Chapter 04, lines: what the functions tell.
  It speaks of the pinned program alone; no condition.
-/
import Derived.Test.YtngifmlpilemlaaLi1
namespace Go.Proofs.Ytngifmlpilemlaa.V
open Go
set_option linter.unusedVariables false

abbrev sT : Ty := .slice (.int .u8)
abbrev ssT : Ty := .slice sT
abbrev sss (l : List (List Int)) (nl : Option Bool) (own : Bool) : X := .sl sT l nl own

def nlO : Option Bool → List Int → Bool
  | some true, b => b.isEmpty
  | _, _ => true

def cloneF (A : Ar) : List X → Tr X
  | [.sl (.int .u8) b (some nl) false] => .test (A.se (decide (b.length ≤ 1000000000) && nlB nl b)) (.give (u8s b (some nl) true)) .no
  | _ => .no
def cloneG (A : Ar) : List X → Tr X
  | [.sl (.int .u8) b nl false] => .test (A.se (decide (b.length ≤ 1000000000) && nlO nl b)) (.give (u8s b nl true)) .no
  | _ => .no

def endF : List X → Tr X
  | [.d (.int .u8) c] => .give (boolx (c == 10))
  | _ => .no
def ixbF (A : Ar) : List X → Tr X
  | [.sl (.int .u8) xs nl false, .d (.int .u8) c] => .test (A.se (decide (xs = [32, 9]) && decide (0 ≤ c ∧ c < 256))) (.give (i64x (A.se (bif c == 32 then 0 else bif c == 9 then 1 else -1)))) .no
  | _ => .no
def blF (A : Ar) : List X → Tr X
  | [.d (.int .u8) c] => .test (A.se (decide (0 ≤ c ∧ c < 256))) (.give (boolx (A.se (isBl c)))) .no
  | _ => .no

/-- What a function given by its number asks of a byte. -/
def pOf : Nat → Option (Int → Bool)
  | 12 => some isEnd
  | 14 => some isBl
  | _ => none

def idxF (A : Ar) : List X → Tr X
  | [.sl (.int .u8) b nl false, .fn g [] []] => match pOf g with
    | some p => .test (A.se (bytesB b && decide (b.length ≤ 1000000000))) (.give (i64x (A.se (idxP p b)))) .no
    | none => .no
  | _ => .no
def LidxF (A : Ar) : List X → Hp → Tr (Ex × List X × Hp)
  | [.sl (.int .u8) b nl false, .fn g [] [], .d (.int .i64) z, .d (.int .i64) l, .d (.int .i64) i], [] => match pOf g with
    | some p => .test (A.se (bytesB b && decide (b.length ≤ 1000000000 ∧ l = b.length ∧ 0 ≤ i ∧ i ≤ l)))
      (.test (A.se (decide (idxP p (b.drop i.toNat) < 0))) (.give (.exit 0, [u8s b nl false, .fn g [] [], i64x z, i64x l, .dead], []))
        (.give (.ret, [u8s b nl false, .fn g [] [], i64x (A.se (i + idxP p (b.drop i.toNat))), i64x l, .dead], []))) .no
    | none => .no
  | _, _ => .no
def Lidx (A : Ar) : Lp := fun k => match k with
  | 2 => some (19, [0, 1, 4, 7, 8], LidxF A)
  | _ => none

def piecesF : List X → Hp → Tr (X × Hp)
  | [.sl (.int .u8) b nl false, .fn g [] []], [h] => .give (.fn 16 [] [.ptr 1 [], .ptr 2 []], [h, (sT, u8s b nl false), (.any, .fn g [] [])])
  | _, _ => .no

/-- A round that takes each piece; one that takes the full ones. -/
def allR (A : Ar) : Nat → List X → List X → Hp → Tr (Bool × Hp)
  | 3, [.ptr 0 []], [.sl (.int .u8) q nl false], [(.slice (.slice (.int .u8)), .sl (.slice (.int .u8)) out (some x) true), h1, h2, h3] =>
      .test (A.se (decide (q.length ≤ 1000000000 ∧ out.length ≤ 1000000) && nlO nl q)) (.give (true, [(ssT, sss (out ++ [q]) (some (A.se false)) true), h1, h2, h3])) .no
  | _, _, _, _ => .no
def fullR (A : Ar) : Nat → List X → List X → Hp → Tr (Bool × Hp)
  | 3, [.ptr 0 []], [.sl (.int .u8) q nl false], [(.slice (.slice (.int .u8)), .sl (.slice (.int .u8)) out (some x) true), h1, h2, h3] =>
      .test (A.se (decide (q.length ≤ 1000000000 ∧ out.length ≤ 1000000) && nlO nl q)) (.give (true, [(ssT, sss (A.se (out ++ full [q])) (some (A.se (x && q.isEmpty))) true), h1, h2, h3])) .no
  | _, _, _, _ => .no
def Ys (A : Ar) : Yt := fun k => match k with
  | 7 => some (allR A)
  | 9 => some (fullR A)
  | _ => none

/-- What of the pieces is taken. -/
def tk : Nat → List (List Int) → List (List Int)
  | 7, l => l
  | _, l => full l
def kOf : Nat → Option Nat
  | 7 => some 12
  | 9 => some 14
  | _ => none

def seqF (A : Ar) : List X → Hp → Tr (X × Hp)
  | [.yld 3, .ptr 1 [], .ptr 2 []], [(.slice (.slice (.int .u8)), .sl (.slice (.int .u8)) out (some x) true), (.slice (.int .u8), .sl (.int .u8) b nl false), (.any, .fn g [] []), (.unit, .rnd key [.ptr 0 []])] =>
    match pOf g with
    | some p => .test (A.se (bytesB b && (nlO nl b && (decide (kOf key = some g) && decide (b.length + out.length ≤ 100000)))))
      (.give (.tup [], [(ssT, sss (A.se (out ++ tk key (cut p b))) (some (A.se (x && (tk key (cut p b)).isEmpty))) true), (sT, u8s b nl false), (.any, .fn g [] []), (.unit, .rnd key [.ptr 0 []])])) .no
    | none => .no
  | _, _ => .no
def LseqF (A : Ar) : List X → Hp → Tr (Ex × List X × Hp)
  | [.yld 3, .ptr 1 [], .ptr 2 [], .d (.int .i64) i], [(.slice (.slice (.int .u8)), .sl (.slice (.int .u8)) out (some x) true), (.slice (.int .u8), .sl (.int .u8) b nl false), (.any, .fn g [] []), (.unit, .rnd key [.ptr 0 []])] =>
    match pOf g with
    | some p => .test (A.se (bytesB b && (nlO nl b && (decide (kOf key = some g) && decide (b.length + out.length ≤ 100000 ∧ 0 ≤ i ∧ i ≤ b.length + 1)))))
      (.give (.exit 0, [.yld 3, .ptr 1 [], .ptr 2 [], .dead], [(ssT, sss (A.se (out ++ tk key (pcs p b i.toNat))) (some (A.se (x && (tk key (pcs p b i.toNat)).isEmpty))) true), (sT, u8s b nl false), (.any, .fn g [] []), (.unit, .rnd key [.ptr 0 []])])) .no
    | none => .no
  | _, _ => .no
def Lseq (A : Ar) : Lp := fun k => match k with
  | 1 => some (34, [0, 1, 2, 4], LseqF A)
  | _ => none

def Ok (A : Ar) (b : List Int) (nl : Option Bool) : Bool := A.se (bytesB b && (nlO nl b && decide (b.length ≤ 50000)))
def splitF (A : Ar) : List X → Tr X
  | [.sl (.int .u8) b nl false] => .test (Ok A b nl) (.give (sss (A.se (splitL b)) (some (A.se false)) false)) .no
  | _ => .no
def fieldsF (A : Ar) : List X → Tr X
  | [.sl (.int .u8) b nl false] => .test (Ok A b nl) (.give (sss (A.se (fieldsL b)) (some (A.se (fieldsL b).isEmpty)) false)) .no
  | _ => .no
def bareF (A : Ar) : List X → Tr X
  | [.sl (.int .u8) b nl false] => .test (Ok A b nl) (.give (boolx (A.se (bareB b)))) .no
  | _ => .no

def bytesBB (l : List (List Int)) : Bool := l.all bytesB
def sameF (A : Ar) : List X → Tr X
  | [.sl (.slice (.int .u8)) a nl false, .sl (.slice (.int .u8)) b nl2 false] => .test (A.se (bytesBB a && (bytesBB b && decide (a.length ≤ 100000 ∧ b.length ≤ 100000)))) (.give (boolx (A.se (a == b)))) .no
  | _ => .no
def LsameF (A : Ar) : List X → Hp → Tr (Ex × List X × Hp)
  | [.sl (.slice (.int .u8)) a nl false, .sl (.slice (.int .u8)) b nl2 false, .d .bool x, .d (.int .i64) i], [] =>
    .test (A.se (bytesBB a && (bytesBB b && decide (a.length ≤ 100000 ∧ a.length = b.length ∧ 0 ≤ i ∧ i ≤ a.length))))
      (.test (A.se (a.drop i.toNat == b.drop i.toNat)) (.give (.exit 0, [sss a nl false, sss b nl2 false, boolx x, .dead], []))
        (.give (.ret, [sss a nl false, sss b nl2 false, boolx false, .dead], []))) .no
  | _, _ => .no
def Lsame (A : Ar) : Lp := fun k => match k with
  | 4 => some (28, [0, 1, 4, 5], LsameF A)
  | _ => none
def awakeF : List X → Tr X
  | [] => .give (boolx true)
  | _ => .no

def noO : OT := fun _ => none
def Ol1 (A : Ar) : OT := Oadd (Oadd noO 13 (.pure (cloneG A))) 12 (.pure endF)
def Ol2 (A : Ar) : OT := Oadd (Ol1 A) 18 (.ext (ixbF A))
def Ol3 (A : Ar) : OT := Oadd (Ol2 A) 15 (.pure (ixbF A))
def Ol4 (A : Ar) : OT := Oadd (Ol3 A) 14 (.pure (blF A))
def Ol5 (A : Ar) : OT := Oadd (Ol4 A) 17 (.pure (idxF A))
def Ol6 (A : Ar) : OT := Oadd (Oadd (Ol5 A) 11 (.eff piecesF)) 16 (.eff (seqF A))
def Ol7 (A : Ar) : OT := Oadd (Oadd (Ol6 A) 7 (.pure (splitF A))) 9 (.pure (fieldsF A))
def Ol8 (A : Ar) : OT := Oadd (Oadd (Ol7 A) 10 (.pure (bareF A))) 8 (.pure (sameF A))
def Ol9 (A : Ar) : OT := Oadd (Ol8 A) 6 (.pure awakeF)

def k7 : Nat → Option Nat := fun _ => some 7
def k9 : Nat → Option Nat := fun _ => some 9

end Go.Proofs.Ytngifmlpilemlaa.V

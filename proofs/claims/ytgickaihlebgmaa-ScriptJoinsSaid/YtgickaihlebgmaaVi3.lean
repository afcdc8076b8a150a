/-
  Chapter 13, varint: what its functions tell.
  It speaks of the pinned program alone; no condition.
-/
import Derived.Test.YtgickaihlebgmaaCl3
import Derived.Test.YtgickaihlebgmaaVi1
namespace Go.Proofs.Ytgickaihlebgmaa.V
open Go
set_option linter.unusedVariables false

def len64F (A : Ar) : List X → Tr X
  | [.d (.int .u64) n] => .test (A.se (isU64 n)) (.give (i64x (A.se (blen n.toNat : Int)))) .no
  | _ => .no

def sizeF (A : Ar) : List X → Tr X
  | [.d (.int .u64) n] => .test (A.se (isU64 n)) (.give (i64x (A.se ((vb n.toNat).length : Int)))) .no
  | _ => .no

def oneG (A : Ar) (k : Nat) : List X → Tr X
  | [.d (.int .u64) n] => .test (A.se (isU64 n && decide (n.toNat < k))) (.give (u8s (A.se (vb n.toNat)) (some false) true)) .no
  | _ => .no
def oneF (A : Ar) : List X → Tr X
  | [.d (.int .u64) n] => .test (A.se (isU64 n)) (.give (u8s (A.se (vb n.toNat)) (some false) true)) .no
  | _ => .no

def putF (A : Ar) : List X → Tr X
  | [.sl (.int .u8) b (some nl) false, .d (.int .u64) n] => .test (A.se (isU64 n && (decide (b.length ≤ 100000000) && nlB nl b))) (.give (u8s (A.se (b ++ vb n.toNat)) (some false) true)) .no
  | _ => .no

def tkN (b : List Int) : Int := match takeV b with | some (v, _) => v | none => 0
def tkR (b : List Int) : List Int := match takeV b with | some (_, r) => r | none => []
def tkB (b : List Int) : Bool := (takeV b).isSome
def tkE (b : List Int) : Int := bif tkB b then 0 else 130
def takeF (A : Ar) : List X → Tr X
  | [.sl (.int .u8) b (some nl) false] => .test (A.se (decide (b.length ≤ 100000000) && (bytesB b && nlB nl b))) (.give (.tup [u64x (A.se (tkN b)), u8s (A.se (tkR b)) (some (A.se (!tkB b))) false, i64x (A.se (tkE b))])) .no
  | _ => .no

def Ovi1 (A : Ar) : OT := Oadd (Ocl A) 27 (.pure (len64F A))
def Ovi2 (A : Ar) : OT := Oadd (Ovi1 A) 17 (.pure (sizeF A))
def OviG (A : Ar) (k : Nat) : OT := Oadd (Ovi2 A) 30 (.pure (oneG A k))
def Ovi3 (A : Ar) : OT := Oadd (Ovi2 A) 30 (.pure (oneF A))
def Ovi4 (A : Ar) : OT := Oadd (Oadd (Ovi3 A) 29 (.pure (putF A))) 24 (.pure (putF A))
def Ovi (A : Ar) : OT := Oadd (Oadd (Ovi4 A) 36 (.pure (takeF A))) 37 (.pure (takeF A))

/-! Loops -/
/-- Put's: the number's bytes but the last one. -/
def L10F (A : Ar) : List X → Hp → Tr (Ex × List X × Hp)
  | [.d (.int .u64) n, .sl (.int .u8) b (some nl) true, .d (.int .i64) l, .d (.int .i64) i], [] =>
    .test (A.se (isU64 n && (decide (0 ≤ i ∧ l = i + (vb n.toNat).length - 1 ∧ l ≤ 10) && decide (b.length + (vb n.toNat).length ≤ 1000000000))))
      (.give (.exit 0, [u64x (A.se ((vb n.toNat).getLast?.getD 0)), u8s (A.se (b ++ (vb n.toNat).dropLast)) (some (A.se (nl && (vb n.toNat).dropLast.isEmpty))) true, i64x l, i64x l], [])) .no
  | _, _ => .no
def L10 (A : Ar) : Lp := fun k => match k with
  | 3 => some (27, [1, 5, 10, 11], L10F A)
  | _ => none

/-- The document's taking: the first byte below 128. -/
def kOf (b : List Int) : Nat := (b.takeWhile fun x => decide (128 ≤ x)).length
def L9aF (A : Ar) : List X → Hp → Tr (Ex × List X × Hp)
  | [.sl (.int .u8) b (some nl) false, .d (.int .i64) i], [] =>
    .test (A.se (decide (b.length ≤ 100000000) && decide (0 ≤ i ∧ i ≤ b.length))) (.give (.exit 0, [u8s b (some nl) false, i64x (A.se (i + kOf (b.drop i.toNat)))], [])) .no
  | _, _ => .no
/-- Bytes as digits, the last one the greatest, modulo 2 to the 64th, behind a number. -/
def digs (n : Int) (b : List Int) : Int := b.foldr (fun x n => (n * 128 + x % 128) % 18446744073709551616) n
def L9bF (A : Ar) : List X → Hp → Tr (Ex × List X × Hp)
  | [.sl (.int .u8) b (some nl) false, .d (.int .i64) j, .d (.int .u64) n, .d (.int .i64) i], [] =>
    .test (A.se (bytesB b && (decide (b.length ≤ 100000000) && (isU64 n && decide (-1 ≤ i ∧ i < b.length)))))
      (.give (.exit 2, [u8s b (some nl) false, i64x j, u64x (A.se (digs n (b.take (i + 1).toNat))), i64x (-1)], [])) .no
  | _, _ => .no
def L9 (A : Ar) : Lp := fun k => match k with
  | 2 => some (57, [0, 5], L9aF A)
  | 8 => some (57, [0, 5, 6, 7], L9bF A)
  | _ => none

/-- Taking: how the loop is left, and what it holds. -/
def tkRest (n : Int) (i : Int) (s : List Int) : Option (Int × List Int) := match dec s with
  | some (v, r) => if n.toNat + 2 ^ (7 * i.toNat) * v < 18446744073709551616 ∧ (vb (n.toNat + 2 ^ (7 * i.toNat) * v)).length = i.toNat + (s.length - r.length) then some (((n.toNat + 2 ^ (7 * i.toNat) * v : Nat) : Int), r) else none
  | none => none
def gTake (b b2 : List Int) (nl nl2 : Bool) (n l i : Int) : Bool := bytesB b && (decide (b.length ≤ 100000000) && (nlB nl b && (decide (b2 = b ∧ nl2 = nl) && decide (l = b.length ∧ 0 ≤ i ∧ i ≤ l ∧ i ≤ 10 ∧ 0 ≤ n ∧ n < 2 ^ (7 * i.toNat) ∧ n < 18446744073709551616))))
def L8F (A : Ar) : List X → Hp → Tr (Ex × List X × Hp)
  | [.sl (.int .u8) b (some nl) false, .d (.int .u64) _, .sl (.int .u8) [] (some true) true, .d (.int .i64) _, .d (.int .u64) n, .sl (.int .u8) b2 (some nl2) false, .d (.int .i64) l, .d (.int .i64) i], [] =>
    .test (A.se (gTake b b2 nl nl2 n l i))
      (.test (A.se (tkRest n i (b.drop i.toNat)).isSome)
        (.give (.ret, [.dead, u64x (A.se ((tkRest n i (b.drop i.toNat)).getD (0, [])).1), u8s (A.se ((tkRest n i (b.drop i.toNat)).getD (0, [])).2) (some nl) true, i64x 0, .dead, .dead, .dead, .dead], []))
        (.give (.exit 0, [.dead, .dead, .dead, .dead, .dead, .dead, .dead, .dead], []))) .no
  | _, _ => .no
def L8 (A : Ar) : Lp := fun k => match k with
  | 3 => some (52, [0, 2, 3, 4, 5, 9, 10, 11], L8F A)
  | _ => none

end Go.Proofs.Ytgickaihlebgmaa.V

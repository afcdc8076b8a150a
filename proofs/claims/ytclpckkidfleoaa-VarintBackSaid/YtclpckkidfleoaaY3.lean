/-
  Chapter 13's program: what its functions tell.
  It speaks of the pinned program alone; no condition.
-/
import Derived.Test.YtclpckkidfleoaaV24
import Derived.Test.YtclpckkidfleoaaY1
import Derived.Test.YtclpckkidfleoaaY2
namespace Go.Proofs.Ytclpckkidfleoaa.V
open Go
set_option linter.unusedVariables false

abbrev u8s (b : List Int) (nl : Option Bool) (own : Bool) : X := .sl (.int .u8) b nl own
abbrev u64s (b : List Int) (nl : Option Bool) (own : Bool) : X := .sl (.int .u64) b nl own
abbrev u64x (n : Int) : X := .d (.int .u64) n
abbrev u8x (n : Int) : X := .d (.int .u8) n
abbrev i64x (n : Int) : X := .d (.int .i64) n
abbrev boolx (n : Bool) : X := .d .bool n

def bytesB (b : List Int) : Bool := b.all fun x => decide (0 ≤ x ∧ x < 256)
def isU64 (n : Int) : Bool := decide (0 ≤ n ∧ n < 18446744073709551616)
theorem isU64_iff {n : Int} : isU64 n = true ↔ 0 ≤ n ∧ n < 18446744073709551616 := by simp [isU64]
theorem bytesB_iff {b : List Int} : bytesB b = true ↔ ∀ x ∈ b, 0 ≤ x ∧ x < 256 := by simp [bytesB]

def cloneF (A : Ar) : List X → Tr X
  | [.sl (.int .u8) b (some nl) false] => .test (A.se (decide (b.length ≤ 1000000) && (!nl || b.isEmpty))) (.give (u8s b (some nl) true)) .no
  | _ => .no

def len64F (A : Ar) : List X → Tr X
  | [.d (.int .u64) n] => .test (A.se (isU64 n)) (.give (i64x (A.se (blen n.toNat : Int)))) .no
  | _ => .no

def sizeF (A : Ar) : List X → Tr X
  | [.d (.int .u64) n] => .test (A.se (isU64 n)) (.give (i64x (A.se ((vb n.toNat).length : Int)))) .no
  | _ => .no

def oneG (A : Ar) (k : Nat) : List X → Tr X
  | [.d (.int .u64) n] => .test (A.se (isU64 n && decide (n.toNat < k))) (.give (u8s (A.se (vb n.toNat)) (some false) true)) .no
  | _ => .no
def oneF (A : Ar) : List X → Tr X
  | [.d (.int .u64) n] => .test (A.se (isU64 n)) (.give (u8s (A.se (vb n.toNat)) (some false) true)) .no
  | _ => .no

def putF (A : Ar) : List X → Tr X
  | [.sl (.int .u8) b (some nl) false, .d (.int .u64) n] => .test (A.se (isU64 n && (decide (b.length ≤ 100000) && (!nl || b.isEmpty)))) (.give (u8s (A.se (b ++ vb n.toNat)) (some false) true)) .no
  | _ => .no

def tkN (b : List Int) : Int := match takeV b with | some (v, _) => v | none => 0
def tkR (b : List Int) : List Int := match takeV b with | some (_, r) => r | none => []
def tkB (b : List Int) : Bool := (takeV b).isSome
def tkE (b : List Int) : Int := bif tkB b then 0 else 130
def takeF (A : Ar) : List X → Tr X
  | [.sl (.int .u8) b (some nl) false] => .test (A.se (decide (b.length ≤ 100000) && (bytesB b && (!nl || b.isEmpty)))) (.give (.tup [u64x (A.se (tkN b)), u8s (A.se (tkR b)) (some (A.se (!tkB b))) false, i64x (A.se (tkE b))])) .no
  | _ => .no

abbrev OT := Nat → Option Orc
def O16 (A : Ar) : OT := Oadd (fun _ => none) 16 (.pure (len64F A))
def O14 (A : Ar) : OT := Oadd (O16 A) 14 (.pure (cloneF A))
def O12 (A : Ar) : OT := Oadd (O14 A) 12 (.pure (sizeF A))
def O15 (A : Ar) (k : Nat) : OT := Oadd (O12 A) 15 (.pure (oneG A k))
def O15' (A : Ar) : OT := Oadd (O12 A) 15 (.pure (oneF A))
def O10 (A : Ar) : OT := Oadd (O15' A) 10 (.pure (putF A))
def O11 (A : Ar) : OT := Oadd (O10 A) 11 (.pure (putF A))
def O13 (A : Ar) : OT := Oadd (O11 A) 13 (.pure (sizeF A))
def O8 (A : Ar) : OT := Oadd (O13 A) 8 (.pure (takeF A))
def O9 (A : Ar) : OT := Oadd (O8 A) 9 (.pure (takeF A))
def awakeF : List X → Tr X
  | [] => .give (boolx true)
  | _ => .no
def O7 (A : Ar) : OT := Oadd (O9 A) 7 (.pure awakeF)

/-! Loops -/
/-- Put's: the number's bytes but the last one. -/
def L10F (A : Ar) : List X → Hp → Tr (Ex × List X × Hp)
  | [.d (.int .u64) n, .sl (.int .u8) b (some nl) true, .d (.int .i64) l, .d (.int .i64) i], [] =>
    .test (A.se (isU64 n && (decide (0 ≤ i ∧ l = i + (vb n.toNat).length - 1 ∧ l ≤ 10) && decide (b.length + (vb n.toNat).length ≤ 1000000))))
      (.give (.exit 0, [u64x (A.se ((vb n.toNat).getLast?.getD 0)), u8s (A.se (b ++ (vb n.toNat).dropLast)) (some (A.se (nl && (vb n.toNat).dropLast.isEmpty))) true, i64x l, i64x l], [])) .no
  | _, _ => .no
def L10 (A : Ar) : Lp := fun k => match k with
  | 3 => some (27, [1, 5, 10, 11], L10F A)
  | _ => none

/-- The document's taking: the first byte below 128. -/
def kOf (b : List Int) : Nat := (b.takeWhile fun x => decide (128 ≤ x)).length
def L9aF (A : Ar) : List X → Hp → Tr (Ex × List X × Hp)
  | [.sl (.int .u8) b (some nl) false, .d (.int .i64) i], [] =>
    .test (A.se (decide (b.length ≤ 100000) && decide (0 ≤ i ∧ i ≤ b.length))) (.give (.exit 0, [u8s b (some nl) false, i64x (A.se (i + kOf (b.drop i.toNat)))], [])) .no
  | _, _ => .no
/-- Bytes as digits, the last one the greatest, modulo 2 to the 64th, behind a number. -/
def digs (n : Int) (b : List Int) : Int := b.foldr (fun x n => (n * 128 + x % 128) % 18446744073709551616) n
def L9bF (A : Ar) : List X → Hp → Tr (Ex × List X × Hp)
  | [.sl (.int .u8) b (some nl) false, .d (.int .i64) j, .d (.int .u64) n, .d (.int .i64) i], [] =>
    .test (A.se (bytesB b && (decide (b.length ≤ 100000) && (isU64 n && decide (-1 ≤ i ∧ i < b.length)))))
      (.give (.exit 2, [u8s b (some nl) false, i64x j, u64x (A.se (digs n (b.take (i + 1).toNat))), i64x (-1)], [])) .no
  | _, _ => .no
def L9 (A : Ar) : Lp := fun k => match k with
  | 2 => some (57, [0, 5], L9aF A)
  | 8 => some (57, [0, 5, 6, 7], L9bF A)
  | _ => none

/-- Taking: how the loop is left, and what it holds. -/
def tkRest (n : Int) (i : Int) (s : List Int) : Option (Int × List Int) := match dec s with
  | some (v, r) => if n.toNat + 2 ^ (7 * i.toNat) * v < 18446744073709551616 ∧ (vb (n.toNat + 2 ^ (7 * i.toNat) * v)).length = i.toNat + (s.length - r.length) then some (((n.toNat + 2 ^ (7 * i.toNat) * v : Nat) : Int), r) else none
  | none => none
def gTake (b b2 : List Int) (nl nl2 : Bool) (n l i : Int) : Bool := bytesB b && (decide (b.length ≤ 100000) && ((!nl || b.isEmpty) && (decide (b2 = b ∧ nl2 = nl) && decide (l = b.length ∧ 0 ≤ i ∧ i ≤ l ∧ i ≤ 10 ∧ 0 ≤ n ∧ n < 2 ^ (7 * i.toNat) ∧ n < 18446744073709551616))))
def L8F (A : Ar) : List X → Hp → Tr (Ex × List X × Hp)
  | [.sl (.int .u8) b (some nl) false, .d (.int .u64) _, .sl (.int .u8) [] (some true) true, .d (.int .i64) _, .d (.int .u64) n, .sl (.int .u8) b2 (some nl2) false, .d (.int .i64) l, .d (.int .i64) i], [] =>
    .test (A.se (gTake b b2 nl nl2 n l i))
      (.test (A.se (tkRest n i (b.drop i.toNat)).isSome)
        (.give (.ret, [.dead, u64x (A.se ((tkRest n i (b.drop i.toNat)).getD (0, [])).1), u8s (A.se ((tkRest n i (b.drop i.toNat)).getD (0, [])).2) (some nl) true, i64x 0, .dead, .dead, .dead, .dead], []))
        (.give (.exit 0, [.dead, .dead, .dead, .dead, .dead, .dead, .dead, .dead], []))) .no
  | _, _ => .no
def L8 (A : Ar) : Lp := fun k => match k with
  | 3 => some (52, [0, 2, 3, 4, 5, 9, 10, 11], L8F A)
  | _ => none

end Go.Proofs.Ytclpckkidfleoaa.V

/-
  Chapter 05, numbers: what the functions tell.
  It speaks of the pinned program alone; no condition.
-/
import Derived.Test.YtlikejlgpfhkfaaDoorNu2
namespace Go.Proofs.YtlikejlgpfhkfaaDoor.V
open Go
set_option linter.unusedVariables false

def noO : OT := fun _ => none
def On1 (A : Ar) : OT := Oadd noO 17 (.own (auF A))
def On2 (A : Ar) : OT := Oadd (On1 A) 14 (.own (auF A))
def wrF (A : Ar) : List X → Tr X
  | [.d (.int .u64) c] => .test (A.se (isU64 c)) (.give (u8s (A.se (digs c.toNat)) (some false) true)) .no
  | _ => .no
def On3 (A : Ar) : OT := Oadd (On2 A) 11 (.pure (wrF A))
/-- The reference's, of costs below a number. -/
def rwF (A : Ar) (n : Nat) : List X → Tr X
  | [.d (.int .u64) c] => .test (A.se (isU64 c && decide (c.toNat < n))) (.give (u8s (A.se (digs c.toNat)) (some false) true)) .no
  | _ => .no
def Orw (A : Ar) (n : Nat) : OT := Oadd noO 12 (.pure (rwF A n))
def On4 (A : Ar) : OT := Oadd (On3 A) 12 (.pure (wrF A))
def On5 (A : Ar) : OT := Oadd (On4 A) 13 (.pure (puF A))

/-- Are all signs of a string from a place on digits, and where does the walk end? -/
def scanF : Nat → ByteArray → Int → Bool × Int
  | 0, _, p => (true, p)
  | f + 1, s, p => bif decide (p < (s.size : Int)) then bif decide (runeAt s p < 48) || decide (runeAt s p > 57) then (false, p + widthAt s p) else scanF f s (p + widthAt s p) else (true, p)
def scan (s : ByteArray) (p : Int) : Bool × Int := scanF (s.size + 1) s p

def LreadF (A : Ar) : List X → Hp → Tr (Ex × List X × Hp)
  | [.sl (.int .u8) b nl false, .ptr 0 []], [(.unit, .tup [.d .str s, .d (.int .i64) p])] => .test (A.se (decide (0 ≤ p ∧ p ≤ s.size ∧ s.size ≤ 1000000000 ∧ bytesB b = true ∧ s = strOf b)))
      (.test (A.se (scan s p).1) (.give (.exit 0, [.sl (.int .u8) b nl false, .ptr 0 []], [(.unit, iterX s (A.se (scan s p).2))])) (.give (.goto 0, [.sl (.int .u8) b nl false, .ptr 0 []], [(.unit, iterX s (A.se (scan s p).2))]))) .no
  | _, _ => .no
def Lread (A : Ar) : Lp := fun k => match k with
  | 3 => some (41, [0, 9], LreadF A)
  | _ => none
def rdN (A : Ar) : List X → Tr X
  | [.sl (.int .u8) b nl false] => .test (A.se (bytesB b && decide (b.length ≤ 1000000000))) (.give (.tup [u64x (A.se (readC b)), i64x (A.se (readE b))])) .no
  | _ => .no
def On6 (A : Ar) : OT := Oadd (On5 A) 9 (.pure (rdN A))

/-- The reference's loop: the number so far, wrapped; whether a byte is none. -/
def accR (c : Int) (b : List Int) : Int := b.foldl (fun c d => (10 * c + (d - 48)) % 18446744073709551616) c
def LrefF (A : Ar) : List X → Hp → Tr (Ex × List X × Hp)
  | [.sl (.int .u8) b nl false, .d (.int .u64) y, .d (.int .i64) z, .d (.int .u64) c, .d (.int .i64) i], [] => .test (A.se (bytesB b && decide (b.length ≤ 20 ∧ 0 ≤ i ∧ i ≤ b.length ∧ y = 0 ∧ z = 0) && isU64 c))
      (.test (A.se (allDig (b.drop i.toNat))) (.give (.exit 0, [.sl (.int .u8) b nl false, .dead, .dead, u64x (A.se (accR c (b.drop i.toNat))), .dead], []))
        (.give (.ret, [.dead, u64x 0, i64x 50, .dead, .dead], []))) .no
  | _, _ => .no
def Lref (A : Ar) : Lp := fun k => match k with
  | 5 => some (52, [0, 2, 3, 4, 5], LrefF A)
  | _ => none
def On7 (A : Ar) : OT := Oadd (On6 A) 10 (.pure (rdN A))
def awF : List X → Tr X
  | [] => .give (boolx true)
  | _ => .no
def On8 (A : Ar) : OT := Oadd (On7 A) 8 (.pure awF)

/-- NumCuts' loop: so many tenths. -/
def tenths (n : Int) (k : Nat) : Int := n / 10 ^ k
def LcutF (A : Ar) : List X → Hp → Tr (Ex × List X × Hp)
  | _, _ => .no

/-- NumWrong: the copy that is written in place. -/
def Mwr : Nat → Nat := fun d => match d with
  | 37 => 1
  | 10 => 2
  | 43 => 3
  | _ => 0

end Go.Proofs.YtlikejlgpfhkfaaDoor.V

/-
  Chapter 14: what the functions tell.
  It speaks of the pinned program alone; no condition.
-/
import Derived.Test.YtnjjloffhbfenaaB4
import Derived.Test.YtnjjloffhbfenaaCrc1
namespace Go.Proofs.Ytnjjloffhbfenaa.V
open Go
set_option linter.unusedVariables false

abbrev aT : Ty := .arr 256 (.int .u32)
def tableF : List X → Tr X
  | [] => .give (.d aT crcTab)
  | _ => .no
def isU32 (n : Int) : Bool := decide (0 ≤ n ∧ n < 4294967296)
theorem isU32_iff {n : Int} : isU32 n = true ↔ 0 ≤ n ∧ n < 4294967296 := by simp [isU32]

def LtabF (A : Ar) : List X → Hp → Tr (Ex × List X × Hp)
  | [.ptr 0 [], .d (.int .i64) i], [(.arr 256 (.int .u32), .d (.arr 256 (.int .u32)) l)] => .test (A.se (decide (0 ≤ i ∧ i ≤ 256) && decide (List.length l = 256)))
      (.give (.exit 0, [.ptr 0 [], i64x 256], [(.arr 256 (.int .u32), .d (.arr 256 (.int .u32)) (A.se (l.take i.toNat ++ crcTab.drop i.toNat)))])) .no
  | _, _ => .no
def Ltab2F (A : Ar) : List X → Hp → Tr (Ex × List X × Hp)
  | [.ptr 0 [], .d (.int .i64) i, .d (.int .u32) s, .d (.int .i64) j, .d (.int .i64) k], H => .test (A.se (isU32 s && decide (0 ≤ k ∧ k ≤ 8)))
      (.give (.exit 2, [.ptr 0 [], i64x i, u32x (A.se (stps (8 - k.toNat) s.toNat : Int)), i64x j, i64x 8], H)) .no
  | _, _ => .no
def Ltab (A : Ar) : Lp := fun k => match k with
  | 2 => some (26, [0, 4], LtabF A)
  | 6 => some (26, [0, 1, 2, 4, 9], Ltab2F A)
  | _ => none

def sumF (A : Ar) : List X → Tr X
  | [.sl (.int .u8) b (some nl) false] => .test (A.se (decide (b.length ≤ 100000) && bytesB b)) (.give (u32x (A.se (sumB b : Int)))) .no
  | _ => .no
def LsumF (A : Ar) : List X → Hp → Tr (Ex × List X × Hp)
  | [.ptr 0 [], .d (.int .u32) s, .sl (.int .u8) b (some nl) false, .d (.int .i64) l, .d (.int .i64) i], [(.arr 256 (.int .u32), .d (.arr 256 (.int .u32)) t)] =>
      .test (A.se (bytesB b && (decide (t = crcTab) && (isU32 s && decide (b.length ≤ 100000 ∧ l = b.length ∧ 0 ≤ i ∧ i ≤ l)))))
      (.give (.exit 0, [.ptr 0 [], u32x (A.se (crcS s.toNat (b.drop i.toNat) : Int)), u8s b (some nl) false, i64x l, i64x l], [(.arr 256 (.int .u32), .d (.arr 256 (.int .u32)) t)])) .no
  | _, _ => .no
def Lsum (A : Ar) : Lp := fun k => match k with
  | 4 => some (26, [3, 4, 8, 9, 10], LsumF A)
  | _ => none

def LrefF (A : Ar) : List X → Hp → Tr (Ex × List X × Hp)
  | [.sl (.int .u8) b (some nl) false, .d (.int .u32) s, .d (.int .i64) i], [] =>
      .test (A.se (bytesB b && (isU32 s && decide (b.length ≤ 100000 ∧ 0 ≤ i ∧ i ≤ b.length))))
      (.give (.exit 0, [u8s b (some nl) false, u32x (A.se (crcS s.toNat (b.drop i.toNat) : Int)), i64x (A.se (b.length : Int))], [])) .no
  | _, _ => .no
def Lref2F (A : Ar) : List X → Hp → Tr (Ex × List X × Hp)
  | [.sl (.int .u8) b (some nl) false, .d (.int .u32) s, .d (.int .i64) i, .d (.int .i64) k], [] => .test (A.se (isU32 s && decide (0 ≤ k ∧ k ≤ 8)))
      (.give (.exit 2, [u8s b (some nl) false, u32x (A.se (stps (8 - k.toNat) s.toNat : Int)), i64x i, i64x 8], [])) .no
  | _, _ => .no
def Lref (A : Ar) : Lp := fun k => match k with
  | 3 => some (33, [0, 3, 4], LrefF A)
  | 7 => some (33, [0, 3, 4, 5], Lref2F A)
  | _ => none

/-- So many bytes of a number, the lowest ahead. -/
def leN : Nat → Nat → List Int
  | 0, _ => []
  | n + 1, s => ((s % 256 : Nat) : Int) :: leN n (s / 256)
def LsealF (A : Ar) : List X → Hp → Tr (Ex × List X × Hp)
  | [.sl (.int .u8) b (some nl) true, .d (.int .u32) s, .d (.int .i64) i], [] => .test (A.se (isU32 s && (decide (b.length ≤ 1000000) && decide (0 ≤ i ∧ i ≤ 4))))
      (.give (.exit 0, [u8s (A.se (b ++ leN (4 - i.toNat) s.toNat)) (some (A.se (nl && decide (i = 4)))) true, .dead, i64x 4], [])) .no
  | _, _ => .no
def Lseal (A : Ar) : Lp := fun k => match k with
  | 4 => some (20, [3, 4, 9], LsealF A)
  | _ => none
def sealF (A : Ar) (o : Bool) : List X → Tr X
  | [.sl (.int .u8) b (some nl) false] => .test (A.se (decide (b.length ≤ 100000) && (bytesB b && nlB nl b))) (.give (u8s (A.se (sealB b)) (some false) o)) .no
  | _ => .no

def opR (b : List Int) : List Int := bif openB b then b.take (b.length - 4) else []
def opE (b : List Int) : Int := bif openB b then 0 else 140
def openF (A : Ar) : List X → Tr X
  | [.sl (.int .u8) b (some nl) false] => .test (A.se (decide (b.length ≤ 100000) && (bytesB b && nlB nl b))) (.give (.tup [u8s (A.se (opR b)) (some (A.se (!openB b))) false, i64x (A.se (opE b))])) .no
  | _ => .no
def awakeF : List X → Tr X
  | [] => .give (boolx true)
  | _ => .no

def Ostd (A : Ar) : OT := Oadd (Oadd (fun _ => none) 15 (.pure (cloneF A))) 14 (.pure (equalF A))
def Otab (A : Ar) : OT := Oadd (Ostd A) 16 (.pure tableF)
def Osum (A : Ar) : OT := Oadd (Oadd (Otab A) 10 (.pure (sumF A))) 11 (.pure (sumF A))
def Oseal (A : Ar) : OT := Oadd (Oadd (Osum A) 12 (.pure (sealF A false))) 13 (.pure (sealF A true))
def Oopen (A : Ar) : OT := Oadd (Oadd (Oseal A) 8 (.pure (openF A))) 9 (.pure (openF A))
def Oawake (A : Ar) : OT := Oadd (Oopen A) 7 (.pure awakeF)

end Go.Proofs.Ytnjjloffhbfenaa.V

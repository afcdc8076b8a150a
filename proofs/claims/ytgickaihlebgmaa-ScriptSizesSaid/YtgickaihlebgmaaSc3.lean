/-
  Chapter 23: what the functions tell.
  It speaks of the pinned program alone; no condition.
-/
import Derived.Test.YtgickaihlebgmaaVi7
import Derived.Test.YtgickaihlebgmaaSc1
namespace Go.Proofs.Ytgickaihlebgmaa.V
open Go
set_option linter.unusedVariables false

abbrev cmdT : Ty := .struct (.prod (.int .i64) (.prod (.slice (.int .u8)) (.prod (.slice (.int .u8)) (.prod (.int .i64) (.prod (.int .u64) (.prod (.int .i64) .unit))))))
abbrev bytT : Ty := .struct (.prod (.slice (.int .u8)) (.prod .bool .unit))
abbrev shT : Ty := .struct (.prod (.int .i64) (.prod (.int .i64) .unit))
abbrev rdT : Ty := .struct (.prod bytT (.prod cmdT .unit))
abbrev cms (l : List Cm) (nl : Option Bool) (o : Bool) : X := .sl cmdT l nl o
abbrev cmx (c : Cm) : X := .d cmdT c

/-- A command's numbers fit, its texts are bytes. -/
def wfB (c : Cm) : Bool := bytesB c.2.1 && (bytesB c.2.2.1 && decide (c.1 < 9223372036854775808 ∧ -9223372036854775808 ≤ c.1 ∧ c.2.2.2.1 < 9223372036854775808 ∧ 0 ≤ c.2.2.2.2.1 ∧ c.2.2.2.2.1 < 18446744073709551616 ∧ c.2.2.2.2.2.1 < 9223372036854775808))

def ofF (A : Ar) : List X → Tr X
  | [.d (.int .i64) k] => .test (A.se (decide (k = 1))) (.give (.tup [.d shT (2, 0, ()), boolx true])) (.test (A.se (decide (k = 5))) (.give (.tup [.d shT (1, 3, ()), boolx true]))
      (.test (A.se (decide (k = 2 ∨ k = 4))) (.give (.tup [.d shT (1, 0, ()), boolx true])) (.test (A.se (decide (k = 3))) (.give (.tup [.d shT (0, 0, ()), boolx true])) (.give (.tup [.d shT (0, 0, ()), boolx false])))))
  | _ => .no
def checkF (A : Ar) : List X → Tr X
  | [.d (.struct (.prod (.int .i64) (.prod (.slice (.int .u8)) (.prod (.slice (.int .u8)) (.prod (.int .i64) (.prod (.int .u64) (.prod (.int .i64) .unit))))))) c] => .give (boolx (A.se (checkC c)))
  | _ => .no
def nocheckF (A : Ar) : List X → Tr X
  | [.d (.struct (.prod (.int .i64) (.prod (.slice (.int .u8)) (.prod (.slice (.int .u8)) (.prod (.int .i64) (.prod (.int .u64) (.prod (.int .i64) .unit))))))) c] => .give (boolx (A.se (!checkC c)))
  | _ => .no
/-- The first command that may not be. -/
def firstBad : List Cm → Int
  | [] => -1
  | c :: l => if checkC c then (if firstBad l < 0 then -1 else firstBad l + 1) else 0
def indexF (A : Ar) : List X → Tr X
  | [.sl (.struct (.prod (.int .i64) (.prod (.slice (.int .u8)) (.prod (.slice (.int .u8)) (.prod (.int .i64) (.prod (.int .u64) (.prod (.int .i64) .unit))))))) l nl false, .fn 19 [] []] => .test (A.se (decide (l.length ≤ 140737488355328))) (.give (i64x (A.se (firstBad l)))) .no
  | _ => .no
def containsF (A : Ar) : List X → Tr X
  | [.sl (.struct (.prod (.int .i64) (.prod (.slice (.int .u8)) (.prod (.slice (.int .u8)) (.prod (.int .i64) (.prod (.int .u64) (.prod (.int .i64) .unit))))))) l nl false, .fn 19 [] []] => .test (A.se (decide (l.length ≤ 140737488355328))) (.give (boolx (A.se (!l.all checkC)))) .no
  | _ => .no
def LidxF (A : Ar) : List X → Hp → Tr (Ex × List X × Hp)
  | [.sl (.struct (.prod (.int .i64) (.prod (.slice (.int .u8)) (.prod (.slice (.int .u8)) (.prod (.int .i64) (.prod (.int .u64) (.prod (.int .i64) .unit))))))) l nl false, .fn 19 [] [], .d (.int .i64) z, .d (.int .i64) n, .d (.int .i64) i], [] =>
    .test (A.se (decide (l.length ≤ 140737488355328 ∧ n = l.length ∧ 0 ≤ i ∧ i ≤ n)))
      (.test (A.se (decide (firstBad (l.drop i.toNat) < 0))) (.give (.exit 0, [.dead, .dead, i64x z, .dead, .dead], [])) (.give (.ret, [.dead, .dead, i64x (A.se (i + firstBad (l.drop i.toNat))), .dead, .dead], []))) .no
  | _, _ => .no
def Lidx (A : Ar) : Lp := fun k => match k with
  | 2 => some (19, [0, 1, 4, 7, 8], LidxF A)
  | _ => none

def small (c : Cm) : Bool := decide (c.2.1.length ≤ 3000 ∧ c.2.2.1.length ≤ 3000)
def fewF (A : Ar) : List X → Tr X
  | [.sl (.struct (.prod (.int .i64) (.prod (.slice (.int .u8)) (.prod (.slice (.int .u8)) (.prod (.int .i64) (.prod (.int .u64) (.prod (.int .i64) .unit))))))) l nl false, .d (.int .i64) m] => .test (A.se (decide (l.length ≤ 9223372036854775807))) (.give (boolx (A.se (l.all small && decide ((l.length : Int) ≤ m))))) .no
  | _ => .no
def LfewF (A : Ar) : List X → Hp → Tr (Ex × List X × Hp)
  | [.sl (.struct (.prod (.int .i64) (.prod (.slice (.int .u8)) (.prod (.slice (.int .u8)) (.prod (.int .i64) (.prod (.int .u64) (.prod (.int .i64) .unit))))))) l nl false, .d (.int .i64) m, .d .bool z, .d (.int .i64) i], [] =>
    .test (A.se (decide (l.length ≤ 9223372036854775807 ∧ 0 ≤ i ∧ i ≤ l.length)))
      (.test (A.se ((l.drop i.toNat).all small)) (.give (.exit 0, [cms l nl false, i64x m, boolx z, .dead], [])) (.give (.ret, [.dead, .dead, boolx false, .dead], []))) .no
  | _, _ => .no
def Lfew (A : Ar) : Lp := fun k => match k with
  | 2 => some (32, [0, 1, 4, 5], LfewF A)
  | _ => none

open Classical in
noncomputable def eqCs (a b : List Cm) : Bool := decide (a = b)
theorem eqCs_iff {a b : List Cm} : eqCs a b = true ↔ a = b := by simp [eqCs]
noncomputable def sameF (A : Ar) : List X → Tr X
  | [.sl (.struct (.prod (.int .i64) (.prod (.slice (.int .u8)) (.prod (.slice (.int .u8)) (.prod (.int .i64) (.prod (.int .u64) (.prod (.int .i64) .unit))))))) a na false, .sl (.struct (.prod (.int .i64) (.prod (.slice (.int .u8)) (.prod (.slice (.int .u8)) (.prod (.int .i64) (.prod (.int .u64) (.prod (.int .i64) .unit))))))) b nb false] => .test (A.se (decide (a.length ≤ 1000000000) && (a.all wfB && b.all wfB))) (.give (boolx (A.se (eqCs a b)))) .no
  | _ => .no
noncomputable def LsameF (A : Ar) : List X → Hp → Tr (Ex × List X × Hp)
  | [.sl (.struct (.prod (.int .i64) (.prod (.slice (.int .u8)) (.prod (.slice (.int .u8)) (.prod (.int .i64) (.prod (.int .u64) (.prod (.int .i64) .unit))))))) a na false, .sl (.struct (.prod (.int .i64) (.prod (.slice (.int .u8)) (.prod (.slice (.int .u8)) (.prod (.int .i64) (.prod (.int .u64) (.prod (.int .i64) .unit))))))) b nb false, .d .bool z, .d (.int .i64) i], [] =>
    .test (A.se (decide (a.length ≤ 1000000000 ∧ b.length = a.length ∧ 0 ≤ i ∧ i ≤ a.length) && (a.all wfB && b.all wfB)))
      (.test (A.se (eqCs (a.drop i.toNat) (b.drop i.toNat))) (.give (.exit 0, [.dead, .dead, boolx z, .dead], [])) (.give (.ret, [.dead, .dead, boolx false, .dead], []))) .no
  | _, _ => .no
noncomputable def Lsame (A : Ar) : Lp := fun k => match k with
  | 4 => some (100, [0, 1, 4, 5], LsameF A)
  | _ => none

/-! Writing -/
def writeB (l : List Cm) : List Int := bif l.all checkC then encs l else []
def writeE (l : List Cm) : Int := bif l.all checkC then 0 else 230
/-- A list that may be written: its numbers fit, and it is not too long. -/
def wl (l : List Cm) : Bool := l.all wfB && decide ((encs l).length ≤ 10000000 ∧ l.length ≤ 10000000)
def writeF (A : Ar) : List X → Tr X
  | [.sl (.struct (.prod (.int .i64) (.prod (.slice (.int .u8)) (.prod (.slice (.int .u8)) (.prod (.int .i64) (.prod (.int .u64) (.prod (.int .i64) .unit))))))) l nl false] => .test (A.se (wl l)) (.give (.tup [u8s (A.se (writeB l)) (some (A.se (writeB l).isEmpty)) false, i64x (A.se (writeE l))])) .no
  | _ => .no

def textF (A : Ar) : List X → Hp → Tr (X × Hp)
  | [.ptr 0 [], .sl (.int .u8) t nt false], ((.struct (.prod (.slice (.int .u8)) (.prod .bool .unit))), .agg [.sl (.int .u8) b (some nb) true, .d .bool ok]) :: H =>
    .test (A.se (decide (b.length ≤ 20000000 ∧ t.length ≤ 20000000) && nlB nb b)) (.give (.tup [], (bytT, .agg [u8s (A.se (b ++ txt t)) (some false) true, boolx ok]) :: H)) .no
  | _, _ => .no
def numberF (A : Ar) : List X → Hp → Tr (X × Hp)
  | [.ptr 0 [], .d (.int .u64) n], ((.struct (.prod (.slice (.int .u8)) (.prod .bool .unit))), .agg [.sl (.int .u8) b (some nb) true, .d .bool ok]) :: H =>
    .test (A.se (decide (b.length ≤ 20000000) && (isU64 n && nlB nb b))) (.give (.tup [], (bytT, .agg [u8s (A.se (b ++ vb n.toNat)) (some false) true, boolx ok]) :: H)) .no
  | _, _ => .no

def LwF (A : Ar) : List X → Hp → Tr (Ex × List X × Hp)
  | [.ptr 0 [], .fn 20 [.ptr 0 []] [], .fn 21 [.ptr 0 []] [], .sl (.struct (.prod (.int .i64) (.prod (.slice (.int .u8)) (.prod (.slice (.int .u8)) (.prod (.int .i64) (.prod (.int .u64) (.prod (.int .i64) .unit))))))) l nl false, .d (.int .i64) n, .d (.int .i64) i], [((.struct (.prod (.slice (.int .u8)) (.prod .bool .unit))), .agg [.sl (.int .u8) b (some nb) true, .d .bool ok])] =>
    .test (A.se ((l.all wfB && l.all checkC) && (decide (n = l.length ∧ 0 ≤ i ∧ i ≤ n ∧ b.length + (encs (l.drop i.toNat)).length ≤ 10000000 ∧ l.length ≤ 10000000) && nlB nb b)))
      (.give (.exit 0, [.ptr 0 [], .dead, .dead, .dead, .dead, .dead], [(bytT, .agg [u8s (A.se (b ++ encs (l.drop i.toNat))) (some (A.se (nb && (l.drop i.toNat).isEmpty))) true, boolx ok])])) .no
  | _, _ => .no
def Lw2F (A : Ar) : List X → Hp → Tr (Ex × List X × Hp)
  | [.ptr 0 [], .fn 20 [.ptr 0 []] [], .fn 21 [.ptr 0 []] [], .ptr 1 [], .ptr 2 [], .sl (.struct (.prod (.int .i64) (.prod (.slice (.int .u8)) (.prod (.slice (.int .u8)) (.prod (.int .i64) (.prod (.int .u64) (.prod (.int .i64) .unit))))))) l nl false, .d (.int .i64) n, .d (.int .i64) i, .sl (.slice (.int .u8)) ts nts false, .d (.int .i64) m, .d (.int .i64) j],
    [((.struct (.prod (.slice (.int .u8)) (.prod .bool .unit))), .agg [.sl (.int .u8) b (some nb) true, .d .bool ok]), e1, e2] =>
    .test (A.se (decide (m = ts.length ∧ 0 ≤ j ∧ j ≤ m ∧ m ≤ 100 ∧ b.length + (txts (ts.drop j.toNat)).length ≤ 10000000) && nlB nb b))
      (.give (.exit 2, [.ptr 0 [], .fn 20 [.ptr 0 []] [], .fn 21 [.ptr 0 []] [], .ptr 1 [], .ptr 2 [], .sl cmdT l nl false, i64x n, i64x i, .dead, .dead, .dead],
        [(bytT, .agg [u8s (A.se (b ++ txts (ts.drop j.toNat))) (some (A.se (nb && (ts.drop j.toNat).isEmpty))) true, boolx ok]), e1, e2])) .no
  | _, _ => .no
def Lw3F (A : Ar) : List X → Hp → Tr (Ex × List X × Hp)
  | [.ptr 0 [], .fn 20 [.ptr 0 []] [], .fn 21 [.ptr 0 []] [], .sl (.struct (.prod (.int .i64) (.prod (.slice (.int .u8)) (.prod (.slice (.int .u8)) (.prod (.int .i64) (.prod (.int .u64) (.prod (.int .i64) .unit))))))) l nl false, .d (.int .i64) n, .d (.int .i64) i, .sl (.int .u64) ts nts false, .d (.int .i64) m, .d (.int .i64) j],
    [((.struct (.prod (.slice (.int .u8)) (.prod .bool .unit))), .agg [.sl (.int .u8) b (some nb) true, .d .bool ok]), e1, e2] =>
    .test (A.se (ts.all isU64 && (decide (m = ts.length ∧ 0 ≤ j ∧ j ≤ m ∧ m ≤ 100 ∧ b.length + (nums (ts.drop j.toNat)).length ≤ 10000000) && nlB nb b)))
      (.give (.exit 4, [.ptr 0 [], .fn 20 [.ptr 0 []] [], .fn 21 [.ptr 0 []] [], .sl cmdT l nl false, i64x n, i64x i, .dead, .dead, .dead],
        [(bytT, .agg [u8s (A.se (b ++ nums (ts.drop j.toNat))) (some (A.se (nb && (ts.drop j.toNat).isEmpty))) true, boolx ok]), e1, e2])) .no
  | _, _ => .no
def Lw (A : Ar) : Lp := fun k => match k with
  | 6 => some (80, [4, 5, 6, 19, 20, 21], LwF A)
  | 11 => some (80, [4, 5, 6, 8, 9, 19, 20, 21, 46, 47, 48], Lw2F A)
  | 16 => some (80, [4, 5, 6, 19, 20, 21, 67, 68, 69], Lw3F A)
  | _ => none

def rtextF (A : Ar) : List X → Tr X
  | [.sl (.int .u8) b (some nb) false, .sl (.int .u8) t nt false] => .test (A.se (decide (b.length ≤ 20000000 ∧ t.length ≤ 20000000) && nlB nb b)) (.give (u8s (A.se (b ++ txt t)) (some false) true)) .no
  | _ => .no
def LrwF (A : Ar) : List X → Hp → Tr (Ex × List X × Hp)
  | [.sl (.struct (.prod (.int .i64) (.prod (.slice (.int .u8)) (.prod (.slice (.int .u8)) (.prod (.int .i64) (.prod (.int .u64) (.prod (.int .i64) .unit))))))) l nl false, .sl (.int .u8) [] (some true) true, .d (.int .i64) z, .sl (.int .u8) b (some nb) true, .d (.int .i64) i], [] =>
    .test (A.se (l.all wfB && (decide (0 ≤ i ∧ i ≤ l.length ∧ b.length + (encs (l.drop i.toNat)).length ≤ 10000000 ∧ l.length ≤ 10000000) && nlB nb b)))
      (.test (A.se ((l.drop i.toNat).all checkC))
        (.give (.exit 0, [.dead, .sl (.int .u8) [] (some true) true, i64x z, u8s (A.se (b ++ encs (l.drop i.toNat))) (some (A.se (nb && (l.drop i.toNat).isEmpty))) true, .dead], []))
        (.give (.ret, [.dead, .sl (.int .u8) [] (some true) true, i64x 230, .dead, .dead], []))) .no
  | _, _ => .no
def Lrw (A : Ar) : Lp := fun k => match k with
  | 3 => some (57, [0, 2, 3, 4, 5], LrwF A)
  | _ => none

/-! Reading -/
def readR (b : List Int) : List Cm := (readC b).getD []
def readE (b : List Int) : Int := bif (readC b).isSome then 0 else 230
def readF (A : Ar) : List X → Tr X
  | [.sl (.int .u8) b (some nl) false] => .test (A.se (decide (b.length ≤ 10000000) && (bytesB b && nlB nl b))) (.give (.tup [cms (A.se (readR b)) (some (A.se (readR b).isEmpty)) false, i64x (A.se (readE b))])) .no
  | _ => .no

/-- Taking a number, a text, as the program does: what it holds behind, be it good or not. -/
def tkS (most : Nat) (b : List Int) (ok : Bool) : Nat × List Int × Bool := match takeV b with
  | some (n, r) => bif ok && decide (n ≤ most) then (n, r, true) else (0, b, false)
  | none => (0, b, false)
def ttS (b : List Int) (ok : Bool) : List Int × List Int × Bool :=
  bif (tkS b.length b ok).2.2 && decide ((tkS b.length b ok).1 ≤ (tkS b.length b ok).2.1.length) then
    ((tkS b.length b ok).2.1.take (tkS b.length b ok).1, (tkS b.length b ok).2.1.drop (tkS b.length b ok).1, true)
  else ([], (tkS b.length b ok).2.1, false)
abbrev Rd := (List Int × Bool × Unit) × Cm × Unit
def takeE0 (A : Ar) : List X → Hp → Tr (X × Hp)
  | [.ptr 0 [], .d (.int .u64) most], ((.struct (.prod (.struct (.prod (.slice (.int .u8)) (.prod .bool .unit))) (.prod (.struct (.prod (.int .i64) (.prod (.slice (.int .u8)) (.prod (.slice (.int .u8)) (.prod (.int .i64) (.prod (.int .u64) (.prod (.int .i64) .unit))))))) .unit))), .d (.struct (.prod (.struct (.prod (.slice (.int .u8)) (.prod .bool .unit))) (.prod (.struct (.prod (.int .i64) (.prod (.slice (.int .u8)) (.prod (.slice (.int .u8)) (.prod (.int .i64) (.prod (.int .u64) (.prod (.int .i64) .unit))))))) .unit))) ((b, ok, ()), c, ())) :: H =>
    .test (A.se (decide (b.length ≤ 10000000) && (bytesB b && isU64 most)))
      (.give (u64x (A.se (((tkS most.toNat b ok).1 : Nat) : Int)), (rdT, .d rdT ((A.se (tkS most.toNat b ok).2.1, A.se (tkS most.toNat b ok).2.2, ()), c, ())) :: H)) .no
  | _, _ => .no
def takeTextE0 (A : Ar) : List X → Hp → Tr (X × Hp)
  | [.ptr 0 []], ((.struct (.prod (.struct (.prod (.slice (.int .u8)) (.prod .bool .unit))) (.prod (.struct (.prod (.int .i64) (.prod (.slice (.int .u8)) (.prod (.slice (.int .u8)) (.prod (.int .i64) (.prod (.int .u64) (.prod (.int .i64) .unit))))))) .unit))), .d (.struct (.prod (.struct (.prod (.slice (.int .u8)) (.prod .bool .unit))) (.prod (.struct (.prod (.int .i64) (.prod (.slice (.int .u8)) (.prod (.slice (.int .u8)) (.prod (.int .i64) (.prod (.int .u64) (.prod (.int .i64) .unit))))))) .unit))) ((b, ok, ()), c, ())) :: H =>
    .test (A.se (decide (b.length ≤ 10000000) && bytesB b))
      (.give (.sl (.int .u8) (A.se (ttS b ok).1) none false, (rdT, .d rdT ((A.se (ttS b ok).2.1, A.se (ttS b ok).2.2, ()), c, ())) :: H)) .no
  | _, _ => .no
/-- The same, in whatever form the reader is told. -/
def canonR (F : List X → Hp → Tr (X × Hp)) (args : List X) : Hp → Tr (X × Hp)
  | ((.struct (.prod (.struct (.prod (.slice (.int .u8)) (.prod .bool .unit))) (.prod (.struct (.prod (.int .i64) (.prod (.slice (.int .u8)) (.prod (.slice (.int .u8)) (.prod (.int .i64) (.prod (.int .u64) (.prod (.int .i64) .unit))))))) .unit))), x) :: H => match toD rdT x with
    | some y => F args ((rdT, .d rdT y) :: H)
    | none => .no
  | _ => .no
def takeE (A : Ar) : List X → Hp → Tr (X × Hp) := canonR (takeE0 A)
def takeTextE (A : Ar) : List X → Hp → Tr (X × Hp) := canonR (takeTextE0 A)

/-- Taking a command, as the program does. -/
def nxT (k : Int) (b : List Int) (ok : Bool) : List Int × List Int × List Int × Bool :=
  if k = 1 then ((ttS b ok).1, (ttS (ttS b ok).2.1 (ttS b ok).2.2).1, (ttS (ttS b ok).2.1 (ttS b ok).2.2).2.1, (ttS (ttS b ok).2.1 (ttS b ok).2.2).2.2)
  else if k = 2 ∨ k = 4 ∨ k = 5 then ((ttS b ok).1, [], (ttS b ok).2.1, (ttS b ok).2.2) else ([], [], b, ok)
def nxN (k : Int) (b : List Int) (ok : Bool) : Int × Int × Int × List Int × Bool :=
  if k = 5 then
    ((((tkS 9223372036854775807 b ok).1 : Nat) : Int),
     (((tkS 18446744073709551615 (tkS 9223372036854775807 b ok).2.1 (tkS 9223372036854775807 b ok).2.2).1 : Nat) : Int),
     (((tkS 9223372036854775807 (tkS 18446744073709551615 (tkS 9223372036854775807 b ok).2.1 (tkS 9223372036854775807 b ok).2.2).2.1 (tkS 18446744073709551615 (tkS 9223372036854775807 b ok).2.1 (tkS 9223372036854775807 b ok).2.2).2.2).1 : Nat) : Int),
     (tkS 9223372036854775807 (tkS 18446744073709551615 (tkS 9223372036854775807 b ok).2.1 (tkS 9223372036854775807 b ok).2.2).2.1 (tkS 18446744073709551615 (tkS 9223372036854775807 b ok).2.1 (tkS 9223372036854775807 b ok).2.2).2.2).2.1,
     (tkS 9223372036854775807 (tkS 18446744073709551615 (tkS 9223372036854775807 b ok).2.1 (tkS 9223372036854775807 b ok).2.2).2.1 (tkS 18446744073709551615 (tkS 9223372036854775807 b ok).2.1 (tkS 9223372036854775807 b ok).2.2).2.2).2.2)
  else (0, 0, 0, b, ok)
def nxS : List Int → Rd
  | [] => (([], false, ()), (0, [], [], 0, 0, 0, ()), ())
  | k :: b => (((nxN k (nxT k b (okK k)).2.2.1 (nxT k b (okK k)).2.2.2).2.2.2.1, (nxN k (nxT k b (okK k)).2.2.1 (nxT k b (okK k)).2.2.2).2.2.2.2, ()),
      (k, (nxT k b (okK k)).1, (nxT k b (okK k)).2.1, (nxN k (nxT k b (okK k)).2.2.1 (nxT k b (okK k)).2.2.2).1, (nxN k (nxT k b (okK k)).2.2.1 (nxT k b (okK k)).2.2.2).2.1, (nxN k (nxT k b (okK k)).2.2.1 (nxT k b (okK k)).2.2.2).2.2.1, ()), ())
def nextE (A : Ar) : List X → Hp → Tr (X × Hp)
  | [.ptr 0 []], [((.struct (.prod (.struct (.prod (.slice (.int .u8)) (.prod .bool .unit))) (.prod (.struct (.prod (.int .i64) (.prod (.slice (.int .u8)) (.prod (.slice (.int .u8)) (.prod (.int .i64) (.prod (.int .u64) (.prod (.int .i64) .unit))))))) .unit))), .d (.struct (.prod (.struct (.prod (.slice (.int .u8)) (.prod .bool .unit))) (.prod (.struct (.prod (.int .i64) (.prod (.slice (.int .u8)) (.prod (.slice (.int .u8)) (.prod (.int .i64) (.prod (.int .u64) (.prod (.int .i64) .unit))))))) .unit))) ((b, ok, ()), c, ()))] => .test (A.se (decide (b.length ≤ 10000000 ∧ b ≠ []) && bytesB b)) (.give (.tup [], [(rdT, .d rdT (A.se (nxS b)))])) .no
  | _, _ => .no
def LnxF (A : Ar) : List X → Hp → Tr (Ex × List X × Hp)
  | [.ptr 0 [], .ptr 1 [], .lst [], .d (.int .i64) 0, .d (.int .i64) 0], [((.struct (.prod (.struct (.prod (.slice (.int .u8)) (.prod .bool .unit))) (.prod (.struct (.prod (.int .i64) (.prod (.slice (.int .u8)) (.prod (.slice (.int .u8)) (.prod (.int .i64) (.prod (.int .u64) (.prod (.int .i64) .unit))))))) .unit))), .agg [.agg [.sl (.int .u8) b nl o, .d .bool ok], .d (.struct (.prod (.int .i64) (.prod (.slice (.int .u8)) (.prod (.slice (.int .u8)) (.prod (.int .i64) (.prod (.int .u64) (.prod (.int .i64) .unit))))))) c]), e] =>
    .give (.exit 0, [.ptr 0 [], .ptr 1 [], .dead, .dead, .dead], [(rdT, .d rdT ((b, ok, ()), c, ())), e])
  | [.ptr 0 [], .ptr 1 [], .lst [.ptr 0 [1, 1]], .d (.int .i64) 1, .d (.int .i64) 0], [((.struct (.prod (.struct (.prod (.slice (.int .u8)) (.prod .bool .unit))) (.prod (.struct (.prod (.int .i64) (.prod (.slice (.int .u8)) (.prod (.slice (.int .u8)) (.prod (.int .i64) (.prod (.int .u64) (.prod (.int .i64) .unit))))))) .unit))), .agg [.agg [.sl (.int .u8) b nl o, .d .bool ok], .d (.struct (.prod (.int .i64) (.prod (.slice (.int .u8)) (.prod (.slice (.int .u8)) (.prod (.int .i64) (.prod (.int .u64) (.prod (.int .i64) .unit))))))) c]), e] =>
    .test (A.se (decide (b.length ≤ 10000000) && bytesB b))
      (.give (.exit 0, [.ptr 0 [], .ptr 1 [], .dead, .dead, .dead], [(rdT, .d rdT ((A.se (ttS b ok).2.1, A.se (ttS b ok).2.2, ()), (c.1, A.se (ttS b ok).1, c.2.2), ())), e])) .no
  | [.ptr 0 [], .ptr 1 [], .lst [.ptr 0 [1, 1], .ptr 0 [1, 2]], .d (.int .i64) 2, .d (.int .i64) 0], [((.struct (.prod (.struct (.prod (.slice (.int .u8)) (.prod .bool .unit))) (.prod (.struct (.prod (.int .i64) (.prod (.slice (.int .u8)) (.prod (.slice (.int .u8)) (.prod (.int .i64) (.prod (.int .u64) (.prod (.int .i64) .unit))))))) .unit))), .agg [.agg [.sl (.int .u8) b nl o, .d .bool ok], .d (.struct (.prod (.int .i64) (.prod (.slice (.int .u8)) (.prod (.slice (.int .u8)) (.prod (.int .i64) (.prod (.int .u64) (.prod (.int .i64) .unit))))))) c]), e] =>
    .test (A.se (decide (b.length ≤ 10000000) && bytesB b))
      (.give (.exit 0, [.ptr 0 [], .ptr 1 [], .dead, .dead, .dead], [(rdT, .d rdT ((A.se (ttS (ttS b ok).2.1 (ttS b ok).2.2).2.1, A.se (ttS (ttS b ok).2.1 (ttS b ok).2.2).2.2, ()), (c.1, A.se (ttS b ok).1, A.se (ttS (ttS b ok).2.1 (ttS b ok).2.2).1, c.2.2.2), ())), e])) .no
  | _, _ => .no
def Lnx (A : Ar) : Lp := fun k => match k with
  | 4 => some (85, [0, 3, 51, 52, 53], LnxF A)
  | _ => none

def endS : Nat → Rd → Rd
  | 0, s => s
  | n + 1, s => if s.1.1 = [] then s else if (nxS s.1.1).1.2.1 then endS n (nxS s.1.1) else nxS s.1.1
def LrdF (A : Ar) : List X → Hp → Tr (Ex × List X × Hp)
  | [.sl (.struct (.prod (.int .i64) (.prod (.slice (.int .u8)) (.prod (.slice (.int .u8)) (.prod (.int .i64) (.prod (.int .u64) (.prod (.int .i64) .unit))))))) l (some nl) true, .d (.int .i64) 0, .ptr 0 []], [((.struct (.prod (.struct (.prod (.slice (.int .u8)) (.prod .bool .unit))) (.prod (.struct (.prod (.int .i64) (.prod (.slice (.int .u8)) (.prod (.slice (.int .u8)) (.prod (.int .i64) (.prod (.int .u64) (.prod (.int .i64) .unit))))))) .unit))), .d (.struct (.prod (.struct (.prod (.slice (.int .u8)) (.prod .bool .unit))) (.prod (.struct (.prod (.int .i64) (.prod (.slice (.int .u8)) (.prod (.slice (.int .u8)) (.prod (.int .i64) (.prod (.int .u64) (.prod (.int .i64) .unit))))))) .unit))) ((b, ok, ()), c, ()))] =>
    .test (A.se (decide (b.length + l.length ≤ 10000000) && bytesB b))
      (.test (A.se (readC b).isSome)
        (.give (.exit 0, [cms (A.se (l ++ readR b)) (some (A.se (nl && (readR b).isEmpty))) true, i64x 0, .ptr 0 []], [(rdT, .d rdT (A.se (endS (b.length + 1) ((b, ok, ()), c, ()))))]))
        (.give (.ret, [cms [] (some true) true, i64x 230, .ptr 0 []], [(rdT, .d rdT (A.se (endS (b.length + 1) ((b, ok, ()), c, ()))))]))) .no
  | _, _ => .no
def Lrd (A : Ar) : Lp := fun k => match k with
  | 2 => some (24, [2, 3, 4], LrdF A)
  | _ => none
def LrrdF (A : Ar) : List X → Hp → Tr (Ex × List X × Hp)
  | [.sl (.int .u8) b nl false, .sl (.struct (.prod (.int .i64) (.prod (.slice (.int .u8)) (.prod (.slice (.int .u8)) (.prod (.int .i64) (.prod (.int .u64) (.prod (.int .i64) .unit))))))) [] (some true) true, .d (.int .i64) 0, .sl (.struct (.prod (.int .i64) (.prod (.slice (.int .u8)) (.prod (.slice (.int .u8)) (.prod (.int .i64) (.prod (.int .u64) (.prod (.int .i64) .unit))))))) l (some no) true], [] =>
    .test (A.se (decide (b.length + l.length ≤ 10000000) && (bytesB b && nlO nl b)))
      (.test (A.se (readC b).isSome)
        (.give (.exit 0, [.dead, .sl cmdT [] (some true) true, i64x 0, cms (A.se (l ++ readR b)) (some (A.se (no && (readR b).isEmpty))) true], []))
        (.give (.ret, [.dead, .sl cmdT [] (some true) true, i64x 230, .dead], []))) .no
  | _, _ => .no
def Lrrd (A : Ar) : Lp := fun k => match k with
  | 2 => some (25, [0, 2, 3, 4], LrrdF A)
  | _ => none

def ttA (b : List Int) : List Int := match takeT b with | some p => p.1 | none => []
def ttR (b : List Int) : List Int := match takeT b with | some p => p.2 | none => []
def rtakeTextF (A : Ar) : List X → Tr X
  | [.sl (.int .u8) b nl false] => .test (A.se (decide (b.length ≤ 10000000) && (bytesB b && nlO nl b)))
      (.give (.tup [u8s (A.se (ttA b)) (some (A.se (!(takeT b).isSome))) false, u8s (A.se (ttR b)) (some (A.se (!(takeT b).isSome))) false, boolx (A.se (takeT b).isSome)])) .no
  | _ => .no
def numT (b : List Int) : Option (Int × Int × Int × List Int) := oneNums 5 b
def rnumbersF (A : Ar) : List X → Tr X
  | [.d (.struct (.prod (.int .i64) (.prod (.slice (.int .u8)) (.prod (.slice (.int .u8)) (.prod (.int .i64) (.prod (.int .u64) (.prod (.int .i64) .unit))))))) c, .sl (.int .u8) b nl false] => .test (A.se (decide (b.length ≤ 10000000) && (bytesB b && nlO nl b)))
      (.test (A.se (numT b).isSome)
        (.give (.tup [cmx (c.1, c.2.1, c.2.2.1, A.se ((numT b).getD (0, 0, 0, [])).1, A.se ((numT b).getD (0, 0, 0, [])).2.1, A.se ((numT b).getD (0, 0, 0, [])).2.2.1, ()), u8s (A.se ((numT b).getD (0, 0, 0, [])).2.2.2) (some false) false, boolx true]))
        (.give (.tup [cmx (0, [], [], 0, 0, 0, ()), u8s [] (some true) false, boolx false]))) .no
  | _ => .no
/-- What stands in the command where none is taken. -/
def failC : List Int → Cm
  | [] => (0, [], [], 0, 0, 0, ())
  | k :: s => bif decide (k = 5) && (takeT s).isSome then (0, [], [], 0, 0, 0, ()) else (k, bif decide (k = 1) then ttA s else [], [], 0, 0, 0, ())
def roneF (A : Ar) : List X → Tr X
  | [.sl (.int .u8) b nl false] => .test (A.se (decide (b.length ≤ 10000000 ∧ b ≠ []) && (bytesB b && nlO nl b)))
      (.test (A.se (oneC b).isSome)
        (.give (.tup [cmx (A.se ((oneC b).getD ((0, [], [], 0, 0, 0, ()), [])).1), u8s (A.se ((oneC b).getD ((0, [], [], 0, 0, 0, ()), [])).2) none false, boolx true]))
        (.give (.tup [cmx (A.se (failC b)), .dead, boolx false]))) .no
  | _ => .no

def OscA (A : Ar) : OT := Oadd (Oadd (Oadd (Oadd (OviA A) 22 (.pure (ofF A))) 15 (.pure (checkF A))) 16 (.pure (checkF A))) 19 (.pure (nocheckF A))
def Osc1 (A : Ar) : OT := Oadd (OscA A) 28 (.pure (indexF A))
noncomputable def Osc2 (A : Ar) : OT := Oadd (Oadd (Oadd (Osc1 A) 18 (.pure (containsF A))) 9 (.pure (fewF A))) 14 (.pure (sameF A))
noncomputable def Osc3 (A : Ar) : OT := Oadd (Oadd (Oadd (Osc2 A) 20 (.eff (textF A))) 21 (.eff (numberF A))) 23 (.pure (rtextF A))
noncomputable def Osc4 (A : Ar) : OT := Oadd (Oadd (Oadd (Oadd (Oadd (Osc3 A) 10 (.pure (writeF A))) 11 (.pure (writeF A))) 32 (.eff (takeE A))) 33 (.pure (rtakeTextF A))) 34 (.pure (rnumbersF A))
noncomputable def Osc5 (A : Ar) : OT := Oadd (Oadd (Osc4 A) 31 (.eff (takeTextE A))) 26 (.pure (roneF A))
noncomputable def Osc6 (A : Ar) : OT := Oadd (Osc5 A) 25 (.eff (nextE A))
noncomputable def Osc7 (A : Ar) : OT := Oadd (Oadd (Osc6 A) 12 (.pure (readF A))) 13 (.pure (readF A))
def awakeF : List X → Tr X
  | [] => .give (boolx true)
  | _ => .no
noncomputable def Osc (A : Ar) : OT := Oadd (Osc7 A) 8 (.pure awakeF)

end Go.Proofs.Ytgickaihlebgmaa.V

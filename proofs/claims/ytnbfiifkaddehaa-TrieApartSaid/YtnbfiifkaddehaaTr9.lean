/-
  Chapter 10, automata: the document's answer, and the statements' own functions: what they tell; their trees. By program; each equation is checked by the kernel.
  It speaks of the pinned program alone; no condition.
-/
import Derived.Test.YtnbfiifkaddehaaTr8
namespace Go.Proofs.Ytnbfiifkaddehaa.V
open Go
set_option linter.unusedVariables false

abbrev arcZ : Arc := (0, 0, ())
def few10B (l : List Sta) (m : Int) : Bool := l.all (fun s => decide (List.length s.2.1 ≤ 100)) && decide ((l.length : Int) ≤ m)
def few10F (A : Ar) : List X → Tr X
  | [x, .d (.int .i64) m] => match staOf [x] with
    | some q => .test (A.se (decide (q.1.length ≤ 9223372036854775807))) (.give (boolx (A.se (few10B q.1 m)))) .no
    | none => .no
  | _ => .no
def Lfew10F (A : Ar) : List X → Hp → Tr (Ex × List X × Hp)
  | [x, .d (.int .i64) m, .d .bool z, .d (.int .i64) i], [] => match staOf [x] with
    | some q => .test (A.se (decide (q.1.length ≤ 9223372036854775807 ∧ 0 ≤ i ∧ i ≤ q.1.length)))
          (.test (A.se ((q.1.drop i.toNat).all fun s => decide (List.length s.2.1 ≤ 100))) (.give (.exit 0, [.sl staT q.1 q.2 false, i64x m, .dead, .dead], [])) (.give (.ret, [.dead, .dead, boolx false, .dead], []))) .no
    | none => .no
  | _, _ => .no
def Lfew10 (A : Ar) : Lp := fun k => match k with
  | 2 => some (23, [0, 1, 4, 5], Lfew10F A)
  | _ => none
def smallF (A : Ar) : List X → Tr X
  | [.sl (.slice (.int .i64)) l nl false] => .test (A.se (decide (List.length l ≤ 9000000000000000000))) (.give (boolx (A.se (R.fewB l 60)))) .no
  | _ => .no

def same10F (A : Ar) : List X → Tr X
  | [x, y] => match staOf [x], staOf [y] with
    | some p, some q => .test (A.se (decide (p.1.length ≤ 1000000) && (shortS p.1 && shortS q.1))) (.give (boolx (A.se (decide (p.1 = q.1))))) .no
    | _, _ => .no
  | _ => .no
def LsmoF (A : Ar) : List X → Hp → Tr (Ex × List X × Hp)
  | [x, y, .d .bool z, .d (.int .i64) i], [] => match staOf [x], staOf [y] with
    | some p, some q => .test (A.se (decide (p.1.length ≤ 1000000 ∧ q.1.length = p.1.length ∧ 0 ≤ i ∧ i ≤ p.1.length) && (shortS p.1 && shortS q.1)))
          (.test (A.se (decide (p.1.drop i.toNat = q.1.drop i.toNat))) (.give (.exit 0, [.dead, .dead, .dead, .dead], [])) (.give (.ret, [.dead, .dead, boolx false, .dead], []))) .no
    | _, _ => .no
  | _, _ => .no
def LsmiF (A : Ar) : List X → Hp → Tr (Ex × List X × Hp)
  | [x, y, .d .bool z, .d (.int .i64) i, .d (.int .i64) k], [] => match staOf [x], staOf [y] with
    | some p, some q => .test (A.se (decide (p.1.length ≤ 1000000 ∧ q.1.length = p.1.length ∧ 0 ≤ i ∧ i < p.1.length ∧ (q.1.getD i.toNat staZ).2.1.length = (p.1.getD i.toNat staZ).2.1.length ∧ 0 ≤ k ∧ k ≤ (p.1.getD i.toNat staZ).2.1.length) && (shortS p.1 && shortS q.1)))
          (.test (A.se (decide ((p.1.getD i.toNat staZ).2.1.drop k.toNat = (q.1.getD i.toNat staZ).2.1.drop k.toNat))) (.give (.exit 2, [.sl staT p.1 p.2 false, .sl staT q.1 q.2 false, boolx z, i64x i, .dead], [])) (.give (.ret, [.dead, .dead, boolx false, .dead, .dead], []))) .no
    | _, _ => .no
  | _, _ => .no
def Lsm (A : Ar) : Lp := fun k => match k with
  | 4 => some (71, [0, 1, 4, 5], LsmoF A)
  | 9 => some (71, [0, 1, 4, 5, 6], LsmiF A)
  | _ => none

def LrstF (A : Ar) : List X → Hp → Tr (Ex × List X × Hp)
  | [x, .d (.int .i64) i, .d (.int .i64) n, .d (.int .i64) z, .d .bool z2, .d (.int .i64) k], [] => match staOf [x] with
    | some q => .test (A.se (decide (q.1.length ≤ 1000000 ∧ 0 ≤ i ∧ i < q.1.length ∧ 0 ≤ k ∧ k ≤ (q.1.getD i.toNat staZ).2.1.length) && shortS q.1))
          (.test (A.se (arcTo ((q.1.getD i.toNat staZ).2.1.drop k.toNat) n).2) (.give (.ret, [.dead, .dead, .dead, i64x (A.se (arcTo ((q.1.getD i.toNat staZ).2.1.drop k.toNat) n).1), boolx true, .dead], [])) (.give (.exit 0, [.dead, .dead, .dead, .dead, .dead, .dead], []))) .no
    | none => .no
  | _, _ => .no
def Lrst (A : Ar) : Lp := fun k => match k with
  | 4 => some (47, [0, 1, 2, 6, 7, 8], LrstF A)
  | _ => none

def lastAt (l : List Arc) (k : Nat) : Int := if k = 0 then -1 else (l.getD (k - 1) (0, 0, ())).1
def LrcoF2 (A : Ar) : List X → Hp → Tr (Ex × List X × Hp)
  | [x, .d .bool z, .d (.int .i64) i], [] => match staOf [x] with
    | some q => .test (A.se (decide (q.1.length ≤ 1000000 ∧ 0 ≤ i ∧ i ≤ q.1.length) && shortS q.1))
          (.test (A.se (anyS q.1.length i (q.1.drop i.toNat))) (.give (.ret, [.dead, boolx false, .dead], [])) (.give (.exit 0, [.sl staT q.1 q.2 false, .dead, .dead], []))) .no
    | none => .no
  | _, _ => .no
def LrciF2 (A : Ar) : List X → Hp → Tr (Ex × List X × Hp)
  | [x, .d .bool z, .d (.int .i64) i, .d (.int .i64) k], [] => match staOf [x] with
    | some q => .test (A.se (decide (q.1.length ≤ 1000000 ∧ 0 ≤ i ∧ i < q.1.length ∧ 0 ≤ k ∧ k ≤ (q.1.getD i.toNat staZ).2.1.length) && shortS q.1))
          (.test (A.se (anyC i q.1.length (lastAt (q.1.getD i.toNat staZ).2.1 k.toNat) ((q.1.getD i.toNat staZ).2.1.drop k.toNat))) (.give (.ret, [.dead, boolx false, .dead, .dead], [])) (.give (.exit 2, [.sl staT q.1 q.2 false, boolx z, i64x i, .dead], []))) .no
    | none => .no
  | _, _ => .no
def Lrck (A : Ar) : Lp := fun k => match k with
  | 2 => some (74, [0, 2, 3], LrcoF2 A)
  | 5 => some (74, [0, 2, 3, 4], LrciF2 A)
  | _ => none

def isF (A : Ar) : List X → Tr X
  | [.sl (.slice (.int .i64)) l nl false, .sl (.int .i64) w nw false] => .test (A.se (decide (List.length l ≤ 1000000 ∧ List.length w ≤ 1000000) && R.shortB l)) (.give (boolx (A.se (decide (w ∈ l))))) .no
  | _ => .no

def begI (l : List (List Int)) (n : Int) (acc : List (List Int)) : List (List Int) := l.foldl (stepB (n.toNat - 1)) acc
def begO (l : List (List Int)) (n : Int) (out : List (List Int)) : List (List Int) := bFrom l (21 - n).toNat (n.toNat - 1) out
def begF (A : Ar) : List X → Tr X
  | [.sl (.slice (.int .i64)) l nl false] => .test (A.se (decide (List.length l ≤ 300) && R.shortB l)) (.give (.sl (.slice (.int .i64)) (A.se (begO l 1 [[]])) (some false) false)) .no
  | _ => .no
def LbgoF (A : Ar) : List X → Hp → Tr (Ex × List X × Hp)
  | [.sl (.slice (.int .i64)) l nl false, .sl (.slice (.int .i64)) out (some false) true, .d (.int .i64) n], [] =>
    .test (A.se (decide (List.length l ≤ 300 ∧ 1 ≤ n ∧ n ≤ 21 ∧ (List.length out : Int) ≤ 1 + 300 * (n - 1)) && R.shortB l))
      (.give (.exit 0, [.dead, .sl (.slice (.int .i64)) (A.se (begO l n out)) (some false) true, .dead], [])) .no
  | _, _ => .no
def LbgiF (A : Ar) : List X → Hp → Tr (Ex × List X × Hp)
  | [.sl (.slice (.int .i64)) l nl false, .sl (.slice (.int .i64)) out (some false) true, .d (.int .i64) n, .sl (.slice (.int .i64)) acc (some x) true, .d (.int .i64) i], [] =>
    .test (A.se (decide (List.length l ≤ 300 ∧ 1 ≤ n ∧ n ≤ 20 ∧ 0 ≤ i ∧ i ≤ List.length l ∧ (List.length acc : Int) ≤ i) && ((x == List.isEmpty acc) && (R.shortB l && R.shortB acc))))
      (.give (.exit 2, [.sl (.slice (.int .i64)) l nl false, .sl (.slice (.int .i64)) out (some false) true, i64x n, .sl (.slice (.int .i64)) (A.se (begI (List.drop i.toNat l) n acc)) (some (A.se (List.isEmpty (begI (List.drop i.toNat l) n acc)))) true, .dead], [])) .no
  | _, _ => .no
def Lbg (A : Ar) : Lp := fun k => match k with
  | 3 => some (59, [0, 3, 4], LbgoF A)
  | 7 => some (59, [0, 3, 4, 5, 6], LbgiF A)
  | _ => none

def autoN (l B : List (List Int)) : List Sta := B.map (staOf2 B l)
def rmakeF (A : Ar) : List X → Tr X
  | [.sl (.slice (.int .i64)) l nl false] => .test (A.se (decide (List.length l ≤ 300) && R.shortB l)) (.test (A.se (decide ((writeW l).2 = 0))) (.give (.tup [.sl staT (A.se (autoN l (begO l 1 [[]]))) (some (A.se (List.isEmpty (autoN l (begO l 1 [[]]))))) false, i64x 0])) (.give (.tup [.sl staT [] (some true) false, i64x (A.se (writeW l).2)]))) .no
  | _ => .no
def LrmoF (A : Ar) : List X → Hp → Tr (Ex × List X × Hp)
  | [.sl (.slice (.int .i64)) l nl false, .sl (.slice (.int .i64)) B nb false, .sl (.struct (.prod .bool (.prod (.slice (.struct (.prod (.int .i64) (.prod (.int .i64) .unit)))) .unit))) out (some x) true, .d (.int .i64) i], [] =>
    .test (A.se (decide (List.length l ≤ 300 ∧ List.length B ≤ 10000 ∧ 0 ≤ i ∧ i ≤ List.length B ∧ out = (B.take i.toNat).map (staOf2 B l)) && ((x == List.isEmpty out) && (R.shortB l && R.shortB B))))
      (.give (.exit 0, [.dead, .dead, .sl staT (A.se (autoN l B)) (some (A.se (List.isEmpty (autoN l B)))) true, .dead], [])) .no
  | _, _ => .no
def LrmiF (A : Ar) : List X → Hp → Tr (Ex × List X × Hp)
  | [.sl (.slice (.int .i64)) l nl false, .sl (.slice (.int .i64)) B nb false, .sl (.struct (.prod .bool (.prod (.slice (.struct (.prod (.int .i64) (.prod (.int .i64) .unit)))) .unit))) out (some x) true, .d (.int .i64) i, .ptr 0 [], .d (.int .i64) k], [(t0, .agg [.d .bool f, .sl (.struct (.prod (.int .i64) (.prod (.int .i64) .unit))) arcs (some y) true])] =>
    if t0 = staT then .test (A.se (decide (List.length B ≤ 10000 ∧ 0 ≤ i ∧ i < List.length B ∧ 0 ≤ k ∧ k ≤ List.length B ∧ arcs = goA (B.take k.toNat) 0 (B.getD i.toNat [])) && ((y == List.isEmpty arcs) && R.shortB B)))
      (.give (.exit 2, [.sl (.slice (.int .i64)) l nl false, .sl (.slice (.int .i64)) B nb false, .sl staT out (some x) true, i64x i, .ptr 0 [], .dead], [(staT, .agg [boolx f, .sl arcT (A.se (goA B 0 (B.getD i.toNat []))) (some (A.se (List.isEmpty (goA B 0 (B.getD i.toNat []))))) true])])) .no else .no
  | _, _ => .no
def Lrm (A : Ar) : Lp := fun k => match k with
  | 7 => some (88, [0, 6, 7, 8], LrmoF A)
  | 11 => some (88, [0, 6, 7, 8, 9, 10], LrmiF A)
  | _ => none
def Mrm : Nat → Nat := fun d => match d with
  | 34 => 12
  | _ => 0
def farRm : Nat → Bool := fun d => match d with
  | 72 => true
  | 73 => true
  | 76 => true
  | 77 => true
  | _ => false

def walkO (l : List Sta) : Int → List Int → Option Int
  | a, [] => some a
  | a, c :: r => bif (stepA l a c).2 then walkO l (stepA l a c).1 r else none
def walkF (A : Ar) : List X → Tr X
  | [x, .sl (.int .i64) w nw false] => match staOf [x] with
    | some q => .test (A.se (decide (q.1.length ≤ 1000000 ∧ List.length w ≤ 1000000) && shortS q.1)) (.give (.tup [i64x (A.se (walkL q.1 0 w).1), boolx (A.se (walkL q.1 0 w).2)])) .no
    | none => .no
  | _ => .no
def LwkF (A : Ar) : List X → Hp → Tr (Ex × List X × Hp)
  | [x, .sl (.int .i64) w nw false, .d (.int .i64) z, .d .bool z2, .d (.int .i64) a, .d (.int .i64) i], [] => match staOf [x] with
    | some q => .test (A.se (decide (q.1.length ≤ 1000000 ∧ List.length w ≤ 1000000 ∧ 0 ≤ i ∧ i ≤ List.length w) && shortS q.1))
          (.test (A.se (walkO q.1 a (w.drop i.toNat)).isSome) (.give (.exit 0, [.sl staT q.1 q.2 false, .dead, .dead, .dead, i64x (A.se ((walkO q.1 a (w.drop i.toNat)).getD 0)), .dead], [])) (.give (.ret, [.dead, .dead, i64x 0, boolx false, .dead, .dead], []))) .no
    | none => .no
  | _, _ => .no
def Lwk (A : Ar) : Lp := fun k => match k with
  | 3 => some (33, [0, 1, 4, 5, 6, 7], LwkF A)
  | _ => none

def Oq1 (A : Ar) : OT := Oadd (Oadd (Oadd (Oadd (Oa1 A) 22 (.pure (R.fewF A))) 51 (.pure (R.rfindF A))) 26 (.pure (R.weqF A))) 23 (.pure (writegF A))
def Oq2 (A : Ar) : OT := Oadd (Oadd (Oq1 A) 12 (.pure (stepAF A))) 25 (.pure (isF A))
def Oq3 (A : Ar) : OT := Oadd (Oq2 A) 24 (.pure (begF A))
abbrev Crm (A : Ar) : Ctx := CxF A (Oq3 A) (Lrm A) Mrm noJ farRm

theorem tFew10 (A : Ar) (l : List Sta) (nl : Option Bool) (m : Int) : bodyX (Cx A (Oq1 A) (Lfew10 A)) 100 Try.f8 [.sl staT l nl false, i64x m] [] =
    (bif A.se (decide (List.length l ≤ (9223372036854775807 : Nat) ∧ (0 : Int) ≤ (0 : Int) ∧ (0 : Int) ≤ (↑(List.length l) : Int))) then bif A.se (List.all (List.drop (Int.toNat (0 : Int)) l) fun s => decide (List.length s.snd.fst ≤ (100 : Nat))) then some (boolx (decide ((↑(List.length l) : Int) ≤ m)), []) else some (boolx false, []) else none) := by kernel_rfl
theorem lFew10 (A : Ar) (R : Type) (l : List Sta) (nl : Option Bool) (m : Int) (z : Bool) (i : Int) (K : Ex → List X → Hp → Option R) : stepF (Cx A (Oq1 A) (Lfew10 A)) 100 (loopAt Try.f8 0) 23 [0, 1, 4, 5] [.sl staT l nl false, i64x m, boolx z, i64x i] [] K =
    (bif decide (i < (↑(List.length l) : Int)) then bif decide ((0 : Int) ≤ i ∧ i < (↑(List.length l) : Int)) then bif decide ((↑(List.length (List.getD l (Int.toNat i) staZ).snd.fst) : Int) > (100 : Int)) then K Ex.ret [X.sl staT l nl false, i64x m, boolx false, i64x i] [] else K Ex.normal [X.sl staT l nl false, i64x m, boolx z, i64x (A.wrap IntKind.i64 (i + (1 : Int)))] [] else none else K (Ex.exit (0 : Nat)) [X.sl staT l nl false, i64x m, boolx z, i64x i] []) := by kernel_rfl
theorem tSmall (A : Ar) (l : List (List Int)) (nl : Option Bool) : bodyX (Cx A (Oq1 A) noL) 100 Try.f9 [.sl wTy l nl false] [] =
    (bif A.se (decide (List.length l ≤ (9000000000000000000 : Nat))) then some (boolx (A.se (R.fewB l (60 : Int))), []) else none) := by kernel_rfl
theorem tSm (A : Ar) (p q : List Sta) (np nq : Option Bool) : bodyX (Cx A (Oq1 A) (Lsm A)) 100 Try.f14 [.sl staT p np false, .sl staT q nq false] [] =
    (bif (↑(List.length p) : Int) != (↑(List.length q) : Int) then some (boolx false, []) else bif A.se (decide (List.length p ≤ (1000000 : Nat) ∧ List.length q = List.length p ∧ (0 : Int) ≤ (0 : Int) ∧ (0 : Int) ≤ (↑(List.length p) : Int)) && (shortS p && shortS q)) then bif A.se (decide (List.drop (Int.toNat (0 : Int)) p = List.drop (Int.toNat (0 : Int)) q)) then some (boolx true, []) else some (boolx false, []) else none) := by kernel_rfl
theorem lSmo (A : Ar) (R : Type) (p q : List Sta) (np nq : Option Bool) (z : Bool) (i : Int) (K : Ex → List X → Hp → Option R) : stepF (Cx A (Oq1 A) (Lsm A)) 100 (loopAt Try.f14 0) 71 [0, 1, 4, 5] [.sl staT p np false, .sl staT q nq false, boolx z, i64x i] [] K =
    (bif decide (i < (↑(List.length p) : Int)) then bif decide ((0 : Int) ≤ i ∧ i < (↑(List.length p) : Int)) then bif decide ((0 : Int) ≤ i ∧ i < (↑(List.length q) : Int)) then bif (!(List.getD p (Int.toNat i) staZ).fst == (List.getD q (Int.toNat i) staZ).fst) == false then bif decide ((0 : Int) ≤ i ∧ i < (↑(List.length p) : Int)) then bif decide ((0 : Int) ≤ i ∧ i < (↑(List.length q) : Int)) then bif (↑(List.length (List.getD p (Int.toNat i) staZ).snd.fst) : Int) != (↑(List.length (List.getD q (Int.toNat i) staZ).snd.fst) : Int) then K Ex.ret [X.sl staT p np false, X.sl staT q nq false, boolx false, i64x i] [] else bif A.se (decide (List.length p ≤ (1000000 : Nat) ∧ List.length q = List.length p ∧ (0 : Int) ≤ i ∧ i < (↑(List.length p) : Int) ∧ List.length (List.getD q (Int.toNat i) staZ).snd.fst = List.length (List.getD p (Int.toNat i) staZ).snd.fst ∧ (0 : Int) ≤ (0 : Int) ∧ (0 : Int) ≤ (↑(List.length (List.getD p (Int.toNat i) staZ).snd.fst) : Int)) && (shortS p && shortS q)) then bif A.se (decide (List.drop (Int.toNat (0 : Int)) (List.getD p (Int.toNat i) staZ).snd.fst = List.drop (Int.toNat (0 : Int)) (List.getD q (Int.toNat i) staZ).snd.fst)) then K Ex.normal [X.sl staT p np false, X.sl staT q nq false, boolx z, i64x (A.wrap IntKind.i64 (i + (1 : Int)))] [] else K Ex.ret [X.dead, X.dead, boolx false, X.dead] [] else none else none else none else K Ex.ret [X.sl staT p np false, X.sl staT q nq false, boolx false, i64x i] [] else none else none else K (Ex.exit (0 : Nat)) [X.sl staT p np false, X.sl staT q nq false, boolx z, i64x i] []) := by kernel_rfl
theorem lSmi (A : Ar) (R : Type) (p q : List Sta) (np nq : Option Bool) (z : Bool) (i k : Int) (K : Ex → List X → Hp → Option R) : stepF (Cx A (Oq1 A) (Lsm A)) 100 (loopAt Try.f14 1) 71 [0, 1, 4, 5, 6] [.sl staT p np false, .sl staT q nq false, boolx z, i64x i, i64x k] [] K =
    (bif decide ((0 : Int) ≤ i ∧ i < (↑(List.length p) : Int)) then bif decide (k < (↑(List.length (List.getD p (Int.toNat i) staZ).snd.fst) : Int)) then bif decide ((0 : Int) ≤ i ∧ i < (↑(List.length p) : Int)) then bif decide ((0 : Int) ≤ k ∧ k < (↑(List.length (List.getD p (Int.toNat i) staZ).snd.fst) : Int)) then bif decide ((0 : Int) ≤ i ∧ i < (↑(List.length q) : Int)) then bif decide ((0 : Int) ≤ k ∧ k < (↑(List.length (List.getD q (Int.toNat i) staZ).snd.fst) : Int)) then bif !A.se (eqD (Ty.prod (Ty.int IntKind.i64) (Ty.prod (Ty.int IntKind.i64) Ty.unit)) (List.getD (List.getD p (Int.toNat i) staZ).snd.fst (Int.toNat k) arcZ) (List.getD (List.getD q (Int.toNat i) staZ).snd.fst (Int.toNat k) arcZ)) then K Ex.ret [X.sl staT p np false, X.sl staT q nq false, boolx false, i64x i, i64x k] [] else K Ex.normal [X.sl staT p np false, X.sl staT q nq false, boolx z, i64x i, i64x (A.wrap IntKind.i64 (k + (1 : Int)))] [] else none else none else none else none else K (Ex.exit (2 : Nat)) [X.sl staT p np false, X.sl staT q nq false, boolx z, i64x i, i64x k] [] else none) := by kernel_rfl
theorem tRst (A : Ar) (l : List Sta) (nl : Option Bool) (i n : Int) : bodyX (Cx A (Oq1 A) (Lrst A)) 100 Try.f13 [.sl staT l nl false, i64x i, i64x n] [] =
    (bif decide (i < (0 : Int)) == false then bif decide (i ≥ (↑(List.length l) : Int)) then some (X.tup [i64x (0 : Int), boolx false], []) else bif A.se (decide (List.length l ≤ (1000000 : Nat) ∧ (0 : Int) ≤ i ∧ i < (↑(List.length l) : Int) ∧ (0 : Int) ≤ (0 : Int) ∧ (0 : Int) ≤ (↑(List.length (List.getD l (Int.toNat i) staZ).snd.fst) : Int)) && shortS l) then bif A.se (arcTo (List.drop (Int.toNat (0 : Int)) (List.getD l (Int.toNat i) staZ).snd.fst) n).snd then some (X.tup [i64x (A.se (arcTo (List.drop (Int.toNat (0 : Int)) (List.getD l (Int.toNat i) staZ).snd.fst) n).fst), boolx true], []) else some (X.tup [i64x (0 : Int), boolx false], []) else none else some (X.tup [i64x (0 : Int), boolx false], [])) := by kernel_rfl
theorem lRst (A : Ar) (R : Type) (l : List Sta) (nl : Option Bool) (i n z : Int) (z2 : Bool) (k : Int) (K : Ex → List X → Hp → Option R) : stepF (Cx A (Oq1 A) (Lrst A)) 100 (loopAt Try.f13 0) 47 [0, 1, 2, 6, 7, 8] [.sl staT l nl false, i64x i, i64x n, i64x z, boolx z2, i64x k] [] K =
    (bif decide ((0 : Int) ≤ i ∧ i < (↑(List.length l) : Int)) then bif decide (k < (↑(List.length (List.getD l (Int.toNat i) staZ).snd.fst) : Int)) then bif decide ((0 : Int) ≤ i ∧ i < (↑(List.length l) : Int)) then bif decide ((0 : Int) ≤ k ∧ k < (↑(List.length (List.getD l (Int.toNat i) staZ).snd.fst) : Int)) then bif (List.getD (List.getD l (Int.toNat i) staZ).snd.fst (Int.toNat k) arcZ).fst == n then bif decide ((0 : Int) ≤ i ∧ i < (↑(List.length l) : Int)) then bif decide ((0 : Int) ≤ k ∧ k < (↑(List.length (List.getD l (Int.toNat i) staZ).snd.fst) : Int)) then K Ex.ret [X.sl staT l nl false, i64x i, i64x n, i64x (List.getD (List.getD l (Int.toNat i) staZ).snd.fst (Int.toNat k) arcZ).snd.fst, boolx true, i64x k] [] else none else none else K Ex.normal [X.sl staT l nl false, i64x i, i64x n, i64x z, boolx z2, i64x (A.wrap IntKind.i64 (k + (1 : Int)))] [] else none else none else K (Ex.exit (0 : Nat)) [X.sl staT l nl false, i64x i, i64x n, i64x z, boolx z2, i64x k] [] else none) := by kernel_rfl
theorem tRck (A : Ar) (l : List Sta) (nl : Option Bool) : bodyX (Cx A (Oq1 A) (Lrck A)) 100 Try.f16 [.sl staT l nl false] [] =
    (bif A.se (decide (List.length l ≤ (1000000 : Nat) ∧ (0 : Int) ≤ (0 : Int) ∧ (0 : Int) ≤ (↑(List.length l) : Int)) && shortS l) then bif A.se (anyS (↑(List.length l) : Int) (0 : Int) (List.drop (Int.toNat (0 : Int)) l)) then some (boolx false, []) else bif decide ((↑(List.length l) : Int) ≥ (1 : Int)) == true then some (boolx (decide ((↑(List.length l) : Int) ≤ (6001 : Int))), []) else some (boolx false, []) else none) := by kernel_rfl
theorem lRcko (A : Ar) (R : Type) (l : List Sta) (nl : Option Bool) (z : Bool) (i : Int) (K : Ex → List X → Hp → Option R) : stepF (Cx A (Oq1 A) (Lrck A)) 100 (loopAt Try.f16 0) 74 [0, 2, 3] [.sl staT l nl false, boolx z, i64x i] [] K =
    (bif decide (i < (↑(List.length l) : Int)) then bif A.se (decide (List.length l ≤ (1000000 : Nat) ∧ (0 : Int) ≤ i ∧ i < (↑(List.length l) : Int) ∧ (0 : Int) ≤ (0 : Int) ∧ (0 : Int) ≤ (↑(List.length (List.getD l (Int.toNat i) staZ).snd.fst) : Int)) && shortS l) then bif A.se (anyC i (↑(List.length l) : Int) (lastAt (List.getD l (Int.toNat i) staZ).snd.fst (Int.toNat (0 : Int))) (List.drop (Int.toNat (0 : Int)) (List.getD l (Int.toNat i) staZ).snd.fst)) then K Ex.ret [X.dead, boolx false, X.dead] [] else K Ex.normal [X.sl staT l nl false, boolx z, i64x (A.wrap IntKind.i64 (i + (1 : Int)))] [] else none else K (Ex.exit (0 : Nat)) [X.sl staT l nl false, boolx z, i64x i] []) := by kernel_rfl
theorem lRcki (A : Ar) (R : Type) (l : List Sta) (nl : Option Bool) (z : Bool) (i k : Int) (K : Ex → List X → Hp → Option R) : stepF (Cx A (Oq1 A) (Lrck A)) 100 (loopAt Try.f16 1) 74 [0, 2, 3, 4] [.sl staT l nl false, boolx z, i64x i, i64x k] [] K =
    (bif decide ((0 : Int) ≤ i ∧ i < (↑(List.length l) : Int)) then bif decide (k < (↑(List.length (List.getD l (Int.toNat i) staZ).snd.fst) : Int)) then bif decide ((0 : Int) ≤ i ∧ i < (↑(List.length l) : Int)) then bif decide ((0 : Int) ≤ k ∧ k < (↑(List.length (List.getD l (Int.toNat i) staZ).snd.fst) : Int)) then bif (!A.se (U.goodN (List.getD (List.getD l (Int.toNat i) staZ).snd.fst (Int.toNat k) arcZ).fst)) == false then bif decide ((List.getD (List.getD l (Int.toNat i) staZ).snd.fst (Int.toNat k) arcZ).snd.fst ≤ i) == false then bif decide ((List.getD (List.getD l (Int.toNat i) staZ).snd.fst (Int.toNat k) arcZ).snd.fst ≥ (↑(List.length l) : Int)) == false then bif decide (k > (0 : Int)) == true then bif decide ((0 : Int) ≤ i ∧ i < (↑(List.length l) : Int)) then bif decide ((0 : Int) ≤ A.wrap IntKind.i64 (k - (1 : Int)) ∧ A.wrap IntKind.i64 (k - (1 : Int)) < (↑(List.length (List.getD l (Int.toNat i) staZ).snd.fst) : Int)) then bif decide ((List.getD (List.getD l (Int.toNat i) staZ).snd.fst (Int.toNat k) arcZ).fst ≤ (List.getD (List.getD l (Int.toNat i) staZ).snd.fst (Int.toNat (A.wrap IntKind.i64 (k - (1 : Int)))) arcZ).fst) then K Ex.ret [X.sl staT l nl false, boolx false, i64x i, i64x k] [(arcT, X.d (arcT) (List.getD (List.getD l (Int.toNat i) staZ).snd.fst (Int.toNat k) arcZ))] else K Ex.normal [X.sl staT l nl false, boolx z, i64x i, i64x (A.wrap IntKind.i64 (k + (1 : Int)))] [(arcT, X.d (arcT) (List.getD (List.getD l (Int.toNat i) staZ).snd.fst (Int.toNat k) arcZ))] else none else none else K Ex.normal [X.sl staT l nl false, boolx z, i64x i, i64x (A.wrap IntKind.i64 (k + (1 : Int)))] [(arcT, X.d (arcT) (List.getD (List.getD l (Int.toNat i) staZ).snd.fst (Int.toNat k) arcZ))] else K Ex.ret [X.sl staT l nl false, boolx false, i64x i, i64x k] [(arcT, X.d (arcT) (List.getD (List.getD l (Int.toNat i) staZ).snd.fst (Int.toNat k) arcZ))] else K Ex.ret [X.sl staT l nl false, boolx false, i64x i, i64x k] [(arcT, X.d (arcT) (List.getD (List.getD l (Int.toNat i) staZ).snd.fst (Int.toNat k) arcZ))] else K Ex.ret [X.sl staT l nl false, boolx false, i64x i, i64x k] [(arcT, X.d (arcT) (List.getD (List.getD l (Int.toNat i) staZ).snd.fst (Int.toNat k) arcZ))] else none else none else K (Ex.exit (2 : Nat)) [X.sl staT l nl false, boolx z, i64x i, i64x k] [] else none) := by kernel_rfl
theorem tIs (A : Ar) (l : List (List Int)) (nl : Option Bool) (w : List Int) (nw : Option Bool) : bodyX (Cx A (Oq1 A) noL) 100 Try.f25 [.sl wTy l nl false, i64s w nw false] [] =
    (bif A.se (decide (List.length l ≤ (1000000 : Nat) ∧ List.length w ≤ (1000000 : Nat)) && R.shortB l) then some (boolx (A.se (decide (w ∈ l))), []) else none) := by kernel_rfl
theorem tBg (A : Ar) (l : List (List Int)) (nl : Option Bool) : bodyX (Cx A (Oq1 A) (Lbg A)) 100 Try.f24 [.sl wTy l nl false] [] =
    (bif A.se (decide (List.length l ≤ (300 : Nat) ∧ (1 : Int) ≤ (1 : Int) ∧ (1 : Int) ≤ (21 : Int) ∧ (↑(List.length ([[]] : List (List Int))) : Int) ≤ (1 : Int) + (300 : Int) * ((1 : Int) - (1 : Int))) && R.shortB l) then some (X.sl (Ty.slice (Ty.int IntKind.i64)) (A.se (begO l (1 : Int) [[]])) (some false) false, []) else none) := by kernel_rfl
theorem lBgo (A : Ar) (R : Type) (l : List (List Int)) (nl : Option Bool) (out : List (List Int)) (n : Int) (K : Ex → List X → Hp → Option R) : stepF (Cx A (Oq1 A) (Lbg A)) 100 (loopAt Try.f24 0) 59 [0, 3, 4] [.sl wTy l nl false, .sl wTy out (some false) true, i64x n] [] K =
    (bif decide (n ≤ (20 : Int)) then bif A.se (decide (List.length l ≤ (300 : Nat) ∧ (1 : Int) ≤ n ∧ n ≤ (20 : Int) ∧ (0 : Int) ≤ (0 : Int) ∧ (0 : Int) ≤ (↑(List.length l) : Int) ∧ (↑(0 : Nat) : Int) ≤ (0 : Int)) && (true == true && (V.R.shortB l && V.R.shortB []))) then bif decide ((List.length out + List.length (A.se (begI (List.drop (Int.toNat (0 : Int)) l) n []))) * (24 : Nat) ≤ (140737488355328 : Nat)) then K Ex.normal [X.sl (Ty.slice (Ty.int IntKind.i64)) l nl false, X.sl (Ty.slice (Ty.int IntKind.i64)) (out ++ A.se (begI (List.drop (Int.toNat (0 : Int)) l) n [])) (some (false && List.isEmpty (A.se (begI (List.drop (Int.toNat (0 : Int)) l) n [])))) true, i64x (A.wrap IntKind.i64 (n + (1 : Int)))] [] else none else none else K (Ex.exit (0 : Nat)) [X.sl wTy l nl false, X.sl wTy out (some false) true, i64x n] []) := by kernel_rfl
theorem lBgi (A : Ar) (R : Type) (l : List (List Int)) (nl : Option Bool) (out : List (List Int)) (n : Int) (acc : List (List Int)) (x : Bool) (i : Int) (K : Ex → List X → Hp → Option R) : stepF (Cx A (Oq1 A) (Lbg A)) 100 (loopAt Try.f24 1) 59 [0, 3, 4, 5, 6] [.sl wTy l nl false, .sl wTy out (some false) true, i64x n, .sl wTy acc (some x) true, i64x i] [] K =
    (bif decide (i < (↑(List.length l) : Int)) then bif decide ((0 : Int) ≤ i ∧ i < (↑(List.length l) : Int)) then bif decide ((↑(List.length (List.getD l (Int.toNat i) ([] : List Int))) : Int) ≥ n) == true then bif ((↑(List.length acc) : Int) == (0 : Int)) == false then bif decide ((0 : Int) ≤ A.wrap IntKind.i64 ((↑(List.length acc) : Int) - (1 : Int)) ∧ A.wrap IntKind.i64 ((↑(List.length acc) : Int) - (1 : Int)) < (↑(List.length acc) : Int)) then bif decide ((0 : Int) ≤ i ∧ i < (↑(List.length l) : Int)) then bif decide ((0 : Int) ≤ n ∧ n ≤ (↑(List.length (List.getD l (Int.toNat i) ([] : List Int))) : Int)) then bif A.se (decide (List.length (List.getD acc (Int.toNat (A.wrap IntKind.i64 ((↑(List.length acc) : Int) - (1 : Int)))) ([] : List Int)) ≤ (1000000 : Nat))) then bif !A.se (decide (List.getD acc (Int.toNat (A.wrap IntKind.i64 ((↑(List.length acc) : Int) - (1 : Int)))) ([] : List Int) = List.take (Int.toNat n) (List.getD l (Int.toNat i) ([] : List Int)))) then bif decide ((0 : Int) ≤ i ∧ i < (↑(List.length l) : Int)) then bif decide ((0 : Int) ≤ n ∧ n ≤ (↑(List.length (List.getD l (Int.toNat i) ([] : List Int))) : Int)) then bif decide ((List.length acc + List.length [List.take (Int.toNat n) (List.getD l (Int.toNat i) ([] : List Int))]) * (24 : Nat) ≤ (140737488355328 : Nat)) then K Ex.normal [X.sl wTy l nl false, X.sl wTy out (some false) true, i64x n, X.sl wTy (acc ++ [List.take (Int.toNat n) (List.getD l (Int.toNat i) ([] : List Int))]) (some (x && List.isEmpty [List.take (Int.toNat n) (List.getD l (Int.toNat i) ([] : List Int))])) true, i64x (A.wrap IntKind.i64 (i + (1 : Int)))] [] else none else none else none else K Ex.normal [X.sl wTy l nl false, X.sl wTy out (some false) true, i64x n, X.sl wTy acc (some x) true, i64x (A.wrap IntKind.i64 (i + (1 : Int)))] [] else none else none else none else none else bif decide ((0 : Int) ≤ i ∧ i < (↑(List.length l) : Int)) then bif decide ((0 : Int) ≤ n ∧ n ≤ (↑(List.length (List.getD l (Int.toNat i) ([] : List Int))) : Int)) then bif decide ((List.length acc + List.length [List.take (Int.toNat n) (List.getD l (Int.toNat i) ([] : List Int))]) * (24 : Nat) ≤ (140737488355328 : Nat)) then K Ex.normal [X.sl wTy l nl false, X.sl wTy out (some false) true, i64x n, X.sl wTy (acc ++ [List.take (Int.toNat n) (List.getD l (Int.toNat i) ([] : List Int))]) (some (x && List.isEmpty [List.take (Int.toNat n) (List.getD l (Int.toNat i) ([] : List Int))])) true, i64x (A.wrap IntKind.i64 (i + (1 : Int)))] [] else none else none else none else K Ex.normal [X.sl wTy l nl false, X.sl wTy out (some false) true, i64x n, X.sl wTy acc (some x) true, i64x (A.wrap IntKind.i64 (i + (1 : Int)))] [] else none else K (Ex.exit (2 : Nat)) [X.sl wTy l nl false, X.sl wTy out (some false) true, i64x n, X.sl wTy acc (some x) true, i64x i] []) := by kernel_rfl
theorem tRm (A : Ar) (l : List (List Int)) (nl : Option Bool) : bodyX (Crm A) 100 Try.f11 [.sl wTy l nl false] [] =
    (bif A.se (decide (List.length l ≤ (1000 : Nat)) && R.shortB l) then bif A.se (writeW l).snd != (0 : Int) then some (X.tup [X.sl (Ty.struct (Ty.prod Ty.bool (Ty.prod (Ty.slice (arcT)) Ty.unit))) [] (some true) false, i64x (A.se (writeW l).snd)], []) else bif A.se (decide (List.length l ≤ (300 : Nat)) && R.shortB l) then bif A.se (decide (List.length l ≤ (300 : Nat) ∧ List.length (A.se (begO l (1 : Int) [[]])) ≤ (10000 : Nat) ∧ (0 : Int) ≤ (0 : Int) ∧ (0 : Int) ≤ (↑(List.length (A.se (begO l (1 : Int) [[]]))) : Int) ∧ [] = List.map (staOf2 (A.se (begO l (1 : Int) [[]])) l) (List.take (Int.toNat (0 : Int)) (A.se (begO l (1 : Int) [[]])))) && (true == true && (R.shortB l && R.shortB (A.se (begO l (1 : Int) [[]]))))) then some (X.tup [X.sl staT (A.se (autoN l (A.se (begO l (1 : Int) [[]])))) (some (A.se (List.isEmpty (autoN l (A.se (begO l (1 : Int) [[]])))))) false, i64x (0 : Int)], []) else none else none else none) := by kernel_rfl
theorem lRmo (A : Ar) (R : Type) (l : List (List Int)) (nl : Option Bool) (B : List (List Int)) (nb : Option Bool) (out : List Sta) (x : Bool) (i : Int) (K : Ex → List X → Hp → Option R) : stepF (Crm A) 100 (loopAt Try.f11 0) 88 [0, 6, 7, 8] [.sl wTy l nl false, .sl wTy B nb false, .sl staT out (some x) true, i64x i] [] K =
    (bif decide (i < (↑(List.length B) : Int)) then bif decide ((0 : Int) ≤ i ∧ i < (↑(List.length B) : Int)) then bif A.se (decide (List.length l ≤ (1000000 : Nat) ∧ List.length (List.getD B (Int.toNat i) ([] : List Int)) ≤ (1000000 : Nat)) && V.R.shortB l) then bif A.se (decide (List.length B ≤ (10000 : Nat) ∧ (0 : Int) ≤ i ∧ i < (↑(List.length B) : Int) ∧ (0 : Int) ≤ (0 : Int) ∧ (0 : Int) ≤ (↑(List.length B) : Int) ∧ [] = goA (List.take (Int.toNat (0 : Int)) B) (0 : Nat) (List.getD B (Int.toNat i) [])) && (true == true && V.R.shortB B)) then bif decide ((List.length out + List.length [(A.se (decide (List.getD B (Int.toNat i) ([] : List Int) ∈ l)), A.se (goA B (0 : Nat) (List.getD B (Int.toNat i) [])), ())]) * (32 : Nat) ≤ (140737488355328 : Nat)) then K Ex.normal [X.sl (Ty.slice (Ty.int IntKind.i64)) l nl false, X.sl (Ty.slice (Ty.int IntKind.i64)) B nb false, X.sl staT (out ++ [(A.se (decide (List.getD B (Int.toNat i) ([] : List Int) ∈ l)), A.se (goA B (0 : Nat) (List.getD B (Int.toNat i) [])), ())]) (some (x && List.isEmpty [(A.se (decide (List.getD B (Int.toNat i) ([] : List Int) ∈ l)), A.se (goA B (0 : Nat) (List.getD B (Int.toNat i) [])), ())])) true, i64x (A.wrap IntKind.i64 (i + (1 : Int)))] [(staT, X.agg [boolx (A.se (decide (List.getD B (Int.toNat i) ([] : List Int) ∈ l))), X.sl arcT (A.se (goA B (0 : Nat) (List.getD B (Int.toNat i) []))) (some (A.se (List.isEmpty (goA B (0 : Nat) (List.getD B (Int.toNat i) []))))) true])] else none else none else none else none else K (Ex.exit (0 : Nat)) [X.sl wTy l nl false, X.sl wTy B nb false, X.sl staT out (some x) true, i64x i] []) := by kernel_rfl
theorem lRmi (A : Ar) (R : Type) (l : List (List Int)) (nl : Option Bool) (B : List (List Int)) (nb : Option Bool) (out : List Sta) (x : Bool) (i k : Int) (f : Bool) (arcs : List Arc) (y : Bool) (K : Ex → List X → Hp → Option R) : stepF (Crm A) 100 (loopAt Try.f11 1) 88 [0, 6, 7, 8, 9, 10] [.sl wTy l nl false, .sl wTy B nb false, .sl staT out (some x) true, i64x i, .ptr 0 [], i64x k] [(staT, .agg [boolx f, .sl arcT arcs (some y) true])] K =
    (bif decide (k < (↑(List.length B) : Int)) then bif decide ((0 : Int) ≤ k ∧ k < (↑(List.length B) : Int)) then bif decide ((0 : Int) ≤ i ∧ i < (↑(List.length B) : Int)) then bif ((↑(List.length (List.getD B (Int.toNat k) ([] : List Int))) : Int) == A.wrap IntKind.i64 ((↑(List.length (List.getD B (Int.toNat i) ([] : List Int))) : Int) + (1 : Int))) == true then bif decide ((0 : Int) ≤ k ∧ k < (↑(List.length B) : Int)) then bif decide ((0 : Int) ≤ A.wrap IntKind.i64 ((↑(List.length (List.getD B (Int.toNat k) ([] : List Int))) : Int) - (1 : Int)) ∧ A.wrap IntKind.i64 ((↑(List.length (List.getD B (Int.toNat k) ([] : List Int))) : Int) - (1 : Int)) ≤ (↑(List.length (List.getD B (Int.toNat k) ([] : List Int))) : Int)) then bif decide ((0 : Int) ≤ i ∧ i < (↑(List.length B) : Int)) then bif A.se (decide (List.length (List.take (Int.toNat (A.wrap IntKind.i64 ((↑(List.length (List.getD B (Int.toNat k) ([] : List Int))) : Int) - (1 : Int)))) (List.getD B (Int.toNat k) ([] : List Int))) ≤ (1000000 : Nat))) then bif A.se (decide (List.take (Int.toNat (A.wrap IntKind.i64 ((↑(List.length (List.getD B (Int.toNat k) ([] : List Int))) : Int) - (1 : Int)))) (List.getD B (Int.toNat k) ([] : List Int)) = List.getD B (Int.toNat i) ([] : List Int))) then bif decide ((0 : Int) ≤ k ∧ k < (↑(List.length B) : Int)) then bif decide ((0 : Int) ≤ A.wrap IntKind.i64 ((↑(List.length (List.getD B (Int.toNat k) ([] : List Int))) : Int) - (1 : Int)) ∧ A.wrap IntKind.i64 ((↑(List.length (List.getD B (Int.toNat k) ([] : List Int))) : Int) - (1 : Int)) < (↑(List.length (List.getD B (Int.toNat k) ([] : List Int))) : Int)) then bif decide ((List.length arcs + List.length [(List.getD (List.getD B (Int.toNat k) ([] : List Int)) (Int.toNat (A.wrap IntKind.i64 ((↑(List.length (List.getD B (Int.toNat k) ([] : List Int))) : Int) - (1 : Int)))) (0 : Int), k, ())]) * (16 : Nat) ≤ (140737488355328 : Nat)) then K Ex.normal [X.sl wTy l nl false, X.sl wTy B nb false, X.sl staT out (some x) true, i64x i, X.ptr (0 : Nat) [], i64x (A.wrap IntKind.i64 (k + (1 : Int)))] [(staT, X.agg [boolx f, X.sl arcT (arcs ++ [(List.getD (List.getD B (Int.toNat k) ([] : List Int)) (Int.toNat (A.wrap IntKind.i64 ((↑(List.length (List.getD B (Int.toNat k) ([] : List Int))) : Int) - (1 : Int)))) (0 : Int), k, ())]) (some (y && List.isEmpty [(List.getD (List.getD B (Int.toNat k) ([] : List Int)) (Int.toNat (A.wrap IntKind.i64 ((↑(List.length (List.getD B (Int.toNat k) ([] : List Int))) : Int) - (1 : Int)))) (0 : Int), k, ())])) true])] else none else none else none else K Ex.normal [X.sl wTy l nl false, X.sl wTy B nb false, X.sl staT out (some x) true, i64x i, X.ptr (0 : Nat) [], i64x (A.wrap IntKind.i64 (k + (1 : Int)))] [(staT, X.agg [boolx f, X.sl arcT arcs (some y) true])] else none else none else none else none else K Ex.normal [X.sl wTy l nl false, X.sl wTy B nb false, X.sl staT out (some x) true, i64x i, X.ptr (0 : Nat) [], i64x (A.wrap IntKind.i64 (k + (1 : Int)))] [(staT, X.agg [boolx f, X.sl arcT arcs (some y) true])] else none else none else K (Ex.exit (2 : Nat)) [X.sl wTy l nl false, X.sl wTy B nb false, X.sl staT out (some x) true, i64x i, X.ptr (0 : Nat) [], i64x k] [(staT, X.agg [boolx f, X.sl arcT arcs (some y) true])]) := by kernel_rfl
theorem tWk (A : Ar) (l : List Sta) (nl : Option Bool) (w : List Int) (nw : Option Bool) : bodyX (Cx A (Oq2 A) (Lwk A)) 100 Try.f18 [.sl staT l nl false, i64s w nw false] [] =
    (bif A.se (decide (List.length l ≤ (1000000 : Nat) ∧ List.length w ≤ (1000000 : Nat) ∧ (0 : Int) ≤ (0 : Int) ∧ (0 : Int) ≤ (↑(List.length w) : Int)) && shortS l) then bif A.se (Option.isSome (walkO l (0 : Int) (List.drop (Int.toNat (0 : Int)) w))) then some (X.tup [i64x (A.se (Option.getD (walkO l (0 : Int) (List.drop (Int.toNat (0 : Int)) w)) (0 : Int))), boolx (decide ((↑(List.length l) : Int) > (0 : Int)))], []) else some (X.tup [i64x (0 : Int), boolx false], []) else none) := by kernel_rfl
theorem lWk (A : Ar) (R : Type) (l : List Sta) (nl : Option Bool) (w : List Int) (nw : Option Bool) (z : Int) (z2 : Bool) (a i : Int) (K : Ex → List X → Hp → Option R) : stepF (Cx A (Oq2 A) (Lwk A)) 100 (loopAt Try.f18 0) 33 [0, 1, 4, 5, 6, 7] [.sl staT l nl false, i64s w nw false, i64x z, boolx z2, i64x a, i64x i] [] K =
    (bif decide (i < (↑(List.length w) : Int)) then bif decide ((0 : Int) ≤ i ∧ i < (↑(List.length w) : Int)) then bif A.se (decide (List.length l ≤ (1000000 : Nat)) && shortS l) then bif !A.se (stepA l a (List.getD w (Int.toNat i) (0 : Int))).snd then K Ex.ret [X.sl staT l nl false, i64s w nw false, i64x (0 : Int), boolx false, i64x a, i64x i] [] else K Ex.normal [X.sl staT l nl false, i64s w nw false, i64x z, boolx z2, i64x (A.se (stepA l a (List.getD w (Int.toNat i) (0 : Int))).fst), i64x (A.wrap IntKind.i64 (i + (1 : Int)))] [] else none else none else K (Ex.exit (0 : Nat)) [X.sl staT l nl false, i64s w nw false, i64x z, boolx z2, i64x a, i64x i] []) := by kernel_rfl

end Go.Proofs.Ytnbfiifkaddehaa.V

/-
  Chapter 10, automata: what the small functions tell; their trees. By program; each equation is checked by the kernel.
  It speaks of the pinned program alone; no condition.
-/
import Derived.Test.YtnbfiifkaddehaaP10
namespace Go.Proofs.Ytnbfiifkaddehaa.V
open Go
set_option linter.unusedVariables false

abbrev arcT : Ty := .struct (.prod (.int .i64) (.prod (.int .i64) .unit))
abbrev staT : Ty := .struct (.prod .bool (.prod (.slice arcT) .unit))
abbrev Arc := Int × Int × Unit
abbrev Sta := Bool × List Arc × Unit

/-- An arc that may not be: behind one by this sign, of this state, among so many. -/
def wrongA (i n last : Int) (a : Arc) : Bool := decide (a.1 ≤ last) || (!(U.goodN a.1) || (decide (a.2.1 ≤ i) || decide (a.2.1 ≥ n)))
def anyC (i n : Int) : Int → List Arc → Bool
  | _, [] => false
  | last, a :: r => wrongA i n last a || anyC i n a.1 r
/-- The first one that may not be, else -1; the last sign that was looked at. -/
def idxC (i n : Int) : Int → List Arc → Int × Int
  | last, [] => (-1, last)
  | last, a :: r => bif wrongA i n last a then (0, a.1) else (bif (idxC i n a.1 r).1 == -1 then -1 else (idxC i n a.1 r).1 + 1, (idxC i n a.1 r).2)
def anyS (n : Int) : Int → List Sta → Bool
  | _, [] => false
  | i, s :: r => anyC i n (-1) s.2.1 || anyS n (i + 1) r
def checkB (l : List Sta) : Bool := !(anyS l.length 0 l) && (decide (0 < l.length) && decide (l.length ≤ 6001))
def shortS (l : List Sta) : Bool := l.all fun s => decide (List.length s.2.1 ≤ 1000000)
def sgn (n : Int) (a : Arc) : Bool := a.1 == n
def arcTo (w : List Arc) (n : Int) : Int × Bool := match w.find? (sgn n) with
  | some a => (a.2.1, true)
  | none => (0, false)
def stepA (l : List Sta) (i n : Int) : Int × Bool := if 0 ≤ i ∧ i < l.length then arcTo (l.getD i.toNat (false, [], ())).2.1 n else (0, false)

abbrev chkC : X := .fn 29 [] [.ptr 3 [], .ptr 1 [], .ptr 0 []]
abbrev chkH (l : List Sta) (nl : Option Bool) (i : Int) (s : Sta) (last : Int) : Hp := [(.slice staT, .sl staT l nl false), (.int .i64, i64x i), (staT, .d staT s), (.int .i64, i64x last)]
def chkOf : Hp → Option (List Sta × Option Bool × Int × Sta × Int)
  | [(t0, .sl e l nl false), (.int .i64, .d (.int .i64) i), (t2, .d t s), (.int .i64, .d (.int .i64) last)] => if t0 = .slice staT ∧ t2 = staT then
    (match castTo (.slice e) (.slice staT) l, castTo t staT s with
    | some l, some s => some (l, nl, i, s, last)
    | _, _ => none) else none
  | _ => none
def chk1F (A : Ar) : List X → Hp → Tr (X × Hp)
  | [.d (.struct (.prod (.int .i64) (.prod (.int .i64) .unit))) a, .ptr 3 [], .ptr 1 [], .ptr 0 []], H => match chkOf H with
    | some q => .give (boolx (A.se (wrongA q.2.2.1 q.1.length q.2.2.2.2 a)), chkH q.1 q.2.1 q.2.2.1 q.2.2.2.1 a.1)
    | none => .no
  | _, _ => .no
def idxCF (A : Ar) : List X → Hp → Tr (X × Hp)
  | [.sl (.struct (.prod (.int .i64) (.prod (.int .i64) .unit))) l nl false, .fn f [] [.ptr 3 [], .ptr 1 [], .ptr 0 []]], H => match chkOf H with
    | some q => .test (A.se (decide (f = 29 ∧ List.length l ≤ 1000000))) (.give (i64x (A.se (idxC q.2.2.1 q.1.length q.2.2.2.2 l).1), chkH q.1 q.2.1 q.2.2.1 q.2.2.2.1 (A.se (idxC q.2.2.1 q.1.length q.2.2.2.2 l).2))) .no
    | none => .no
  | _, _ => .no
def LidxCF (A : Ar) : List X → Hp → Tr (Ex × List X × Hp)
  | [.sl (.struct (.prod (.int .i64) (.prod (.int .i64) .unit))) l nl false, .fn f [] [.ptr 3 [], .ptr 1 [], .ptr 0 []], .d (.int .i64) z, .d (.int .i64) m, .d (.int .i64) k], H => match chkOf H with
    | some q => .test (A.se (decide (f = 29 ∧ List.length l ≤ 1000000 ∧ m = List.length l ∧ 0 ≤ k ∧ k ≤ m)))
          (.test (A.se (decide ((idxC q.2.2.1 q.1.length q.2.2.2.2 (List.drop k.toNat l)).1 < 0))) (.give (.exit 0, [.dead, .dead, .dead, .dead, .dead], chkH q.1 q.2.1 q.2.2.1 q.2.2.2.1 (A.se (idxC q.2.2.1 q.1.length q.2.2.2.2 (List.drop k.toNat l)).2)))
            (.give (.ret, [.dead, .dead, i64x (A.se (k + (idxC q.2.2.1 q.1.length q.2.2.2.2 (List.drop k.toNat l)).1)), .dead, .dead], chkH q.1 q.2.1 q.2.2.1 q.2.2.2.1 (A.se (idxC q.2.2.1 q.1.length q.2.2.2.2 (List.drop k.toNat l)).2)))) .no
    | none => .no
  | _, _ => .no
def LidxC (A : Ar) : Lp := fun k => match k with
  | 2 => some (19, [0, 1, 4, 7, 8], LidxCF A)
  | _ => none
def ctCF (A : Ar) : List X → Hp → Tr (X × Hp)
  | [.sl (.struct (.prod (.int .i64) (.prod (.int .i64) .unit))) l nl false, .fn f [] [.ptr 3 [], .ptr 1 [], .ptr 0 []]], H => match chkOf H with
    | some q => .test (A.se (decide (f = 29 ∧ List.length l ≤ 1000000))) (.give (boolx (A.se (anyC q.2.2.1 q.1.length q.2.2.2.2 l)), chkH q.1 q.2.1 q.2.2.1 q.2.2.2.1 (A.se (idxC q.2.2.1 q.1.length q.2.2.2.2 l).2))) .no
    | none => .no
  | _, _ => .no
def staOf : List X → Option (List Sta × Option Bool)
  | [.sl e l nl false] => match castTo (.slice e) (.slice staT) l with
    | some l => some (l, nl)
    | none => none
  | _ => none
def checkF (A : Ar) (xs : List X) : Tr X := match staOf xs with
  | some q => .test (A.se (decide (q.1.length ≤ 1000000) && shortS q.1)) (.give (boolx (A.se (checkB q.1)))) .no
  | none => .no
def LchkF (A : Ar) : List X → Hp → Tr (Ex × List X × Hp)
  | [.ptr 0 [], .d .bool z, x, .d (.int .i64) m, .d (.int .i64) k], [(t0, y)] => match staOf [x] with
    | some q => match staOf [y] with
      | some q2 => if t0 = .slice staT then .test (A.se (decide (m = List.length q.1 ∧ q2.1.length = q.1.length ∧ List.length q.1 ≤ 1000000 ∧ 0 ≤ k ∧ k ≤ m) && shortS q.1))
          (.test (A.se (anyS m k (List.drop k.toNat q.1))) (.give (.ret, [.dead, boolx false, .dead, .dead, .dead], [(.slice staT, .sl staT q2.1 q2.2 false)]))
            (.give (.exit 0, [.ptr 0 [], .dead, .dead, .dead, .dead], [(.slice staT, .sl staT q2.1 q2.2 false)]))) .no else .no
      | none => .no
    | none => .no
  | _, _ => .no
def Lchk (A : Ar) : Lp := fun k => match k with
  | 2 => some (28, [1, 2, 7, 8, 9], LchkF A)
  | _ => none

abbrev stpH (n : Int) : Hp := [(.int .i64, i64x n)]
def stp1F (A : Ar) : List X → Hp → Tr (X × Hp)
  | [.d (.struct (.prod (.int .i64) (.prod (.int .i64) .unit))) a, .ptr 0 []], [(.int .i64, .d (.int .i64) n)] => .give (boolx (a.1 == n), stpH n)
  | _, _ => .no
def idxSF (A : Ar) : List X → Hp → Tr (X × Hp)
  | [.sl (.struct (.prod (.int .i64) (.prod (.int .i64) .unit))) l nl false, .fn f [] [.ptr 0 []]], [(.int .i64, .d (.int .i64) n)] => .test (A.se (decide (f = 28 ∧ List.length l ≤ 1000000))) (.give (i64x (A.se (idxG (sgn n) l)), stpH n)) .no
  | _, _ => .no
def LidxSF (A : Ar) : List X → Hp → Tr (Ex × List X × Hp)
  | [.sl (.struct (.prod (.int .i64) (.prod (.int .i64) .unit))) l nl false, .fn f [] [.ptr 0 []], .d (.int .i64) z, .d (.int .i64) m, .d (.int .i64) k], [(.int .i64, .d (.int .i64) n)] =>
    .test (A.se (decide (f = 28 ∧ List.length l ≤ 1000000 ∧ m = List.length l ∧ 0 ≤ k ∧ k ≤ m)))
      (.test (A.se (decide (idxG (sgn n) (List.drop k.toNat l) < 0))) (.give (.exit 0, [.dead, .dead, .dead, .dead, .dead], stpH n))
        (.give (.ret, [.dead, .dead, i64x (A.se (k + idxG (sgn n) (List.drop k.toNat l))), .dead, .dead], stpH n))) .no
  | _, _ => .no
def LidxS (A : Ar) : Lp := fun k => match k with
  | 2 => some (19, [0, 1, 4, 7, 8], LidxSF A)
  | _ => none
def stepAF (A : Ar) : List X → Tr X
  | [x, .d (.int .i64) i, .d (.int .i64) n] => match staOf [x] with
    | some q => .test (A.se (decide (q.1.length ≤ 1000000) && shortS q.1)) (.give (.tup [i64x (A.se (stepA q.1 i n).1), boolx (A.se (stepA q.1 i n).2)])) .no
    | none => .no
  | _ => .no

/-- The library's way to how much is alike: the loop of order.first. -/
def LfstF (A : Ar) : List X → Hp → Tr (Ex × List X × Hp)
  | [.sl (.int .i64) a na false, .sl (.int .i64) b nb false, .d (.int .i64) z, .d (.int .i64) l, .d (.int .i64) i], [] =>
    .test (A.se (decide (List.length a ≤ 1000000 ∧ List.length b ≤ 1000000 ∧ l ≤ List.length a ∧ l ≤ List.length b ∧ (l = List.length a ∨ l = List.length b) ∧ 0 ≤ i ∧ i ≤ l)))
      (.test (A.se (decide (i + R.comL (a.drop i.toNat) (b.drop i.toNat) = l)))
        (.give (.exit 0, [.sl (.int .i64) a na false, .sl (.int .i64) b nb false, .dead, .dead, .dead], []))
        (.give (.ret, [.dead, .dead, i64x (A.se (i + R.comL (a.drop i.toNat) (b.drop i.toNat))), .dead, .dead], []))) .no
  | _, _ => .no
def Lfst (A : Ar) : Lp := fun k => match k with
  | 2 => some (30, [0, 1, 4, 10, 11], LfstF A)
  | _ => none

def noOt : OT := fun _ => none
def Oa1 (A : Ar) : OT := Oadd (Oadd (Oadd noOt 30 (.pure (U.goodF A))) 32 (.pure (U.goodF A))) 39 (.pure (R.comF A))
def Oa2 (A : Ar) : OT := Oadd (Oadd (Oa1 A) 29 (.eff (chk1F A))) 28 (.eff (stp1F A))
def Oa3 (A : Ar) : OT := Oadd (Oa2 A) 27 (.eff (idxCF A))
def Oa4 (A : Ar) : OT := Oadd (Oa3 A) 31 (.eff (ctCF A))
def Oa5 (A : Ar) : OT := Oadd (Oa2 A) 27 (.eff (idxSF A))

theorem tChk1 (A : Ar) (a : Arc) (l : List Sta) (nl : Option Bool) (i : Int) (s : Sta) (last : Int) : bodyX (Cx A (Oa1 A) noL) 100 Try.f29 [.d arcT a, .ptr 3 [], .ptr 1 [], .ptr 0 []] (chkH l nl i s last) =
    (bif decide (a.fst ≤ last) == false then
      bif (!A.se (U.goodN a.fst)) == false then
        bif decide (a.snd.fst ≤ i) == false then
          some
            (X.d Ty.bool (decide (a.snd.fst ≥ (↑(List.length l) : Int))),
              [(Ty.slice staT, X.sl staT l nl false), (Ty.int IntKind.i64, X.d (Ty.int IntKind.i64) i), (staT, X.d staT s),
                (Ty.int IntKind.i64, X.d (Ty.int IntKind.i64) a.fst),
                (Ty.struct (Ty.prod (Ty.int IntKind.i64) (Ty.prod (Ty.int IntKind.i64) Ty.unit)), X.d arcT a)])
        else
          some
            (X.d Ty.bool true,
              [(Ty.slice staT, X.sl staT l nl false), (Ty.int IntKind.i64, X.d (Ty.int IntKind.i64) i), (staT, X.d staT s),
                (Ty.int IntKind.i64, X.d (Ty.int IntKind.i64) a.fst),
                (Ty.struct (Ty.prod (Ty.int IntKind.i64) (Ty.prod (Ty.int IntKind.i64) Ty.unit)), X.d arcT a)])
      else
        some
          (X.d Ty.bool true,
            [(Ty.slice staT, X.sl staT l nl false), (Ty.int IntKind.i64, X.d (Ty.int IntKind.i64) i), (staT, X.d staT s),
              (Ty.int IntKind.i64, X.d (Ty.int IntKind.i64) a.fst),
              (Ty.struct (Ty.prod (Ty.int IntKind.i64) (Ty.prod (Ty.int IntKind.i64) Ty.unit)), X.d arcT a)])
    else
      some
        (X.d Ty.bool true,
          [(Ty.slice staT, X.sl staT l nl false), (Ty.int IntKind.i64, X.d (Ty.int IntKind.i64) i), (staT, X.d staT s),
            (Ty.int IntKind.i64, X.d (Ty.int IntKind.i64) a.fst),
            (Ty.struct (Ty.prod (Ty.int IntKind.i64) (Ty.prod (Ty.int IntKind.i64) Ty.unit)), X.d arcT a)])) := by kernel_rfl
theorem tIdxC (A : Ar) (w : List Arc) (nw : Option Bool) (l : List Sta) (nl : Option Bool) (i : Int) (s : Sta) (last : Int) : bodyX (Cx A (Oa2 A) (LidxC A)) 100 Try.f27 [.sl arcT w nw false, chkC] (chkH l nl i s last) =
    (bif
        A.se
          (decide
            ((29 : Nat) = (29 : Nat) ∧
              List.length w ≤ (1000000 : Nat) ∧
                (↑(List.length w) : Int) = (↑(List.length w) : Int) ∧
                  (0 : Int) ≤ (0 : Int) ∧ (0 : Int) ≤ (↑(List.length w) : Int))) then
      bif A.se (decide ((idxC i (↑(List.length l) : Int) last (List.drop (Int.toNat (0 : Int)) w)).fst < (0 : Int))) then
        some
          (X.d (Ty.int IntKind.i64) (-1 : Int),
            [(Ty.slice staT, X.sl staT l nl false), (Ty.int IntKind.i64, X.d (Ty.int IntKind.i64) i), (staT, X.d staT s),
              (Ty.int IntKind.i64,
                X.d (Ty.int IntKind.i64)
                  (A.se (idxC i (↑(List.length l) : Int) last (List.drop (Int.toNat (0 : Int)) w)).snd))])
      else
        some
          (X.d (Ty.int IntKind.i64)
              (A.se ((0 : Int) + (idxC i (↑(List.length l) : Int) last (List.drop (Int.toNat (0 : Int)) w)).fst)),
            [(Ty.slice staT, X.sl staT l nl false), (Ty.int IntKind.i64, X.d (Ty.int IntKind.i64) i), (staT, X.d staT s),
              (Ty.int IntKind.i64,
                X.d (Ty.int IntKind.i64)
                  (A.se (idxC i (↑(List.length l) : Int) last (List.drop (Int.toNat (0 : Int)) w)).snd))])
    else none) := by kernel_rfl
theorem lIdxC (A : Ar) (R : Type) (w : List Arc) (nw : Option Bool) (z m k : Int) (l : List Sta) (nl : Option Bool) (i : Int) (s : Sta) (last : Int) (K : Ex → List X → Hp → Option R) : stepF (Cx A (Oa2 A) (LidxC A)) 100 (loopAt Try.f27 0) 19 [0, 1, 4, 7, 8] [.sl arcT w nw false, chkC, i64x z, i64x m, i64x k] (chkH l nl i s last) K =
    (bif decide (k < m) then
      bif decide ((0 : Int) ≤ k ∧ k < (↑(List.length w) : Int)) then
        bif A.se (wrongA i (↑(List.length l) : Int) last (List.getD w (Int.toNat k) (Ty.zero arcT))) then
          K Ex.ret
            [X.sl arcT w nw false, X.fn (29 : Nat) [] [X.ptr (3 : Nat) [], X.ptr (1 : Nat) [], X.ptr (0 : Nat) []],
              X.d (Ty.int IntKind.i64) k, X.d (Ty.int IntKind.i64) m, X.d (Ty.int IntKind.i64) k]
            [(Ty.slice staT, X.sl staT l nl false), (Ty.int IntKind.i64, X.d (Ty.int IntKind.i64) i), (staT, X.d staT s),
              (Ty.int IntKind.i64, X.d (Ty.int IntKind.i64) (List.getD w (Int.toNat k) (Ty.zero arcT)).fst)]
        else
          K Ex.normal
            [X.sl arcT w nw false, X.fn (29 : Nat) [] [X.ptr (3 : Nat) [], X.ptr (1 : Nat) [], X.ptr (0 : Nat) []],
              X.d (Ty.int IntKind.i64) z, X.d (Ty.int IntKind.i64) m,
              X.d (Ty.int IntKind.i64) (A.wrap IntKind.i64 (k + (1 : Int)))]
            [(Ty.slice staT, X.sl staT l nl false), (Ty.int IntKind.i64, X.d (Ty.int IntKind.i64) i), (staT, X.d staT s),
              (Ty.int IntKind.i64, X.d (Ty.int IntKind.i64) (List.getD w (Int.toNat k) (Ty.zero arcT)).fst)]
      else none
    else
      K (Ex.exit (0 : Nat))
        [X.sl arcT w nw false, X.fn (29 : Nat) [] [X.ptr (3 : Nat) [], X.ptr (1 : Nat) [], X.ptr (0 : Nat) []],
          X.d (Ty.int IntKind.i64) z, X.d (Ty.int IntKind.i64) m, X.d (Ty.int IntKind.i64) k]
        [(Ty.slice staT, X.sl staT l nl false), (Ty.int IntKind.i64, X.d (Ty.int IntKind.i64) i), (staT, X.d staT s),
          (Ty.int IntKind.i64, X.d (Ty.int IntKind.i64) last)]) := by kernel_rfl
theorem tCtC (A : Ar) (w : List Arc) (nw : Option Bool) (l : List Sta) (nl : Option Bool) (i : Int) (s : Sta) (last : Int) : bodyX (Cx A (Oa3 A) noL) 100 Try.f31 [.sl arcT w nw false, chkC] (chkH l nl i s last) =
    (bif A.se (decide ((29 : Nat) = (29 : Nat) ∧ List.length w ≤ (1000000 : Nat))) then
      some
        (X.d Ty.bool (decide (A.se (idxC i (↑(List.length l) : Int) last w).fst ≥ (0 : Int))),
          [(Ty.slice staT, X.sl staT l nl false), (Ty.int IntKind.i64, X.d (Ty.int IntKind.i64) i), (staT, X.d staT s),
            (Ty.int IntKind.i64, X.d (Ty.int IntKind.i64) (A.se (idxC i (↑(List.length l) : Int) last w).snd))])
    else none) := by kernel_rfl
theorem tChk (A : Ar) (l : List Sta) (nl : Option Bool) : bodyX (Cx A (Oa4 A) (Lchk A)) 100 Try.f15 [.sl staT l nl false] [] =
    (bif
        A.se
          (decide
              ((↑(List.length l) : Int) = (↑(List.length l) : Int) ∧
                List.length l = List.length l ∧
                  List.length l ≤ (1000000 : Nat) ∧
                    (0 : Int) ≤ (0 : Int) ∧ (0 : Int) ≤ (↑(List.length l) : Int)) &&
            shortS l) then
      bif A.se (anyS (↑(List.length l) : Int) (0 : Int) (List.drop (Int.toNat (0 : Int)) l)) then
        some (X.d Ty.bool false, [(Ty.slice staT, X.sl staT l nl false)])
      else
        bif decide ((↑(List.length l) : Int) > (0 : Int)) == true then
          some (X.d Ty.bool (decide ((↑(List.length l) : Int) ≤ (6001 : Int))), [(Ty.slice staT, X.sl staT l nl false)])
        else some (X.d Ty.bool false, [(Ty.slice staT, X.sl staT l nl false)])
    else none) := by kernel_rfl
theorem lChk (A : Ar) (R : Type) (z : Bool) (m k : Int) (l l2 : List Sta) (nl nl2 : Option Bool) (K : Ex → List X → Hp → Option R) : stepF (Cx A (Oa4 A) (Lchk A)) 100 (loopAt Try.f15 0) 28 [1, 2, 7, 8, 9] [.ptr 0 [], boolx z, .sl staT l nl false, i64x m, i64x k] [(.slice staT, .sl staT l2 nl2 false)] K =
    (bif decide (k < m) then
      bif decide ((0 : Int) ≤ k ∧ k < (↑(List.length l) : Int)) then
        bif
            A.se
              (decide
                ((29 : Nat) = (29 : Nat) ∧
                  List.length (List.getD l (Int.toNat k) (Ty.zero staT)).snd.fst ≤ (1000000 : Nat))) then
          bif A.se (anyC k (↑(List.length l2) : Int) (-1 : Int) (List.getD l (Int.toNat k) (Ty.zero staT)).snd.fst) then
            K Ex.ret
              [X.ptr (0 : Nat) [], X.d Ty.bool false, X.sl staT l nl false, X.d (Ty.int IntKind.i64) m,
                X.d (Ty.int IntKind.i64) k]
              [(Ty.slice staT, X.sl staT l2 nl2 false), (Ty.int IntKind.i64, X.d (Ty.int IntKind.i64) k),
                (staT, X.d staT (List.getD l (Int.toNat k) (Ty.zero staT))),
                (Ty.int IntKind.i64,
                  X.d (Ty.int IntKind.i64)
                    (A.se
                      (idxC k (↑(List.length l2) : Int) (-1 : Int)
                          (List.getD l (Int.toNat k) (Ty.zero staT)).snd.fst).snd))]
          else
            K Ex.normal
              [X.ptr (0 : Nat) [], X.d Ty.bool z, X.sl staT l nl false, X.d (Ty.int IntKind.i64) m,
                X.d (Ty.int IntKind.i64) (A.wrap IntKind.i64 (k + (1 : Int)))]
              [(Ty.slice staT, X.sl staT l2 nl2 false), (Ty.int IntKind.i64, X.d (Ty.int IntKind.i64) k),
                (staT, X.d staT (List.getD l (Int.toNat k) (Ty.zero staT))),
                (Ty.int IntKind.i64,
                  X.d (Ty.int IntKind.i64)
                    (A.se
                      (idxC k (↑(List.length l2) : Int) (-1 : Int)
                          (List.getD l (Int.toNat k) (Ty.zero staT)).snd.fst).snd))]
        else none
      else none
    else
      K (Ex.exit (0 : Nat))
        [X.ptr (0 : Nat) [], X.d Ty.bool z, X.sl staT l nl false, X.d (Ty.int IntKind.i64) m, X.d (Ty.int IntKind.i64) k]
        [(Ty.slice staT, X.sl staT l2 nl2 false)]) := by kernel_rfl
theorem tStp1 (A : Ar) (a : Arc) (n : Int) : bodyX (Cx A (Oa1 A) noL) 100 Try.f28 [.d arcT a, .ptr 0 []] (stpH n) =
    (some
      (X.d Ty.bool (a.fst == n),
        [(Ty.int IntKind.i64, X.d (Ty.int IntKind.i64) n),
          (Ty.struct (Ty.prod (Ty.int IntKind.i64) (Ty.prod (Ty.int IntKind.i64) Ty.unit)), X.d arcT a)])) := by kernel_rfl
theorem tIdxS (A : Ar) (w : List Arc) (nw : Option Bool) (n : Int) : bodyX (Cx A (Oa2 A) (LidxS A)) 100 Try.f27 [.sl arcT w nw false, .fn 28 [] [.ptr 0 []]] (stpH n) =
    (bif
        A.se
          (decide
            ((28 : Nat) = (28 : Nat) ∧
              List.length w ≤ (1000000 : Nat) ∧
                (↑(List.length w) : Int) = (↑(List.length w) : Int) ∧
                  (0 : Int) ≤ (0 : Int) ∧ (0 : Int) ≤ (↑(List.length w) : Int))) then
      bif A.se (decide (idxG (sgn n) (List.drop (Int.toNat (0 : Int)) w) < (0 : Int))) then
        some (X.d (Ty.int IntKind.i64) (-1 : Int), [(Ty.int IntKind.i64, X.d (Ty.int IntKind.i64) n)])
      else
        some
          (X.d (Ty.int IntKind.i64) (A.se ((0 : Int) + idxG (sgn n) (List.drop (Int.toNat (0 : Int)) w))),
            [(Ty.int IntKind.i64, X.d (Ty.int IntKind.i64) n)])
    else none) := by kernel_rfl
theorem lIdxS (A : Ar) (R : Type) (w : List Arc) (nw : Option Bool) (z m k : Int) (n : Int) (K : Ex → List X → Hp → Option R) : stepF (Cx A (Oa2 A) (LidxS A)) 100 (loopAt Try.f27 0) 19 [0, 1, 4, 7, 8] [.sl arcT w nw false, .fn 28 [] [.ptr 0 []], i64x z, i64x m, i64x k] (stpH n) K =
    (bif decide (k < m) then
      bif decide ((0 : Int) ≤ k ∧ k < (↑(List.length w) : Int)) then
        bif (List.getD w (Int.toNat k) (Ty.zero arcT)).fst == n then
          K Ex.ret
            [X.sl arcT w nw false, X.fn (28 : Nat) [] [X.ptr (0 : Nat) []], X.d (Ty.int IntKind.i64) k,
              X.d (Ty.int IntKind.i64) m, X.d (Ty.int IntKind.i64) k]
            [(Ty.int IntKind.i64, X.d (Ty.int IntKind.i64) n)]
        else
          K Ex.normal
            [X.sl arcT w nw false, X.fn (28 : Nat) [] [X.ptr (0 : Nat) []], X.d (Ty.int IntKind.i64) z,
              X.d (Ty.int IntKind.i64) m, X.d (Ty.int IntKind.i64) (A.wrap IntKind.i64 (k + (1 : Int)))]
            [(Ty.int IntKind.i64, X.d (Ty.int IntKind.i64) n)]
      else none
    else
      K (Ex.exit (0 : Nat))
        [X.sl arcT w nw false, X.fn (28 : Nat) [] [X.ptr (0 : Nat) []], X.d (Ty.int IntKind.i64) z,
          X.d (Ty.int IntKind.i64) m, X.d (Ty.int IntKind.i64) k]
        [(Ty.int IntKind.i64, X.d (Ty.int IntKind.i64) n)]) := by kernel_rfl
theorem tStp (A : Ar) (l : List Sta) (nl : Option Bool) (i n : Int) : bodyX (Cx A (Oa5 A) noL) 100 Try.f12 [.sl staT l nl false, i64x i, i64x n] [] =
    (bif decide (i < (0 : Int)) == false then
      bif decide (i ≥ (↑(List.length l) : Int)) then
        some
          (X.tup [X.d (Ty.int IntKind.i64) (0 : Int), X.d Ty.bool false],
            [(Ty.int IntKind.i64, X.d (Ty.int IntKind.i64) n)])
      else
        bif decide ((0 : Int) ≤ i ∧ i < (↑(List.length l) : Int)) then
          bif
              A.se
                (decide
                  ((28 : Nat) = (28 : Nat) ∧
                    List.length (List.getD l (Int.toNat i) (Ty.zero staT)).snd.fst ≤ (1000000 : Nat))) then
            bif decide (A.se (idxG (sgn n) (List.getD l (Int.toNat i) (Ty.zero staT)).snd.fst) < (0 : Int)) then
              some
                (X.tup [X.d (Ty.int IntKind.i64) (0 : Int), X.d Ty.bool false],
                  [(Ty.int IntKind.i64, X.d (Ty.int IntKind.i64) n)])
            else
              bif decide ((0 : Int) ≤ i ∧ i < (↑(List.length l) : Int)) then
                bif
                    decide
                      ((0 : Int) ≤ A.se (idxG (sgn n) (List.getD l (Int.toNat i) (Ty.zero staT)).snd.fst) ∧
                        A.se (idxG (sgn n) (List.getD l (Int.toNat i) (Ty.zero staT)).snd.fst) <
                          (↑(List.length (List.getD l (Int.toNat i) (Ty.zero staT)).snd.fst) : Int)) then
                  some
                    (X.tup
                        [X.d (Ty.int IntKind.i64)
                            (List.getD (List.getD l (Int.toNat i) (Ty.zero staT)).snd.fst
                                  (Int.toNat (A.se (idxG (sgn n) (List.getD l (Int.toNat i) (Ty.zero staT)).snd.fst)))
                                  (Ty.zero
                                    (Ty.struct
                                      (Ty.prod (Ty.int IntKind.i64) (Ty.prod (Ty.int IntKind.i64) Ty.unit))))).snd.fst,
                          X.d Ty.bool true],
                      [(Ty.int IntKind.i64, X.d (Ty.int IntKind.i64) n)])
                else none
              else none
          else none
        else none
    else
      some
        (X.tup [X.d (Ty.int IntKind.i64) (0 : Int), X.d Ty.bool false], [(Ty.int IntKind.i64, X.d (Ty.int IntKind.i64) n)])) := by kernel_rfl
theorem tFst (A : Ar) (O : OT) (a : List Int) (na : Option Bool) (b : List Int) (nb : Option Bool) : bodyX (Cx A O (Lfst A)) 100 Try.f39 [i64s a na false, i64s b nb false] [] =
    (bif
        A.se
          (decide
            (List.length a ≤ (1000000 : Nat) ∧
              List.length b ≤ (1000000 : Nat) ∧
                (if (↑(List.length b) : Int) < (↑(List.length a) : Int) then (↑(List.length b) : Int)
                    else (↑(List.length a) : Int)) ≤
                    (↑(List.length a) : Int) ∧
                  (if (↑(List.length b) : Int) < (↑(List.length a) : Int) then (↑(List.length b) : Int)
                      else (↑(List.length a) : Int)) ≤
                      (↑(List.length b) : Int) ∧
                    ((if (↑(List.length b) : Int) < (↑(List.length a) : Int) then (↑(List.length b) : Int)
                          else (↑(List.length a) : Int)) =
                          (↑(List.length a) : Int) ∨
                        (if (↑(List.length b) : Int) < (↑(List.length a) : Int) then (↑(List.length b) : Int)
                          else (↑(List.length a) : Int)) =
                          (↑(List.length b) : Int)) ∧
                      (0 : Int) ≤ (0 : Int) ∧
                        (0 : Int) ≤
                          if (↑(List.length b) : Int) < (↑(List.length a) : Int) then (↑(List.length b) : Int)
                          else (↑(List.length a) : Int))) then
      bif
          A.se
            (decide
              ((0 : Int) +
                  (↑(R.comL (List.drop (Int.toNat (0 : Int)) a) (List.drop (Int.toNat (0 : Int)) b)) :
                    Int) =
                if (↑(List.length b) : Int) < (↑(List.length a) : Int) then (↑(List.length b) : Int)
                else (↑(List.length a) : Int))) then
        some
          (X.d (Ty.int IntKind.i64)
              (if (↑(List.length b) : Int) < (↑(List.length a) : Int) then (↑(List.length b) : Int)
              else (↑(List.length a) : Int)),
            [])
      else
        some
          (X.d (Ty.int IntKind.i64)
              (A.se
                ((0 : Int) + (↑(R.comL (List.drop (Int.toNat (0 : Int)) a) (List.drop (Int.toNat (0 : Int)) b)) : Int))),
            [])
    else none) := by kernel_rfl
theorem lFst (A : Ar) (O : OT) (R : Type) (a : List Int) (na : Option Bool) (b : List Int) (nb : Option Bool) (z l i : Int) (k : Ex → List X → Hp → Option R) : stepF (Cx A O (Lfst A)) 100 (loopAt Try.f39 0) 30 [0, 1, 4, 10, 11] [i64s a na false, i64s b nb false, i64x z, i64x l, i64x i] [] k =
    (bif decide (i < l) then
      bif decide ((0 : Int) ≤ i ∧ i < (↑(List.length a) : Int)) then
        bif decide ((0 : Int) ≤ i ∧ i < (↑(List.length b) : Int)) then
          bif
              List.getD a (Int.toNat i) (0 : Int) !=
                List.getD b (Int.toNat i) (0 : Int) then
            k Ex.ret
              [X.sl (Ty.int IntKind.i64) a na false, X.sl (Ty.int IntKind.i64) b nb false, X.d (Ty.int IntKind.i64) i,
                X.d (Ty.int IntKind.i64) l, X.d (Ty.int IntKind.i64) i]
              []
          else
            k Ex.normal
              [X.sl (Ty.int IntKind.i64) a na false, X.sl (Ty.int IntKind.i64) b nb false, X.d (Ty.int IntKind.i64) z,
                X.d (Ty.int IntKind.i64) l, X.d (Ty.int IntKind.i64) (A.wrap IntKind.i64 (i + (1 : Int)))]
              []
        else none
      else none
    else
      k (Ex.exit (0 : Nat))
        [X.sl (Ty.int IntKind.i64) a na false, X.sl (Ty.int IntKind.i64) b nb false, X.d (Ty.int IntKind.i64) z,
          X.d (Ty.int IntKind.i64) l, X.d (Ty.int IntKind.i64) i]
        []) := by kernel_rfl
theorem tCom (A : Ar) (a : List Int) (na : Option Bool) (b : List Int) (nb : Option Bool) : bodyX (Cx A (Oa1 A) noL) 100 Try.f19 [i64s a na false, i64s b nb false] [] =
    (bif A.se (decide (List.length a ≤ (1000000 : Nat) ∧ List.length b ≤ (1000000 : Nat))) then
      some (X.d (Ty.int IntKind.i64) (A.se (↑(R.comL a b) : Int)), [])
    else none) := by kernel_rfl

end Go.Proofs.Ytnbfiifkaddehaa.V

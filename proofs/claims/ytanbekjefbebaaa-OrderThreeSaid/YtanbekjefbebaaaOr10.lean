/-
  Chapter 03, order: what the functions that sort and find tell.
  It speaks of the pinned program alone; no condition.
-/
import Derived.Test.YtanbekjefbebaaaOr9
namespace Go.Proofs.Ytanbekjefbebaaa.V
open Go
set_option linter.unusedVariables false

/-- A word put in at its place, if it is not there. -/
def insL (out : List (List Int)) (w : List Int) : List (List Int) := if w ∈ out then out else out.take (cntL out w) ++ w :: out.drop (cntL out w)
def setL (l : List (List Int)) : List (List Int) := l.foldl insL []
/-- Of neighbours that are the same, one. -/
def compG (p : List Int) : List (List Int) → List (List Int)
  | [] => []
  | x :: xs => if x = p then compG x xs else x :: compG x xs
def compL : List (List Int) → List (List Int)
  | [] => []
  | x :: xs => x :: compG x xs
def risesB (l : List (List Int)) : Bool := decide (l.Pairwise fun x y => ltL x y = true)

def rsortF (A : Ar) : List X → Tr X
  | [.sl (.slice (.int .i64)) l nl false] => .test (A.se (decide (List.length l ≤ 1000) && shortB l)) (.give (.sl (.slice (.int .i64)) (A.se (setL l)) (some (A.se (setL l).isEmpty)) false)) .no
  | _ => .no
def LrsoF (A : Ar) : List X → Hp → Tr (Ex × List X × Hp)
  | [.sl (.slice (.int .i64)) l nl false, .sl (.slice (.int .i64)) out (some no) true, .d (.int .i64) i], [] =>
    .test (A.se (decide (List.length l ≤ 1000 ∧ (List.length out : Int) ≤ i ∧ 0 ≤ i ∧ i ≤ List.length l ∧ no = out.isEmpty) && (shortB l && shortB out)))
      (.give (.exit 0, [.dead, .sl (.slice (.int .i64)) (A.se ((l.drop i.toNat).foldl insL out)) (some (A.se ((l.drop i.toNat).foldl insL out).isEmpty)) true, .dead], [])) .no
  | _, _ => .no
def Lrso (A : Ar) : Lp := fun k => match k with
  | 3 => some (44, [0, 3, 4], LrsoF A)
  | _ => none

/-- slices.Clone at a word of which it is known whether it is nil. -/
def wcloF (A : Ar) : List X → Tr X
  | [.sl (.int .i64) w (some nl) false] => .test (A.se (decide (List.length w ≤ 1000000) && nlB nl w)) (.give (i64s w (some nl) true)) .no
  | _ => .no
def wcloneF (A : Ar) : List X → Tr X
  | [.sl (.int .i64) w nl false] => .test (A.se (decide (List.length w ≤ 1000000))) (.give (i64s w none true)) .no
  | _ => .no

/-- Does a word of the list not stand ahead? -/
def cl29F (A : Ar) : List X → Hp → Tr (X × Hp)
  | [.d (.int .i64) i, .ptr 0 [], .ptr 1 []], [(.slice (.slice (.int .i64)), .sl (.slice (.int .i64)) l nl false), (.slice (.int .i64), .sl (.int .i64) w nw false)] =>
    .test (A.se (decide (0 ≤ i ∧ i < List.length l ∧ List.length w ≤ 1000000) && shortB l)) (.give (boolx (A.se (!ltL (l.getD i.toNat []) w)), [(.slice (.slice (.int .i64)), .sl (.slice (.int .i64)) l nl false), (.slice (.int .i64), .sl (.int .i64) w nw false)])) .no
  | _, _ => .no
def searchF (A : Ar) : List X → Hp → Tr (X × Hp)
  | [.d (.int .i64) n, .fn f [] [.ptr 0 [], .ptr 1 []]], [(.slice (.slice (.int .i64)), .sl (.slice (.int .i64)) l nl false), (.slice (.int .i64), .sl (.int .i64) w nw false)] =>
    .test (A.se (decide (f = 29 ∧ n = List.length l ∧ List.length l ≤ 1000000 ∧ List.length w ≤ 1000000) && (shortB l && risesB l))) (.give (i64x (A.se (cntL l w : Int)), [(.slice (.slice (.int .i64)), .sl (.slice (.int .i64)) l nl false), (.slice (.int .i64), .sl (.int .i64) w nw false)])) .no
  | _, _ => .no
def LseaF (A : Ar) : List X → Hp → Tr (Ex × List X × Hp)
  | [.fn f [] [.ptr 0 [], .ptr 1 []], .d (.int .i64) i, .d (.int .i64) j], [(.slice (.slice (.int .i64)), .sl (.slice (.int .i64)) l nl false), (.slice (.int .i64), .sl (.int .i64) w nw false)] =>
    .test (A.se (decide (f = 29 ∧ 0 ≤ i ∧ i ≤ (cntL l w : Int) ∧ (cntL l w : Int) ≤ j ∧ j ≤ List.length l ∧ List.length l ≤ 1000000 ∧ List.length w ≤ 1000000) && (shortB l && risesB l)))
      (.give (.exit 0, [.dead, i64x (A.se (cntL l w : Int)), .dead], [(.slice (.slice (.int .i64)), .sl (.slice (.int .i64)) l nl false), (.slice (.int .i64), .sl (.int .i64) w nw false)])) .no
  | _, _ => .no
def Lsea (A : Ar) : Lp := fun k => match k with
  | 2 => some (26, [1, 5, 6], LseaF A)
  | _ => none
def findF (A : Ar) : List X → Tr X
  | [.sl (.slice (.int .i64)) l nl false, .sl (.int .i64) w nw false] => .test (A.se (decide (List.length l ≤ 1000000 ∧ List.length w ≤ 1000000) && (shortB l && risesB l))) (.give (.tup [i64x (A.se (cntL l w : Int)), boolx (A.se (decide (w ∈ l)))])) .no
  | _ => .no

/-- slices.CompactFunc in place. -/
def cmpcF (A : Ar) : List X → Hp → Tr (X × Hp)
  | [.mref (.slice (.int .i64)) 0 [] 0 n, .fn f [] []], [(.arr m (.slice (.int .i64)), .d (.arr q (.slice (.int .i64))) l)] =>
    .test (A.se (decide (f = 26 ∧ m = n ∧ q = n ∧ List.length l = n ∧ n ≤ 1000000) && shortB l))
      (.give (.mref (.slice (.int .i64)) 0 [] 0 (A.se (compL l).length), [(.arr m (.slice (.int .i64)), .d (.arr q (.slice (.int .i64))) (A.se (compL l ++ List.replicate (l.length - (compL l).length) [])))])) .no
  | [.sl (.slice (.int .i64)) [] nl false, .fn f [] []], H => .give (.sl (.slice (.int .i64)) [] nl false, H)
  | _, _ => .no
def LcfoF (A : Ar) : List X → Hp → Tr (Ex × List X × Hp)
  | [.mref (.slice (.int .i64)) 0 [] 0 n, .fn f [] [], .sl (.slice (.int .i64)) [] (some true) true, .d (.int .i64) k], [(.arr m (.slice (.int .i64)), .d (.arr q (.slice (.int .i64))) l)] =>
    .test (A.se (decide (f = 26 ∧ m = n ∧ q = n ∧ List.length l = n ∧ n ≤ 1000000 ∧ 1 ≤ k ∧ k ≤ n ∧ compL (l.take k.toNat) = l.take k.toNat) && shortB l))
      (.test (A.se (decide (compL l = l)))
        (.give (.exit 0, [.mref (.slice (.int .i64)) 0 [] 0 n, .dead, .dead, .dead], [(.arr m (.slice (.int .i64)), .d (.arr q (.slice (.int .i64))) l)]))
        (.give (.ret, [.dead, .dead, .mref (.slice (.int .i64)) 0 [] 0 (A.se (compL l).length), .dead], [(.arr m (.slice (.int .i64)), .d (.arr q (.slice (.int .i64))) (A.se (compL l ++ List.replicate (l.length - (compL l).length) [])))]))) .no
  | _, _ => .no
def LcfiF (A : Ar) : List X → Hp → Tr (Ex × List X × Hp)
  | [.mref (.slice (.int .i64)) 0 [] 0 n, .fn f [] [], .d (.int .i64) k, .mref (.slice (.int .i64)) 0 [] off len, .d (.int .i64) j], [(.arr m (.slice (.int .i64)), .d (.arr q (.slice (.int .i64))) l)] =>
    .test (A.se (decide (f = 26 ∧ m = n ∧ q = n ∧ List.length l = n ∧ n ≤ 1000000 ∧ off + len = n ∧ 0 ≤ k ∧ 1 ≤ j ∧ k ≤ off + j - 1 ∧ j ≤ len) && shortB l))
      (.give (.exit 2, [.mref (.slice (.int .i64)) 0 [] 0 n, .dead, i64x (A.se (k + (compG (l.getD (off + j.toNat - 1) []) (l.drop (off + j.toNat))).length)), .dead, .dead],
        [(.arr m (.slice (.int .i64)), .d (.arr q (.slice (.int .i64))) (A.se (l.take k.toNat ++ compG (l.getD (off + j.toNat - 1) []) (l.drop (off + j.toNat)) ++ l.drop (k.toNat + (compG (l.getD (off + j.toNat - 1) []) (l.drop (off + j.toNat))).length))))])) .no
  | _, _ => .no
def Lcf (A : Ar) : Lp := fun k => match k with
  | 4 => some (66, [0, 1, 4, 5], LcfoF A)
  | 9 => some (66, [0, 1, 5, 6, 7], LcfiF A)
  | _ => none

def sortF (A : Ar) : List X → Tr X
  | [.sl (.slice (.int .i64)) l nl false] => .test (A.se (decide (List.length l ≤ 1000) && shortB l)) (.give (.sl (.slice (.int .i64)) (A.se (setL l)) (A.se (bif l.isEmpty then none else some false)) false)) .no
  | _ => .no
/-- order.Sort: copies are gathered. -/
def LsrtF (A : Ar) : List X → Hp → Tr (Ex × List X × Hp)
  | [.ps (.slice (.int .i64)) out, .sl (.slice (.int .i64)) l nl false, .d (.int .i64) n, .d (.int .i64) i], [] =>
    .test (A.se (decide (n = List.length l ∧ List.length l ≤ 1000 ∧ 0 ≤ i ∧ i ≤ n ∧ out = l.take i.toNat) && shortB l))
      (.give (.exit 0, [.ps (.slice (.int .i64)) (A.se l), .dead, .dead, .dead], [])) .no
  | _, _ => .no
def Lsrt (A : Ar) : Lp := fun k => match k with
  | 3 => some (25, [3, 9, 10, 11], LsrtF A)
  | _ => none
def Msrt : Nat → Nat := fun d => match d with
  | 3 => 1
  | 21 => 2
  | 2 => 3
  | _ => 0

def Or5 (A : Ar) : OT := Oadd (Oadd (Oadd (Or4 A) 21 (.pure (wcloneF A))) 26 (.pure (weqF A))) 29 (.eff (cl29F A))
def Or6 (A : Ar) : OT := Oadd (Oadd (Oadd (Or5 A) 13 (.pure (rsortF A))) 28 (.eff (searchF A))) 25 (.eff (cmpcF A))
def Or7 (A : Ar) : OT := Oadd (Oadd (Or6 A) 12 (.pure (findF A))) 11 (.pure (sortF A))

end Go.Proofs.Ytanbekjefbebaaa.V

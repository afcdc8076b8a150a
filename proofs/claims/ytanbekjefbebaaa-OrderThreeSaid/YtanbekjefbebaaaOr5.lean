/-
  Chapter 03, order: what the functions that only look tell.
  It speaks of the pinned program alone; no condition.
-/
import Derived.Test.YtanbekjefbebaaaOr4
namespace Go.Proofs.Ytanbekjefbebaaa.V
open Go
set_option linter.unusedVariables false

/-- How much two words have alike. -/
def comL : List Int → List Int → Nat
  | a :: xs, b :: ys => if a = b then comL xs ys + 1 else 0
  | _, _ => 0
def shortB (l : List (List Int)) : Bool := l.all fun x => decide (List.length x ≤ 1000)
/-- How many words stand ahead of it. -/
def cntL (l : List (List Int)) (w : List Int) : Nat := l.countP fun x => ltL x w

def weqF (A : Ar) : List X → Tr X
  | [.sl (.int .i64) a na false, .sl (.int .i64) b nb false] => .test (A.se (decide (List.length a ≤ 1000000))) (.give (boolx (A.se (decide (a = b))))) .no
  | _ => .no
def cmpF (A : Ar) : List X → Tr X
  | [.sl (.int .i64) a na false, .sl (.int .i64) b nb false] => .test (A.se (decide (List.length a ≤ 1000000 ∧ List.length b ≤ 1000000))) (.give (i64x (A.se (cmpL a b)))) .no
  | _ => .no
def comF (A : Ar) : List X → Tr X
  | [.sl (.int .i64) a na false, .sl (.int .i64) b nb false] => .test (A.se (decide (List.length a ≤ 1000000 ∧ List.length b ≤ 1000000))) (.give (i64x (A.se (comL a b : Int)))) .no
  | _ => .no
def lessF (A : Ar) : List X → Tr X
  | [.sl (.int .i64) a na false, .sl (.int .i64) b nb false] => .test (A.se (decide (List.length a ≤ 1000000 ∧ List.length b ≤ 1000000))) (.give (boolx (A.se (ltL a b)))) .no
  | _ => .no
def rfindF (A : Ar) : List X → Tr X
  | [.sl (.slice (.int .i64)) l nl false, .sl (.int .i64) w nw false] => .test (A.se (decide (List.length l ≤ 1000000 ∧ List.length w ≤ 1000000) && shortB l)) (.give (.tup [i64x (A.se (cntL l w : Int)), boolx (A.se (decide (w ∈ l)))])) .no
  | _ => .no
def wsameF (A : Ar) : List X → Tr X
  | [.sl (.slice (.int .i64)) a na false, .sl (.slice (.int .i64)) b nb false] => .test (A.se (decide (List.length a ≤ 1000000) && shortB a)) (.give (boolx (A.se (decide (a = b))))) .no
  | _ => .no
def fewB (l : List (List Int)) (m : Int) : Bool := l.all (fun x => decide (List.length x ≤ 100)) && decide ((l.length : Int) ≤ m)
def fewF (A : Ar) : List X → Tr X
  | [.sl (.slice (.int .i64)) l nl false, .d (.int .i64) m] => .test (A.se (decide (List.length l ≤ 9000000000000000000))) (.give (boolx (A.se (fewB l m)))) .no
  | _ => .no

def LweqF (A : Ar) : List X → Hp → Tr (Ex × List X × Hp)
  | [.sl (.int .i64) a na false, .sl (.int .i64) b nb false, .d .bool z, .d (.int .i64) l, .d (.int .i64) i], [] =>
    .test (A.se (decide (List.length a ≤ 1000000 ∧ List.length b = List.length a ∧ l = List.length a ∧ 0 ≤ i ∧ i ≤ l)))
      (.test (A.se (decide (a.drop i.toNat = b.drop i.toNat)))
        (.give (.exit 0, [.dead, .dead, .dead, .dead, .dead], []))
        (.give (.ret, [.dead, .dead, boolx false, .dead, .dead], []))) .no
  | _, _ => .no
def Lweq (A : Ar) : Lp := fun k => match k with
  | 4 => some (26, [0, 1, 4, 12, 13], LweqF A)
  | _ => none
def LwsaF (A : Ar) : List X → Hp → Tr (Ex × List X × Hp)
  | [.sl (.int .i64) a na false, .sl (.int .i64) b nb false, .d .bool z, .d (.int .i64) i], [] =>
    .test (A.se (decide (List.length a ≤ 1000000 ∧ List.length b = List.length a ∧ 0 ≤ i ∧ i ≤ List.length a)))
      (.test (A.se (decide (a.drop i.toNat = b.drop i.toNat)))
        (.give (.exit 0, [.dead, .dead, .dead, .dead], []))
        (.give (.ret, [.dead, .dead, boolx false, .dead], []))) .no
  | _, _ => .no
def Lwsa (A : Ar) : Lp := fun k => match k with
  | 4 => some (26, [0, 1, 4, 5], LwsaF A)
  | _ => none
/-- The library's way to how much is alike: the loop of order.first. -/
def LfstF (A : Ar) : List X → Hp → Tr (Ex × List X × Hp)
  | [.sl (.int .i64) a na false, .sl (.int .i64) b nb false, .d (.int .i64) z, .d (.int .i64) l, .d (.int .i64) i], [] =>
    .test (A.se (decide (List.length a ≤ 1000000 ∧ List.length b ≤ 1000000 ∧ l ≤ List.length a ∧ l ≤ List.length b ∧ (l = List.length a ∨ l = List.length b) ∧ 0 ≤ i ∧ i ≤ l)))
      (.test (A.se (decide (i + comL (a.drop i.toNat) (b.drop i.toNat) = l)))
        (.give (.exit 0, [.sl (.int .i64) a na false, .sl (.int .i64) b nb false, .dead, .dead, .dead], []))
        (.give (.ret, [.dead, .dead, i64x (A.se (i + comL (a.drop i.toNat) (b.drop i.toNat))), .dead, .dead], []))) .no
  | _, _ => .no
def Lfst (A : Ar) : Lp := fun k => match k with
  | 2 => some (30, [0, 1, 4, 10, 11], LfstF A)
  | _ => none
def LrcoF (A : Ar) : List X → Hp → Tr (Ex × List X × Hp)
  | [.sl (.int .i64) a na false, .sl (.int .i64) b nb false, .d (.int .i64) i], [] =>
    .test (A.se (decide (List.length a ≤ 1000000 ∧ List.length b ≤ 1000000 ∧ 0 ≤ i ∧ i ≤ List.length a ∧ i ≤ List.length b)))
      (.give (.exit 0, [.dead, .dead, i64x (A.se (i + comL (a.drop i.toNat) (b.drop i.toNat)))], [])) .no
  | _, _ => .no
def Lrco (A : Ar) : Lp := fun k => match k with
  | 2 => some (30, [0, 1, 5], LrcoF A)
  | _ => none
def LrfiF (A : Ar) : List X → Hp → Tr (Ex × List X × Hp)
  | [.sl (.slice (.int .i64)) l nl false, .sl (.int .i64) w nw false, .d (.int .i64) n, .d .bool h, .d (.int .i64) i], [] =>
    .test (A.se (decide (List.length l ≤ 1000000 ∧ List.length w ≤ 1000000 ∧ 0 ≤ i ∧ i ≤ List.length l ∧ 0 ≤ n ∧ n ≤ i) && shortB l))
      (.give (.exit 0, [.dead, .dead, i64x (A.se (n + cntL (l.drop i.toNat) w)), boolx (A.se (h || decide (w ∈ l.drop i.toNat))), .dead], [])) .no
  | _, _ => .no
def Lrfi (A : Ar) : Lp := fun k => match k with
  | 4 => some (34, [0, 1, 6, 7, 8], LrfiF A)
  | _ => none
def LwssF (A : Ar) : List X → Hp → Tr (Ex × List X × Hp)
  | [.sl (.slice (.int .i64)) a na false, .sl (.slice (.int .i64)) b nb false, .d .bool z, .d (.int .i64) i], [] =>
    .test (A.se (decide (List.length a ≤ 1000000 ∧ List.length b = List.length a ∧ 0 ≤ i ∧ i ≤ List.length a) && shortB a))
      (.test (A.se (decide (a.drop i.toNat = b.drop i.toNat)))
        (.give (.exit 0, [.dead, .dead, .dead, .dead], []))
        (.give (.ret, [.dead, .dead, boolx false, .dead], []))) .no
  | _, _ => .no
def Lwss (A : Ar) : Lp := fun k => match k with
  | 4 => some (27, [0, 1, 4, 5], LwssF A)
  | _ => none
def LfewF (A : Ar) : List X → Hp → Tr (Ex × List X × Hp)
  | [.sl (.slice (.int .i64)) l nl false, .d (.int .i64) m, .d .bool z, .d (.int .i64) i], [] =>
    .test (A.se (decide (List.length l ≤ 9000000000000000000 ∧ 0 ≤ i ∧ i ≤ List.length l)))
      (.test (A.se ((l.drop i.toNat).all fun x => decide (List.length x ≤ 100)))
        (.give (.exit 0, [.sl (.slice (.int .i64)) l nl false, .d (.int .i64) m, .dead, .dead], []))
        (.give (.ret, [.dead, .dead, boolx false, .dead], []))) .no
  | _, _ => .no
def Lfew (A : Ar) : Lp := fun k => match k with
  | 2 => some (22, [0, 1, 4, 5], LfewF A)
  | _ => none

def Or1 (A : Ar) : OT := Oadd (Oadd (Oadd (fun _ => none) 24 (.pure (cmpF A))) 27 (.pure (weqF A))) 20 (.pure (weqF A))
def Or2 (A : Ar) : OT := Oadd (Oadd (Oadd (Or1 A) 30 (.pure (comF A))) 19 (.pure (comF A))) 22 (.eff (srtF A))
def Or3 (A : Ar) : OT := Oadd (Oadd (Oadd (Or2 A) 18 (.pure (comF A))) 16 (.pure (lessF A))) 17 (.pure (lessF A))
def Or4 (A : Ar) : OT := Oadd (Oadd (Oadd (Or3 A) 14 (.pure (rfindF A))) 15 (.pure (wsameF A))) 10 (.pure (fewF A))

end Go.Proofs.Ytanbekjefbebaaa.V

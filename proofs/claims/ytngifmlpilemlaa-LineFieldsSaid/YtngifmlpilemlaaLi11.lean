/-
  Chapter 04, lines: what the statements' loops tell.
  It speaks of the pinned program alone; no condition.
-/
import Derived.Test.YtngifmlpilemlaaLi9
import Derived.Test.YtngifmlpilemlaaLi10
namespace Go.Proofs.Ytngifmlpilemlaa.V
open Go
set_option linter.unusedVariables false

def noEnd (q : List Int) : Bool := q.all fun x => !isEnd x
def noBl (q : List Int) : Bool := q.all fun x => !isBl x
def goodE (q : List Int) : Bool := decide (q.length ≤ 100) && noEnd q
def goodB (q : List Int) : Bool := !q.isEmpty && (decide (q.length ≤ 100) && noBl q)

def LbScan (A : Ar) : List X → Hp → Tr (Ex × List X × Hp)
  | [.sl (.slice (.int .u8)) l nl false, .sl (.int .u8) b nl2 false, .d .bool z, .d .bool u, .sl (.int .u8) al (some x) true, .d (.int .i64) i, .d (.int .i64) k], [] =>
    .test (A.se (decide (0 ≤ i ∧ i < l.length ∧ 0 ≤ k ∧ k ≤ List.length (List.getD l i.toNat []) ∧ List.length (List.getD l i.toNat []) ≤ 100 ∧ l.length ≤ 100)))
      (.test (A.se (noEnd (List.drop k.toNat (List.getD l i.toNat []))))
        (.give (.exit 2, [sss l nl false, u8s b nl2 false, boolx z, boolx u, u8s al (some x) true, i64x i, .dead], []))
        (.give (.ret, [sss l nl false, u8s b nl2 false, boolx u, boolx u, .dead, .dead, .dead], []))) .no
  | _, _ => .no
def LbLine (A : Ar) : List X → Hp → Tr (Ex × List X × Hp)
  | [.sl (.slice (.int .u8)) l nl false, .sl (.int .u8) b nl2 false, .d .bool z, .d .bool u, .sl (.int .u8) al (some x) true, .d (.int .i64) i], [] =>
    .test (A.se (decide (0 ≤ i ∧ i ≤ l.length ∧ l.length ≤ 100 ∧ (al.length : Int) ≤ 101 * i)))
      (.test (A.se (List.all (List.drop i.toNat l) goodE))
        (.give (.exit 0, [sss l nl false, u8s b nl2 false, boolx z, boolx u, u8s (A.se (al ++ joinE (l.drop i.toNat))) (some (A.se (x && List.isEmpty (List.drop i.toNat l)))) true, .dead], []))
        (.give (.ret, [sss l nl false, u8s b nl2 false, boolx u, boolx u, .dead, .dead], []))) .no
  | _, _ => .no
def LcScan (A : Ar) : List X → Hp → Tr (Ex × List X × Hp)
  | [.sl (.slice (.int .u8)) l nl false, .sl (.int .u8) b nl2 false, .d .bool z, .d .bool u, .sl (.int .u8) al (some x) true, .sl (.slice (.int .u8)) s nl3 false, .d (.int .i64) n, .d (.int .i64) i, .d (.int .i64) k], [] =>
    .test (A.se (decide (0 ≤ i ∧ i < s.length ∧ 0 ≤ k ∧ k ≤ List.length (List.getD s i.toNat []) ∧ List.length (List.getD s i.toNat []) ≤ 1000 ∧ s.length ≤ 2000) && noEnd (List.getD s i.toNat [])))
      (.give (.exit 6, [sss l nl false, u8s b nl2 false, boolx z, boolx u, u8s al (some x) true, sss s nl3 false, i64x n, i64x i, .dead], [])) .no
  | _, _ => .no
def LcLine (A : Ar) : List X → Hp → Tr (Ex × List X × Hp)
  | [.sl (.slice (.int .u8)) l nl false, .sl (.int .u8) b nl2 false, .d .bool z, .d .bool u, .sl (.int .u8) al (some x) true, .sl (.slice (.int .u8)) s nl3 false, .d (.int .i64) n, .d (.int .i64) i], [] =>
    .test (A.se (decide (0 ≤ i ∧ i ≤ s.length ∧ s.length ≤ 2000 ∧ 0 ≤ n ∧ n ≤ 1001 * i) && List.all s (fun q => decide (List.length q ≤ 1000) && noEnd q)))
      (.give (.exit 4, [sss l nl false, u8s b nl2 false, boolx z, boolx u, u8s al (some x) true, sss s nl3 false, i64x (A.se (n + (sumL (s.drop i.toNat) : Int))), .dead], [])) .no
  | _, _ => .no
def Llb (A : Ar) : Lp := fun k => match k with
  | 6 => some (122, [0, 1, 4, 5, 6, 7], LbLine A)
  | 11 => some (122, [0, 1, 4, 5, 6, 7, 8], LbScan A)
  | 19 => some (122, [0, 1, 4, 5, 6, 9, 10, 11], LcLine A)
  | 22 => some (122, [0, 1, 4, 5, 6, 9, 10, 11, 12], LcScan A)
  | _ => none

def LfScan (A : Ar) : List X → Hp → Tr (Ex × List X × Hp)
  | [.sl (.slice (.int .u8)) l nl false, .sl (.int .u8) b nl2 false, .d .bool z, .d .bool u, .sl (.int .u8) al (some x) true, .d (.int .i64) i, .d (.int .i64) k], [] =>
    .test (A.se (decide (0 ≤ i ∧ i < l.length ∧ 0 ≤ k ∧ k ≤ List.length (List.getD l i.toNat []) ∧ List.length (List.getD l i.toNat []) ≤ 100 ∧ l.length ≤ 100)))
      (.test (A.se (noBl (List.drop k.toNat (List.getD l i.toNat []))))
        (.give (.exit 2, [sss l nl false, u8s b nl2 false, boolx z, boolx u, u8s al (some x) true, i64x i, .dead], []))
        (.give (.ret, [sss l nl false, u8s b nl2 false, boolx u, boolx u, .dead, .dead, .dead], []))) .no
  | _, _ => .no
def LfTabs (A : Ar) : List X → Hp → Tr (Ex × List X × Hp)
  | [.sl (.slice (.int .u8)) l nl false, .sl (.int .u8) b nl2 false, .d .bool z, .d .bool u, .sl (.int .u8) al (some x) true, .d (.int .i64) i, .d (.int .i64) k], [] =>
    .test (A.se (bytesB b && decide (0 ≤ i ∧ i ≤ 100 ∧ 0 ≤ k ∧ k ≤ (tabN b i.toNat : Int) ∧ al.length ≤ 100000)))
      (.give (.exit 4, [sss l nl false, u8s b nl2 false, boolx z, boolx u, u8s (A.se (al ++ List.replicate (tabN b i.toNat - k.toNat) 9)) (some (A.se (x && decide (tabN b i.toNat ≤ k.toNat)))) true, i64x i, .dead], [])) .no
  | _, _ => .no
def LfLine (A : Ar) : List X → Hp → Tr (Ex × List X × Hp)
  | [.sl (.slice (.int .u8)) l nl false, .sl (.int .u8) b nl2 false, .d .bool z, .d .bool u, .sl (.int .u8) al (some x) true, .d (.int .i64) i], [] =>
    .test (A.se (bytesB b && decide (0 ≤ i ∧ i ≤ l.length ∧ l.length ≤ 100 ∧ (al.length : Int) ≤ 104 * i)))
      (.test (A.se (List.all (List.drop i.toNat l) goodB))
        (.give (.exit 0, [sss l nl false, u8s b nl2 false, boolx z, boolx u, u8s (A.se (al ++ joinF b i.toNat (l.drop i.toNat))) (some (A.se (x && List.isEmpty (List.drop i.toNat l)))) true, .dead], []))
        (.give (.ret, [sss l nl false, u8s b nl2 false, boolx u, boolx u, .dead, .dead], []))) .no
  | _, _ => .no
def Llf (A : Ar) : Lp := fun k => match k with
  | 6 => some (121, [0, 1, 4, 5, 6, 7], LfLine A)
  | 11 => some (121, [0, 1, 4, 5, 6, 7, 8], LfScan A)
  | 16 => some (121, [0, 1, 4, 5, 6, 7, 9], LfTabs A)
  | _ => none

def LsMap (A : Ar) : List X → Hp → Tr (Ex × List X × Hp)
  | [.sl (.int .u8) l nl false, .d .bool z, .d .bool u, .sl (.int .u8) o (some x) true, .d (.int .i64) i], [] =>
    .test (A.se (bytesB l && decide (0 ≤ i ∧ i ≤ l.length ∧ l.length ≤ 1000 ∧ (o.length : Int) ≤ i)))
      (.give (.exit 0, [u8s l nl false, boolx z, boolx u, u8s (A.se (o ++ List.map sw (List.drop i.toNat l))) (some (A.se (x && List.isEmpty (List.drop i.toNat l)))) true, .dead], [])) .no
  | _, _ => .no
def LsScan (A : Ar) : List X → Hp → Tr (Ex × List X × Hp)
  | [.sl (.int .u8) l nl false, .d .bool z, .d .bool u, .sl (.int .u8) o (some x) true, .sl (.slice (.int .u8)) f nl3 false, .d (.int .i64) i, .d (.int .i64) k], [] =>
    .test (A.se (decide (0 ≤ i ∧ i < f.length ∧ 0 ≤ k ∧ k ≤ List.length (List.getD f i.toNat []) ∧ List.length (List.getD f i.toNat []) ≤ 1000 ∧ f.length ≤ 2000) && noBl (List.getD f i.toNat [])))
      (.give (.exit 4, [u8s l nl false, boolx z, boolx u, u8s o (some x) true, sss f nl3 false, i64x i, .dead], [])) .no
  | _, _ => .no
def LsLine (A : Ar) : List X → Hp → Tr (Ex × List X × Hp)
  | [.sl (.int .u8) l nl false, .d .bool z, .d .bool u, .sl (.int .u8) o (some x) true, .sl (.slice (.int .u8)) f nl3 false, .d (.int .i64) i], [] =>
    .test (A.se (decide (0 ≤ i ∧ i ≤ f.length ∧ f.length ≤ 2000) && List.all f (fun q => !List.isEmpty q && (decide (List.length q ≤ 1000) && noBl q))))
      (.give (.exit 2, [u8s l nl false, boolx z, boolx u, u8s o (some x) true, sss f nl3 false, .dead], [])) .no
  | _, _ => .no
def Lls (A : Ar) : Lp := fun k => match k with
  | 6 => some (92, [0, 2, 3, 4, 5], LsMap A)
  | 14 => some (92, [0, 2, 3, 4, 7, 8], LsLine A)
  | 17 => some (92, [0, 2, 3, 4, 7, 8, 9], LsScan A)
  | _ => none

end Go.Proofs.Ytngifmlpilemlaa.V

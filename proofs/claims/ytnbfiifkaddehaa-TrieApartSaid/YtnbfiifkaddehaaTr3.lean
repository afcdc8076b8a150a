/-
  Chapter 10, automata: the trees of trie.Make. By program; each equation is checked by the kernel.
  It speaks of the pinned program alone; no condition.
-/
import Derived.Test.YtnbfiifkaddehaaTr2
namespace Go.Proofs.Ytnbfiifkaddehaa.V
open Go
set_option linter.unusedVariables false

abbrev Ent := (Int × Int × Unit) × Int
abbrev staZ : Sta := (false, [], ())
def wayOf (w : List Int) (n i : Int) : Arc := (w.getD n.toNat 0, i, ())
def putArc (out : List Sta) (i : Nat) (a : Arc) : List Sta := out.set i ((out.getD i staZ).1, (out.getD i staZ).2.1 ++ [a], ())
def putFin (out : List Sta) (i : Nat) (b : Bool) : List Sta := out.set i ((out.getD i staZ).1 || b, (out.getD i staZ).2)
/-- One word's step: the states, where each word's beginning stands, where the arcs of this length lead. -/
def inM (n : Int) (w : List Int) (i : Nat) (s : List Sta × List Int × List Ent) : List Sta × List Int × List Ent :=
  if n ≥ w.length then s else
    (match look arcT s.2.2 (wayOf w n (s.2.1.getD i 0)) with
    | some to => (putFin s.1 to.toNat (n + 1 == w.length), s.2.1.set i to, s.2.2)
    | none => (putFin (putArc (s.1 ++ [staZ]) (s.2.1.getD i 0).toNat (w.getD n.toNat 0, s.1.length, ())) s.1.length (n + 1 == w.length), s.2.1.set i s.1.length, putM arcT s.2.2 (wayOf w n (s.2.1.getD i 0)) (s.1.length : Int)))
def inL (n : Int) : List (List Int) → Nat → List Sta × List Int × List Ent → List Sta × List Int × List Ent
  | [], _, s => s
  | w :: l, i, s => inL n l (i + 1) (inM n w i s)
/-- All words' steps at one length after another. -/
def outL (l : List (List Int)) : Nat → Int → List Sta × List Int → List Sta × List Int
  | 0, _, s => s
  | m + 1, n, s => outL l m (n + 1) ((inL n l 0 (s.1, s.2, [])).1, (inL n l 0 (s.1, s.2, [])).2.1)
def outS (l : List (List Int)) (n : Int) (out : List Sta) (pos : List Int) : List Sta := (outL l (20 - n).toNat n (out, pos)).1
def outP (l : List (List Int)) (n : Int) (out : List Sta) (pos : List Int) : List Int := (outL l (20 - n).toNat n (out, pos)).2
def mkL (l : List (List Int)) : List Sta := outS l 0 [staZ] (List.replicate l.length 0)
/-- What stands where may be. -/
def okM (l : List (List Int)) (m : Nat) (s : List Sta × List Int × List Ent) : Bool :=
  decide (s.2.1.length = l.length ∧ l.length ≤ 300 ∧ s.1.length ≤ 1 + m ∧ m ≤ 10000) && ((l.all fun w => decide (w.length ≤ 20)) && ((s.2.1.all fun i => decide (0 ≤ i ∧ i < s.1.length)) && (s.2.2.all fun e => decide (0 ≤ e.2 ∧ e.2 < s.1.length)) && (s.1.all fun t => decide (t.2.1.length ≤ m))))

abbrev mkH (c : Nat) (pos : List Int) (mp : List Ent) : Hp := [(.arr c (.int .i64), .d (.arr c (.int .i64)) pos), (.unit, .asc arcT (.int .i64) mp)]
abbrev mkE (mp : List Ent) : Hp := [(.unit, .asc arcT (.int .i64) mp)]
def entOf : Hp → Option (Nat × Nat × List Int × List Ent)
  | [(.arr c (.int .i64), .d (.arr c2 (.int .i64)) pos), (.unit, .asc k v mp)] => (match castTo (.slice (.prod k v)) (.slice (.prod arcT (.int .i64))) mp with
    | some mp => some (c, c2, pos, mp)
    | none => none)
  | _ => none
def pdOf : X → Option (List Sta)
  | .pd a xs => castTo (.slice (stT a)) (.slice staT) xs
  | _ => none
def LinF (A : Ar) : List X → Hp → Tr (Ex × List X × Hp)
  | [.sl (.slice (.int .i64)) l0 n0 false, p, .mref (.int .i64) 0 [] 0 c, .d (.int .i64) n, .mp 1, .d (.int .i64) n2, .sl (.slice (.int .i64)) l nl false, .d (.int .i64) m, .d (.int .i64) i], H => match pdOf p, entOf H with
    | some out, some q => .test (A.se (decide (c = q.1 ∧ q.2.1 = q.1 ∧ q.1 = List.length l ∧ l0 = l ∧ n2 = n ∧ 0 ≤ n ∧ n < 20 ∧ m = List.length l ∧ 0 ≤ i ∧ i ≤ m) && okM l (n * List.length l + i).toNat (out, q.2.2.1, q.2.2.2)))
          (.give (.exit 2, [.sl (.slice (.int .i64)) l n0 false, .pd arcT (A.se (inL n (l.drop i.toNat) i.toNat (out, q.2.2.1, q.2.2.2)).1), .mref (.int .i64) 0 [] 0 c, .dead, .dead, i64x n, .dead, .dead, .dead], mkH c (A.se (inL n (l.drop i.toNat) i.toNat (out, q.2.2.1, q.2.2.2)).2.1) (A.se (inL n (l.drop i.toNat) i.toNat (out, q.2.2.1, q.2.2.2)).2.2))) .no
    | _, _ => .no
  | [.sl (.slice (.int .i64)) [] n0 false, p, .sl (.int .i64) [] none false, .d (.int .i64) n, .mp 0, .d (.int .i64) n2, .sl (.slice (.int .i64)) [] nl false, .d (.int .i64) m, .d (.int .i64) i], [(.unit, .asc k v [])] => match pdOf p with
    | some out => .test (A.se (decide (n2 = n ∧ k = arcT ∧ v = .int .i64 ∧ m = 0 ∧ i = 0))) (.give (.exit 2, [.sl (.slice (.int .i64)) [] n0 false, .pd arcT out, .sl (.int .i64) [] none false, .dead, .dead, i64x n, .dead, .dead, .dead], mkE [])) .no
    | none => .no
  | _, _ => .no
def posOf : X → Hp → Option (Nat × Nat × Nat × List Int)
  | .mref (.int .i64) 0 [] 0 c, [(.arr c1 (.int .i64), .d (.arr c2 (.int .i64)) pos)] => some (c, c1, c2, pos)
  | _, _ => none
def LoutF (A : Ar) : List X → Hp → Tr (Ex × List X × Hp)
  | [.sl (.slice (.int .i64)) l n0 false, p, y, .d (.int .i64) n], H => match l, H with
    | [], [] => (match pdOf p, y with
      | some out, .sl (.int .i64) [] none false => .test (A.se (decide (0 ≤ n ∧ n ≤ 20))) (.give (.exit 0, [.dead, .pd arcT out, .dead, .dead], [])) .no
      | _, _ => .no)
    | l, H => (match pdOf p, posOf y H with
      | some out, some q => .test (A.se (decide (q.2.1 = q.1 ∧ q.2.2.1 = q.1 ∧ q.1 = List.length l ∧ 0 ≤ n ∧ n ≤ 20 ∧ 0 < List.length l) && okM l (n * List.length l).toNat (out, q.2.2.2, [])))
          (.give (.exit 0, [.dead, .pd arcT (A.se (outS l n out q.2.2.2)), .dead, .dead], [(.arr q.1 (.int .i64), .d (.arr q.1 (.int .i64)) (A.se (outP l n out q.2.2.2)))])) .no
      | _, _ => .no)
  | _, _ => .no
def Lmk (A : Ar) : Lp := fun k => match k with
  | 7 => some (111, [0, 6, 7, 29], LoutF A)
  | 11 => some (111, [0, 6, 7, 8, 9, 29, 33, 34, 35], LinF A)
  | _ => none
def Mmk : Nat → Nat := fun d => match d with
  | 24 => 9
  | 25 => 11
  | 28 => 10
  | 29 => 802
  | 62 => 702
  | 67 => 707
  | 68 => 9
  | 6 => 7102
  | 92 => 702
  | 108 => 707
  | 110 => 704
  | _ => 0
def farMk : Nat → Bool := fun d => match d with
  | 80 => true
  | 81 => true
  | _ => false
def noJ : Jt := fun _ => none
def Om1 (A : Ar) : OT := Oadd noOt 17 (.pure (writeF A))
/-- What is made of words. -/
def makeF (A : Ar) : List X → Tr X
  | [.sl (.slice (.int .i64)) l nl false] => .test (A.se (decide ((writeW l).2 = 0))) (.give (.tup [.sl staT (A.se (mkL l)) none false, i64x 0])) (.give (.tup [.sl staT [] (some true) false, i64x (A.se (writeW l).2)]))
  | _ => .no
abbrev Cmk (A : Ar) (L : Lp) : Ctx := CxF A (Om1 A) L Mmk noJ farMk

theorem lIn (A : Ar) (R : Type) (l : List (List Int)) (n0 nl : Option Bool) (out : List Sta) (c : Nat) (n m i : Int) (pos : List Int) (mp : List Ent) (k : Ex → List X → Hp → Option R) : stepF (Cmk A (Lmk A)) 100 (loopAt Try.f10 1) 111 [0, 6, 7, 8, 9, 29, 33, 34, 35] [.sl wTy l n0 false, .pd arcT out, .mref (.int .i64) 0 [] 0 c, i64x n, .mp 1, i64x n, .sl wTy l nl false, i64x m, i64x i] (mkH c pos mp) k =
    (bif decide (i < m) then
      bif decide ((0 : Int) ≤ i ∧ i < (↑(List.length l) : Int)) then
        bif decide (n ≥ (↑(List.length (List.getD l (Int.toNat i) (Ty.zero wTy))) : Int)) then
          k Ex.normal
            [X.sl wTy l n0 false, X.pd arcT out, X.mref (Ty.int IntKind.i64) (0 : Nat) [] (0 : Nat) c,
              X.d (Ty.int IntKind.i64) n, X.mp (1 : Nat), X.d (Ty.int IntKind.i64) n, X.sl wTy l nl false,
              X.d (Ty.int IntKind.i64) m, X.d (Ty.int IntKind.i64) (A.wrap IntKind.i64 (i + (1 : Int)))]
            [(Ty.arr c (Ty.int IntKind.i64), X.d (Ty.arr c (Ty.int IntKind.i64)) pos),
              (Ty.unit, X.asc arcT (Ty.int IntKind.i64) mp)]
        else
          bif decide ((0 : Int) ≤ i ∧ i < (↑c : Int)) then
            bif decide ((0 : Int) ≤ n ∧ n < (↑(List.length (List.getD l (Int.toNat i) (Ty.zero wTy))) : Int)) then
              bif
                  !A.se
                      (Option.isSome
                        (look (Ty.struct (Ty.prod (Ty.int IntKind.i64) (Ty.prod (Ty.int IntKind.i64) Ty.unit))) mp
                          (List.getD (List.getD l (Int.toNat i) (Ty.zero wTy)) (Int.toNat n) (0 : Int),
                            List.getD pos ((0 : Nat) + Int.toNat i) (0 : Int), ()))) then
                bif List.isEmpty out then none
                else
                  bif decide ((List.length out + (1 : Nat)) * (32 : Nat) ≤ (140737488355328 : Nat)) then
                    bif List.isEmpty (out ++ [(false, [], ())]) then none
                    else
                      bif
                          decide
                            ((0 : Int) ≤ List.getD pos ((0 : Nat) + Int.toNat i) (0 : Int) ∧
                              List.getD pos ((0 : Nat) + Int.toNat i) (0 : Int) <
                                (↑(List.length (out ++ [(false, [], ())])) : Int)) then
                        bif
                            decide
                              ((0 : Int) ≤ n ∧ n < (↑(List.length (List.getD l (Int.toNat i) (Ty.zero wTy))) : Int)) then
                          bif
                              decide
                                ((List.length
                                        (List.getD (out ++ [(false, [], ())])
                                              (Int.toNat
                                                (List.getD pos ((0 : Nat) + Int.toNat i) (0 : Int)))
                                              (false, [], ())).snd.fst +
                                      List.length
                                        [(List.getD (List.getD l (Int.toNat i) (Ty.zero wTy)) (Int.toNat n)
                                              (0 : Int),
                                            (↑(List.length out) : Int), ())]) *
                                    (16 : Nat) ≤
                                  (140737488355328 : Nat)) then
                            bif
                                decide
                                  ((0 : Int) ≤ List.getD pos ((0 : Nat) + Int.toNat i) (0 : Int) ∧
                                    List.getD pos ((0 : Nat) + Int.toNat i) (0 : Int) <
                                      (↑(List.length (out ++ [(false, [], ())])) : Int)) then
                              bif
                                  decide
                                    (Int.toNat (List.getD pos ((0 : Nat) + Int.toNat i) (0 : Int)) =
                                      Int.toNat
                                        (List.getD pos ((0 : Nat) + Int.toNat i) (0 : Int))) then
                                bif decide ((0 : Int) ≤ i ∧ i < (↑c : Int)) then
                                  bif
                                      decide
                                        ((0 : Int) ≤ (↑(List.length out) : Int) ∧
                                          (↑(List.length out) : Int) <
                                            (↑(List.length (out ++ [(false, [], ())])) : Int)) then
                                    bif
                                        (List.getD
                                              (List.set (out ++ [(false, [], ())])
                                                (Int.toNat
                                                  (List.getD pos ((0 : Nat) + Int.toNat i) (0 : Int)))
                                                ((List.getD (out ++ [(false, [], ())])
                                                      (Int.toNat
                                                        (List.getD pos ((0 : Nat) + Int.toNat i)
                                                          (0 : Int)))
                                                      (false, [], ())).fst,
                                                  (List.getD (out ++ [(false, [], ())])
                                                          (Int.toNat
                                                            (List.getD pos ((0 : Nat) + Int.toNat i)
                                                              (0 : Int)))
                                                          (false, [], ())).snd.fst ++
                                                    [(List.getD (List.getD l (Int.toNat i) (Ty.zero wTy)) (Int.toNat n)
                                                          (0 : Int),
                                                        (↑(List.length out) : Int), ())],
                                                  ()))
                                              (Int.toNat (↑(List.length out) : Int)) (false, [], ())).fst ==
                                          false then
                                      bif
                                          decide
                                            ((0 : Int) ≤ (↑(List.length out) : Int) ∧
                                              (↑(List.length out) : Int) <
                                                (↑(List.length (out ++ [(false, [], ())])) : Int)) then
                                        k Ex.normal
                                          [X.sl wTy l n0 false,
                                            X.pd arcT
                                              (List.set
                                                (List.set (out ++ [(false, [], ())])
                                                  (Int.toNat
                                                    (List.getD pos ((0 : Nat) + Int.toNat i)
                                                      (0 : Int)))
                                                  ((List.getD (out ++ [(false, [], ())])
                                                        (Int.toNat
                                                          (List.getD pos ((0 : Nat) + Int.toNat i)
                                                            (0 : Int)))
                                                        (false, [], ())).fst,
                                                    (List.getD (out ++ [(false, [], ())])
                                                            (Int.toNat
                                                              (List.getD pos ((0 : Nat) + Int.toNat i)
                                                                (0 : Int)))
                                                            (false, [], ())).snd.fst ++
                                                      [(List.getD (List.getD l (Int.toNat i) (Ty.zero wTy)) (Int.toNat n)
                                                            (0 : Int),
                                                          (↑(List.length out) : Int), ())],
                                                    ()))
                                                (Int.toNat (↑(List.length out) : Int))
                                                (A.wrap IntKind.i64 (n + (1 : Int)) ==
                                                    (↑(List.length (List.getD l (Int.toNat i) (Ty.zero wTy))) : Int),
                                                  (List.getD
                                                      (List.set (out ++ [(false, [], ())])
                                                        (Int.toNat
                                                          (List.getD pos ((0 : Nat) + Int.toNat i)
                                                            (0 : Int)))
                                                        ((List.getD (out ++ [(false, [], ())])
                                                              (Int.toNat
                                                                (List.getD pos ((0 : Nat) + Int.toNat i)
                                                                  (0 : Int)))
                                                              (false, [], ())).fst,
                                                          (List.getD (out ++ [(false, [], ())])
                                                                  (Int.toNat
                                                                    (List.getD pos ((0 : Nat) + Int.toNat i)
                                                                      (0 : Int)))
                                                                  (false, [], ())).snd.fst ++
                                                            [(List.getD (List.getD l (Int.toNat i) (Ty.zero wTy))
                                                                  (Int.toNat n) (0 : Int),
                                                                (↑(List.length out) : Int), ())],
                                                          ()))
                                                      (Int.toNat (↑(List.length out) : Int)) (false, [], ())).snd)),
                                            X.mref (Ty.int IntKind.i64) (0 : Nat) [] (0 : Nat) c,
                                            X.d (Ty.int IntKind.i64) n, X.mp (1 : Nat), X.d (Ty.int IntKind.i64) n,
                                            X.sl wTy l nl false, X.d (Ty.int IntKind.i64) m,
                                            X.d (Ty.int IntKind.i64) (A.wrap IntKind.i64 (i + (1 : Int)))]
                                          [(Ty.arr c (Ty.int IntKind.i64),
                                              X.d (Ty.arr c (Ty.int IntKind.i64))
                                                (List.set pos ((0 : Nat) + Int.toNat i) (↑(List.length out) : Int))),
                                            (Ty.unit,
                                              X.asc
                                                (Ty.struct
                                                  (Ty.prod (Ty.int IntKind.i64) (Ty.prod (Ty.int IntKind.i64) Ty.unit)))
                                                (Ty.int IntKind.i64)
                                                (A.se
                                                  (putM
                                                    (Ty.struct
                                                      (Ty.prod (Ty.int IntKind.i64) (Ty.prod (Ty.int IntKind.i64) Ty.unit)))
                                                    mp
                                                    (List.getD (List.getD l (Int.toNat i) (Ty.zero wTy)) (Int.toNat n)
                                                        (0 : Int),
                                                      List.getD pos ((0 : Nat) + Int.toNat i)
                                                        (0 : Int),
                                                      ())
                                                    (↑(List.length out) : Int)))),
                                            (Ty.struct
                                                (Ty.prod (Ty.int IntKind.i64) (Ty.prod (Ty.int IntKind.i64) Ty.unit)),
                                              X.d
                                                (Ty.struct
                                                  (Ty.prod (Ty.int IntKind.i64) (Ty.prod (Ty.int IntKind.i64) Ty.unit)))
                                                (List.getD (List.getD l (Int.toNat i) (Ty.zero wTy)) (Int.toNat n)
                                                    (0 : Int),
                                                  List.getD pos ((0 : Nat) + Int.toNat i) (0 : Int),
                                                  ())),
                                            (Ty.arr (List.length out) (stT arcT), X.dead), (Ty.bool, X.dead),
                                            (Ty.arr (List.length (out ++ [(false, [], ())])) (stT arcT), X.dead),
                                            (Ty.bool, X.dead)]
                                      else none
                                    else
                                      bif
                                          decide
                                            ((0 : Int) ≤ (↑(List.length out) : Int) ∧
                                              (↑(List.length out) : Int) <
                                                (↑(List.length (out ++ [(false, [], ())])) : Int)) then
                                        k Ex.normal
                                          [X.sl wTy l n0 false,
                                            X.pd arcT
                                              (List.set
                                                (List.set (out ++ [(false, [], ())])
                                                  (Int.toNat
                                                    (List.getD pos ((0 : Nat) + Int.toNat i)
                                                      (0 : Int)))
                                                  ((List.getD (out ++ [(false, [], ())])
                                                        (Int.toNat
                                                          (List.getD pos ((0 : Nat) + Int.toNat i)
                                                            (0 : Int)))
                                                        (false, [], ())).fst,
                                                    (List.getD (out ++ [(false, [], ())])
                                                            (Int.toNat
                                                              (List.getD pos ((0 : Nat) + Int.toNat i)
                                                                (0 : Int)))
                                                            (false, [], ())).snd.fst ++
                                                      [(List.getD (List.getD l (Int.toNat i) (Ty.zero wTy)) (Int.toNat n)
                                                            (0 : Int),
                                                          (↑(List.length out) : Int), ())],
                                                    ()))
                                                (Int.toNat (↑(List.length out) : Int))
                                                (true,
                                                  (List.getD
                                                      (List.set (out ++ [(false, [], ())])
                                                        (Int.toNat
                                                          (List.getD pos ((0 : Nat) + Int.toNat i)
                                                            (0 : Int)))
                                                        ((List.getD (out ++ [(false, [], ())])
                                                              (Int.toNat
                                                                (List.getD pos ((0 : Nat) + Int.toNat i)
                                                                  (0 : Int)))
                                                              (false, [], ())).fst,
                                                          (List.getD (out ++ [(false, [], ())])
                                                                  (Int.toNat
                                                                    (List.getD pos ((0 : Nat) + Int.toNat i)
                                                                      (0 : Int)))
                                                                  (false, [], ())).snd.fst ++
                                                            [(List.getD (List.getD l (Int.toNat i) (Ty.zero wTy))
                                                                  (Int.toNat n) (0 : Int),
                                                                (↑(List.length out) : Int), ())],
                                                          ()))
                                                      (Int.toNat (↑(List.length out) : Int)) (false, [], ())).snd)),
                                            X.mref (Ty.int IntKind.i64) (0 : Nat) [] (0 : Nat) c,
                                            X.d (Ty.int IntKind.i64) n, X.mp (1 : Nat), X.d (Ty.int IntKind.i64) n,
                                            X.sl wTy l nl false, X.d (Ty.int IntKind.i64) m,
                                            X.d (Ty.int IntKind.i64) (A.wrap IntKind.i64 (i + (1 : Int)))]
                                          [(Ty.arr c (Ty.int IntKind.i64),
                                              X.d (Ty.arr c (Ty.int IntKind.i64))
                                                (List.set pos ((0 : Nat) + Int.toNat i) (↑(List.length out) : Int))),
                                            (Ty.unit,
                                              X.asc
                                                (Ty.struct
                                                  (Ty.prod (Ty.int IntKind.i64) (Ty.prod (Ty.int IntKind.i64) Ty.unit)))
                                                (Ty.int IntKind.i64)
                                                (A.se
                                                  (putM
                                                    (Ty.struct
                                                      (Ty.prod (Ty.int IntKind.i64) (Ty.prod (Ty.int IntKind.i64) Ty.unit)))
                                                    mp
                                                    (List.getD (List.getD l (Int.toNat i) (Ty.zero wTy)) (Int.toNat n)
                                                        (0 : Int),
                                                      List.getD pos ((0 : Nat) + Int.toNat i)
                                                        (0 : Int),
                                                      ())
                                                    (↑(List.length out) : Int)))),
                                            (Ty.struct
                                                (Ty.prod (Ty.int IntKind.i64) (Ty.prod (Ty.int IntKind.i64) Ty.unit)),
                                              X.d
                                                (Ty.struct
                                                  (Ty.prod (Ty.int IntKind.i64) (Ty.prod (Ty.int IntKind.i64) Ty.unit)))
                                                (List.getD (List.getD l (Int.toNat i) (Ty.zero wTy)) (Int.toNat n)
                                                    (0 : Int),
                                                  List.getD pos ((0 : Nat) + Int.toNat i) (0 : Int),
                                                  ())),
                                            (Ty.arr (List.length out) (stT arcT), X.dead), (Ty.bool, X.dead),
                                            (Ty.arr (List.length (out ++ [(false, [], ())])) (stT arcT), X.dead),
                                            (Ty.bool, X.dead)]
                                      else none
                                  else none
                                else none
                              else none
                            else none
                          else none
                        else none
                      else none
                  else none
              else
                bif decide ((0 : Int) ≤ i ∧ i < (↑c : Int)) then
                  bif List.isEmpty out then none
                  else
                    bif
                        decide
                          ((0 : Int) ≤
                              A.se
                                (Option.getD
                                  (look (Ty.struct (Ty.prod (Ty.int IntKind.i64) (Ty.prod (Ty.int IntKind.i64) Ty.unit))) mp
                                    (List.getD (List.getD l (Int.toNat i) (Ty.zero wTy)) (Int.toNat n)
                                        (0 : Int),
                                      List.getD pos ((0 : Nat) + Int.toNat i) (0 : Int), ()))
                                  (0 : Int)) ∧
                            A.se
                                (Option.getD
                                  (look (Ty.struct (Ty.prod (Ty.int IntKind.i64) (Ty.prod (Ty.int IntKind.i64) Ty.unit))) mp
                                    (List.getD (List.getD l (Int.toNat i) (Ty.zero wTy)) (Int.toNat n)
                                        (0 : Int),
                                      List.getD pos ((0 : Nat) + Int.toNat i) (0 : Int), ()))
                                  (0 : Int)) <
                              (↑(List.length out) : Int)) then
                      bif
                          (List.getD out
                                (Int.toNat
                                  (A.se
                                    (Option.getD
                                      (look
                                        (Ty.struct (Ty.prod (Ty.int IntKind.i64) (Ty.prod (Ty.int IntKind.i64) Ty.unit))) mp
                                        (List.getD (List.getD l (Int.toNat i) (Ty.zero wTy)) (Int.toNat n)
                                            (0 : Int),
                                          List.getD pos ((0 : Nat) + Int.toNat i) (0 : Int), ()))
                                      (0 : Int))))
                                (false, [], ())).fst ==
                            false then
                        bif
                            decide
                              ((0 : Int) ≤
                                  A.se
                                    (Option.getD
                                      (look
                                        (Ty.struct (Ty.prod (Ty.int IntKind.i64) (Ty.prod (Ty.int IntKind.i64) Ty.unit))) mp
                                        (List.getD (List.getD l (Int.toNat i) (Ty.zero wTy)) (Int.toNat n)
                                            (0 : Int),
                                          List.getD pos ((0 : Nat) + Int.toNat i) (0 : Int), ()))
                                      (0 : Int)) ∧
                                A.se
                                    (Option.getD
                                      (look
                                        (Ty.struct (Ty.prod (Ty.int IntKind.i64) (Ty.prod (Ty.int IntKind.i64) Ty.unit))) mp
                                        (List.getD (List.getD l (Int.toNat i) (Ty.zero wTy)) (Int.toNat n)
                                            (0 : Int),
                                          List.getD pos ((0 : Nat) + Int.toNat i) (0 : Int), ()))
                                      (0 : Int)) <
                                  (↑(List.length out) : Int)) then
                          k Ex.normal
                            [X.sl wTy l n0 false,
                              X.pd arcT
                                (List.set out
                                  (Int.toNat
                                    (A.se
                                      (Option.getD
                                        (look
                                          (Ty.struct (Ty.prod (Ty.int IntKind.i64) (Ty.prod (Ty.int IntKind.i64) Ty.unit)))
                                          mp
                                          (List.getD (List.getD l (Int.toNat i) (Ty.zero wTy)) (Int.toNat n)
                                              (0 : Int),
                                            List.getD pos ((0 : Nat) + Int.toNat i) (0 : Int), ()))
                                        (0 : Int))))
                                  (A.wrap IntKind.i64 (n + (1 : Int)) ==
                                      (↑(List.length (List.getD l (Int.toNat i) (Ty.zero wTy))) : Int),
                                    (List.getD out
                                        (Int.toNat
                                          (A.se
                                            (Option.getD
                                              (look
                                                (Ty.struct
                                                  (Ty.prod (Ty.int IntKind.i64) (Ty.prod (Ty.int IntKind.i64) Ty.unit)))
                                                mp
                                                (List.getD (List.getD l (Int.toNat i) (Ty.zero wTy)) (Int.toNat n)
                                                    (0 : Int),
                                                  List.getD pos ((0 : Nat) + Int.toNat i) (0 : Int),
                                                  ()))
                                              (0 : Int))))
                                        (false, [], ())).snd)),
                              X.mref (Ty.int IntKind.i64) (0 : Nat) [] (0 : Nat) c, X.d (Ty.int IntKind.i64) n,
                              X.mp (1 : Nat), X.d (Ty.int IntKind.i64) n, X.sl wTy l nl false, X.d (Ty.int IntKind.i64) m,
                              X.d (Ty.int IntKind.i64) (A.wrap IntKind.i64 (i + (1 : Int)))]
                            [(Ty.arr c (Ty.int IntKind.i64),
                                X.d (Ty.arr c (Ty.int IntKind.i64))
                                  (List.set pos ((0 : Nat) + Int.toNat i)
                                    (A.se
                                      (Option.getD
                                        (look
                                          (Ty.struct (Ty.prod (Ty.int IntKind.i64) (Ty.prod (Ty.int IntKind.i64) Ty.unit)))
                                          mp
                                          (List.getD (List.getD l (Int.toNat i) (Ty.zero wTy)) (Int.toNat n)
                                              (0 : Int),
                                            List.getD pos ((0 : Nat) + Int.toNat i) (0 : Int), ()))
                                        (0 : Int))))),
                              (Ty.unit, X.asc arcT (Ty.int IntKind.i64) mp),
                              (Ty.struct (Ty.prod (Ty.int IntKind.i64) (Ty.prod (Ty.int IntKind.i64) Ty.unit)),
                                X.d (Ty.struct (Ty.prod (Ty.int IntKind.i64) (Ty.prod (Ty.int IntKind.i64) Ty.unit)))
                                  (List.getD (List.getD l (Int.toNat i) (Ty.zero wTy)) (Int.toNat n)
                                      (0 : Int),
                                    List.getD pos ((0 : Nat) + Int.toNat i) (0 : Int), ())),
                              (Ty.arr (List.length out) (stT arcT), X.dead), (Ty.bool, X.dead)]
                        else none
                      else
                        bif
                            decide
                              ((0 : Int) ≤
                                  A.se
                                    (Option.getD
                                      (look
                                        (Ty.struct (Ty.prod (Ty.int IntKind.i64) (Ty.prod (Ty.int IntKind.i64) Ty.unit))) mp
                                        (List.getD (List.getD l (Int.toNat i) (Ty.zero wTy)) (Int.toNat n)
                                            (0 : Int),
                                          List.getD pos ((0 : Nat) + Int.toNat i) (0 : Int), ()))
                                      (0 : Int)) ∧
                                A.se
                                    (Option.getD
                                      (look
                                        (Ty.struct (Ty.prod (Ty.int IntKind.i64) (Ty.prod (Ty.int IntKind.i64) Ty.unit))) mp
                                        (List.getD (List.getD l (Int.toNat i) (Ty.zero wTy)) (Int.toNat n)
                                            (0 : Int),
                                          List.getD pos ((0 : Nat) + Int.toNat i) (0 : Int), ()))
                                      (0 : Int)) <
                                  (↑(List.length out) : Int)) then
                          k Ex.normal
                            [X.sl wTy l n0 false,
                              X.pd arcT
                                (List.set out
                                  (Int.toNat
                                    (A.se
                                      (Option.getD
                                        (look
                                          (Ty.struct (Ty.prod (Ty.int IntKind.i64) (Ty.prod (Ty.int IntKind.i64) Ty.unit)))
                                          mp
                                          (List.getD (List.getD l (Int.toNat i) (Ty.zero wTy)) (Int.toNat n)
                                              (0 : Int),
                                            List.getD pos ((0 : Nat) + Int.toNat i) (0 : Int), ()))
                                        (0 : Int))))
                                  (true,
                                    (List.getD out
                                        (Int.toNat
                                          (A.se
                                            (Option.getD
                                              (look
                                                (Ty.struct
                                                  (Ty.prod (Ty.int IntKind.i64) (Ty.prod (Ty.int IntKind.i64) Ty.unit)))
                                                mp
                                                (List.getD (List.getD l (Int.toNat i) (Ty.zero wTy)) (Int.toNat n)
                                                    (0 : Int),
                                                  List.getD pos ((0 : Nat) + Int.toNat i) (0 : Int),
                                                  ()))
                                              (0 : Int))))
                                        (false, [], ())).snd)),
                              X.mref (Ty.int IntKind.i64) (0 : Nat) [] (0 : Nat) c, X.d (Ty.int IntKind.i64) n,
                              X.mp (1 : Nat), X.d (Ty.int IntKind.i64) n, X.sl wTy l nl false, X.d (Ty.int IntKind.i64) m,
                              X.d (Ty.int IntKind.i64) (A.wrap IntKind.i64 (i + (1 : Int)))]
                            [(Ty.arr c (Ty.int IntKind.i64),
                                X.d (Ty.arr c (Ty.int IntKind.i64))
                                  (List.set pos ((0 : Nat) + Int.toNat i)
                                    (A.se
                                      (Option.getD
                                        (look
                                          (Ty.struct (Ty.prod (Ty.int IntKind.i64) (Ty.prod (Ty.int IntKind.i64) Ty.unit)))
                                          mp
                                          (List.getD (List.getD l (Int.toNat i) (Ty.zero wTy)) (Int.toNat n)
                                              (0 : Int),
                                            List.getD pos ((0 : Nat) + Int.toNat i) (0 : Int), ()))
                                        (0 : Int))))),
                              (Ty.unit, X.asc arcT (Ty.int IntKind.i64) mp),
                              (Ty.struct (Ty.prod (Ty.int IntKind.i64) (Ty.prod (Ty.int IntKind.i64) Ty.unit)),
                                X.d (Ty.struct (Ty.prod (Ty.int IntKind.i64) (Ty.prod (Ty.int IntKind.i64) Ty.unit)))
                                  (List.getD (List.getD l (Int.toNat i) (Ty.zero wTy)) (Int.toNat n)
                                      (0 : Int),
                                    List.getD pos ((0 : Nat) + Int.toNat i) (0 : Int), ())),
                              (Ty.arr (List.length out) (stT arcT), X.dead), (Ty.bool, X.dead)]
                        else none
                    else none
                else none
            else none
          else none
      else none
    else
      k (Ex.exit (2 : Nat))
        [X.sl wTy l n0 false, X.pd arcT out, X.mref (Ty.int IntKind.i64) (0 : Nat) [] (0 : Nat) c,
          X.d (Ty.int IntKind.i64) n, X.mp (1 : Nat), X.d (Ty.int IntKind.i64) n, X.sl wTy l nl false,
          X.d (Ty.int IntKind.i64) m, X.d (Ty.int IntKind.i64) i]
        [(Ty.arr c (Ty.int IntKind.i64), X.d (Ty.arr c (Ty.int IntKind.i64)) pos),
          (Ty.unit, X.asc arcT (Ty.int IntKind.i64) mp)]) := by kernel_rfl
theorem lInE (A : Ar) (R : Type) (n0 nl : Option Bool) (out : List Sta) (n : Int) (k : Ex → List X → Hp → Option R) : stepF (Cmk A (Lmk A)) 100 (loopAt Try.f10 1) 111 [0, 6, 7, 8, 9, 29, 33, 34, 35] [.sl wTy [] n0 false, .pd arcT out, .sl (.int .i64) [] none false, i64x n, .mp 0, i64x n, .sl wTy [] nl false, i64x 0, i64x 0] (mkE []) k =
    (k (Ex.exit (2 : Nat))
      [X.sl wTy [] n0 false, X.pd arcT out, X.sl (Ty.int IntKind.i64) [] none false, X.d (Ty.int IntKind.i64) n,
        X.mp (0 : Nat), X.d (Ty.int IntKind.i64) n, X.sl wTy [] nl false, X.d (Ty.int IntKind.i64) (0 : Int),
        X.d (Ty.int IntKind.i64) (0 : Int)]
      [(Ty.unit, X.asc arcT (Ty.int IntKind.i64) [])]) := by kernel_rfl
theorem lOut (A : Ar) (R : Type) (w : List Int) (l : List (List Int)) (n0 : Option Bool) (out : List Sta) (c : Nat) (n : Int) (pos : List Int) (k : Ex → List X → Hp → Option R) : stepF (Cmk A (Lmk A)) 100 (loopAt Try.f10 0) 111 [0, 6, 7, 29] [.sl wTy (w :: l) n0 false, .pd arcT out, .mref (.int .i64) 0 [] 0 c, i64x n] [(.arr c (.int .i64), .d (.arr c (.int .i64)) pos)] k =
    (bif decide (n < (20 : Int)) then
      bif
          A.se
            (decide
                (c = c ∧
                  c = c ∧
                    c = List.length (w :: l) ∧
                      w :: l = w :: l ∧
                        n = n ∧
                          (0 : Int) ≤ n ∧
                            n < (20 : Int) ∧
                              (↑(List.length (w :: l)) : Int) = (↑(List.length (w :: l)) : Int) ∧
                                (0 : Int) ≤ (0 : Int) ∧
                                  (0 : Int) ≤ (↑(List.length (w :: l)) : Int)) &&
              okM (w :: l) (Int.toNat (n * (↑(List.length (w :: l)) : Int) + (0 : Int)))
                (out, pos, [])) then
        k Ex.normal
          [X.sl (Ty.slice (Ty.int IntKind.i64)) (w :: l) n0 false,
            X.pd arcT (A.se (inL n (List.drop (Int.toNat (0 : Int)) (w :: l)) (Int.toNat (0 : Int)) (out, pos, [])).fst),
            X.mref (Ty.int IntKind.i64) (0 : Nat) [] (0 : Nat) c,
            X.d (Ty.int IntKind.i64) (A.wrap IntKind.i64 (n + (1 : Int)))]
          [(Ty.arr c (Ty.int IntKind.i64),
              X.d (Ty.arr c (Ty.int IntKind.i64))
                (A.se (inL n (List.drop (Int.toNat (0 : Int)) (w :: l)) (Int.toNat (0 : Int)) (out, pos, [])).snd.fst)),
            (Ty.unit,
              X.asc arcT (Ty.int IntKind.i64)
                (A.se (inL n (List.drop (Int.toNat (0 : Int)) (w :: l)) (Int.toNat (0 : Int)) (out, pos, [])).snd.snd))]
      else none
    else
      k (Ex.exit (0 : Nat))
        [X.sl wTy (w :: l) n0 false, X.pd arcT out, X.mref (Ty.int IntKind.i64) (0 : Nat) [] (0 : Nat) c,
          X.d (Ty.int IntKind.i64) n]
        [(Ty.arr c (Ty.int IntKind.i64), X.d (Ty.arr c (Ty.int IntKind.i64)) pos)]) := by kernel_rfl
theorem lOutE (A : Ar) (R : Type) (n0 : Option Bool) (out : List Sta) (n : Int) (k : Ex → List X → Hp → Option R) : stepF (Cmk A (Lmk A)) 100 (loopAt Try.f10 0) 111 [0, 6, 7, 29] [.sl wTy [] n0 false, .pd arcT out, .sl (.int .i64) [] none false, i64x n] [] k =
    (bif decide (n < (20 : Int)) then
      bif
          A.se
            (decide
              (n = n ∧
                Ty.struct (Ty.prod (Ty.int IntKind.i64) (Ty.prod (Ty.int IntKind.i64) Ty.unit)) = arcT ∧
                  Ty.int IntKind.i64 = Ty.int IntKind.i64 ∧
                    (↑(0 : Nat) : Int) = (0 : Int) ∧
                      (0 : Int) = (0 : Int))) then
        k Ex.normal
          [X.sl (Ty.slice (Ty.int IntKind.i64)) [] n0 false, X.pd arcT out, X.sl (Ty.int IntKind.i64) [] none false,
            X.d (Ty.int IntKind.i64) (A.wrap IntKind.i64 (n + (1 : Int)))]
          [(Ty.unit, X.asc arcT (Ty.int IntKind.i64) [])]
      else none
    else
      k (Ex.exit (0 : Nat))
        [X.sl wTy [] n0 false, X.pd arcT out, X.sl (Ty.int IntKind.i64) [] none false, X.d (Ty.int IntKind.i64) n] []) := by kernel_rfl
theorem tMk (A : Ar) (w : List Int) (l : List (List Int)) (nl : Option Bool) : bodyX (Cmk A (Lmk A)) 100 Try.f10 [.sl wTy (w :: l) nl false] [] =
    (bif A.se (writeW (w :: l)).snd != (0 : Int) then
      some
        (X.tup
            [X.sl
                (Ty.struct
                  (Ty.prod Ty.bool
                    (Ty.prod (Ty.slice (Ty.struct (Ty.prod (Ty.int IntKind.i64) (Ty.prod (Ty.int IntKind.i64) Ty.unit))))
                      Ty.unit)))
                [] (some true) false,
              X.d (Ty.int IntKind.i64) (A.se (writeW (w :: l)).snd)],
          [])
    else
      bif
          decide
            ((0 : Int) ≤ (↑(List.length (w :: l)) : Int) ∧
              (↑(List.length (w :: l)) : Int) = (↑(List.length (w :: l)) : Int) ∧
                (↑(List.length (w :: l)) : Int) * (↑(8 : Nat) : Int) ≤
                    (140737488355328 : Int) ∧
                  (↑(List.length (w :: l)) : Int) ≤ (9223372036854775807 : Int)) then
        bif
            A.se
              (decide
                  (List.length (List.replicate (Int.toNat (↑(List.length (w :: l)) : Int)) (0 : Int)) =
                      List.length (List.replicate (Int.toNat (↑(List.length (w :: l)) : Int)) (0 : Int)) ∧
                    List.length (List.replicate (Int.toNat (↑(List.length (w :: l)) : Int)) (0 : Int)) =
                        List.length (List.replicate (Int.toNat (↑(List.length (w :: l)) : Int)) (0 : Int)) ∧
                      List.length (List.replicate (Int.toNat (↑(List.length (w :: l)) : Int)) (0 : Int)) =
                          List.length (w :: l) ∧
                        (0 : Int) ≤ (0 : Int) ∧
                          (0 : Int) ≤ (20 : Int) ∧ (0 : Nat) < List.length (w :: l)) &&
                okM (w :: l) (Int.toNat ((0 : Int) * (↑(List.length (w :: l)) : Int)))
                  ([(false, [], ())], List.replicate (Int.toNat (↑(List.length (w :: l)) : Int)) (0 : Int), [])) then
          some
            (X.tup
                [X.sl (stT arcT)
                    (A.se
                      (outS (w :: l) (0 : Int) [(false, [], ())]
                        (List.replicate (Int.toNat (↑(List.length (w :: l)) : Int)) (0 : Int))))
                    none false,
                  X.d (Ty.int IntKind.i64) (0 : Int)],
              [(Ty.arr (List.length (List.replicate (Int.toNat (↑(List.length (w :: l)) : Int)) (0 : Int)))
                    (Ty.int IntKind.i64),
                  X.d
                    (Ty.arr (List.length (List.replicate (Int.toNat (↑(List.length (w :: l)) : Int)) (0 : Int)))
                      (Ty.int IntKind.i64))
                    (A.se
                      (outP (w :: l) (0 : Int) [(false, [], ())]
                        (List.replicate (Int.toNat (↑(List.length (w :: l)) : Int)) (0 : Int)))))])
        else none
      else none) := by kernel_rfl
theorem tMkE (A : Ar) (nl : Option Bool) : bodyX (Cmk A (Lmk A)) 100 Try.f10 [.sl wTy [] nl false] [] =
    (bif A.se (0 : Int) != (0 : Int) then
      some
        (X.tup
            [X.sl
                (Ty.struct
                  (Ty.prod Ty.bool
                    (Ty.prod (Ty.slice (Ty.struct (Ty.prod (Ty.int IntKind.i64) (Ty.prod (Ty.int IntKind.i64) Ty.unit))))
                      Ty.unit)))
                [] (some true) false,
              X.d (Ty.int IntKind.i64) (A.se (0 : Int))],
          [])
    else
      bif
          A.se
            (decide ((0 : Int) ≤ (0 : Int) ∧ (0 : Int) ≤ (20 : Int))) then
        some (X.tup [X.sl (stT arcT) [(false, [], ())] none false, X.d (Ty.int IntKind.i64) (0 : Int)], [])
      else none) := by kernel_rfl

end Go.Proofs.Ytnbfiifkaddehaa.V

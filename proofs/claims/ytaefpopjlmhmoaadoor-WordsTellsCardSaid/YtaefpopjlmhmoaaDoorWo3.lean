/-
  Chapter 09, word lists: the trees of words.Read; the regions in which the list is lent are told. By program; each equation is checked by the kernel.
  It speaks of the pinned program alone; no condition.
-/
import Derived.Test.YtaefpopjlmhmoaaDoorWo2
namespace Go.Proofs.YtaefpopjlmhmoaaDoor.V
open Go
set_option linter.unusedVariables false

abbrev tdT : Ty := .struct (.prod (.slice (.int .i64)) (.prod (.int .i64) .unit))
/-- The words of lines, the first of which is such a one, behind words. -/
def goR : List (List Int) → Int → List (List Int) → List (List Int) × Int × Int
  | [], _, out => (out, -1, 0)
  | l :: ls, i, out => bif L.bareB l then goR ls (i + 1) out
    else if (wordW l).2.1 ≠ 0 then ([], i, (wordW l).2.1)
    else if (R.insL out (wordW l).1).length > 300 then ([], i, 81)
    else goR ls (i + 1) (R.insL out (wordW l).1)
def readW (b : List Int) : List (List Int) × Int × Int := goR (L.splitL b) 0 []
def okL (l : List (List Int)) : Bool := l.all fun b => bytesB b && decide (b.length ≤ 50000)
def short20 (l : List (List Int)) : Bool := l.all fun w => decide (List.length w ≤ 20)

def JnilF (A : Ar) : List X → Hp → Tr (List X × Hp)
  | [.sl (.int .u8) b nl false, .undef], [] => .give ([u8s b nl false, .ps (.slice (.int .i64)) []], [])
  | _, _ => .no
def JfindF (A : Ar) : List X → Hp → Tr (List X × Hp)
  | [.ps (.slice (.int .i64)) out, .sl (.slice (.int .u8)) ls nl false, .d (.int .i64) j, .ptr 0 [], .dead, .dead, .d (.int .i64) n, .d (.int .i64) i], [(.struct (.prod (.slice (.int .i64)) (.prod (.int .i64) .unit)), .d (.struct (.prod (.slice (.int .i64)) (.prod (.int .i64) .unit))) v)] =>
    .test (A.se (decide (List.length out ≤ 1000000 ∧ List.length v.1 ≤ 1000000) && (R.shortB out && R.risesB out)))
      (.give ([.ps (.slice (.int .i64)) out, .sl (.slice (.int .u8)) ls nl false, i64x j, .ptr 0 [], i64x (A.se (R.cntL out v.1 : Int)), boolx (A.se (decide (v.1 ∈ out))), i64x n, i64x i], [(tdT, .d tdT v)])) .no
  | _, _ => .no
def JlenF (A : Ar) : List X → Hp → Tr (List X × Hp)
  | [.ps (.slice (.int .i64)) out, .sl (.slice (.int .u8)) ls nl false, .d (.int .i64) j, .ptr 0 [], .dead, .d (.int .i64) n, .d (.int .i64) i], [(.struct (.prod (.slice (.int .i64)) (.prod (.int .i64) .unit)), .d (.struct (.prod (.slice (.int .i64)) (.prod (.int .i64) .unit))) v)] =>
    .give ([.ps (.slice (.int .i64)) out, .sl (.slice (.int .u8)) ls nl false, i64x j, .ptr 0 [], boolx (A.se (decide ((List.length out : Int) > 300))), i64x n, i64x i], [(tdT, .d tdT v)])
  | _, _ => .no
def Jrd (A : Ar) : Jt := fun i => match i with
  | 1 => some (58, [0, 5], JnilF A)
  | 9 => some (58, [5, 6, 7, 8, 9, 10, 14, 15], JfindF A)
  | 12 => some (58, [5, 6, 7, 8, 48, 14, 15], JlenF A)
  | _ => none
def Mrd : Nat → Nat := fun d => match d with
  | 57 => 4
  | _ => 0
def LrdF (A : Ar) : List X → Hp → Tr (Ex × List X × Hp)
  | [.dead, .dead, .dead, .ps (.slice (.int .i64)) out, .sl (.slice (.int .u8)) ls nl false, .d (.int .i64) n, .d (.int .i64) i], [] =>
    .test (A.se (decide (n = List.length ls ∧ 0 ≤ i ∧ i ≤ n ∧ n ≤ 1000000 ∧ List.length out ≤ 300) && (okL ls && (short20 out && R.risesB out))))
      (.test (A.se (decide ((goR (List.drop i.toNat ls) i out).2.2 = 0)))
        (.give (.exit 0, [.dead, .dead, .dead, .ps (.slice (.int .i64)) (A.se (goR (List.drop i.toNat ls) i out).1), .dead, .dead, .dead], []))
        (.give (.ret, [.sl (.slice (.int .i64)) [] (some true) true, i64x (A.se (goR (List.drop i.toNat ls) i out).2.1), i64x (A.se (goR (List.drop i.toNat ls) i out).2.2), .dead, .dead, .dead, .dead], []))) .no
  | _, _ => .no
def Lrd (A : Ar) : Lp := fun k => match k with
  | 4 => some (58, [2, 3, 4, 5, 6, 14, 15], LrdF A)
  | _ => none
def readF (A : Ar) : List X → Tr X
  | [.sl (.int .u8) b nl false] => .test (L.Ok A b nl) (.give (.tup [.sl (.slice (.int .i64)) (A.se (readW b).1) none false, i64x (A.se (readW b).2.1), i64x (A.se (readW b).2.2)])) .no
  | _ => .no
abbrev Crd (A : Ar) : Ctx := CxJ A (Ow9 A) (Lrd A) Mrd (Jrd A)

theorem jR1 (A : Ar) (R : Type) (b : List Int) (nl : Option Bool) (k : List X → Hp → Option R) : regA (Crd A) [5] (rgAt Tryd.f10 1).2.1 58 [0, 5] [u8s b nl false, .undef] [] k =
    (k [X.sl (Ty.int IntKind.u8) b nl false, X.ps (Ty.slice (Ty.int IntKind.i64)) []] []) := by kernel_rfl
theorem jR9 (A : Ar) (R : Type) (out : List (List Int)) (ls : List (List Int)) (nl : Option Bool) (j n i e : Int) (w : List Int) (k : List X → Hp → Option R) : regA (Crd A) [5] (rgAt Tryd.f10 9).2.1 58 [5, 6, 7, 8, 9, 10, 14, 15] [.ps wTy out, .sl L.sT ls nl false, i64x j, .ptr 0 [], .dead, .dead, i64x n, i64x i] [(tdT, .d tdT (w, e, ()))] k =
    (bif
        A.se
          (decide (List.length out ≤ (1000000 : Nat) ∧ List.length w ≤ (1000000 : Nat)) &&
            (V.R.shortB out && V.R.risesB out)) then
      k
        [X.ps wTy out, X.sl L.sT ls nl false, X.d (Ty.int IntKind.i64) j, X.ptr (0 : Nat) [],
          X.d (Ty.int IntKind.i64) (A.se (↑(V.R.cntL out w) : Int)), X.d Ty.bool (A.se (decide (w ∈ out))),
          X.d (Ty.int IntKind.i64) n, X.d (Ty.int IntKind.i64) i]
        [(tdT, X.d tdT (w, e, ()))]
    else none) := by kernel_rfl
theorem jR12 (A : Ar) (R : Type) (out : List (List Int)) (ls : List (List Int)) (nl : Option Bool) (j n i e : Int) (w : List Int) (k : List X → Hp → Option R) : regA (Crd A) [5] (rgAt Tryd.f10 12).2.1 58 [5, 6, 7, 8, 48, 14, 15] [.ps wTy out, .sl L.sT ls nl false, i64x j, .ptr 0 [], .dead, i64x n, i64x i] [(tdT, .d tdT (w, e, ()))] k =
    (k
      [X.ps wTy out, X.sl L.sT ls nl false, X.d (Ty.int IntKind.i64) j, X.ptr (0 : Nat) [],
        X.d Ty.bool (decide ((↑(List.length out) : Int) > (300 : Int))), X.d (Ty.int IntKind.i64) n,
        X.d (Ty.int IntKind.i64) i]
      [(tdT, X.d tdT (w, e, ()))]) := by kernel_rfl
theorem lRd (A : Ar) (R : Type) (out : List (List Int)) (ls : List (List Int)) (nl : Option Bool) (n i : Int) (k : Ex → List X → Hp → Option R) : stepF (Crd A) 100 (loopAt Tryd.f10 0) 58 [2, 3, 4, 5, 6, 14, 15] [.dead, .dead, .dead, .ps wTy out, .sl L.sT ls nl false, i64x n, i64x i] [] k =
    (bif decide (i < n) then
      bif decide ((0 : Int) ≤ i ∧ i < (↑(List.length ls) : Int)) then
        bif L.Ok A (List.getD ls (Int.toNat i) (Ty.zero L.sT)) none then
          bif A.se (L.bareB (List.getD ls (Int.toNat i) (Ty.zero L.sT))) then
            k Ex.normal
              [X.dead, X.dead, X.dead, X.ps wTy out, X.sl L.sT ls nl false, X.d (Ty.int IntKind.i64) n,
                X.d (Ty.int IntKind.i64) (A.wrap IntKind.i64 (i + (1 : Int)))]
              []
          else
            bif decide ((0 : Int) ≤ i ∧ i < (↑(List.length ls) : Int)) then
              bif L.Ok A (List.getD ls (Int.toNat i) (Ty.zero L.sT)) none then
                bif (A.se (wordW (List.getD ls (Int.toNat i) (Ty.zero L.sT)))).snd.fst == (0 : Int) then
                  bif
                      A.se
                        (decide
                            (List.length out ≤ (1000000 : Nat) ∧
                              List.length (A.se (wordW (List.getD ls (Int.toNat i) (Ty.zero L.sT)))).fst ≤
                                (1000000 : Nat)) &&
                          (V.R.shortB out && V.R.risesB out)) then
                    bif !A.se (decide ((A.se (wordW (List.getD ls (Int.toNat i) (Ty.zero L.sT)))).fst ∈ out)) then
                      bif
                          A.se
                            (decide
                              ((0 : Int) ≤
                                  A.se
                                    (↑(V.R.cntL out (A.se (wordW (List.getD ls (Int.toNat i) (Ty.zero L.sT)))).fst) : Int) ∧
                                A.se
                                      (↑(V.R.cntL out (A.se (wordW (List.getD ls (Int.toNat i) (Ty.zero L.sT)))).fst) :
                                        Int) ≤
                                    (↑(List.length out) : Int) ∧
                                  List.length [(A.se (wordW (List.getD ls (Int.toNat i) (Ty.zero L.sT)))).fst] = (1 : Nat) ∧
                                    List.length out ≤ (1000000 : Nat))) then
                        bif
                            A.se
                              (decide
                                ((↑(List.length
                                        (A.se
                                          (List.take
                                                (Int.toNat
                                                  (A.se
                                                    (↑(V.R.cntL out
                                                          (A.se (wordW (List.getD ls (Int.toNat i) (Ty.zero L.sT)))).fst) :
                                                      Int)))
                                                out ++
                                              [(A.se (wordW (List.getD ls (Int.toNat i) (Ty.zero L.sT)))).fst] ++
                                            List.drop
                                              (Int.toNat
                                                (A.se
                                                  (↑(V.R.cntL out
                                                        (A.se (wordW (List.getD ls (Int.toNat i) (Ty.zero L.sT)))).fst) :
                                                    Int)))
                                              out))) :
                                    Int) >
                                  (300 : Int))) then
                          k Ex.ret
                            [X.sl (Ty.slice (Ty.int IntKind.i64)) [] (some true) true, X.d (Ty.int IntKind.i64) i,
                              X.d (Ty.int IntKind.i64) (81 : Int),
                              X.ps (Ty.slice (Ty.int IntKind.i64))
                                (A.se
                                  (List.take
                                        (Int.toNat
                                          (A.se
                                            (↑(V.R.cntL out
                                                  (A.se (wordW (List.getD ls (Int.toNat i) (Ty.zero L.sT)))).fst) :
                                              Int)))
                                        out ++
                                      [(A.se (wordW (List.getD ls (Int.toNat i) (Ty.zero L.sT)))).fst] ++
                                    List.drop
                                      (Int.toNat
                                        (A.se
                                          (↑(V.R.cntL out (A.se (wordW (List.getD ls (Int.toNat i) (Ty.zero L.sT)))).fst) :
                                            Int)))
                                      out)),
                              X.sl (Ty.slice (Ty.int IntKind.u8)) ls nl false, X.d (Ty.int IntKind.i64) n,
                              X.d (Ty.int IntKind.i64) i]
                            [(tdT,
                                X.agg
                                  [X.sl (Ty.int IntKind.i64) (A.se (wordW (List.getD ls (Int.toNat i) (Ty.zero L.sT)))).fst
                                      none false,
                                    X.d (Ty.int IntKind.i64) (81 : Int)])]
                        else
                          bif (A.se (wordW (List.getD ls (Int.toNat i) (Ty.zero L.sT)))).snd.fst != (0 : Int) then
                            k Ex.ret
                              [X.sl (Ty.slice (Ty.int IntKind.i64)) [] (some true) true, X.d (Ty.int IntKind.i64) i,
                                X.d (Ty.int IntKind.i64) (A.se (wordW (List.getD ls (Int.toNat i) (Ty.zero L.sT)))).snd.fst,
                                X.ps (Ty.slice (Ty.int IntKind.i64))
                                  (A.se
                                    (List.take
                                          (Int.toNat
                                            (A.se
                                              (↑(V.R.cntL out
                                                    (A.se (wordW (List.getD ls (Int.toNat i) (Ty.zero L.sT)))).fst) :
                                                Int)))
                                          out ++
                                        [(A.se (wordW (List.getD ls (Int.toNat i) (Ty.zero L.sT)))).fst] ++
                                      List.drop
                                        (Int.toNat
                                          (A.se
                                            (↑(V.R.cntL out
                                                  (A.se (wordW (List.getD ls (Int.toNat i) (Ty.zero L.sT)))).fst) :
                                              Int)))
                                        out)),
                                X.sl (Ty.slice (Ty.int IntKind.u8)) ls nl false, X.d (Ty.int IntKind.i64) n,
                                X.d (Ty.int IntKind.i64) i]
                              [(tdT, X.d tdT (A.se (wordW (List.getD ls (Int.toNat i) (Ty.zero L.sT)))))]
                          else
                            k Ex.normal
                              [X.dead, X.dead, X.dead,
                                X.ps (Ty.slice (Ty.int IntKind.i64))
                                  (A.se
                                    (List.take
                                          (Int.toNat
                                            (A.se
                                              (↑(V.R.cntL out
                                                    (A.se (wordW (List.getD ls (Int.toNat i) (Ty.zero L.sT)))).fst) :
                                                Int)))
                                          out ++
                                        [(A.se (wordW (List.getD ls (Int.toNat i) (Ty.zero L.sT)))).fst] ++
                                      List.drop
                                        (Int.toNat
                                          (A.se
                                            (↑(V.R.cntL out
                                                  (A.se (wordW (List.getD ls (Int.toNat i) (Ty.zero L.sT)))).fst) :
                                              Int)))
                                        out)),
                                X.sl (Ty.slice (Ty.int IntKind.u8)) ls nl false, X.d (Ty.int IntKind.i64) n,
                                X.d (Ty.int IntKind.i64) (A.wrap IntKind.i64 (i + (1 : Int)))]
                              [(tdT, X.d tdT (A.se (wordW (List.getD ls (Int.toNat i) (Ty.zero L.sT)))))]
                      else none
                    else
                      bif A.se (decide ((↑(List.length out) : Int) > (300 : Int))) then
                        k Ex.ret
                          [X.sl (Ty.slice (Ty.int IntKind.i64)) [] (some true) true, X.d (Ty.int IntKind.i64) i,
                            X.d (Ty.int IntKind.i64) (81 : Int), X.ps (Ty.slice (Ty.int IntKind.i64)) out,
                            X.sl (Ty.slice (Ty.int IntKind.u8)) ls nl false, X.d (Ty.int IntKind.i64) n,
                            X.d (Ty.int IntKind.i64) i]
                          [(tdT,
                              X.agg
                                [X.sl (Ty.int IntKind.i64) (A.se (wordW (List.getD ls (Int.toNat i) (Ty.zero L.sT)))).fst
                                    none false,
                                  X.d (Ty.int IntKind.i64) (81 : Int)])]
                      else
                        bif (A.se (wordW (List.getD ls (Int.toNat i) (Ty.zero L.sT)))).snd.fst != (0 : Int) then
                          k Ex.ret
                            [X.sl (Ty.slice (Ty.int IntKind.i64)) [] (some true) true, X.d (Ty.int IntKind.i64) i,
                              X.d (Ty.int IntKind.i64) (A.se (wordW (List.getD ls (Int.toNat i) (Ty.zero L.sT)))).snd.fst,
                              X.ps (Ty.slice (Ty.int IntKind.i64)) out, X.sl (Ty.slice (Ty.int IntKind.u8)) ls nl false,
                              X.d (Ty.int IntKind.i64) n, X.d (Ty.int IntKind.i64) i]
                            [(tdT, X.d tdT (A.se (wordW (List.getD ls (Int.toNat i) (Ty.zero L.sT)))))]
                        else
                          k Ex.normal
                            [X.dead, X.dead, X.dead, X.ps (Ty.slice (Ty.int IntKind.i64)) out,
                              X.sl (Ty.slice (Ty.int IntKind.u8)) ls nl false, X.d (Ty.int IntKind.i64) n,
                              X.d (Ty.int IntKind.i64) (A.wrap IntKind.i64 (i + (1 : Int)))]
                            [(tdT, X.d tdT (A.se (wordW (List.getD ls (Int.toNat i) (Ty.zero L.sT)))))]
                  else none
                else
                  bif (A.se (wordW (List.getD ls (Int.toNat i) (Ty.zero L.sT)))).snd.fst != (0 : Int) then
                    k Ex.ret
                      [X.sl (Ty.slice (Ty.int IntKind.i64)) [] (some true) true, X.d (Ty.int IntKind.i64) i,
                        X.d (Ty.int IntKind.i64) (A.se (wordW (List.getD ls (Int.toNat i) (Ty.zero L.sT)))).snd.fst,
                        X.ps wTy out, X.sl L.sT ls nl false, X.d (Ty.int IntKind.i64) n, X.d (Ty.int IntKind.i64) i]
                      [(Ty.struct (Ty.prod (Ty.slice (Ty.int IntKind.i64)) (Ty.prod (Ty.int IntKind.i64) Ty.unit)),
                          X.d (Ty.struct (Ty.prod (Ty.slice (Ty.int IntKind.i64)) (Ty.prod (Ty.int IntKind.i64) Ty.unit)))
                            (A.se (wordW (List.getD ls (Int.toNat i) (Ty.zero L.sT)))))]
                  else
                    k Ex.normal
                      [X.dead, X.dead, X.dead, X.ps wTy out, X.sl L.sT ls nl false, X.d (Ty.int IntKind.i64) n,
                        X.d (Ty.int IntKind.i64) (A.wrap IntKind.i64 (i + (1 : Int)))]
                      [(Ty.struct (Ty.prod (Ty.slice (Ty.int IntKind.i64)) (Ty.prod (Ty.int IntKind.i64) Ty.unit)),
                          X.d (Ty.struct (Ty.prod (Ty.slice (Ty.int IntKind.i64)) (Ty.prod (Ty.int IntKind.i64) Ty.unit)))
                            (A.se (wordW (List.getD ls (Int.toNat i) (Ty.zero L.sT)))))]
              else none
            else none
        else none
      else none
    else
      k (Ex.exit (0 : Nat))
        [X.dead, X.dead, X.dead, X.ps wTy out, X.sl L.sT ls nl false, X.d (Ty.int IntKind.i64) n,
          X.d (Ty.int IntKind.i64) i]
        []) := by kernel_rfl
theorem tRd (A : Ar) (b : List Int) (nl : Option Bool) : bodyX (Crd A) 100 Tryd.f10 [u8s b nl false] [] =
    (bif L.Ok A b nl then
      bif
          A.se
            (decide
                ((↑(List.length (A.se (L.splitL b))) : Int) =
                    (↑(List.length (A.se (L.splitL b))) : Int) ∧
                  (0 : Int) ≤ (0 : Int) ∧
                    (0 : Int) ≤ (↑(List.length (A.se (L.splitL b))) : Int) ∧
                      (↑(List.length (A.se (L.splitL b))) : Int) ≤ (1000000 : Int) ∧
                        (0 : Nat) ≤ (300 : Nat)) &&
              (okL (A.se (L.splitL b)) && (short20 [] && R.risesB []))) then
        bif
            A.se
              (decide ((goR (List.drop (Int.toNat (0 : Int)) (A.se (L.splitL b))) (0 : Int) []).snd.snd = (0 : Int))) then
          some
            (X.tup
                [X.sl (Ty.slice (Ty.int IntKind.i64))
                    (A.se (goR (List.drop (Int.toNat (0 : Int)) (A.se (L.splitL b))) (0 : Int) []).fst) none false,
                  X.d (Ty.int IntKind.i64) (-1 : Int), X.d (Ty.int IntKind.i64) (0 : Int)],
              [])
        else
          some
            (X.tup
                [X.sl (Ty.slice (Ty.int IntKind.i64)) [] (some true) false,
                  X.d (Ty.int IntKind.i64)
                    (A.se (goR (List.drop (Int.toNat (0 : Int)) (A.se (L.splitL b))) (0 : Int) []).snd.fst),
                  X.d (Ty.int IntKind.i64)
                    (A.se (goR (List.drop (Int.toNat (0 : Int)) (A.se (L.splitL b))) (0 : Int) []).snd.snd)],
              [])
      else none
    else none) := by kernel_rfl

end Go.Proofs.YtaefpopjlmhmoaaDoor.V

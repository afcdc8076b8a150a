/-
  Chapter 09, word lists: the trees of WordsJoins; its last regions are told. By program; each equation is checked by the kernel.
  It speaks of the pinned program alone; no condition.
-/
import Derived.Test.YtaefpopjlmhmoaaDoorWo5
namespace Go.Proofs.YtaefpopjlmhmoaaDoor.V
open Go
set_option linter.unusedVariables false

def noM10 : Nat → Nat := fun _ => 0
def jaB (z : List (List Int)) (at_ g : Int) : Bool := g == 81 && (decide (at_ ≥ 0) && z.isEmpty)
def jbB (z : List (List Int)) (at_ g : Int) (all : List (List Int)) : Bool := g == 0 && (at_ == -1 && (decide (z = all) && (decide (z.length ≤ 1000000) && R.shortB z)))
def JjaF (A : Ar) : List X → Hp → Tr (List X × Hp)
  | [.d .bool false, .d .bool true, .sl (.slice (.int .i64)) z nz false, .d (.int .i64) t, .d (.int .i64) g], [] =>
    .test (A.se (jaB z t g)) (.give ([boolx true, .dead, .dead, .dead, .dead], [])) .no
  | _, _ => .no
def JjbF (A : Ar) : List X → Hp → Tr (List X × Hp)
  | [.d .bool false, .d .bool true, .sl (.slice (.int .i64)) z nz false, .d (.int .i64) t, .d (.int .i64) g, .sl (.slice (.int .i64)) all na false], [] =>
    .test (A.se (jbB z t g all)) (.give ([boolx true, .dead, .dead, .dead, .dead, .dead], [])) .no
  | _, _ => .no
def Jjo (A : Ar) : Jt := fun i => match i with
  | 11 => some (94, [4, 5, 12, 13, 14], JjaF A)
  | 12 => some (94, [4, 5, 12, 13, 14, 15], JjbF A)
  | _ => none
theorem jJa (A : Ar) (R : Type) (z : List (List Int)) (nz : Option Bool) (t g : Int) (k : Ex → List X → Hp → Option R) : stepF (CxM A (Ow12 A) noL noM10) 1 (.region (rgAt Tryd.f6 11).1 (rgAt Tryd.f6 11).2.1 (rgAt Tryd.f6 11).2.2) 94 [4, 5, 12, 13, 14] [boolx false, boolx true, .sl wTy z nz false, i64x t, i64x g] [] k =
    (bif (g == (81 : Int)) == true then
      bif decide (t ≥ (0 : Int)) == true then
        k Ex.normal
          [X.d Ty.bool ((↑(List.length z) : Int) == (0 : Int)), X.d Ty.bool true, X.sl wTy z nz false,
            X.d (Ty.int IntKind.i64) t, X.d (Ty.int IntKind.i64) g]
          []
      else
        k Ex.normal
          [X.d Ty.bool false, X.d Ty.bool true, X.sl wTy z nz false, X.d (Ty.int IntKind.i64) t, X.d (Ty.int IntKind.i64) g]
          []
    else
      k Ex.normal
        [X.d Ty.bool false, X.d Ty.bool true, X.sl wTy z nz false, X.d (Ty.int IntKind.i64) t, X.d (Ty.int IntKind.i64) g]
        []) := by kernel_rfl
theorem jJb (A : Ar) (R : Type) (z : List (List Int)) (nz : Option Bool) (t g : Int) (all : List (List Int)) (na : Option Bool) (k : Ex → List X → Hp → Option R) : stepF (CxM A (Ow12 A) noL noM10) 1 (.region (rgAt Tryd.f6 12).1 (rgAt Tryd.f6 12).2.1 (rgAt Tryd.f6 12).2.2) 94 [4, 5, 12, 13, 14, 15] [boolx false, boolx true, .sl wTy z nz false, i64x t, i64x g, .sl wTy all na false] [] k =
    (bif (g == (0 : Int)) == true then
      bif (t == (-1 : Int)) == true then
        bif A.se (decide (List.length z ≤ (1000000 : Nat)) && V.R.shortB z) then
          k Ex.normal
            [X.d Ty.bool (A.se (decide (z = all))), X.d Ty.bool true, X.sl wTy z nz false, X.d (Ty.int IntKind.i64) t,
              X.d (Ty.int IntKind.i64) g, X.sl wTy all na false]
            []
        else none
      else
        k Ex.normal
          [X.d Ty.bool false, X.d Ty.bool true, X.sl wTy z nz false, X.d (Ty.int IntKind.i64) t, X.d (Ty.int IntKind.i64) g,
            X.sl wTy all na false]
          []
    else
      k Ex.normal
        [X.d Ty.bool false, X.d Ty.bool true, X.sl wTy z nz false, X.d (Ty.int IntKind.i64) t, X.d (Ty.int IntKind.i64) g,
          X.sl wTy all na false]
        []) := by kernel_rfl
theorem tJoins (A : Ar) (a : List Int) (na : Bool) (b : List Int) (nb : Bool) : bodyX (CxJ A (Ow12 A) noL noM10 (Jjo A)) 100 Tryd.f6 [u8s a (some na) false, u8s b (some nb) false] [] =
    (bif decide ((↑(List.length a) : Int) > (2000 : Int)) == false then
      bif decide ((↑(List.length b) : Int) > (2000 : Int)) then some (X.d Ty.bool true, [])
      else
        bif L.Ok A a (some na) then
          bif L.Ok A b (some nb) then
            bif (A.se (readW a).snd.snd != (0 : Int)) == false then
              bif A.se (readW b).snd.snd != (0 : Int) then some (X.d Ty.bool true, [])
              else
                bif decide (((0 : Nat) + List.length a) * (1 : Nat) ≤ (140737488355328 : Nat)) then
                  bif decide ((List.length ([] ++ a) + List.length [(10 : Int)]) * (1 : Nat) ≤ (140737488355328 : Nat)) then
                    bif
                        decide
                          ((List.length ([] ++ a ++ [(10 : Int)]) + List.length b) * (1 : Nat) ≤
                            (140737488355328 : Nat)) then
                      bif
                          L.Ok A ([] ++ a ++ [(10 : Int)] ++ b)
                            (Option.map (fun x => x && List.isEmpty b)
                              (Option.map (fun x => x && List.isEmpty [(10 : Int)])
                                (Option.map (fun x => x && List.isEmpty a) (some false)))) then
                        bif
                            decide
                              (((0 : Nat) + List.length (A.se (readW a).fst)) * (24 : Nat) ≤ (140737488355328 : Nat)) then
                          bif
                              decide
                                ((List.length ([] ++ A.se (readW a).fst) + List.length (A.se (readW b).fst)) * (24 : Nat) ≤
                                  (140737488355328 : Nat)) then
                            bif
                                A.se
                                  (decide (List.length ([] ++ A.se (readW a).fst ++ A.se (readW b).fst) ≤ (1000 : Nat)) &&
                                    R.shortB ([] ++ A.se (readW a).fst ++ A.se (readW b).fst)) then
                              bif
                                  decide
                                    ((↑(List.length (A.se (R.setL ([] ++ A.se (readW a).fst ++ A.se (readW b).fst)))) :
                                        Int) >
                                      (300 : Int)) then
                                bif
                                    A.se
                                      (jaB (A.se (readW ([] ++ a ++ [(10 : Int)] ++ b)).fst)
                                        (A.se (readW ([] ++ a ++ [(10 : Int)] ++ b)).snd.fst)
                                        (A.se (readW ([] ++ a ++ [(10 : Int)] ++ b)).snd.snd)) then
                                  some (X.d Ty.bool true, [])
                                else none
                              else
                                bif
                                    A.se
                                      (jbB (A.se (readW ([] ++ a ++ [(10 : Int)] ++ b)).fst)
                                        (A.se (readW ([] ++ a ++ [(10 : Int)] ++ b)).snd.fst)
                                        (A.se (readW ([] ++ a ++ [(10 : Int)] ++ b)).snd.snd)
                                        (A.se (R.setL ([] ++ A.se (readW a).fst ++ A.se (readW b).fst)))) then
                                  some (X.d Ty.bool true, [])
                                else none
                            else none
                          else none
                        else none
                      else none
                    else none
                  else none
                else none
            else some (X.d Ty.bool true, [])
          else none
        else none
    else some (X.d Ty.bool true, [])) := by kernel_rfl

end Go.Proofs.YtaefpopjlmhmoaaDoor.V

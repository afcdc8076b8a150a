/-
  Chapter 13's program: its types, as the evaluator is told them.
  It speaks of the pinned program alone; no condition.
-/
import Derived.Test.YtclpckkidfleoaaV23
import Derived.Test.YtclpckkidfleoaaProg
namespace Go.Proofs.Ytclpckkidfleoaa.V
open Go

def tyAt : Nat → Option TyE
  | 3 => some ⟨.int .i64, (0 : Int), 8, 0⟩
  | 4 => some ⟨.bool, false, 1, 0⟩
  | 5 => some ⟨.int .u8, (0 : Int), 1, 0⟩
  | 9 => some ⟨.str, ByteArray.empty, 16, 0⟩
  | 22 => some ⟨.slice (.int .u8), [], 24, 1⟩
  | 23 => some ⟨.int .u64, (0 : Int), 8, 0⟩
  | 25 => some ⟨.int .i64, (0 : Int), 8, 0⟩
  | 33 => some ⟨.slice (.int .u64), [], 24, 8⟩
  | 37 => some ⟨.int .u64, (0 : Int), 8, 0⟩
  | _ => none
def tys : List (Option TyE) := (List.range 40).map tyAt

theorem tysOk : TysOk Try.prog tys := by
  intro i e h
  have hi : i < 40 := by
    have := (List.getElem?_eq_some_iff.1 h).1
    simpa [tys] using this
  simp only [tys, List.getElem?_map, List.getElem?_range hi, Option.map_some, Option.some.injEq] at h
  unfold tyAt at h
  split at h
  all_goals first | cases h; done | (injection h with h; subst h; exact ⟨by kernel_rfl, by kernel_rfl, by kernel_rfl, by first | kernel_rfl | trivial⟩)

/-- All that is told of functions is so. -/
def OOk (O : Nat → Option Orc) : Prop := ∀ f o, O f = some o → OrcOk Try.prog f o
def Oadd (O : Nat → Option Orc) (f : Nat) (o : Orc) : Nat → Option Orc := fun g => if g = f then some o else O g
theorem OOk.none : OOk (fun _ => Option.none) := fun _ _ h => by cases h
theorem OOk.add {O : Nat → Option Orc} {f : Nat} {o : Orc} (h : OOk O) (ho : OrcOk Try.prog f o) : OOk (Oadd O f o) := by
  intro g p e
  unfold Oadd at e
  split at e
  · rename_i hg
    subst hg
    cases e
    exact ho
  · exact h g p e

abbrev Lp := Nat → Option (Nat × List Nat × (List X → Hp → Tr (Ex × List X × Hp)))
def noL : Lp := fun _ => Option.none
def Cx (A : Ar) (O : Nat → Option Orc) (L : Lp) : Ctx := ⟨A, tys, O, L⟩
theorem Cx.ok {O : Nat → Option Orc} (h : OOk O) (L : Lp) : COk Try.prog (Cx Ar.real O L) := ⟨rfl, tysOk, h⟩

theorem mixed : Try.prog.follows .mixedOrders = true := by kernel_rfl
end Go.Proofs.Ytclpckkidfleoaa.V

/-
  The program's types, as the evaluator is told them. (By program, off the translation's own list; Lean checks each.)
  It speaks of the pinned program alone; no condition.
-/
import Derived.Test.YtnjlfeigcappjaaDoorWh
import Derived.Test.YtnjlfeigcappjaaDoorProg
namespace Go.Proofs.YtnjlfeigcappjaaDoor.V
open Go

def tyAt : Nat → Option TyE
  | 1 => some ⟨.any, Value.nilFunc, 8, 0⟩
  | 2 => some ⟨.int .i64, (0 : Int), 8, 0⟩
  | 3 => some ⟨.int .i64, (0 : Int), 8, 0⟩
  | 4 => some ⟨.bool, false, 1, 0⟩
  | 5 => some ⟨.int .u8, (0 : Int), 1, 0⟩
  | 9 => some ⟨.str, ByteArray.empty, 16, 0⟩
  | 12 => some ⟨.int .u64, (0 : Int), 8, 0⟩
  | 20 => some ⟨.any, Value.nilIface, 16, 0⟩
  | 21 => some ⟨.int .i32, (0 : Int), 4, 0⟩
  | 22 => some ⟨.slice (.int .i64), [], 24, 8⟩
  | 23 => some ⟨.slice (.int .u8), [], 24, 1⟩
  | 24 => some ⟨.any, Value.nilFunc, 8, 0⟩
  | 25 => some ⟨.int .i64, (0 : Int), 8, 0⟩
  | 27 => some ⟨.any, Value.nilFunc, 8, 0⟩
  | 29 => some ⟨.any, Value.nilFunc, 8, 0⟩
  | 31 => some ⟨.any, Value.nilFunc, 8, 0⟩
  | 32 => some ⟨.any, Value.nilFunc, 8, 0⟩
  | 33 => some ⟨.any, Value.nilFunc, 8, 0⟩
  | 34 => some ⟨.any, Value.nilFunc, 8, 0⟩
  | 35 => some ⟨.any, Value.nilFunc, 8, 0⟩
  | 36 => some ⟨.any, Value.nilFunc, 8, 0⟩
  | 37 => some ⟨.any, Value.nilFunc, 8, 0⟩
  | 38 => some ⟨.any, Value.nilFunc, 8, 0⟩
  | 39 => some ⟨.int .u16, (0 : Int), 2, 0⟩
  | 40 => some ⟨.any, Value.nilFunc, 8, 0⟩
  | 41 => some ⟨.any, Value.nilFunc, 8, 0⟩
  | 42 => some ⟨.any, Value.nilFunc, 8, 0⟩
  | 44 => some ⟨.any, Value.nilFunc, 8, 0⟩
  | 45 => some ⟨.any, Value.nilFunc, 8, 0⟩
  | 46 => some ⟨.any, Value.nilFunc, 8, 0⟩
  | 47 => some ⟨.int .u32, (0 : Int), 4, 0⟩
  | 48 => some ⟨.any, Value.nilFunc, 8, 0⟩
  | 49 => some ⟨.arr 256 (.int .u8), (List.replicate 256 (0 : Int)), 256, 0⟩
  | 50 => some ⟨.struct (.prod (.int .u8) (.prod (.int .u8) (.unit))), ((0 : Int), ((0 : Int), ())), 2, 0⟩
  | 51 => some ⟨.struct (.prod (.int .u8) (.prod (.int .u8) (.unit))), ((0 : Int), ((0 : Int), ())), 2, 0⟩
  | 52 => some ⟨.arr 16 (.struct (.prod (.int .u8) (.prod (.int .u8) (.unit)))), (List.replicate 16 ((0 : Int), ((0 : Int), ()))), 32, 0⟩
  | 53 => some ⟨.int .u64, (0 : Int), 8, 0⟩
  | 54 => some ⟨.int .u64, (0 : Int), 8, 0⟩
  | 55 => some ⟨.any, Value.nilFunc, 8, 0⟩
  | 61 => some ⟨.any, Value.nilFunc, 8, 0⟩
  | 64 => some ⟨.any, Value.nilFunc, 8, 0⟩
  | 65 => some ⟨.any, (Value.pointer none), 8, 0⟩
  | _ => none
def tys : List (Option TyE) := (List.range 71).map tyAt

theorem tysOk : TysOk Tryd.prog tys := by
  intro i e h
  have hi : i < 71 := by
    have := (List.getElem?_eq_some_iff.1 h).1
    simpa [tys] using this
  simp only [tys, List.getElem?_map, List.getElem?_range hi, Option.map_some, Option.some.injEq] at h
  unfold tyAt at h
  split at h
  all_goals first | cases h; done | (injection h with h; subst h; exact ⟨by kernel_rfl, by kernel_rfl, by kernel_rfl, by first | kernel_rfl | trivial⟩)

/-- All that is told of functions is so. -/
def OOk (O : Nat → Option Orc) : Prop := ∀ f o, O f = some o → OrcOk Tryd.prog f o
def Oadd (O : Nat → Option Orc) (f : Nat) (o : Orc) : Nat → Option Orc := fun g => if g = f then some o else O g
theorem OOk.none : OOk (fun _ => Option.none) := fun _ _ h => by cases h
theorem OOk.add {O : Nat → Option Orc} {f : Nat} {o : Orc} (h : OOk O) (ho : OrcOk Tryd.prog f o) : OOk (Oadd O f o) := by
  intro g p e
  unfold Oadd at e
  split at e
  · rename_i hg
    subst hg
    cases e
    exact ho
  · exact h g p e

abbrev Lp := Nat → Option (Nat × List Nat × (List X → Hp → Tr (Ex × List X × Hp)))
def noL : Lp := fun _ => Option.none
def Cx (A : Ar) (O : Nat → Option Orc) (L : Lp) : Ctx := ⟨A, tys, O, L⟩
theorem Cx.ok {O : Nat → Option Orc} (h : OOk O) (L : Lp) : COk Tryd.prog (Cx Ar.real O L) := ⟨rfl, tysOk, h⟩

theorem mixed : Tryd.prog.follows .mixedOrders = true := by kernel_rfl
end Go.Proofs.YtnjlfeigcappjaaDoor.V


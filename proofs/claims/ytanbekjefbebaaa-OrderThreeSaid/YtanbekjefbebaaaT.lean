/-
  The program's types, as the evaluator is told them. (By program, off the translation's own list; Lean checks each.)
  It speaks of the pinned program alone; no condition.
-/
import Derived.Test.YtanbekjefbebaaaWh
import Derived.Test.YtanbekjefbebaaaProg
namespace Go.Proofs.Ytanbekjefbebaaa.V
open Go

def tyAt : Nat → Option TyE
  | 1 => some ⟨.any, Value.nilFunc, 8, 0⟩
  | 2 => some ⟨.int .i64, (0 : Int), 8, 0⟩
  | 3 => some ⟨.int .i64, (0 : Int), 8, 0⟩
  | 4 => some ⟨.bool, false, 1, 0⟩
  | 5 => some ⟨.int .u8, (0 : Int), 1, 0⟩
  | 9 => some ⟨.str, ByteArray.empty, 16, 0⟩
  | 12 => some ⟨.int .u64, (0 : Int), 8, 0⟩
  | 20 => some ⟨.err, true, 16, 0⟩
  | 21 => some ⟨.int .i32, (0 : Int), 4, 0⟩
  | 22 => some ⟨.slice (.slice (.int .i64)), [], 24, 24⟩
  | 23 => some ⟨.slice (.int .i64), [], 24, 8⟩
  | 24 => some ⟨.any, Value.nilFunc, 8, 0⟩
  | 25 => some ⟨.any, Value.nilFunc, 8, 0⟩
  | 26 => some ⟨.any, Value.nilFunc, 8, 0⟩
  | 28 => some ⟨.any, Value.nilFunc, 8, 0⟩
  | 29 => some ⟨.any, Value.nilFunc, 8, 0⟩
  | 30 => some ⟨.any, Value.nilFunc, 8, 0⟩
  | 31 => some ⟨.any, Value.nilFunc, 8, 0⟩
  | 32 => some ⟨.any, Value.nilFunc, 8, 0⟩
  | 33 => some ⟨.any, Value.nilFunc, 8, 0⟩
  | 34 => some ⟨.any, Value.nilFunc, 8, 0⟩
  | 35 => some ⟨.any, Value.nilFunc, 8, 0⟩
  | 36 => some ⟨.any, Value.nilFunc, 8, 0⟩
  | 37 => some ⟨.any, Value.nilFunc, 8, 0⟩
  | 38 => some ⟨.any, Value.nilFunc, 8, 0⟩
  | 39 => some ⟨.any, Value.nilFunc, 8, 0⟩
  | 40 => some ⟨.any, Value.nilFunc, 8, 0⟩
  | 41 => some ⟨.any, Value.nilFunc, 8, 0⟩
  | 42 => some ⟨.any, Value.nilFunc, 8, 0⟩
  | 43 => some ⟨.int .u64, (0 : Int), 8, 0⟩
  | 44 => some ⟨.any, Value.nilFunc, 8, 0⟩
  | 45 => some ⟨.any, Value.nilFunc, 8, 0⟩
  | 46 => some ⟨.int .i64, (0 : Int), 8, 0⟩
  | 48 => some ⟨.any, Value.nilFunc, 8, 0⟩
  | 49 => some ⟨.any, Value.nilFunc, 8, 0⟩
  | 50 => some ⟨.any, Value.nilFunc, 8, 0⟩
  | 51 => some ⟨.any, Value.nilFunc, 8, 0⟩
  | 52 => some ⟨.any, Value.nilFunc, 8, 0⟩
  | 53 => some ⟨.int .u32, (0 : Int), 4, 0⟩
  | 54 => some ⟨.any, Value.nilFunc, 8, 0⟩
  | 55 => some ⟨.int .u64, (0 : Int), 8, 0⟩
  | 56 => some ⟨.int .u64, (0 : Int), 8, 0⟩
  | 57 => some ⟨.any, Value.nilFunc, 8, 0⟩
  | 58 => some ⟨.any, Value.nilFunc, 8, 0⟩
  | 59 => some ⟨.any, Value.nilFunc, 8, 0⟩
  | 60 => some ⟨.any, (Value.pointer none), 8, 0⟩
  | 61 => some ⟨.any, Value.nilFunc, 8, 0⟩
  | 62 => some ⟨.any, (Value.pointer none), 8, 0⟩
  | 64 => some ⟨.any, Value.nilFunc, 8, 0⟩
  | 65 => some ⟨.any, Value.nilFunc, 8, 0⟩
  | 71 => some ⟨.any, Value.nilFunc, 8, 0⟩
  | 74 => some ⟨.any, Value.nilFunc, 8, 0⟩
  | 75 => some ⟨.any, (Value.pointer none), 8, 0⟩
  | _ => none
/-- Of a slice's type: an element's zero value. -/
def ezs : Nat → Option (Σ t : Ty, t.den)
  | 22 => some ⟨.slice (.int .i64), []⟩
  | 23 => some ⟨.int .i64, (0 : Int)⟩
  | _ => none
def tys : List (Option TyE) := (List.range 81).map tyAt

theorem tysOk : TysOk Try.prog tys := by
  intro i e h
  have hi : i < 81 := by
    have := (List.getElem?_eq_some_iff.1 h).1
    simpa [tys] using this
  simp only [tys, List.getElem?_map, List.getElem?_range hi, Option.map_some, Option.some.injEq] at h
  unfold tyAt at h
  split at h
  all_goals first | cases h; done | (injection h with h; subst h; exact ⟨by kernel_rfl, by kernel_rfl, by kernel_rfl, by first | kernel_rfl | trivial⟩)

/-- All that is told of functions is so. -/
def OOk (O : Nat → Option Orc) : Prop := ∀ f o, O f = some o → OrcOk Try.prog f o
def Oadd (O : Nat → Option Orc) (f : Nat) (o : Orc) : Nat → Option Orc := fun g => if g = f then some o else O g
theorem OOk.none : OOk (fun _ => Option.none) := fun _ _ h => by cases h
theorem OOk.add {O : Nat → Option Orc} {f : Nat} {o : Orc} (h : OOk O) (ho : OrcOk Try.prog f o) : OOk (Oadd O f o) := by
  intro g p e
  unfold Oadd at e
  split at e
  · rename_i hg
    subst hg
    cases e
    exact ho
  · exact h g p e

abbrev Lp := Nat → Option (Nat × List Nat × (List X → Hp → Tr (Ex × List X × Hp)))
def noL : Lp := fun _ => Option.none
def Cx (A : Ar) (O : Nat → Option Orc) (L : Lp) : Ctx := { A := A, tys := tys, O := O, L := L }
theorem Cx.ok {O : Nat → Option Orc} (h : OOk O) (L : Lp) : COk Try.prog (Cx Ar.real O L) := ⟨rfl, tysOk, h, fun _ _ e => (by cases e), fun _ _ e => by cases e⟩
def ezOf (P : Program) (T : Nat) : Option (Option Value) := match P.underlying T with
  | some (.slice ei) => (P.info? ei).map (·.zero)
  | _ => Option.none
theorem ezOf_ok {P : Program} {T : Nat} {z : Σ t : Ty, t.den} (h : ezOf P T = some (some (zval z.1 z.2))) (h2 : zB z.1 z.2 = true) (h3 : 0 < z.1.size) :
    ∃ ei inf, P.underlying T = some (.slice ei) ∧ P.info? ei = some inf ∧ inf.zero = some (zval z.1 z.2) ∧ zB z.1 z.2 = true ∧ 0 < z.1.size := by
  unfold ezOf at h
  split at h
  · rename_i ei hu
    rw [Option.map_eq_some_iff] at h
    obtain ⟨inf, hi, hz⟩ := h
    exact ⟨ei, inf, hu, hi, hz, h2, h3⟩
  · cases h
theorem ezsOk : ZOk Try.prog ezs := by
  intro T z h
  unfold ezs at h
  split at h
  all_goals first | cases h; done | (injection h with h; subst h; exact ezOf_ok (by kernel_rfl) (by kernel_rfl) (by decide))
/-- The same, slices being written in place: 'M' says what is done to a place ahead of the operation that writes 'dst'. -/
def CxM (A : Ar) (O : Nat → Option Orc) (L : Lp) (M : Nat → Nat) : Ctx := { A := A, tys := tys, O := O, L := L, M := M, Z := ezs }
theorem CxM.ok {O : Nat → Option Orc} (h : OOk O) (L : Lp) (M : Nat → Nat) : COk Try.prog (CxM Ar.real O L M) := ⟨rfl, tysOk, h, fun _ _ e => (by cases e), ezsOk⟩

/-- Rounds of ranges over functions. -/
abbrev Yt := Nat → Option (Nat → List X → List X → Hp → Tr (Bool × Hp))
def noY : Yt := fun _ => Option.none
def YOk (Y : Yt) : Prop := ∀ key F, Y key = some F → YldOk Try.prog key fun id tms args H => (F id tms args H).run some
theorem YOk.none : YOk noY := fun _ _ h => by cases h
/-- The same with rounds; a function in which ranges over functions stand; a round itself. -/
def CxG (A : Ar) (O : Nat → Option Orc) (L : Lp) (Y : Yt) (K : Nat → Option Nat) (ins : Bool) : Ctx := { A := A, tys := tys, O := O, L := L, Y := Y, K := K, ins := ins }
theorem CxG.ok {O : Nat → Option Orc} (h : OOk O) (L : Lp) {Y : Yt} (hy : YOk Y) (K : Nat → Option Nat) (ins : Bool) : COk Try.prog (CxG Ar.real O L Y K ins) := ⟨rfl, tysOk, h, hy, fun _ _ e => by cases e⟩

theorem mixed : Try.prog.follows .mixedOrders = true := by kernel_rfl
end Go.Proofs.Ytanbekjefbebaaa.V


/-
  The program's types, as the evaluator is told them. (By program, off the translation's own list; Lean checks each.)
  It speaks of the pinned program alone; no condition.
-/
import Derived.Test.YtaefpopjlmhmoaaDoorWh
import Derived.Test.YtaefpopjlmhmoaaDoorProg
namespace Go.Proofs.YtaefpopjlmhmoaaDoor.V
open Go

def tyAt : Nat → Option TyE
  | 1 => some ⟨.any, Value.nilFunc, 8, 0⟩
  | 2 => some ⟨.int .i64, (0 : Int), 8, 0⟩
  | 3 => some ⟨.int .i64, (0 : Int), 8, 0⟩
  | 4 => some ⟨.bool, false, 1, 0⟩
  | 5 => some ⟨.int .u8, (0 : Int), 1, 0⟩
  | 9 => some ⟨.str, ByteArray.empty, 16, 0⟩
  | 12 => some ⟨.int .u64, (0 : Int), 8, 0⟩
  | 20 => some ⟨.err, true, 16, 0⟩
  | 21 => some ⟨.int .i32, (0 : Int), 4, 0⟩
  | 22 => some ⟨.slice (.int .u8), [], 24, 1⟩
  | 23 => some ⟨.slice (.slice (.int .i64)), [], 24, 24⟩
  | 24 => some ⟨.slice (.int .i64), [], 24, 8⟩
  | 25 => some ⟨.any, Value.nilFunc, 8, 0⟩
  | 26 => some ⟨.any, Value.nilFunc, 8, 0⟩
  | 27 => some ⟨.int .i64, (0 : Int), 8, 0⟩
  | 29 => some ⟨.any, Value.nilFunc, 8, 0⟩
  | 31 => some ⟨.any, Value.nilFunc, 8, 0⟩
  | 32 => some ⟨.any, Value.nilFunc, 8, 0⟩
  | 33 => some ⟨.any, Value.nilFunc, 8, 0⟩
  | 34 => some ⟨.any, Value.nilFunc, 8, 0⟩
  | 35 => some ⟨.any, Value.nilFunc, 8, 0⟩
  | 36 => some ⟨.slice (.slice (.int .u8)), [], 24, 24⟩
  | 37 => some ⟨.any, Value.nilFunc, 8, 0⟩
  | 38 => some ⟨.any, Value.nilFunc, 8, 0⟩
  | 40 => some ⟨.any, Value.nilFunc, 8, 0⟩
  | 42 => some ⟨.any, Value.nilFunc, 8, 0⟩
  | 43 => some ⟨.any, Value.nilFunc, 8, 0⟩
  | 44 => some ⟨.any, Value.nilFunc, 8, 0⟩
  | 45 => some ⟨.any, Value.nilFunc, 8, 0⟩
  | 46 => some ⟨.int .u16, (0 : Int), 2, 0⟩
  | 47 => some ⟨.any, Value.nilFunc, 8, 0⟩
  | 48 => some ⟨.struct (.prod (.slice (.int .i64)) (.prod (.int .i64) (.unit))), ([], ((0 : Int), ())), 32, 0⟩
  | 49 => some ⟨.struct (.prod (.slice (.int .i64)) (.prod (.int .i64) (.unit))), ([], ((0 : Int), ())), 32, 0⟩
  | 50 => some ⟨.any, Value.nilFunc, 8, 0⟩
  | 51 => some ⟨.any, Value.nilFunc, 8, 0⟩
  | 52 => some ⟨.any, Value.nilFunc, 8, 0⟩
  | 53 => some ⟨.any, Value.nilFunc, 8, 0⟩
  | 54 => some ⟨.any, Value.nilFunc, 8, 0⟩
  | 55 => some ⟨.any, Value.nilFunc, 8, 0⟩
  | 56 => some ⟨.any, Value.nilFunc, 8, 0⟩
  | 57 => some ⟨.any, Value.nilFunc, 8, 0⟩
  | 58 => some ⟨.any, Value.nilFunc, 8, 0⟩
  | 59 => some ⟨.any, Value.nilFunc, 8, 0⟩
  | 60 => some ⟨.any, Value.nilFunc, 8, 0⟩
  | 61 => some ⟨.any, Value.nilFunc, 8, 0⟩
  | 62 => some ⟨.any, Value.nilFunc, 8, 0⟩
  | 63 => some ⟨.any, Value.nilFunc, 8, 0⟩
  | 64 => some ⟨.any, Value.nilFunc, 8, 0⟩
  | 65 => some ⟨.any, Value.nilFunc, 8, 0⟩
  | 66 => some ⟨.any, Value.nilFunc, 8, 0⟩
  | 67 => some ⟨.any, Value.nilFunc, 8, 0⟩
  | 68 => some ⟨.any, Value.nilFunc, 8, 0⟩
  | 70 => some ⟨.any, Value.nilFunc, 8, 0⟩
  | 71 => some ⟨.any, Value.nilFunc, 8, 0⟩
  | 72 => some ⟨.any, Value.nilFunc, 8, 0⟩
  | 73 => some ⟨.any, Value.nilFunc, 8, 0⟩
  | 74 => some ⟨.any, Value.nilFunc, 8, 0⟩
  | 75 => some ⟨.any, Value.nilFunc, 8, 0⟩
  | 76 => some ⟨.any, Value.nilFunc, 8, 0⟩
  | 77 => some ⟨.any, Value.nilFunc, 8, 0⟩
  | 78 => some ⟨.arr 256 (.int .u8), (List.replicate 256 (0 : Int)), 256, 0⟩
  | 79 => some ⟨.struct (.prod (.int .u8) (.prod (.int .u8) (.unit))), ((0 : Int), ((0 : Int), ())), 2, 0⟩
  | 80 => some ⟨.struct (.prod (.int .u8) (.prod (.int .u8) (.unit))), ((0 : Int), ((0 : Int), ())), 2, 0⟩
  | 81 => some ⟨.arr 16 (.struct (.prod (.int .u8) (.prod (.int .u8) (.unit)))), (List.replicate 16 ((0 : Int), ((0 : Int), ()))), 32, 0⟩
  | 82 => some ⟨.int .u64, (0 : Int), 8, 0⟩
  | 83 => some ⟨.any, Value.nilFunc, 8, 0⟩
  | 84 => some ⟨.any, Value.nilFunc, 8, 0⟩
  | 85 => some ⟨.any, Value.nilFunc, 8, 0⟩
  | 86 => some ⟨.int .u32, (0 : Int), 4, 0⟩
  | 87 => some ⟨.int .u64, (0 : Int), 8, 0⟩
  | 88 => some ⟨.any, Value.nilFunc, 8, 0⟩
  | 89 => some ⟨.int .i64, (0 : Int), 8, 0⟩
  | 91 => some ⟨.any, Value.nilFunc, 8, 0⟩
  | 92 => some ⟨.any, Value.nilFunc, 8, 0⟩
  | 93 => some ⟨.any, Value.nilFunc, 8, 0⟩
  | 94 => some ⟨.any, Value.nilFunc, 8, 0⟩
  | 95 => some ⟨.any, Value.nilFunc, 8, 0⟩
  | 96 => some ⟨.any, Value.nilFunc, 8, 0⟩
  | 97 => some ⟨.any, Value.nilFunc, 8, 0⟩
  | 98 => some ⟨.int .u64, (0 : Int), 8, 0⟩
  | 99 => some ⟨.any, Value.nilFunc, 8, 0⟩
  | 100 => some ⟨.any, Value.nilFunc, 8, 0⟩
  | 101 => some ⟨.any, Value.nilFunc, 8, 0⟩
  | 102 => some ⟨.any, (Value.pointer none), 8, 0⟩
  | 103 => some ⟨.any, Value.nilFunc, 8, 0⟩
  | 104 => some ⟨.any, (Value.pointer none), 8, 0⟩
  | 106 => some ⟨.any, Value.nilFunc, 8, 0⟩
  | 107 => some ⟨.any, Value.nilFunc, 8, 0⟩
  | 113 => some ⟨.any, Value.nilFunc, 8, 0⟩
  | 116 => some ⟨.any, Value.nilFunc, 8, 0⟩
  | 117 => some ⟨.any, (Value.pointer none), 8, 0⟩
  | _ => none
/-- Of a slice's type: an element's zero value. -/
def ezs : Nat → Option (Σ t : Ty, t.den)
  | 22 => some ⟨.int .u8, (0 : Int)⟩
  | 23 => some ⟨.slice (.int .i64), []⟩
  | 24 => some ⟨.int .i64, (0 : Int)⟩
  | 36 => some ⟨.slice (.int .u8), []⟩
  | _ => none
def tys : List (Option TyE) := (List.range 123).map tyAt

set_option maxRecDepth 100000 in
theorem tysOk : TysOk Tryd.prog tys := by
  intro i e h
  have hi : i < 123 := by
    have := (List.getElem?_eq_some_iff.1 h).1
    simpa [tys] using this
  simp only [tys, List.getElem?_map, List.getElem?_range hi, Option.map_some, Option.some.injEq] at h
  unfold tyAt at h
  split at h
  all_goals first | cases h; done | (injection h with h; subst h; exact ⟨by kernel_rfl, by kernel_rfl, by kernel_rfl, by first | kernel_rfl | trivial⟩)

/-- All that is told of functions is so. -/
def OOk (O : Nat → Option Orc) : Prop := ∀ f o, O f = some o → OrcOk Tryd.prog f o
def Oadd (O : Nat → Option Orc) (f : Nat) (o : Orc) : Nat → Option Orc := fun g => if g = f then some o else O g
theorem OOk.none : OOk (fun _ => Option.none) := fun _ _ h => by cases h
theorem OOk.add {O : Nat → Option Orc} {f : Nat} {o : Orc} (h : OOk O) (ho : OrcOk Tryd.prog f o) : OOk (Oadd O f o) := by
  intro g p e
  unfold Oadd at e
  split at e
  · rename_i hg
    subst hg
    cases e
    exact ho
  · exact h g p e

abbrev Lp := Nat → Option (Nat × List Nat × (List X → Hp → Tr (Ex × List X × Hp)))
def noL : Lp := fun _ => Option.none
def Cx (A : Ar) (O : Nat → Option Orc) (L : Lp) : Ctx := { A := A, tys := tys, O := O, L := L }
theorem Cx.ok {O : Nat → Option Orc} (h : OOk O) (L : Lp) : COk Tryd.prog (Cx Ar.real O L) := ⟨rfl, tysOk, h, fun _ _ e => (by cases e), fun _ _ e => by cases e⟩
def ezOf (P : Program) (T : Nat) : Option (Option Value) := match P.underlying T with
  | some (.slice ei) => (P.info? ei).map (·.zero)
  | _ => Option.none
theorem ezOf_ok {P : Program} {T : Nat} {z : Σ t : Ty, t.den} (h : ezOf P T = some (some (zval z.1 z.2))) (h2 : zB z.1 z.2 = true) (h3 : 0 < z.1.size) :
    ∃ ei inf, P.underlying T = some (.slice ei) ∧ P.info? ei = some inf ∧ inf.zero = some (zval z.1 z.2) ∧ zB z.1 z.2 = true ∧ 0 < z.1.size := by
  unfold ezOf at h
  split at h
  · rename_i ei hu
    rw [Option.map_eq_some_iff] at h
    obtain ⟨inf, hi, hz⟩ := h
    exact ⟨ei, inf, hu, hi, hz, h2, h3⟩
  · cases h
theorem ezsOk : ZOk Tryd.prog ezs := by
  intro T z h
  unfold ezs at h
  split at h
  all_goals first | cases h; done | (injection h with h; subst h; exact ezOf_ok (by kernel_rfl) (by kernel_rfl) (by decide))
/-- The same, slices being written in place: 'M' says what is done to a place ahead of the operation that writes 'dst'. -/
def CxM (A : Ar) (O : Nat → Option Orc) (L : Lp) (M : Nat → Nat) : Ctx := { A := A, tys := tys, O := O, L := L, M := M, Z := ezs }
theorem CxM.ok {O : Nat → Option Orc} (h : OOk O) (L : Lp) (M : Nat → Nat) : COk Tryd.prog (CxM Ar.real O L M) := ⟨rfl, tysOk, h, fun _ _ e => (by cases e), ezsOk⟩

/-- The same, some regions being told. -/
abbrev Jt := Nat → Option (Nat × List Nat × (List X → Hp → Tr (List X × Hp)))
def CxJ (A : Ar) (O : Nat → Option Orc) (L : Lp) (M : Nat → Nat) (J : Jt) : Ctx := { A := A, tys := tys, O := O, L := L, M := M, Z := ezs, J := J }
theorem CxJ.ok {O : Nat → Option Orc} (h : OOk O) (L : Lp) (M : Nat → Nat) (J : Jt) : COk Tryd.prog (CxJ Ar.real O L M J) := ⟨rfl, tysOk, h, fun _ _ e => (by cases e), ezsOk⟩

/-- Rounds of ranges over functions. -/
abbrev Yt := Nat → Option (Nat → List X → List X → Hp → Tr (Bool × Hp))
def noY : Yt := fun _ => Option.none
def YOk (Y : Yt) : Prop := ∀ key F, Y key = some F → YldOk Tryd.prog key fun id tms args H => (F id tms args H).run some
theorem YOk.none : YOk noY := fun _ _ h => by cases h
/-- The same with rounds; a function in which ranges over functions stand; a round itself. -/
def CxG (A : Ar) (O : Nat → Option Orc) (L : Lp) (Y : Yt) (K : Nat → Option Nat) (ins : Bool) : Ctx := { A := A, tys := tys, O := O, L := L, Y := Y, K := K, ins := ins }
theorem CxG.ok {O : Nat → Option Orc} (h : OOk O) (L : Lp) {Y : Yt} (hy : YOk Y) (K : Nat → Option Nat) (ins : Bool) : COk Tryd.prog (CxG Ar.real O L Y K ins) := ⟨rfl, tysOk, h, hy, fun _ _ e => by cases e⟩

theorem mixed : Tryd.prog.follows .mixedOrders = true := by kernel_rfl
end Go.Proofs.YtaefpopjlmhmoaaDoor.V


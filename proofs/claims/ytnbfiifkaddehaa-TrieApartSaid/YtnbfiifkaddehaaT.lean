/-
  The program's types, as the evaluator is told them. (By program, off the translation's own list; Lean checks each.)
  It speaks of the pinned program alone; no condition.
-/
import Derived.Test.YtnbfiifkaddehaaWh
import Derived.Test.YtnbfiifkaddehaaProg
namespace Go.Proofs.Ytnbfiifkaddehaa.V
open Go

def tyAt : Nat → Option TyE
  | 1 => some ⟨.any, Value.nilFunc, 8, 0⟩
  | 2 => some ⟨.int .i64, (0 : Int), 8, 0⟩
  | 3 => some ⟨.int .i64, (0 : Int), 8, 0⟩
  | 4 => some ⟨.bool, false, 1, 0⟩
  | 5 => some ⟨.int .u8, (0 : Int), 1, 0⟩
  | 9 => some ⟨.str, ByteArray.empty, 16, 0⟩
  | 12 => some ⟨.int .u64, (0 : Int), 8, 0⟩
  | 20 => some ⟨.err, true, 16, 0⟩
  | 21 => some ⟨.int .i32, (0 : Int), 4, 0⟩
  | 22 => some ⟨.slice (.struct (.prod (.bool) (.prod (.slice (.struct (.prod (.int .i64) (.prod (.int .i64) (.unit))))) (.unit)))), [], 24, 32⟩
  | 23 => some ⟨.slice (.slice (.int .i64)), [], 24, 24⟩
  | 24 => some ⟨.any, Value.nilFunc, 8, 0⟩
  | 25 => some ⟨.any, Value.nilFunc, 8, 0⟩
  | 26 => some ⟨.any, Value.nilFunc, 8, 0⟩
  | 27 => some ⟨.int .i64, (0 : Int), 8, 0⟩
  | 29 => some ⟨.any, Value.nilFunc, 8, 0⟩
  | 31 => some ⟨.any, Value.nilFunc, 8, 0⟩
  | 32 => some ⟨.any, Value.nilFunc, 8, 0⟩
  | 33 => some ⟨.any, Value.nilFunc, 8, 0⟩
  | 34 => some ⟨.any, Value.nilFunc, 8, 0⟩
  | 35 => some ⟨.slice (.int .i64), [], 24, 8⟩
  | 36 => some ⟨.slice (.int .u8), [], 24, 1⟩
  | 38 => some ⟨.any, Value.nilFunc, 8, 0⟩
  | 39 => some ⟨.any, Value.nilFunc, 8, 0⟩
  | 40 => some ⟨.any, Value.nilFunc, 8, 0⟩
  | 41 => some ⟨.slice (.struct (.prod (.int .i64) (.prod (.int .i64) (.unit)))), [], 24, 16⟩
  | 42 => some ⟨.struct (.prod (.bool) (.prod (.slice (.struct (.prod (.int .i64) (.prod (.int .i64) (.unit))))) (.unit))), (false, ([], ())), 32, 0⟩
  | 43 => some ⟨.struct (.prod (.bool) (.prod (.slice (.struct (.prod (.int .i64) (.prod (.int .i64) (.unit))))) (.unit))), (false, ([], ())), 32, 0⟩
  | 44 => some ⟨.any, Value.nilFunc, 8, 0⟩
  | 45 => some ⟨.struct (.prod (.int .i64) (.prod (.int .i64) (.unit))), ((0 : Int), ((0 : Int), ())), 16, 0⟩
  | 46 => some ⟨.struct (.prod (.int .i64) (.prod (.int .i64) (.unit))), ((0 : Int), ((0 : Int), ())), 16, 0⟩
  | 47 => some ⟨.any, Value.nilFunc, 8, 0⟩
  | 48 => some ⟨.any, Value.nilFunc, 8, 0⟩
  | 49 => some ⟨.any, Value.nilFunc, 8, 0⟩
  | 51 => some ⟨.any, Value.nilFunc, 8, 0⟩
  | 52 => some ⟨.any, Value.nilFunc, 8, 0⟩
  | 53 => some ⟨.any, Value.nilFunc, 8, 0⟩
  | 54 => some ⟨.any, Value.nilFunc, 8, 0⟩
  | 55 => some ⟨.any, Value.nilFunc, 8, 0⟩
  | 56 => some ⟨.any, Value.nilFunc, 8, 0⟩
  | 57 => some ⟨.any, Value.nilFunc, 8, 0⟩
  | 58 => some ⟨.any, Value.nilFunc, 8, 0⟩
  | 59 => some ⟨.any, Value.nilFunc, 8, 0⟩
  | 60 => some ⟨.any, Value.nilFunc, 8, 0⟩
  | 61 => some ⟨.any, Value.nilFunc, 8, 0⟩
  | 62 => some ⟨.any, Value.nilFunc, 8, 0⟩
  | 63 => some ⟨.any, Value.nilFunc, 8, 0⟩
  | 64 => some ⟨.any, Value.nilFunc, 8, 0⟩
  | 65 => some ⟨.any, Value.nilFunc, 8, 0⟩
  | 66 => some ⟨.any, Value.nilFunc, 8, 0⟩
  | 67 => some ⟨.any, Value.nilFunc, 8, 0⟩
  | 68 => some ⟨.any, Value.nilFunc, 8, 0⟩
  | 69 => some ⟨.any, Value.nilFunc, 8, 0⟩
  | 70 => some ⟨.int .u64, (0 : Int), 8, 0⟩
  | 71 => some ⟨.any, Value.nilFunc, 8, 0⟩
  | 72 => some ⟨.int .u32, (0 : Int), 4, 0⟩
  | 73 => some ⟨.any, Value.nilFunc, 8, 0⟩
  | 74 => some ⟨.int .i64, (0 : Int), 8, 0⟩
  | 76 => some ⟨.any, Value.nilFunc, 8, 0⟩
  | 77 => some ⟨.any, Value.nilFunc, 8, 0⟩
  | 78 => some ⟨.any, Value.nilFunc, 8, 0⟩
  | 79 => some ⟨.any, Value.nilFunc, 8, 0⟩
  | 80 => some ⟨.any, Value.nilFunc, 8, 0⟩
  | 81 => some ⟨.any, Value.nilFunc, 8, 0⟩
  | 82 => some ⟨.int .u64, (0 : Int), 8, 0⟩
  | 83 => some ⟨.int .u64, (0 : Int), 8, 0⟩
  | 84 => some ⟨.any, Value.nilFunc, 8, 0⟩
  | 85 => some ⟨.any, Value.nilFunc, 8, 0⟩
  | 86 => some ⟨.any, Value.nilFunc, 8, 0⟩
  | 87 => some ⟨.any, (Value.pointer none), 8, 0⟩
  | 88 => some ⟨.any, Value.nilFunc, 8, 0⟩
  | 89 => some ⟨.any, (Value.pointer none), 8, 0⟩
  | 91 => some ⟨.any, Value.nilFunc, 8, 0⟩
  | 92 => some ⟨.any, Value.nilFunc, 8, 0⟩
  | 98 => some ⟨.any, Value.nilFunc, 8, 0⟩
  | 101 => some ⟨.any, Value.nilFunc, 8, 0⟩
  | 102 => some ⟨.any, (Value.pointer none), 8, 0⟩
  | _ => none
/-- Of a slice's type: an element's zero value. -/
def ezs : Nat → Option (Σ t : Ty, t.den)
  | 22 => some ⟨.struct (.prod (.bool) (.prod (.slice (.struct (.prod (.int .i64) (.prod (.int .i64) (.unit))))) (.unit))), (false, ([], ()))⟩
  | 23 => some ⟨.slice (.int .i64), []⟩
  | 35 => some ⟨.int .i64, (0 : Int)⟩
  | 36 => some ⟨.int .u8, (0 : Int)⟩
  | 41 => some ⟨.struct (.prod (.int .i64) (.prod (.int .i64) (.unit))), ((0 : Int), ((0 : Int), ()))⟩
  | _ => none
/-- The structs of which two may be compared. -/
def eqs (i : Nat) : Bool := [45, 46].contains i
/-- The maps' types. -/
def emps : Nat → Option (Σ _ : Ty, Σ v : Ty, v.den)
  | 50 => some ⟨.struct (.prod (.int .i64) (.prod (.int .i64) (.unit))), .int .i64, (0 : Int)⟩
  | _ => none
def tys : List (Option TyE) := (List.range 108).map tyAt

set_option maxRecDepth 100000 in
theorem tysOk : TysOk Try.prog tys := by
  intro i e h
  have hi : i < 108 := by
    have := (List.getElem?_eq_some_iff.1 h).1
    simpa [tys] using this
  simp only [tys, List.getElem?_map, List.getElem?_range hi, Option.map_some, Option.some.injEq] at h
  unfold tyAt at h
  split at h
  all_goals first | cases h; done | (injection h with h; subst h; exact ⟨by kernel_rfl, by kernel_rfl, by kernel_rfl, by first | kernel_rfl | trivial⟩)

/-- All that is told of functions is so. -/
def OOk (O : Nat → Option Orc) : Prop := ∀ f o, O f = some o → OrcOk Try.prog f o
def Oadd (O : Nat → Option Orc) (f : Nat) (o : Orc) : Nat → Option Orc := fun g => if g = f then some o else O g
theorem OOk.none : OOk (fun _ => Option.none) := fun _ _ h => by cases h
theorem OOk.add {O : Nat → Option Orc} {f : Nat} {o : Orc} (h : OOk O) (ho : OrcOk Try.prog f o) : OOk (Oadd O f o) := by
  intro g p e
  unfold Oadd at e
  split at e
  · rename_i hg
    subst hg
    cases e
    exact ho
  · exact h g p e

noncomputable def eqAt (i : Nat) : Bool := !(eqs i) || (match tys.getD i none with
  | some e => eqB Try.prog e.t i && (decide (e.t.deep ≤ 10000) && !(Try.prog.eqGuardType Try.prog.depth i))
  | none => true)
theorem eqAll : (List.range tys.length).all eqAt = true := by kernel_rfl
theorem eqsOk {C : Ctx} (h1 : C.E = eqs) (h2 : C.tys = tys) : EOk Try.prog C := by
  intro i e hE he
  rw [h1] at hE
  unfold Ctx.ty at he
  rw [h2] at he
  have hi : i < tys.length := by
    rcases Nat.lt_or_ge i tys.length with h | h
    · exact h
    · rw [List.getD_eq_getElem?_getD, List.getElem?_eq_none h] at he
      cases he
  have := List.all_eq_true.1 eqAll i (List.mem_range.2 hi)
  unfold eqAt at this
  rw [hE, he] at this
  simp only [Bool.not_true, Bool.false_or, Bool.and_eq_true, decide_eq_true_eq, Bool.not_eq_true'] at this
  exact ⟨this.1, this.2.1, this.2.2⟩
noncomputable def mpOf (P : Program) (T : Nat) : Option (Option Value) := match P.underlying T with
  | some (.map _ ei) => (P.info? ei).map (·.zero)
  | _ => Option.none
noncomputable def mpB (P : Program) (T : Nat) (k v : Ty) : Bool := match P.underlying T with
  | some (.map ki ei) => tyB P k ki && (eqB P k ki && (decide (k.deep ≤ 10000) && tyB P v ei))
  | _ => false
theorem mp_ok {P : Program} {T : Nat} {m : Σ k : Ty, Σ v : Ty, v.den} (h : mpOf P T = some (some (zval m.2.1 m.2.2))) (h2 : mpB P T m.1 m.2.1 = true) (h3 : zB m.2.1 m.2.2 = true) :
    ∃ ki ei inf, P.underlying T = some (.map ki ei) ∧ tyB P m.1 ki = true ∧ eqB P m.1 ki = true ∧ m.1.deep ≤ 10000 ∧ tyB P m.2.1 ei = true ∧ P.info? ei = some inf ∧ inf.zero = some (zval m.2.1 m.2.2) ∧ zB m.2.1 m.2.2 = true := by
  unfold mpOf at h
  unfold mpB at h2
  split at h
  · rename_i ki ei hu
    rw [hu] at h2
    simp only [Bool.and_eq_true, decide_eq_true_eq] at h2
    rw [Option.map_eq_some_iff] at h
    obtain ⟨inf, hi, hz⟩ := h
    exact ⟨ki, ei, inf, hu, h2.1, h2.2.1, h2.2.2.1, h2.2.2.2, hi, hz, h3⟩
  · cases h
theorem empsOk : MpOk Try.prog emps := by
  intro T m h
  unfold emps at h
  split at h
  all_goals first | cases h; done | (injection h with h; subst h; exact mp_ok (by kernel_rfl) (by kernel_rfl) (by kernel_rfl))

abbrev Lp := Nat → Option (Nat × List Nat × (List X → Hp → Tr (Ex × List X × Hp)))
def noL : Lp := fun _ => Option.none
def Cx (A : Ar) (O : Nat → Option Orc) (L : Lp) : Ctx := { A := A, tys := tys, O := O, L := L, E := eqs, Mp := emps }
theorem Cx.ok {O : Nat → Option Orc} (h : OOk O) (L : Lp) : COk Try.prog (Cx Ar.real O L) := ⟨rfl, tysOk, h, fun _ _ e => (by cases e), fun _ _ e => (by cases e), eqsOk rfl rfl, empsOk⟩
def ezOf (P : Program) (T : Nat) : Option (Option Value) := match P.underlying T with
  | some (.slice ei) => (P.info? ei).map (·.zero)
  | _ => Option.none
theorem ezOf_ok {P : Program} {T : Nat} {z : Σ t : Ty, t.den} (h : ezOf P T = some (some (zval z.1 z.2))) (h2 : zB z.1 z.2 = true) (h3 : 0 < z.1.size) :
    ∃ ei inf, P.underlying T = some (.slice ei) ∧ P.info? ei = some inf ∧ inf.zero = some (zval z.1 z.2) ∧ zB z.1 z.2 = true ∧ 0 < z.1.size := by
  unfold ezOf at h
  split at h
  · rename_i ei hu
    rw [Option.map_eq_some_iff] at h
    obtain ⟨inf, hi, hz⟩ := h
    exact ⟨ei, inf, hu, hi, hz, h2, h3⟩
  · cases h
theorem ezsOk : ZOk Try.prog ezs := by
  intro T z h
  unfold ezs at h
  split at h
  all_goals first | cases h; done | (injection h with h; subst h; exact ezOf_ok (by kernel_rfl) (by kernel_rfl) (by decide))
/-- The same, slices being written in place: 'M' says what is done to a place ahead of the operation that writes 'dst'. -/
def CxM (A : Ar) (O : Nat → Option Orc) (L : Lp) (M : Nat → Nat) : Ctx := { A := A, tys := tys, O := O, L := L, E := eqs, Mp := emps, M := M, Z := ezs }
theorem CxM.ok {O : Nat → Option Orc} (h : OOk O) (L : Lp) (M : Nat → Nat) : COk Try.prog (CxM Ar.real O L M) := ⟨rfl, tysOk, h, fun _ _ e => (by cases e), ezsOk, eqsOk rfl rfl, empsOk⟩

/-- The same, some regions being told. -/
abbrev Jt := Nat → Option (Nat × List Nat × (List X → Hp → Tr (List X × Hp)))
def CxJ (A : Ar) (O : Nat → Option Orc) (L : Lp) (M : Nat → Nat) (J : Jt) : Ctx := { A := A, tys := tys, O := O, L := L, E := eqs, Mp := emps, M := M, Z := ezs, J := J }
theorem CxJ.ok {O : Nat → Option Orc} (h : OOk O) (L : Lp) (M : Nat → Nat) (J : Jt) : COk Try.prog (CxJ Ar.real O L M J) := ⟨rfl, tysOk, h, fun _ _ e => (by cases e), ezsOk, eqsOk rfl rfl, empsOk⟩

/-- The same; of some operations it is told that they lead to no variable. -/
def CxF (A : Ar) (O : Nat → Option Orc) (L : Lp) (M : Nat → Nat) (J : Jt) (far : Nat → Bool) : Ctx := { A := A, tys := tys, O := O, L := L, E := eqs, Mp := emps, M := M, Z := ezs, J := J, far := far }
theorem CxF.ok {O : Nat → Option Orc} (h : OOk O) (L : Lp) (M : Nat → Nat) (J : Jt) (far : Nat → Bool) : COk Try.prog (CxF Ar.real O L M J far) := ⟨rfl, tysOk, h, fun _ _ e => (by cases e), ezsOk, eqsOk rfl rfl, empsOk⟩

/-- Rounds of ranges over functions. -/
abbrev Yt := Nat → Option (Nat → List X → List X → Hp → Tr (Bool × Hp))
def noY : Yt := fun _ => Option.none
def YOk (Y : Yt) : Prop := ∀ key F, Y key = some F → YldOk Try.prog key fun id tms args H => (F id tms args H).run some
theorem YOk.none : YOk noY := fun _ _ h => by cases h
/-- The same with rounds; a function in which ranges over functions stand; a round itself. -/
def CxG (A : Ar) (O : Nat → Option Orc) (L : Lp) (Y : Yt) (K : Nat → Option Nat) (ins : Bool) : Ctx := { A := A, tys := tys, O := O, L := L, E := eqs, Mp := emps, Y := Y, K := K, ins := ins }
theorem CxG.ok {O : Nat → Option Orc} (h : OOk O) (L : Lp) {Y : Yt} (hy : YOk Y) (K : Nat → Option Nat) (ins : Bool) : COk Try.prog (CxG Ar.real O L Y K ins) := ⟨rfl, tysOk, h, hy, fun _ _ e => (by cases e), eqsOk rfl rfl, empsOk⟩

theorem mixed : Try.prog.follows .mixedOrders = true := by kernel_rfl
end Go.Proofs.Ytnbfiifkaddehaa.V


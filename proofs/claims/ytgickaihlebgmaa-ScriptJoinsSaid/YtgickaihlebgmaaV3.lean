/-
  What the evaluator tells is so: the ground: what is known of the types, of the variables that have an address, of the ghost's steps.
  It speaks of whatever program; no condition.
-/
import Derived.Test.YtgickaihlebgmaaV2
namespace Go.Proofs.Ytgickaihlebgmaa.V
open Go
set_option linter.unusedVariables false

/-! ### Types -/
def szB (P : Program) (n : Nat) (i : Nat) : Bool := match P.info? i with
  | some inf => inf.size == n && (match inf.zero with | some z => z.cells.size == n | none => false)
  | none => false

mutual
def tyB (P : Program) : Ty → Nat → Bool
  | .int k, i => szB P 1 i && (match P.underlying i with | some (.int k') => k' == k | _ => false)
  | .bool, i => szB P 1 i && (match P.underlying i with | some .bool => true | _ => false)
  | .str, i => szB P 1 i && (match P.underlying i with | some .string => true | _ => false)
  | .any, i => szB P 1 i && (match P.underlying i with | some (.struct _) => false | some (.array _ _) => false | some _ => true | none => false)
  | .slice e, i => szB P 1 i && (match P.underlying i with | some (.slice ei) => tyB P e ei && decide (0 < e.size) | _ => false)
  | .arr n e, i => szB P (n * e.size) i && (match P.underlying i with | some (.array n' ei) => n' == n && tyB P e ei | _ => false)
  | .struct c, i => szB P c.size i && (match P.underlying i with | some (.struct fs) => chB P c fs.toList 0 | _ => false)
  | .unit, _ => false
  | .prod _ _, _ => false
def chB (P : Program) : Ty → List Field → Nat → Bool
  | .unit, fs, _ => fs.isEmpty
  | .prod a b, fs, off => match fs with
    | f :: rest => f.offset == off && tyB P a f.type && chB P b rest (off + a.size)
    | [] => false
  | _, _, _ => false
end

theorem szB_iff {P : Program} {n i : Nat} (h : szB P n i = true) : ∃ inf z, P.info? i = some inf ∧ inf.size = n ∧ inf.zero = some z ∧ z.cells.size = n := by
  unfold szB at h
  split at h
  · rename_i inf hi
    simp only [Bool.and_eq_true, beq_iff_eq] at h
    obtain ⟨h1, h2⟩ := h
    split at h2
    · rename_i z hz
      exact ⟨inf, z, hi, h1, hz, by simpa using h2⟩
    · cases h2
  · cases h

theorem tyB_sz {P : Program} : ∀ {t : Ty} {i : Nat}, tyB P t i = true → szB P t.size i = true
  | .int _, _, h | .bool, _, h | .str, _, h | .any, _, h | .slice _, _, h | .arr _ _, _, h | .struct _, _, h => by
    simp only [tyB, Bool.and_eq_true] at h
    exact h.1

theorem tyB_info {P : Program} {t : Ty} {i : Nat} (h : tyB P t i = true) : ∃ inf z, P.info? i = some inf ∧ inf.size = t.size ∧ inf.zero = some z ∧ z.cells.size = t.size := szB_iff (tyB_sz h)

theorem tyB_int {P : Program} {k : IntKind} {i : Nat} (h : tyB P (.int k) i = true) : P.underlying i = some (.int k) := by
  simp only [tyB, Bool.and_eq_true] at h
  obtain ⟨_, h⟩ := h
  split at h
  · rename_i k' hk; rw [hk]; simp at h; rw [h]
  · cases h
theorem tyB_bool {P : Program} {i : Nat} (h : tyB P .bool i = true) : P.underlying i = some .bool := by
  simp only [tyB, Bool.and_eq_true] at h
  obtain ⟨_, h⟩ := h
  split at h
  · assumption
  · cases h
theorem tyB_str {P : Program} {i : Nat} (h : tyB P .str i = true) : P.underlying i = some .string := by
  simp only [tyB, Bool.and_eq_true] at h
  obtain ⟨_, h⟩ := h
  split at h
  · assumption
  · cases h
theorem tyB_slice {P : Program} {e : Ty} {i : Nat} (h : tyB P (.slice e) i = true) : ∃ ei, P.underlying i = some (.slice ei) ∧ tyB P e ei = true ∧ 0 < e.size := by
  simp only [tyB, Bool.and_eq_true] at h
  obtain ⟨_, h⟩ := h
  split at h
  · rename_i ei he
    simp only [Bool.and_eq_true, decide_eq_true_eq] at h
    exact ⟨ei, he, h⟩
  · cases h
theorem tyB_arr {P : Program} {n : Nat} {e : Ty} {i : Nat} (h : tyB P (.arr n e) i = true) : ∃ ei, P.underlying i = some (.array n ei) ∧ tyB P e ei = true := by
  simp only [tyB, Bool.and_eq_true] at h
  obtain ⟨_, h⟩ := h
  split at h
  · rename_i n' ei he
    simp only [Bool.and_eq_true, beq_iff_eq] at h
    obtain ⟨rfl, h⟩ := h
    exact ⟨ei, he, h⟩
  · cases h
theorem tyB_struct {P : Program} {c : Ty} {i : Nat} (h : tyB P (.struct c) i = true) : ∃ fs, P.underlying i = some (.struct fs) ∧ chB P c fs.toList 0 = true := by
  simp only [tyB, Bool.and_eq_true] at h
  obtain ⟨_, h⟩ := h
  split at h
  · rename_i fs he; exact ⟨fs, he, h⟩
  · cases h

theorem cellsOf_ty {P : Program} {t : Ty} {i : Nat} (h : tyB P t i = true) : P.cellsOf i = t.size := by
  obtain ⟨inf, z, h1, h2, _⟩ := tyB_info h
  simp [Program.cellsOf, h1, h2]

/-- Field j of a struct. -/
theorem chB_at {P : Program} : ∀ {c : Ty} {fs : List Field} {off : Nat}, chB P c fs off = true → ∀ {j : Nat} {o : Nat} {t : Ty}, chainAt c j = some (o, t) → ∃ f, fs[j]? = some f ∧ f.offset = off + o ∧ tyB P t f.type = true
  | .prod a b, [], off, h, _, _, _, _ => by simp [chB] at h
  | .prod a b, f :: rest, off, h, 0, o, t, e => by
    simp only [chB, Bool.and_eq_true, beq_iff_eq] at h
    simp only [chainAt, Option.some.injEq, Prod.mk.injEq] at e
    obtain ⟨rfl, rfl⟩ := e
    exact ⟨f, rfl, by simpa using h.1.1, h.1.2⟩
  | .prod a b, f :: rest, off, h, j + 1, o, t, e => by
    simp only [chB, Bool.and_eq_true, beq_iff_eq] at h
    simp only [chainAt, Option.map_eq_some_iff] at e
    obtain ⟨⟨o', t'⟩, e1, e2⟩ := e
    simp only [Prod.mk.injEq] at e2
    obtain ⟨rfl, rfl⟩ := e2
    obtain ⟨f', h1, h2, h3⟩ := chB_at h.2 e1
    exact ⟨f', by simpa using h1, by rw [h2]; omega, h3⟩
  | .unit, _, _, _, _, _, _, e => by simp [chainAt] at e
  | .int _, _, _, h, _, _, _, _ => by simp [chB] at h
  | .bool, _, _, h, _, _, _, _ => by simp [chB] at h
  | .str, _, _, h, _, _, _, _ => by simp [chB] at h
  | .any, _, _, h, _, _, _, _ => by simp [chB] at h
  | .slice _, _, _, h, _, _, _, _ => by simp [chB] at h
  | .arr _ _, _, _, h, _, _, _, _ => by simp [chB] at h
  | .struct _, _, _, h, _, _, _, _ => by simp [chB] at h

/-- The zero value of a kind, as a value. -/
def zcells : (t : Ty) → t.den → List Value
  | .int k, x => [.int k x]
  | .bool, x => [.bool x]
  | .str, x => [.string x]
  | .any, x => [x]
  | .slice _, _ => [.slice none 0 0]
  | .arr _ e, l => (List.map (zcells e) l).flatten
  | .struct c, x => zcells c x
  | .unit, _ => []
  | .prod a b, x => zcells a x.1 ++ zcells b x.2

def zval (t : Ty) (x : t.den) : Value := if t.isAgg then .agg (zcells t x).toArray else (zcells t x).headD undef

/-- Zero values: nil slices alone, arrays of the right length. -/
def zB : (t : Ty) → t.den → Bool
  | .slice _, l => List.isEmpty l
  | .arr n e, l => List.length l == n && List.all l (zB e)
  | .struct c, x => zB c x
  | .prod a b, x => zB a x.1 && zB b x.2
  | .any, x => Value.oneCell' x
  | _, _ => true

/-- A type's row fits the program. -/
def TyE.ok (P : Program) (e : TyE) (i : Nat) : Prop :=
  tyB P e.t i = true ∧ ((P.info? i).map fun inf => (inf.zero, inf.bytes)) = some (some (zval e.t e.z), e.bytes) ∧ zB e.t e.z = true ∧
    (match P.underlying i with | some (.slice ei) => (P.info? ei).map (·.bytes) = some e.eb | _ => True)

def TysOk (P : Program) (tys : List (Option TyE)) : Prop := ∀ (i : Nat) (e : TyE), tys[i]? = some (some e) → e.ok P i

theorem Ctx.ty_ok {P : Program} {C : Ctx} (h : TysOk P C.tys) {i : Nat} {e : TyE} (he : C.ty i = some e) : e.ok P i := by
  refine h i e ?_
  unfold Ctx.ty at he
  rw [List.getD_eq_getElem?_getD] at he
  cases hx : C.tys[i]? with
  | none => rw [hx] at he; cases he
  | some x => rw [hx] at he; simp at he; rw [he]

theorem zcells_rep {w : World} {g : Ghost} : ∀ (t : Ty) (x : t.den), zB t x = true → RepC w g t x (zcells t x)
  | .int _, _, _ => rfl
  | .bool, _, _ => rfl
  | .str, _, _ => rfl
  | .any, _, h => ⟨rfl, h⟩
  | .slice e, l, h => by
    have hl : l = [] := by simpa [zB] using h
    subst hl
    exact ⟨none, 0, rfl, Nat.le_refl _, fun i hi => absurd hi (by simp)⟩
  | .arr n e, l, h => by
    simp only [zB, Bool.and_eq_true, beq_iff_eq] at h
    refine ⟨h.1, ?_⟩
    have h2 := h.2
    clear h
    show Parts (RepC w g e) l (List.map (zcells e) l).flatten
    revert h2
    induction l with
    | nil => intro _; rfl
    | cons y l ih =>
      intro h2
      rw [List.all_cons, Bool.and_eq_true] at h2
      exact ⟨_, _, rfl, zcells_rep e y h2.1, ih h2.2⟩
  | .struct c, x, h => zcells_rep c x h
  | .unit, _, _ => rfl
  | .prod a b, x, h => by
    simp only [zB, Bool.and_eq_true] at h
    exact ⟨_, _, rfl, zcells_rep a x.1 h.1, zcells_rep b x.2 h.2⟩

/-! ### Values and their cells -/
theorem IsVal.cells {t : Ty} {cs : List Value} {v : Value} (h : IsVal t cs v) (h1 : t.isAgg = false → v.oneCell' = true) : v.cells.toList = cs := by
  unfold IsVal at h
  split at h
  · subst h; simp [Value.cells]
  · rename_i ha
    subst h
    have := h1 (by simpa using ha)
    cases v <;> simp_all [Value.cells, Value.oneCell']

/-- Cells are no wholes. -/
def Plain (cs : List Value) : Prop := ∀ v ∈ cs, v.oneCell' = true

theorem Parts.plain {α : Type} {R : α → List Value → Prop} (hR : ∀ x cs, R x cs → Plain cs) : ∀ (xs : List α) (cs : List Value), Parts R xs cs → Plain cs
  | [], cs, h => by have h' : cs = [] := h; subst h'; intro v hv; cases hv
  | x :: xs, cs, h => by
    obtain ⟨c1, c2, rfl, h1, h2⟩ := h
    intro v hv
    rcases List.mem_append.1 hv with hv | hv
    · exact hR _ _ h1 v hv
    · exact Parts.plain hR xs c2 h2 v hv

theorem Plain.one {v : Value} (h : v.oneCell' = true) : Plain [v] := by
  intro u hu
  simp at hu
  rw [hu]; exact h

theorem RepC.plain {w : World} {g : Ghost} : ∀ (t : Ty) (x : t.den) (cs : List Value), RepC w g t x cs → Plain cs
  | .int _, _, _, h => by cases h; exact .one rfl
  | .bool, _, _, h => by cases h; exact .one rfl
  | .str, _, _, h => by cases h; exact .one rfl
  | .any, _, _, h => by cases h.1; exact .one h.2
  | .slice _, _, _, h => by obtain ⟨_, _, rfl, _⟩ := h; exact .one rfl
  | .arr n e, xs, cs, h => Parts.plain (RepC.plain e) xs cs h.2
  | .struct c, x, cs, h => RepC.plain c x cs h
  | .unit, _, _, h => by cases h; intro v hv; cases hv
  | .prod a b, x, cs, h => by
    obtain ⟨c1, c2, rfl, h1, h2⟩ := h
    intro v hv
    rcases List.mem_append.1 hv with hv | hv
    · exact RepC.plain a _ _ h1 v hv
    · exact RepC.plain b _ _ h2 v hv

theorem IsVal.cells' {w : World} {g : Ghost} {t : Ty} {x : t.den} {cs : List Value} {v : Value} (h : IsVal t cs v) (hr : RepC w g t x cs) : v.cells.toList = cs :=
  h.cells fun ha => by
    unfold IsVal at h
    rw [if_neg (by simp [ha])] at h
    exact RepC.plain t x cs hr v (by simp [h])

/-- The one value of a kind that these cells make. -/
def valOf (t : Ty) (cs : List Value) : Value := if t.isAgg then .agg cs.toArray else cs.headD undef

theorem isVal_valOf {w : World} {g : Ghost} {t : Ty} {x : t.den} {cs : List Value} (hr : RepC w g t x cs) : IsVal t cs (valOf t cs) := by
  unfold IsVal valOf
  split
  · rfl
  · rename_i ha
    have hl := RepC.length t x cs hr
    have h1 : t.size = 1 := by cases t <;> simp_all [Ty.isAgg, Ty.size]
    match cs, hl with
    | [v], _ => rfl
    | [], hl => simp [h1] at hl
    | _ :: _ :: _, hl => simp [h1] at hl

end Go.Proofs.Ytgickaihlebgmaa.V

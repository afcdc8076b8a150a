/-
  What the evaluator tells is so: literals, lengths, least and greatest, and appends as operations.
  It speaks of whatever program; no condition.
-/
import Derived.Test.YtnjjloffhbfenaaV13
namespace Go.Proofs.Ytnjjloffhbfenaa.V
open Go
set_option linter.unusedVariables false
set_option linter.unusedSimpArgs false

section
variable {P : Program} {C : Ctx} {dst : Option Nat} {ty : Nat} {pos : String} {af : Array Edge} {gd : Option (Nat × Bool)}

theorem toD_rep {g w} {dh : Nat} {κ : Key} {t : Ty} {x : X} {v : Value} {y : t.den} (h : RepX g w dh κ x v) (e : toD t x = some y) : RepC w g t y v.cells.toList := by
  cases x
  case d t' x =>
    have e' : castTo t' t x = some y := by
      cases t <;> simpa only [V.toD] using e
    obtain ⟨rfl, rfl⟩ := castTo_some e'
    simp only [RepX] at h
    obtain ⟨cs, h1, h2⟩ := h
    rw [h2.cells' h1]
    exact h1
  case sl e0 xs nl own =>
    simp only [RepX] at h
    obtain ⟨a, c, rfl, h2, h3, _⟩ := h
    cases t <;> simp only [V.toD] at e <;> try (cases e; done)
    obtain ⟨e1, rfl⟩ := castTo_some e
    cases e1
    exact ⟨a, c, rfl, h2, h3⟩
  case nils =>
    simp only [RepX] at h
    subst h
    cases t <;> simp only [V.toD] at e <;> try (cases e; done)
    cases e
    exact ⟨none, 0, rfl, Nat.le_refl _, Run.nil⟩
  case agg xs => simp [RepX] at h
  all_goals (cases t <;> simp [V.toD] at e)

/-- A segment written. -/
theorem foldl_set (vs : List Value) : ∀ (off j : Nat) (cells : Array Value) (pre mid post : List Value), cells.toList = pre ++ mid ++ post → pre.length = off + j → mid.length = vs.length →
    ((vs.zipIdx j).foldl (fun cs (p : Value × Nat) => cs.setIfInBounds (off + p.2) p.1) cells).toList = pre ++ vs ++ post := by
  induction vs with
  | nil =>
    intro off j cells pre mid post h1 h2 h3
    have : mid = [] := List.eq_nil_of_length_eq_zero (by simpa using h3)
    subst this
    simpa using h1
  | cons v vs ih =>
    intro off j cells pre mid post h1 h2 h3
    match mid, h3 with
    | m :: mid, h3 =>
      rw [List.zipIdx_cons, List.foldl_cons]
      have := ih off (j + 1) (cells.setIfInBounds (off + j) v) (pre ++ [v]) mid post ?_ (by simp; omega) (by simpa using h3)
      · rw [this]; simp
      · rw [Array.toList_setIfInBounds, h1, ← h2]
        simp

theorem collect_fill {e : Ty} {g w} {dh : Nat} {size : Nat} (hsz : size = e.size) : ∀ (is : List Nat) (xs : List X) (vs : List Value) (start : Nat) (l : List e.den) (cells : Array Value) (pre mid post : List Value),
    collectD e start is xs = some l → (∀ (j : Nat) (x : X) (v : Value), xs[j]? = some x → vs[j]? = some v → ∃ κ, RepX g w dh κ x v) → vs.length = xs.length → cells.toList = pre ++ mid ++ post → pre.length = start * size → mid.length = l.length * size →
    ∃ out cs, Instr.fill (fun i => some (i * size, size)) cells (is.zip vs) = some out ∧ out.toList = pre ++ cs ++ post ∧ Parts (RepC w g e) l cs
  | [], [], vs, start, l, cells, pre, mid, post, h, _, hv, hc, hp, hm => by
    simp only [collectD, Option.some.injEq] at h
    subst h
    have : vs = [] := List.eq_nil_of_length_eq_zero (by simpa using hv)
    subst this
    have : mid = [] := List.eq_nil_of_length_eq_zero (by simpa using hm)
    subst this
    exact ⟨cells, [], by simp [Instr.fill], by simpa using hc, rfl⟩
  | i :: is, x :: xs, [], start, l, cells, pre, mid, post, h, _, hv, _, _, _ => by simp at hv
  | i :: is, x :: xs, v :: vs, start, l, cells, pre, mid, post, h, hr, hv, hc, hp, hm => by
    simp only [collectD] at h
    split at h
    · rename_i hi
      subst hi
      split at h
      · rename_i y hy
        split at h
        · rename_i l' hl'
          simp only [Option.some.injEq] at h
          subst h
          obtain ⟨κ, hx⟩ := hr 0 x v rfl rfl
          have hrep := toD_rep hx hy
          have hlen : v.cells.size = size := by rw [hsz, ← RepC.length e _ _ hrep]; simp
          have hml : mid.length = size + l'.length * size := by rw [hm]; simp [Nat.add_mul, Nat.add_comm]
          obtain ⟨m1, m2, rfl, hm1⟩ : ∃ m1 m2, mid = m1 ++ m2 ∧ m1.length = size := ⟨mid.take size, mid.drop size, (List.take_append_drop _ _).symm, by simp; omega⟩
          have hm2 : m2.length = l'.length * size := by simp at hml; omega
          have hcsz : cells.size = i * size + size + l'.length * size + post.length := by
            have := congrArg List.length hc
            simp at this
            omega
          have hfold : (v.cells.zipIdx.foldl (fun cs (p : Value × Nat) => cs.setIfInBounds (i * size + p.2) p.1) cells).toList = pre ++ v.cells.toList ++ (m2 ++ post) := by
            rw [← Array.foldl_toList, Array.toList_zipIdx]
            refine foldl_set v.cells.toList (i * size) 0 cells pre m1 (m2 ++ post) (by rw [hc]; simp) (by rw [hp]; simp) (by simp [hm1, hlen])
          obtain ⟨out, cs, f1, f2, f3⟩ := collect_fill hsz is xs vs (i + 1) l' _ (pre ++ v.cells.toList) m2 post hl' (fun j x v h1 h2 => hr (j + 1) x v (by simpa using h1) (by simpa using h2)) (by simpa using hv) (by rw [hfold]; simp) (by simp [hp, hlen, Nat.add_mul]) hm2
          refine ⟨out, v.cells.toList ++ cs, ?_, by rw [f2]; simp, ⟨_, _, rfl, hrep, f3⟩⟩
          simp only [List.zip_cons_cons, Instr.fill]
          rw [if_neg (by simp [hlen]; omega)]
          exact f1
        · cases h
      · cases h
    · cases h
  | [], x :: xs, _, _, _, _, _, _, _, h, _, _, _, _, _ => by simp [collectD] at h
  | i :: is, [], _, _, _, _, _, _, _, h, _, _, _, _, _ => by simp [collectD] at h

theorem core_buildSlice (hC : TysOk P C.tys) (T n : Nat) (parts : Array (Nat × Operand)) : CoreOk P C ⟨dst, .buildSlice T n parts, ty, pos, af, gd⟩ := by
  intro R tr g w d dh st a h k r hk
  have ops : (⟨dst, .buildSlice T n parts, ty, pos, af, gd⟩ : Oper).op.operands.toList.map st.val = parts.toList.map fun p => st.val p.2 := by simp [Op.operands]
  rw [ops] at hk
  have hk' : (match C.ty T with
    | some ⟨.slice e, _, _, _⟩ =>
      if n * e.size ≤ 16777216 then
        match collectD e 0 (parts.toList.map (·.1)) (parts.toList.map fun p => st.val p.2) with
        | some l => if l.length = n then k (.sl e l (some false) true) [] st.H else none
        | none => none
      else none
    | _ => none) = some r := hk
  split at hk'
  · rename_i e e1 e2 e3 he
    split at hk'
    · rename_i hn
      split at hk'
      · rename_i l hl
        split at hk'
        · rename_i hln
          obtain ⟨et, hu, ht, hpos⟩ := tyB_slice (Ctx.ty_ok hC he).1
          obtain ⟨inf, z, hi, hs, hz, hzs⟩ := tyB_info ht
          refine ⟨_, _, _, hk', fun next Q hnx => ?_⟩
          let zero : Array Value := if n * e.size = 0 then #[] else z.cells
          let init : Array Value := (Array.range (n * e.size)).map (zero[· % zero.size]!)
          have hinit : init.toList.length = l.length * e.size := by simp [init, hln]
          obtain ⟨out, cs, f1, f2, f3⟩ := collect_fill (g := g) (w := w) (dh := dh) rfl (parts.toList.map (·.1)) (parts.toList.map fun p => st.val p.2) (parts.toList.map fun p => a.eval p.2) 0 l init [] init.toList [] hl (fun j x v h1 h2 => by
            rw [List.getElem?_map, Option.map_eq_some_iff] at h1 h2
            obtain ⟨p, h1, rfl⟩ := h1
            obtain ⟨q, h2, rfl⟩ := h2
            rw [h1] at h2
            cases h2
            exact ⟨_, h.val p.2⟩) (by simp) (by simp) (by simp) hinit
          have hzip : (parts.map fun (i, x) => (i, a.eval x)).toList = (parts.toList.map (·.1)).zip (parts.toList.map fun p => a.eval p.2) := by
            simp [List.zip_map']
          have hol : out.toList.length = n * e.size := by
            rw [f2]
            simp
            rw [Parts.length (RepC.length (w := w) (g := g) e) l cs f3, hln]
          have hrun : (execOp a.eval ⟨dst, .buildSlice T n parts, ty, pos, af, gd⟩).run P w = .ok (.value (.slice (some ⟨w.heap.size, 0, none⟩) n n)) { w with heap := w.heap.push (.cells out et) } := by
            have hlim : ¬ (n * e.size > 2 ^ 24) := by omega
            have hfill : Instr.fill (fun i => some (i * e.size, e.size)) init (parts.map fun (i, x) => (i, a.eval x)).toList = some out := by rw [hzip]; exact f1
            simp only [execOp, Sem.run_bind, Instr.buildSlice, run_underlying hu, Result.andThen_ok, sizeOf, typeInfo, run_program, hi, Sem.run_pure, hs, if_neg hlim]
            by_cases hz0 : n * e.size = 0
            · rw [if_pos hz0]
              have hfill' := hfill
              simp only [init, zero, if_pos hz0] at hfill'
              simp only [Sem.run_bind, Sem.run_pure, Result.andThen_ok, hfill', newRow, run_newObj]
            · rw [if_neg hz0]
              have hfill' := hfill
              simp only [init, zero, if_neg hz0] at hfill'
              simp only [Sem.run_bind, zeroValue, typeInfo, run_program, hi, hz, Sem.run_pure, Result.andThen_ok, hfill', newRow, run_newObj]
          have hf := RepX.fresh (κ := kd ⟨dst, .buildSlice T n parts, ty, pos, af, gd⟩ d) (dh := dh) (b := true) (T := et) (g := g) (w := w) (e := e) (xs := l) (arr := out) (c := n) (cs := cs) f3 h.wf ?_ (by omega) (by simpa using hol) hpos (some false) (fun b hb => by cases hb; rfl) (0, 0) (.inl rfl)
          · rw [hln] at hf
            refine wp_value hrun (hnx _ _ _ hf ?_ ?_ (WF.block h.wf _ _ _))
            · exact Ext.block h.wf _ _ _
            · exact HRep.ext (Ext.block h.wf _ _ _ : Ext _ _ _ _ d (fun _ => False)) h.le (fun e => e) (fun _ _ e => e) rfl h.heap
          · rw [hln]
            rw [List.take_of_length_le (by omega), f2]
            simp
        · cases hk'
      · cases hk'
    · cases hk'
  · cases hk'

end
end Go.Proofs.Ytnjjloffhbfenaa.V

/-
  What the evaluator tells is so: literals, lengths, least and greatest, and appends as operations.
  It speaks of whatever program; no condition.
-/
import Derived.Test.YtgickaihlebgmaaV13
namespace Go.Proofs.Ytgickaihlebgmaa.V
open Go
set_option linter.unusedVariables false
set_option linter.unusedSimpArgs false

section
variable {P : Program} {C : Ctx} {dst : Option Nat} {ty : Nat} {pos : String} {af : Array Edge} {gd : Option (Nat × Bool)}

theorem toD_rep {g w} {dh : Nat} {κ : Key} {t : Ty} {x : X} {v : Value} {y : t.den} (h : RepX g w dh κ x v) (e : toD t x = some y) : RepC w g t y v.cells.toList := by
  cases x
  case d t' x =>
    have e' : castTo t' t x = some y := by
      cases t <;> simpa only [V.toD] using e
    obtain ⟨rfl, rfl⟩ := castTo_some e'
    simp only [RepX] at h
    obtain ⟨cs, h1, h2⟩ := h
    rw [h2.cells' h1]
    exact h1
  case sl e0 xs nl own =>
    simp only [RepX] at h
    obtain ⟨a, c, rfl, h2, h3, _⟩ := h
    cases t <;> simp only [V.toD] at e <;> try (cases e; done)
    obtain ⟨e1, rfl⟩ := castTo_some e
    cases e1
    exact ⟨a, c, rfl, h2, h3⟩
  case nils =>
    simp only [RepX] at h
    subst h
    cases t <;> simp only [V.toD] at e <;> try (cases e; done)
    cases e
    exact ⟨none, 0, rfl, Nat.le_refl _, Run.nil⟩
  case agg xs => simp [RepX] at h
  all_goals (cases t <;> simp [V.toD] at e)

/-- A segment written. -/
theorem foldl_set (vs : List Value) : ∀ (off j : Nat) (cells : Array Value) (pre mid post : List Value), cells.toList = pre ++ mid ++ post → pre.length = off + j → mid.length = vs.length →
    ((vs.zipIdx j).foldl (fun cs (p : Value × Nat) => cs.setIfInBounds (off + p.2) p.1) cells).toList = pre ++ vs ++ post := by
  induction vs with
  | nil =>
    intro off j cells pre mid post h1 h2 h3
    have : mid = [] := List.eq_nil_of_length_eq_zero (by simpa using h3)
    subst this
    simpa using h1
  | cons v vs ih =>
    intro off j cells pre mid post h1 h2 h3
    match mid, h3 with
    | m :: mid, h3 =>
      rw [List.zipIdx_cons, List.foldl_cons]
      have := ih off (j + 1) (cells.setIfInBounds (off + j) v) (pre ++ [v]) mid post ?_ (by simp; omega) (by simpa using h3)
      · rw [this]; simp
      · rw [Array.toList_setIfInBounds, h1, ← h2]
        simp

theorem collect_fill {e : Ty} {g w} {dh : Nat} {size : Nat} (hsz : size = e.size) : ∀ (is : List Nat) (xs : List X) (vs : List Value) (start : Nat) (l : List e.den) (cells : Array Value) (pre mid post : List Value),
    collectD e start is xs = some l → (∀ (j : Nat) (x : X) (v : Value), xs[j]? = some x → vs[j]? = some v → ∃ κ, RepX g w dh κ x v) → vs.length = xs.length → cells.toList = pre ++ mid ++ post → pre.length = start * size → mid.length = l.length * size →
    ∃ out cs, Instr.fill (fun i => some (i * size, size)) cells (is.zip vs) = some out ∧ out.toList = pre ++ cs ++ post ∧ Parts (RepC w g e) l cs
  | [], [], vs, start, l, cells, pre, mid, post, h, _, hv, hc, hp, hm => by
    simp only [collectD, Option.some.injEq] at h
    subst h
    have : vs = [] := List.eq_nil_of_length_eq_zero (by simpa using hv)
    subst this
    have : mid = [] := List.eq_nil_of_length_eq_zero (by simpa using hm)
    subst this
    exact ⟨cells, [], by simp [Instr.fill], by simpa using hc, rfl⟩
  | i :: is, x :: xs, [], start, l, cells, pre, mid, post, h, _, hv, _, _, _ => by simp at hv
  | i :: is, x :: xs, v :: vs, start, l, cells, pre, mid, post, h, hr, hv, hc, hp, hm => by
    simp only [collectD] at h
    split at h
    · rename_i hi
      subst hi
      split at h
      · rename_i y hy
        split at h
        · rename_i l' hl'
          simp only [Option.some.injEq] at h
          subst h
          obtain ⟨κ, hx⟩ := hr 0 x v rfl rfl
          have hrep := toD_rep hx hy
          have hlen : v.cells.size = size := by rw [hsz, ← RepC.length e _ _ hrep]; simp
          have hml : mid.length = size + l'.length * size := by rw [hm]; simp [Nat.add_mul, Nat.add_comm]
          obtain ⟨m1, m2, rfl, hm1⟩ : ∃ m1 m2, mid = m1 ++ m2 ∧ m1.length = size := ⟨mid.take size, mid.drop size, (List.take_append_drop _ _).symm, by simp; omega⟩
          have hm2 : m2.length = l'.length * size := by simp at hml; omega
          have hcsz : cells.size = i * size + size + l'.length * size + post.length := by
            have := congrArg List.length hc
            simp at this
            omega
          have hfold : (v.cells.zipIdx.foldl (fun cs (p : Value × Nat) => cs.setIfInBounds (i * size + p.2) p.1) cells).toList = pre ++ v.cells.toList ++ (m2 ++ post) := by
            rw [← Array.foldl_toList, Array.toList_zipIdx]
            refine foldl_set v.cells.toList (i * size) 0 cells pre m1 (m2 ++ post) (by rw [hc]; simp) (by rw [hp]; simp) (by simp [hm1, hlen])
          obtain ⟨out, cs, f1, f2, f3⟩ := collect_fill hsz is xs vs (i + 1) l' _ (pre ++ v.cells.toList) m2 post hl' (fun j x v h1 h2 => hr (j + 1) x v (by simpa using h1) (by simpa using h2)) (by simpa using hv) (by rw [hfold]; simp) (by simp [hp, hlen, Nat.add_mul]) hm2
          refine ⟨out, v.cells.toList ++ cs, ?_, by rw [f2]; simp, ⟨_, _, rfl, hrep, f3⟩⟩
          simp only [List.zip_cons_cons, Instr.fill]
          rw [if_neg (by simp [hlen]; omega)]
          exact f1
        · cases h
      · cases h
    · cases h
  | [], x :: xs, _, _, _, _, _, _, _, h, _, _, _, _, _ => by simp [collectD] at h
  | i :: is, [], _, _, _, _, _, _, _, h, _, _, _, _, _ => by simp [collectD] at h

theorem core_buildSlice (hC : TysOk P C.tys) (T n : Nat) (parts : Array (Nat × Operand)) : CoreOk P C ⟨dst, .buildSlice T n parts, ty, pos, af, gd⟩ := by
  intro R tr g w d dh st a h k r hk
  have ops : (⟨dst, .buildSlice T n parts, ty, pos, af, gd⟩ : Oper).op.operands.toList.map st.val = parts.toList.map fun p => st.val p.2 := by simp [Op.operands]
  rw [ops] at hk
  have hk' : (match C.ty T with
    | some ⟨.slice e, _, _, _⟩ =>
      if n * e.size ≤ 16777216 then
        match collectD e 0 (parts.toList.map (·.1)) (parts.toList.map fun p => st.val p.2) with
        | some l => if l.length = n then k (.sl e l (some false) true) [] st.H else none
        | none => if e = .any ∧ parts.toList.map (·.1) = List.range n ∧ (parts.toList.map fun p => st.val p.2).all isRef = true then k (.lst ((parts.toList.map fun p => st.val p.2).map X.unown)) [] st.H else none
      else none
    | _ => none) = some r := hk
  split at hk'
  · rename_i e e1 e2 e3 he
    split at hk'
    · rename_i hn
      split at hk'
      · rename_i l hl
        split at hk'
        · rename_i hln
          obtain ⟨et, hu, ht, hpos⟩ := tyB_slice (Ctx.ty_ok hC he).1
          obtain ⟨inf, z, hi, hs, hz, hzs⟩ := tyB_info ht
          refine ⟨_, _, _, hk', fun next Q hnx => ?_⟩
          let zero : Array Value := if n * e.size = 0 then #[] else z.cells
          let init : Array Value := (Array.range (n * e.size)).map (zero[· % zero.size]!)
          have hinit : init.toList.length = l.length * e.size := by simp [init, hln]
          obtain ⟨out, cs, f1, f2, f3⟩ := collect_fill (g := g) (w := w) (dh := dh) rfl (parts.toList.map (·.1)) (parts.toList.map fun p => st.val p.2) (parts.toList.map fun p => a.eval p.2) 0 l init [] init.toList [] hl (fun j x v h1 h2 => by
            rw [List.getElem?_map, Option.map_eq_some_iff] at h1 h2
            obtain ⟨p, h1, rfl⟩ := h1
            obtain ⟨q, h2, rfl⟩ := h2
            rw [h1] at h2
            cases h2
            exact ⟨_, h.val p.2⟩) (by simp) (by simp) (by simp) hinit
          have hzip : (parts.map fun (i, x) => (i, a.eval x)).toList = (parts.toList.map (·.1)).zip (parts.toList.map fun p => a.eval p.2) := by
            simp [List.zip_map']
          have hol : out.toList.length = n * e.size := by
            rw [f2]
            simp
            rw [Parts.length (RepC.length (w := w) (g := g) e) l cs f3, hln]
          have hrun : (execOp a.eval ⟨dst, .buildSlice T n parts, ty, pos, af, gd⟩).run P w = .ok (.value (.slice (some ⟨w.heap.size, 0, none⟩) n n)) { w with heap := w.heap.push (.cells out et) } := by
            have hlim : ¬ (n * e.size > 2 ^ 24) := by omega
            have hfill : Instr.fill (fun i => some (i * e.size, e.size)) init (parts.map fun (i, x) => (i, a.eval x)).toList = some out := by rw [hzip]; exact f1
            simp only [execOp, Sem.run_bind, Instr.buildSlice, run_underlying hu, Result.andThen_ok, sizeOf, typeInfo, run_program, hi, Sem.run_pure, hs, if_neg hlim]
            by_cases hz0 : n * e.size = 0
            · rw [if_pos hz0]
              have hfill' := hfill
              simp only [init, zero, if_pos hz0] at hfill'
              simp only [Sem.run_bind, Sem.run_pure, Result.andThen_ok, hfill', newRow, run_newObj]
            · rw [if_neg hz0]
              have hfill' := hfill
              simp only [init, zero, if_neg hz0] at hfill'
              simp only [Sem.run_bind, zeroValue, typeInfo, run_program, hi, hz, Sem.run_pure, Result.andThen_ok, hfill', newRow, run_newObj]
          have hf := RepX.fresh (κ := kd ⟨dst, .buildSlice T n parts, ty, pos, af, gd⟩ d) (dh := dh) (b := true) (T := et) (g := g) (w := w) (e := e) (xs := l) (arr := out) (c := n) (cs := cs) f3 h.wf ?_ (by omega) (by simpa using hol) hpos (some false) (fun b hb => by cases hb; rfl) (0, 0) (.inl rfl)
          · rw [hln] at hf
            refine wp_value hrun (hnx _ _ _ hf ?_ ?_ (WF.block h.wf _ _ _))
            · exact Ext.block h.wf _ _ _
            · exact HRep.ext (Ext.block h.wf _ _ _ : Ext _ _ _ _ d (fun _ => False)) h.le (fun e => e) (fun _ _ e => e) rfl h.heap
          · rw [hln]
            rw [List.take_of_length_le (by omega), f2]
            simp
        · cases hk'
      · split at hk'
        · rename_i hcond
          obtain ⟨rfl, hidx, href⟩ := hcond
          obtain ⟨et, hu, ht, hpos⟩ := tyB_slice (Ctx.ty_ok hC he).1
          obtain ⟨inf, z, hi, hs, hz, hzs⟩ := tyB_info ht
          have hpl : parts.toList.length = n := by
            have := congrArg List.length hidx
            simpa using this
          have h1 : Ty.any.size = 1 := rfl
          rw [h1] at hs hzs hn
          refine ⟨_, _, _, hk', fun next Q hnx => ?_⟩
          let us : List Value := parts.toList.map fun p => a.eval p.2
          have hul : us.length = n := by simp [us, hpl]
          have hrs : ∀ (ps : List (Nat × Operand)), (ps.map fun p => st.val p.2).all isRef = true → RepXs g w dh ((ps.map fun p => st.val p.2).map X.unown) (ps.map fun p => a.eval p.2) ∧ ∀ v ∈ (ps.map fun p => a.eval p.2), v.oneCell' = true := by
            intro ps
            induction ps with
            | nil => intro _; exact ⟨by simp [RepXs], by simp⟩
            | cons p ps ih =>
              intro hall
              simp only [List.map_cons, List.all_cons, Bool.and_eq_true] at hall
              obtain ⟨i1, i2⟩ := ih hall.2
              have hv := h.val p.2
              refine ⟨?_, ?_⟩
              · simp only [List.map_cons, RepXs]
                exact ⟨_, _, rfl, hv.unown', i1⟩
              · intro v hv'
                simp only [List.map_cons, List.mem_cons] at hv'
                rcases hv' with rfl | hv'
                · cases hx : st.val p.2 <;> rw [hx] at hall hv <;> simp [isRef] at hall
                  · simp only [RepX] at hv
                    obtain ⟨_, _, _, _, e⟩ := hv
                    rw [e]; rfl
                  · simp only [RepX] at hv
                    obtain ⟨_, _, e, _⟩ := hv
                    rw [e]; rfl
                · exact i2 v hv'
          obtain ⟨hrx, hone⟩ := hrs parts.toList href
          have hfill : ∀ (ps : List (Nat × Value)) (start : Nat) (cells : Array Value) (pre mid : List Value), (∀ p ∈ ps, p.2.oneCell' = true) → ps.map (·.1) = List.range' start ps.length → cells.toList = pre ++ mid → pre.length = start → mid.length = ps.length →
              ∃ out, Instr.fill (fun i => some (i * 1, 1)) cells ps = some out ∧ out.toList = pre ++ ps.map (·.2) := by
            intro ps
            induction ps with
            | nil =>
              intro start cells pre mid _ _ hc _ hm
              have : mid = [] := List.eq_nil_of_length_eq_zero (by simpa using hm)
              subst this
              exact ⟨cells, rfl, by simpa using hc⟩
            | cons p ps ih =>
              intro start cells pre mid ho hr hc hp hm
              obtain ⟨i, v⟩ := p
              simp only [List.map_cons, List.length_cons, List.range'_succ, List.cons.injEq] at hr
              obtain ⟨rfl, hr⟩ := hr
              have hv1 := ho (i, v) (by simp)
              have hvc : v.cells = #[v] := by
                cases v <;> simp_all [Value.cells, Value.oneCell']
              match mid, hm with
              | m :: mid, hm =>
                have hcs : cells.size = pre.length + (mid.length + 1) := by
                  have := congrArg List.length hc
                  simpa using this
                obtain ⟨out, o1, o2⟩ := ih (i + 1) (cells.setIfInBounds i v) (pre ++ [v]) mid (fun q hq => ho q (by simp [hq])) hr (by rw [Array.toList_setIfInBounds, hc, ← hp]; simp) (by simp [hp]) (by simpa using hm)
                refine ⟨out, ?_, by rw [o2]; simp⟩
                simp only [Instr.fill, hvc, Nat.mul_one]
                rw [if_neg (by simp; omega)]
                simpa using o1
          let zero : Array Value := if n * 1 = 0 then #[] else z.cells
          let init : Array Value := (Array.range (n * 1)).map (zero[· % zero.size]!)
          have hzip : (parts.map fun (i, x) => (i, a.eval x)).toList = parts.toList.map fun p => (p.1, a.eval p.2) := by simp
          obtain ⟨out, o1, o2⟩ := hfill (parts.toList.map fun p => (p.1, a.eval p.2)) 0 init [] init.toList (fun p hp => by
            obtain ⟨q, hq, rfl⟩ := List.mem_map.1 hp
            exact hone _ (List.mem_map.2 ⟨q, hq, rfl⟩)) (by
              rw [List.map_map, List.length_map, hpl, ← List.range_eq_range']
              exact hidx) (by simp) rfl (by simp [init, hpl])
          have hout : out.toList = us := by rw [o2]; simp [us]
          have hrun : (execOp a.eval ⟨dst, .buildSlice T n parts, ty, pos, af, gd⟩).run P w = .ok (.value (.slice (some ⟨w.heap.size, 0, none⟩) n n)) { w with heap := w.heap.push (.cells out et) } := by
            have hlim : ¬ (n * 1 > 2 ^ 24) := by omega
            have hfl : Instr.fill (fun i => some (i * 1, 1)) init (parts.map fun (i, x) => (i, a.eval x)).toList = some out := by rw [hzip]; exact o1
            simp only [execOp, Sem.run_bind, Instr.buildSlice, run_underlying hu, Result.andThen_ok, sizeOf, typeInfo, run_program, hi, Sem.run_pure, hs, if_neg hlim]
            by_cases hz0 : n * 1 = 0
            · rw [if_pos hz0]
              have hfl' := hfl
              simp only [init, zero, if_pos hz0] at hfl'
              simp only [Sem.run_bind, Sem.run_pure, Result.andThen_ok, hfl', newRow, run_newObj]
            · rw [if_neg hz0]
              have hfl' := hfl
              simp only [init, zero, if_neg hz0] at hfl'
              simp only [Sem.run_bind, zeroValue, typeInfo, run_program, hi, hz, Sem.run_pure, Result.andThen_ok, hfl', newRow, run_newObj]
          have he2 : Ext g w (g.block w.heap.size (kd ⟨dst, .buildSlice T n parts, ty, pos, af, gd⟩ d) n) { w with heap := w.heap.push (.cells out et) } d (fun _ => False) := Ext.block h.wf _ _ _
          refine wp_value hrun (hnx _ _ _ ?_ (Ext.block h.wf _ _ _) (HRep.ext he2 h.le (fun e => e) (fun _ _ e => e) rfl h.heap) (WF.block h.wf _ _ _))
          simp only [RepX]
          refine ⟨some ⟨w.heap.size, 0, none⟩, us, n, by rw [hul], by rw [hul]; exact Nat.le_refl _, RepXs.ext he2 h.le (fun e => e) _ _ hrx, fun i hi => ⟨_, rfl, rfl, ?_, ?_⟩⟩
          · simp only [World.cell?, Nat.zero_add]
            have : out[i]? = some us[i] := by rw [← Array.getElem?_toList, hout, List.getElem?_eq_getElem hi]
            simp [this]
          · simp only [Ghost.block, if_true, Nat.zero_add]
            rw [hul] at hi
            exact hi
        · cases hk'
    · cases hk'
  · cases hk'

/-- One part of a struct put. -/
theorem setD_rep {g w} {dh : Nat} : ∀ (c : Ty) (x : c.den) (cs : List Value) (j : Nat) (v : X) (val : Value) (κ : Key) (y : c.den), RepC w g c x cs → setD c x j v = some y → RepX g w dh κ v val →
    ∃ o a pre mid post, chainAt c j = some (o, a) ∧ cs = pre ++ mid ++ post ∧ pre.length = o ∧ mid.length = a.size ∧ val.cells.toList.length = a.size ∧ RepC w g c y (pre ++ val.cells.toList ++ post)
  | .prod a b, x, cs, 0, v, val, κ, y, h, e, hv => by
    obtain ⟨c1, c2, rfl, h1, h2⟩ := h
    simp only [setD] at e
    split at e
    · rename_i u hu
      cases e
      have hr := toD_rep hv hu
      exact ⟨0, a, [], c1, c2, rfl, rfl, rfl, RepC.length a _ _ h1, RepC.length a _ _ hr, ⟨_, _, rfl, hr, h2⟩⟩
    · cases e
  | .prod a b, x, cs, j + 1, v, val, κ, y, h, e, hv => by
    obtain ⟨c1, c2, rfl, h1, h2⟩ := h
    simp only [setD] at e
    split at e
    · rename_i u hu
      cases e
      obtain ⟨o, t, pre, mid, post, f1, rfl, f3, f4, f5, f6⟩ := setD_rep b x.2 c2 j v val κ u h2 hu hv
      refine ⟨a.size + o, t, c1 ++ pre, mid, post, by simp [chainAt, f1], by simp, by simp [RepC.length a _ _ h1, f3], f4, f5, ?_⟩
      exact ⟨c1, pre ++ val.cells.toList ++ post, by simp, h1, f6⟩
    · cases e
  | .unit, _, _, _, _, _, _, _, _, e, _ | .int _, _, _, _, _, _, _, _, _, e, _ | .bool, _, _, _, _, _, _, _, _, e, _ | .str, _, _, _, _, _, _, _, _, e, _ | .any, _, _, _, _, _, _, _, _, e, _ | .slice _, _, _, _, _, _, _, _, _, e, _ | .arr _ _, _, _, _, _, _, _, _, _, e, _ | .struct _, _, _, _, _, _, _, _, _, e, _ => by
    simp [setD] at e

theorem fold_part {cells : Array Value} {off : Nat} {v : Value} {pre mid post : List Value} (hc : cells.toList = pre ++ mid ++ post) (hp : pre.length = off) (hm : mid.length = v.cells.toList.length) :
    (v.cells.zipIdx.foldl (fun cs (p : Value × Nat) => cs.setIfInBounds (off + p.2) p.1) cells).toList = pre ++ v.cells.toList ++ post := by
  rw [← Array.foldl_toList, Array.toList_zipIdx]
  exact foldl_set v.cells.toList off 0 cells pre mid post hc (by rw [hp]; simp) hm

theorem buildD_fill {g w} {dh : Nat} {c : Ty} {place : Nat → Option (Nat × Nat)} (hplace : ∀ j o a, chainAt c j = some (o, a) → place j = some (o, a.size)) : ∀ (js : List Nat) (xs : List X) (vs : List Value) (x y : c.den) (cells : Array Value),
    buildD c x js xs = some y → (∀ (j : Nat) (x : X) (v : Value), xs[j]? = some x → vs[j]? = some v → ∃ κ, RepX g w dh κ x v) → vs.length = xs.length → RepC w g c x cells.toList →
    ∃ out, Instr.fill place cells (js.zip vs) = some out ∧ RepC w g c y out.toList
  | [], [], vs, x, y, cells, h, _, hv, hc => by
    simp only [buildD, Option.some.injEq] at h
    subst h
    have : vs = [] := List.eq_nil_of_length_eq_zero (by simpa using hv)
    subst this
    exact ⟨cells, rfl, hc⟩
  | j :: js, z :: xs, [], _, _, _, _, _, hv, _ => by simp at hv
  | j :: js, z :: xs, v :: vs, x, y, cells, h, hr, hv, hc => by
    simp only [buildD] at h
    split at h
    · rename_i x' hx'
      obtain ⟨κ, hz⟩ := hr 0 z v rfl rfl
      obtain ⟨o, a, pre, mid, post, f1, f2, f3, f4, f5, f6⟩ := setD_rep c x cells.toList j z v κ x' hc hx' hz
      have hfold := fold_part (cells := cells) (off := o) (v := v) f2 f3 (by rw [f4, f5])
      obtain ⟨out, o1, o2⟩ := buildD_fill hplace js xs vs x' y _ h (fun j x v h1 h2 => hr (j + 1) x v (by simpa using h1) (by simpa using h2)) (by simpa using hv) (by rw [hfold]; exact f6)
      refine ⟨out, ?_, o2⟩
      have hsz : v.cells.size = a.size := by rw [← f5]; simp
      have hcs : cells.size = pre.length + (mid.length + post.length) := by
        have := congrArg List.length f2
        simpa using this
      simp only [List.zip_cons_cons, Instr.fill, hplace j o a f1]
      rw [if_neg (by simp [hsz]; omega)]
      exact o1
    · cases h
  | [], _ :: _, _, _, _, _, h, _, _, _ => by simp [buildD] at h
  | _ :: _, [], _, _, _, _, h, _, _, _ => by simp [buildD] at h

theorem buildA_fill {g w} {dh : Nat} {n : Nat} {e : Ty} : ∀ (js : List Nat) (xs : List X) (vs : List Value) (l y : List e.den) (cells : Array Value),
    buildA n e l js xs = some y → l.length = n → (∀ (j : Nat) (x : X) (v : Value), xs[j]? = some x → vs[j]? = some v → ∃ κ, RepX g w dh κ x v) → vs.length = xs.length → Parts (RepC w g e) l cells.toList →
    ∃ out, Instr.fill (fun i => some (i * e.size, e.size)) cells (js.zip vs) = some out ∧ y.length = n ∧ Parts (RepC w g e) y out.toList
  | [], [], vs, x, y, cells, h, hn, _, hv, hc => by
    simp only [buildA, Option.some.injEq] at h
    subst h
    have : vs = [] := List.eq_nil_of_length_eq_zero (by simpa using hv)
    subst this
    exact ⟨cells, rfl, hn, hc⟩
  | j :: js, z :: xs, [], _, _, _, _, _, _, hv, _ => by simp at hv
  | j :: js, z :: xs, v :: vs, x, y, cells, h, hn, hr, hv, hc => by
    simp only [buildA] at h
    split at h
    · rename_i hj
      split at h
      · rename_i u hu
        obtain ⟨κ, hz⟩ := hr 0 z v rfl rfl
        have hrep := toD_rep hz hu
        have hul := RepC.length e _ _ hrep
        obtain ⟨pre, mid, post, f2, f3, f4, f6⟩ := Parts.at (RepC.length (w := w) (g := g) e) x cells.toList j (by omega) hc
        have hml := RepC.length e _ _ f4
        have hfold := fold_part (cells := cells) (off := j * e.size) (v := v) f2 f3 (by rw [hml, hul])
        obtain ⟨out, o1, o2, o3⟩ := buildA_fill js xs vs (x.set j u) y _ h (by rw [List.length_set]; exact hn) (fun j x v h1 h2 => hr (j + 1) x v (by simpa using h1) (by simpa using h2)) (by simpa using hv) (by rw [hfold]; exact f6 u _ hrep)
        refine ⟨out, ?_, o2, o3⟩
        have hsz : v.cells.size = e.size := by rw [← hul]; simp
        have hcs : cells.size = pre.length + (mid.length + post.length) := by
          have := congrArg List.length f2
          simpa using this
        simp only [List.zip_cons_cons, Instr.fill]
        rw [if_neg (by simp [hsz]; omega)]
        exact o1
      · cases h
    · cases h
  | [], _ :: _, _, _, _, _, h, _, _, _, _ => by simp [buildA] at h
  | _ :: _, [], _, _, _, _, h, _, _, _, _ => by simp [buildA] at h

theorem places_run {w : World} : ∀ (fs : List Field), (∀ f ∈ fs, ∃ inf, P.info? f.type = some inf) → (fs.mapM (fun f => do pure (f.offset, ← sizeOf f.type) : Field → Sem (Nat × Nat))).run P w = .ok (fs.map fun f => (f.offset, P.cellsOf f.type)) w := by
  intro fs
  induction fs with
  | nil => intro _; rfl
  | cons f fs ih =>
    intro h
    obtain ⟨inf, hi⟩ := h f (by simp)
    have ih := ih fun f hf => h f (by simp [hf])
    have hc : P.cellsOf f.type = inf.size := by simp [Program.cellsOf, hi]
    rw [List.mapM_cons]
    simp only [Sem.run_bind, sizeOf, typeInfo, run_program, Result.andThen_ok, hi, Sem.run_pure, List.map_cons, hc]
    simp only [sizeOf, typeInfo] at ih
    rw [ih]
    rfl

theorem chB_info : ∀ (c : Ty) (fs : List Field) (off : Nat), chB P c fs off = true → ∀ f ∈ fs, ∃ inf, P.info? f.type = some inf
  | .unit, fs, off, h => by
    intro f hf
    simp only [chB, List.isEmpty_iff] at h
    rw [h] at hf; cases hf
  | .prod a b, [], off, h => by intro f hf; cases hf
  | .prod a b, f0 :: rest, off, h => by
    simp only [chB, Bool.and_eq_true, beq_iff_eq] at h
    intro f hf
    rcases List.mem_cons.1 hf with rfl | hf
    · obtain ⟨inf, z, hi, _⟩ := tyB_info h.1.2
      exact ⟨inf, hi⟩
    · exact chB_info b rest _ h.2 f hf
  | .int _, _, _, h | .bool, _, _, h | .str, _, _, h | .any, _, _, h | .slice _, _, _, h | .arr _ _, _, _, h | .struct _, _, _, h => by simp [chB] at h

theorem core_build (hC : TysOk P C.tys) (T : Nat) (parts : Array (Nat × Operand)) : CoreOk P C ⟨dst, .build T parts, ty, pos, af, gd⟩ := by
  intro R tr g w d dh st a h k r hk
  have ops : (⟨dst, .build T parts, ty, pos, af, gd⟩ : Oper).op.operands.toList.map st.val = parts.toList.map fun p => st.val p.2 := by simp [Op.operands]
  rw [ops] at hk
  have hk' : (match C.ty T with
    | some ⟨.struct c, z, _, _⟩ => match buildD c z (parts.toList.map (·.1)) (parts.toList.map fun p => st.val p.2) with
      | some x => k (.d (.struct c) x) [] st.H
      | none => none
    | some ⟨.arr n e, z, _, _⟩ => match buildA n e z (parts.toList.map (·.1)) (parts.toList.map fun p => st.val p.2) with
      | some x => k (.d (.arr n e) x) [] st.H
      | none => none
    | _ => none) = some r := hk
  have hvals : ∀ (j : Nat) (x : X) (v : Value), (parts.toList.map fun p => st.val p.2)[j]? = some x → (parts.toList.map fun p => a.eval p.2)[j]? = some v → ∃ κ, RepX g w dh κ x v := fun j x v h1 h2 => by
    rw [List.getElem?_map, Option.map_eq_some_iff] at h1 h2
    obtain ⟨p, h1, rfl⟩ := h1
    obtain ⟨q, h2, rfl⟩ := h2
    rw [h1] at h2
    cases h2
    exact ⟨_, h.val p.2⟩
  have hzip : (parts.map fun (i, x) => (i, a.eval x)).toList = (parts.toList.map (·.1)).zip (parts.toList.map fun p => a.eval p.2) := by
    simp [List.zip_map']
  split at hk'
  · rename_i c z e1 e2 he
    split at hk'
    · rename_i x hx
      have hok := Ctx.ty_ok hC he
      obtain ⟨fs, hu, hch⟩ := tyB_struct hok.1
      obtain ⟨inf, hi, hz, hs, _⟩ := info_zero hok
      have hzr : RepC w g (.struct c) z (zval (.struct c) z).cells.toList := by
        rw [zval_cells hok.2.2.1]
        exact zcells_rep _ z hok.2.2.1
      obtain ⟨out, o1, o2⟩ := buildD_fill (g := g) (w := w) (dh := dh) (c := c) (place := fun j => (fs.map fun f => (f.offset, P.cellsOf f.type))[j]?) (fun j o t hj => by
        obtain ⟨f, f1, f2, f3⟩ := chB_at hch hj
        have : fs[j]? = some f := by simpa using f1
        simp [Array.getElem?_map, this, f2, cellsOf_ty f3]) (parts.toList.map (·.1)) (parts.toList.map fun p => st.val p.2) (parts.toList.map fun p => a.eval p.2) z x (zval (.struct c) z).cells hx hvals (by simp) hzr
      refine ⟨_, _, _, hk', OpWp.same h (val := .agg out) ?_ ?_⟩
      · have hpl : (fs.mapM (fun f => do pure (f.offset, ← sizeOf f.type) : Field → Sem (Nat × Nat))).run P w = .ok (fs.map fun f => (f.offset, P.cellsOf f.type)) w := by
          rw [Array.mapM_eq_mapM_toList, Sem.run_map, places_run (P := P) (w := w) fs.toList (chB_info c fs.toList 0 hch)]
          simp only [Result.andThen_ok]
          congr 1
          apply Array.ext'
          simp
        have hfl : Instr.fill (fun j => (fs.map fun f => (f.offset, P.cellsOf f.type))[j]?) (zval (.struct c) z).cells (parts.map fun (i, x) => (i, a.eval x)).toList = some out := by rw [hzip]; exact o1
        simp only [execOp, Sem.run_bind, Instr.build, zeroValue, typeInfo, run_program, Result.andThen_ok, hi, hz, Sem.run_pure, run_underlying hu, hpl, hfl]
      · simp only [RepX]
        exact ⟨out.toList, o2, by simp [IsVal, Ty.isAgg]⟩
    · cases hk'
  · rename_i n e z e1 e2 he
    split at hk'
    · rename_i x hx
      have hok := Ctx.ty_ok hC he
      obtain ⟨ei, hu, hte⟩ := tyB_arr hok.1
      obtain ⟨inf, hi, hz, hs, _⟩ := info_zero hok
      obtain ⟨infe, ze, hie, hse, _, _⟩ := tyB_info hte
      have hzr : RepC w g (.arr n e) z (zval (.arr n e) z).cells.toList := by
        rw [zval_cells hok.2.2.1]
        exact zcells_rep _ z hok.2.2.1
      obtain ⟨out, o1, o2, o3⟩ := buildA_fill (g := g) (w := w) (dh := dh) (n := n) (e := e) (parts.toList.map (·.1)) (parts.toList.map fun p => st.val p.2) (parts.toList.map fun p => a.eval p.2) z x (zval (.arr n e) z).cells hx hzr.1 hvals (by simp) hzr.2
      refine ⟨_, _, _, hk', OpWp.same h (val := .agg out) ?_ ?_⟩
      · have hfl : Instr.fill (fun i => some (i * e.size, e.size)) (zval (.arr n e) z).cells (parts.map fun (i, x) => (i, a.eval x)).toList = some out := by rw [hzip]; exact o1
        simp only [execOp, Sem.run_bind, Instr.build, zeroValue, sizeOf, typeInfo, run_program, Result.andThen_ok, hi, hz, hie, hse, Sem.run_pure, run_underlying hu, hfl]
      · simp only [RepX]
        exact ⟨out.toList, ⟨o2, o3⟩, by simp [IsVal, Ty.isAgg]⟩
    · cases hk'
  · cases hk'

end
end Go.Proofs.Ytgickaihlebgmaa.V

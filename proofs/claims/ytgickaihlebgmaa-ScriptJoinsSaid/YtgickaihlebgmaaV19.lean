/-
  What the evaluator tells is so: regions that draw their order.
  It speaks of whatever program; no condition.
-/
import Derived.Test.YtgickaihlebgmaaV18
namespace Go.Proofs.Ytgickaihlebgmaa.V
open Go
set_option linter.unusedVariables false
set_option linter.unusedSimpArgs false

theorem opK_nat {R : Type} (C : Ctx) (tr : Bool) (o : Oper) (st : St) (k : St → Option R) : opK C tr o st k = (opK C tr o st some).bind k := by
  unfold opK
  rw [coreK_nat]
  conv => rhs; rw [coreK_nat]
  cases coreK C tr o (o.op.operands.toList.map st.val) st.H fun v c H' => some (v, c, H') <;> rfl

theorem stepG_nat {R : Type} (C : Ctx) (all : List Oper) (o : Oper) (st : St) (k : St → Option R) : stepG C all o st k = (stepG C all o st some).bind k := by
  unfold stepG
  split
  · rw [opK_nat]
  · split
    · rfl
    · split
      · rfl
      · rename_i b _
        cases (b == _)
        · rfl
        · simp only [cond_true]
          rw [opK_nat]
      · rfl

theorem takes_sub (all : List Oper) (o : Oper) : ∀ t ∈ takes all o, t ∈ namesOf all o := by
  intro t ht
  refine List.mem_append_left _ ?_
  obtain ⟨dst, op, ty, pos, af, gd⟩ := o
  cases op <;> simp only [takes] at ht <;> try (cases ht; done)
  case move x => split at ht <;> first | exact ht | cases ht
  case assign x => exact ht
  case box T x => exact ht
  case store T x y =>
    cases y <;> simp at ht
    subst ht
    simp [tmpsOf, Op.operands]
  case convert s1 t1 x =>
    cases x <;> simp at ht
    obtain ⟨_, rfl⟩ := ht
    simp [tmpsOf, Op.operands]
  case call c =>
    obtain ⟨cal, args, tys⟩ := c
    cases cal
    case builtin b =>
      cases b <;> simp only at ht <;> try (cases ht; done)
      split at ht
      · rename_i t' l h1 h2
        simp at ht
        subst ht
        simp [tmpsOf, Op.operands, Call.operands]
        refine ⟨.tmp t, ?_, rfl⟩
        have : Operand.tmp t ∈ args.toList := by rw [h2]; simp
        simpa using this
      · cases ht
    all_goals simp at ht

theorem getElem?_put (st : St) (d : Option Nat) (v : X) (t : Nat) : (st.put d v).tm[t]? = if d = some t then (if t < st.tm.length then some v else none) else st.tm[t]? := by
  cases d with
  | none => simp [St.put]
  | some d =>
    simp only [St.put, Option.some.injEq]
    by_cases h : d = t
    · subst h
      rw [if_pos rfl]
      by_cases hl : d < st.tm.length
      · simp [hl]
      · simp [hl]
    · rw [if_neg h, List.getElem?_set_ne h]

theorem getD_of_getElem? {l l' : List X} {t : Nat} (hl : l.length = l'.length) (h : l.getD t .dead = l'.getD t .dead) : l[t]? = l'[t]? := by
  by_cases ht : t < l.length
  · have ht' : t < l'.length := by omega
    rw [List.getD_eq_getElem?_getD, List.getD_eq_getElem?_getD, List.getElem?_eq_getElem ht, List.getElem?_eq_getElem ht'] at h
    rw [List.getElem?_eq_getElem ht, List.getElem?_eq_getElem ht']
    simpa using h
  · rw [List.getElem?_eq_none (Nat.le_of_not_lt ht), List.getElem?_eq_none (by omega)]

/-- What an operation that is performed turns, and on what it hangs. -/
theorem opK_local {C : Ctx} {all : List Oper} {o : Oper} {st st' : St} (h : opK C (asked all o) o st some = some st') :
    (∀ t, t ∉ turnsOf all o → st'.tm[t]? = st.tm[t]?) ∧ st'.tm.length = st.tm.length ∧ (writesH C all o = false → st'.H = st.H) ∧
    ∀ s : St, (∀ t ∈ namesOf all o, s.tm.getD t .dead = st.tm.getD t .dead) → s.tm.length = st.tm.length → (readsH C o = true ∨ writesH C all o = true → s.H = st.H) →
      ∃ s', opK C (asked all o) o s some = some s' ∧ (∀ t ∈ turnsOf all o, s'.tm[t]? = st'.tm[t]?) ∧ (writesH C all o = true → s'.H = st'.H) := by
  unfold opK at h
  rw [coreK_nat] at h
  rw [Option.bind_eq_some_iff] at h
  obtain ⟨⟨v, cons, H'⟩, h1, h2⟩ := h
  simp only [Option.some.injEq] at h2
  subst h2
  have htk := coreK_takes h1
  refine ⟨fun t ht => ?_, ?_, fun hw => ?_, fun s hs hl hH => ?_⟩
  · rw [getElem?_put]
    simp only [turnsOf, List.mem_append, Option.mem_toList, not_or] at ht
    rw [if_neg ht.1]
    rw [getElem?_unownAll, if_neg (fun e => ht.2 (htk t e))]
  · cases o.dst <;> simp [St.put, length_unownAll]
  · have := coreK_still hw h1
    cases o.dst <;> simpa [St.put] using this
  · have hvals : o.op.operands.toList.map s.val = o.op.operands.toList.map st.val := by
      refine List.map_congr_left fun x hx => ?_
      cases x with
      | tmp t =>
        simp only [St.val]
        refine hs t (List.mem_append_left _ ?_)
        exact List.mem_filterMap.2 ⟨.tmp t, hx, rfl⟩
      | _ => rfl
    have hcore : ∃ H2, coreK C (asked all o) o (o.op.operands.toList.map s.val) s.H (fun v c H' => some (v, c, H')) = some (v, cons, H2) ∧ (writesH C all o = true → H2 = H') := by
      rw [hvals]
      by_cases hr : readsH C o = true ∨ writesH C all o = true
      · rw [hH hr]
        exact ⟨H', h1, fun _ => rfl⟩
      · simp only [not_or, Bool.not_eq_true] at hr
        refine ⟨s.H, ?_, fun e => by rw [hr.2] at e; cases e⟩
        have e1 := coreK_far (k := fun v c H' => some (v, c, H')) (tr := asked all o) (st := st) (H := s.H) (H2 := st.H) hr.1 hr.2
        rw [e1, coreK_nat, h1]
        rfl
    obtain ⟨H2, hc, hHw⟩ := hcore
    refine ⟨St.put { tm := unownAll o.op.operands.toList cons s.tm, H := H2 } o.dst v, ?_, fun t ht => ?_, fun hw => ?_⟩
    · unfold opK
      rw [coreK_nat, hc]
      rfl
    · rw [getElem?_put, getElem?_put]
      simp only [length_unownAll]
      by_cases hd : o.dst = some t
      · rw [if_pos hd, if_pos hd, hl]
      · rw [if_neg hd, if_neg hd]
        simp only [turnsOf, List.mem_append, Option.mem_toList] at ht
        have ht' := takes_sub all o t (ht.resolve_left hd)
        have hst := getD_of_getElem? hl (hs t ht')
        rw [getElem?_unownAll, getElem?_unownAll, hst]
    · have := hHw hw
      cases o.dst <;> simpa [St.put] using this

theorem stepG_local {C : Ctx} {all : List Oper} {o : Oper} {st st' : St} (h : stepG C all o st some = some st') :
    (∀ t, t ∉ turnsOf all o → st'.tm[t]? = st.tm[t]?) ∧ st'.tm.length = st.tm.length ∧ (writesH C all o = false → st'.H = st.H) ∧
    ∀ s : St, (∀ t ∈ namesOf all o, s.tm.getD t .dead = st.tm.getD t .dead) → s.tm.length = st.tm.length → (readsH C o = true ∨ writesH C all o = true → s.H = st.H) →
      ∃ s', stepG C all o s some = some s' ∧ (∀ t ∈ turnsOf all o, s'.tm[t]? = st'.tm[t]?) ∧ (writesH C all o = true → s'.H = st'.H) := by
  have skip : ∀ st', some (st.put o.dst .undef) = some st' → (∀ t ∈ namesOf all o, True) →
      (∀ t, t ∉ turnsOf all o → st'.tm[t]? = st.tm[t]?) ∧ st'.tm.length = st.tm.length ∧ (writesH C all o = false → st'.H = st.H) ∧
      ∀ s : St, (∀ t ∈ namesOf all o, s.tm.getD t .dead = st.tm.getD t .dead) → s.tm.length = st.tm.length → (readsH C o = true ∨ writesH C all o = true → s.H = st.H) →
        (∀ t ∈ turnsOf all o, (s.put o.dst .undef).tm[t]? = st'.tm[t]?) ∧ (writesH C all o = true → (s.put o.dst .undef).H = st'.H) := by
    intro st' e _
    simp only [Option.some.injEq] at e
    subst e
    refine ⟨fun t ht => ?_, by cases o.dst <;> simp [St.put], fun _ => by cases o.dst <;> simp [St.put], fun s hs hl hH => ⟨fun t ht => ?_, fun hw => ?_⟩⟩
    · rw [getElem?_put]
      simp only [turnsOf, List.mem_append, Option.mem_toList, not_or] at ht
      rw [if_neg ht.1]
    · rw [getElem?_put, getElem?_put, hl]
      by_cases hd : o.dst = some t
      · rw [if_pos hd, if_pos hd]
      · rw [if_neg hd, if_neg hd]
        simp only [turnsOf, List.mem_append, Option.mem_toList] at ht
        exact getD_of_getElem? hl (hs t (takes_sub all o t (ht.resolve_left hd)))
    · have := hH (.inr hw)
      cases o.dst <;> simpa [St.put] using this
  unfold stepG at h
  cases hg : o.guard with
  | none =>
    simp only [hg] at h
    obtain ⟨h1, h2, h3, h4⟩ := opK_local h
    refine ⟨h1, h2, h3, fun s hs hl hH => ?_⟩
    obtain ⟨s', k1, k2, k3⟩ := h4 s hs hl hH
    exact ⟨s', by simp only [stepG, hg]; exact k1, k2, k3⟩
  | some p =>
    obtain ⟨j, want⟩ := p
    simp only [hg] at h
    cases ht : (all[j]?).bind (·.dst) with
    | none => simp only [ht] at h; cases h
    | some t =>
      simp only [ht] at h
      have hname : t ∈ namesOf all o := by
        simp only [namesOf, hg, ht]
        simp
      split at h
      · rename_i hx
        obtain ⟨h1, h2, h3, h4⟩ := skip st' h (fun _ _ => trivial)
        refine ⟨h1, h2, h3, fun s hs hl hH => ⟨s.put o.dst .undef, ?_, h4 s hs hl hH⟩⟩
        simp only [stepG, hg, ht, hs t hname, hx]
      · rename_i b hx
        cases hb : (b == want) <;> rw [hb] at h
        · obtain ⟨h1, h2, h3, h4⟩ := skip st' h (fun _ _ => trivial)
          refine ⟨h1, h2, h3, fun s hs hl hH => ⟨s.put o.dst .undef, ?_, h4 s hs hl hH⟩⟩
          simp only [stepG, hg, ht, hs t hname, hx, hb, cond_false]
        · obtain ⟨h1, h2, h3, h4⟩ := opK_local h
          refine ⟨h1, h2, h3, fun s hs hl hH => ?_⟩
          obtain ⟨s', k1, k2, k3⟩ := h4 s hs hl hH
          refine ⟨s', ?_, k2, k3⟩
          simp only [stepG, hg, ht, hs t hname, hx, hb, cond_true]
          exact k1
      · cases h

theorem St.ext' {s t : St} (h1 : ∀ i : Nat, s.tm[i]? = t.tm[i]?) (h2 : s.H = t.H) : s = t := by
  obtain ⟨a, b⟩ := s
  obtain ⟨c, d⟩ := t
  simp only at h2
  subst h2
  congr
  exact List.ext_getElem? h1

/-- Two operations that are apart may be done in either order. -/
theorem step_comm {C : Ctx} {all : List Oper} {x y : Oper} (hap : apartB C all x y = true) {st s1 s12 : St} (h1 : stepG C all x st some = some s1) (h2 : stepG C all y s1 some = some s12) :
    ∃ s2, stepG C all y st some = some s2 ∧ stepG C all x s2 some = some s12 := by
  simp only [apartB, Bool.and_eq_true, List.all_eq_true, Bool.not_eq_true', List.contains_eq_mem, decide_eq_false_iff_not, Bool.and_eq_false_iff, Bool.or_eq_false_iff] at hap
  obtain ⟨⟨⟨a1, a2⟩, a3⟩, a4⟩ := hap
  obtain ⟨x1, x2, x3, x4⟩ := stepG_local h1
  obtain ⟨y1, y2, y3, y4⟩ := stepG_local h2
  have getD_eq : ∀ (l l' : List X) (t : Nat), l[t]? = l'[t]? → l.getD t .dead = l'.getD t .dead := fun l l' t e => by rw [List.getD_eq_getElem?_getD, List.getD_eq_getElem?_getD, e]
  obtain ⟨s2, k1, k2, k3⟩ := y4 st (fun t ht => getD_eq _ _ _ (x1 t (fun e => (a1 t e).1 ht)).symm) x2.symm (fun hr => by
    refine (x3 ?_).symm
    rcases a3 with a3 | a3
    · exact a3
    · rcases hr with hr | hr
      · rw [a3.1] at hr; cases hr
      · rw [a3.2] at hr; cases hr)
  obtain ⟨z1, z2, z3, z4⟩ := stepG_local k1
  obtain ⟨s21, l1, l2, l3⟩ := x4 s2 (fun t ht => getD_eq _ _ _ (z1 t (fun e => a2 t e ht))) z2 (fun hr => by
    refine z3 ?_
    rcases hr with hr | hr
    · rcases a4 with a4 | a4
      · exact a4
      · rw [a4] at hr; cases hr
    · rcases a3 with a3 | a3
      · rw [a3] at hr; cases hr
      · exact a3.2)
  obtain ⟨w1, w2, w3, _⟩ := stepG_local l1
  refine ⟨s2, k1, ?_⟩
  rw [l1]
  congr 1
  refine St.ext' (fun t => ?_) ?_
  · by_cases htx : t ∈ turnsOf all x
    · rw [l2 t htx, y1 t (a1 t htx).2]
    · rw [w1 t htx]
      by_cases hty : t ∈ turnsOf all y
      · exact k2 t hty
      · rw [z1 t hty, y1 t hty, x1 t htx]
  · cases hwx : writesH C all x with
    | true =>
      rcases a3 with a3 | a3
      · rw [hwx] at a3; cases a3
      · rw [l3 hwx, y3 a3.2]
    | false =>
      rw [w3 hwx]
      cases hwy : writesH C all y with
      | true => exact k3 hwy
      | false => rw [z3 hwy, y3 hwy, x3 hwx]

/-- Operations of a region, by their places. -/
def runL (C : Ctx) (all : List Oper) : List Nat → St → Option St
  | [], st => some st
  | i :: l, st => match all[i]? with
    | some o => (stepG C all o st some).bind (runL C all l)
    | none => none

theorem runL_bubble {C : Ctx} {all : List Oper} {i : Nat} {y : Oper} (hy : all[i]? = some y) (l2 : List Nat) : ∀ (l1 : List Nat), (∀ j ∈ l1, ∃ x, all[j]? = some x ∧ apartB C all x y = true) → ∀ st s, runL C all (l1 ++ i :: l2) st = some s →
    ∃ s1, stepG C all y st some = some s1 ∧ runL C all (l1 ++ l2) s1 = some s
  | [], _, st, s, h => by
    simp only [List.nil_append, runL, hy, Option.bind_eq_some_iff] at h
    exact h
  | j :: l1, hj, st, s, h => by
    obtain ⟨x, hx, hap⟩ := hj j (by simp)
    simp only [List.cons_append, runL, hx, Option.bind_eq_some_iff] at h
    obtain ⟨sj, h1, h2⟩ := h
    obtain ⟨s1, k1, k2⟩ := runL_bubble hy l2 l1 (fun j' hj' => hj j' (by simp [hj'])) sj s h2
    obtain ⟨s2, m1, m2⟩ := step_comm hap h1 k1
    refine ⟨s2, m1, ?_⟩
    simp only [List.cons_append, runL, hx, m2, Option.bind_some]
    exact k2

end Go.Proofs.Ytgickaihlebgmaa.V

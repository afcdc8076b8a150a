/-
  What the evaluator tells is so: what an operation owes; the steps of the ghost.
  It speaks of whatever program; no condition.
-/
import Derived.Test.YtgickaihlebgmaaV5
namespace Go.Proofs.Ytgickaihlebgmaa.V
open Go
set_option linter.unusedVariables false

/-- Whose blocks the operation's result may be. -/
def kd (o : Oper) (d : Nat) : Key := match o.dst with
  | some t => .tmp d t
  | none => .tmp (d + 1) 0

def takenBy : List Operand → List Bool → List Nat
  | .tmp t :: xs, true :: bs => t :: takenBy xs bs
  | _ :: xs, _ :: bs => takenBy xs bs
  | _, _ => []

/-- Whose blocks an operation may write. -/
def Kop (o : Oper) (d dh : Nat) (cons : List Bool) (κ : Key) : Prop :=
  (∃ t, κ = .tmp d t ∧ (o.dst = some t ∨ t ∈ takenBy o.op.operands.toList cons)) ∨ κ.heap dh ∨ κ.deep (d + 1)

theorem Kop.no {o : Oper} {d dh : Nat} {cons : List Bool} : ¬ Kop o d dh cons .no := by
  rintro (⟨t, h, _⟩ | h | h)
  · cases h
  · exact h
  · exact h

def OpWp (P : Program) (g : Ghost) (w : World) (d dh : Nat) (o : Oper) (a : Act) (v : X) (cons : List Bool) (H' : Hp) : Prop :=
  ∀ (next : Act → World → Prop) (Q : Exit → Act → World → Prop),
    (∀ val w' g', RepX g' w' dh (kd o d) v val → Ext g w g' w' d (Kop o d dh cons) → HRep g' w' dh H' → WF g' w' → next (a.put o.dst val) w') → o.wp P a w next Q

theorem wp_value {P : Program} {o : Oper} {a : Act} {w w' : World} {val : Value} {next : Act → World → Prop} {Q : Exit → Act → World → Prop}
    (h : (execOp a.eval o).run P w = .ok (.value val) w') (hn : next (a.put o.dst val) w') : o.wp P a w next Q := by
  simp only [Oper.wp, h, Oper.upon]
  exact hn

theorem wp_skip' {P : Program} {o : Oper} {a : Act} {w w' : World} {next : Act → World → Prop} {Q : Exit → Act → World → Prop}
    (h : (execOp a.eval o).run P w = .ok .skip w') (hn : next (a.put o.dst undef) w') : o.wp P a w next Q := by
  simp only [Oper.wp, h, Oper.upon]
  exact hn

/-! ### unown -/
theorem X.unown_unown (x : X) : x.unown.unown = x.unown := by cases x <;> rfl

theorem length_unownAll : ∀ (ops : List Operand) (cons : List Bool) (tm : List X), (unownAll ops cons tm).length = tm.length
  | [], _, _ => by cases ‹List Bool› <;> rfl
  | x :: xs, [], tm => by cases x <;> rfl
  | .tmp t :: xs, true :: bs, tm => by simp [unownAll, length_unownAll xs bs]
  | .tmp t :: xs, false :: bs, tm => by simp [unownAll, length_unownAll xs bs]
  | .const _ :: xs, b :: bs, tm => by simp [unownAll, length_unownAll xs bs]
  | .global _ :: xs, b :: bs, tm => by simp [unownAll, length_unownAll xs bs]
  | .func _ :: xs, b :: bs, tm => by simp [unownAll, length_unownAll xs bs]

theorem getElem?_unownAll : ∀ (ops : List Operand) (cons : List Bool) (tm : List X) (t : Nat), (unownAll ops cons tm)[t]? = if t ∈ takenBy ops cons then (tm[t]?).map X.unown else tm[t]?
  | [], _, _, _ => by cases ‹List Bool› <;> simp [unownAll, takenBy]
  | x :: xs, [], tm, t => by cases x <;> simp [unownAll, takenBy]
  | .tmp u :: xs, true :: bs, tm, t => by
    simp only [unownAll, takenBy, getElem?_unownAll xs bs, List.mem_cons]
    by_cases h : u = t
    · subst h
      simp only [true_or, if_true, List.getD_eq_getElem?_getD]
      by_cases hl : u < tm.length
      · simp [hl, X.unown_unown]
      · simp [List.getElem?_eq_none (Nat.le_of_not_lt hl), List.set_eq_of_length_le (Nat.le_of_not_lt hl)]
    · rw [List.getElem?_set_ne h]
      have h' : ¬ t = u := fun e => h e.symm
      simp [h']
  | .tmp u :: xs, false :: bs, tm, t => getElem?_unownAll xs bs tm t
  | .const _ :: xs, b :: bs, tm, t => getElem?_unownAll xs bs tm t
  | .global _ :: xs, b :: bs, tm, t => getElem?_unownAll xs bs tm t
  | .func _ :: xs, b :: bs, tm, t => getElem?_unownAll xs bs tm t

theorem Act.put_getD_same {a : Act} {d : Nat} {v : Value} (h : d < a.tmps.size) : (a.put (some d) v).tmps.getD d undef = v := by
  simp [Act.put, Array.getD, h]
theorem Act.put_getD_ne {a : Act} {d t : Nat} {v : Value} (h : d ≠ t) : (a.put (some d) v).tmps.getD t undef = a.tmps.getD t undef := by
  simp [Act.put, Array.getElem?_setIfInBounds_ne h]

/-- Behind an operation. -/
theorem Fr.put {g w g' w'} {d dh : Nat} {st : St} {a : Act} {o : Oper} {v : X} {val : Value} {cons : List Bool} {H' : Hp} (h : Fr g w d dh st a)
    (hv : RepX g' w' dh (kd o d) v val) (he : Ext g w g' w' d (Kop o d dh cons)) (hH : HRep g' w' dh H') (hw : WF g' w') :
    Fr g' w' d dh (St.put { tm := unownAll o.op.operands.toList cons st.tm, H := H' } o.dst v) (a.put o.dst val) := by
  have hold : ∀ t x, (unownAll o.op.operands.toList cons st.tm)[t]? = some x → o.dst ≠ some t → RepX g' w' dh (.tmp d t) x (a.tmps.getD t undef) := by
    intro t x hx hd
    rw [getElem?_unownAll] at hx
    split at hx
    · rw [Option.map_eq_some_iff] at hx
      obtain ⟨y, hy, rfl⟩ := hx
      exact RepX.unown he h.le Kop.no y _ (h.rep t y hy)
    · rename_i hnt
      refine RepX.ext he h.le Kop.no ?_ x _ (h.rep t x hx)
      rintro (⟨t', e, hk⟩ | hk | hk)
      · cases e
        rcases hk with hk | hk
        · exact hd hk
        · exact hnt hk
      · exact hk
      · exact absurd hk (Nat.not_succ_le_self d)
  cases hd : o.dst with
  | none =>
    refine ⟨?_, fun t x hx => ?_, by simpa [St.put, hd] using hH, hw, h.le⟩
    · simp only [St.put, Act.put]; rw [length_unownAll]; exact h.len
    · simp only [St.put, Act.put] at hx ⊢
      exact hold t x hx (by rw [hd]; simp)
  | some e =>
    have hk : kd o d = .tmp d e := by simp [kd, hd]
    rw [hk] at hv
    refine ⟨?_, fun t x hx => ?_, by simpa [St.put] using hH, hw, h.le⟩
    · simp only [St.put, Act.put, List.length_set, Array.size_setIfInBounds]; rw [length_unownAll]; exact h.len
    · simp only [St.put] at hx
      by_cases hte : e = t
      · subst hte
        have hlt : e < (unownAll o.op.operands.toList cons st.tm).length := by
          have := (List.getElem?_eq_some_iff.1 hx).1
          simpa using this
        have hx' : x = v := by
          rw [List.getElem?_set_self hlt] at hx
          exact (Option.some.inj hx).symm
        subst hx'
        have hsz : e < a.tmps.size := by rw [length_unownAll, h.len] at hlt; exact hlt
        rw [Act.put_getD_same hsz]
        exact hv
      · rw [List.getElem?_set_ne hte] at hx
        rw [Act.put_getD_ne hte]
        exact hold t x hx (by rw [hd]; simpa using hte)

/-! ### Operands -/
def keyOf (d : Nat) : Operand → Key
  | .tmp t => .tmp d t
  | _ => .no

theorem constX_rep (g : Ghost) (w : World) (dh : Nat) (κ : Key) (v : Value) : RepX g w dh κ (constX v) v := by
  unfold constX
  split
  · simp only [RepX]; exact ⟨_, rfl, rfl⟩
  · simp only [RepX]; exact ⟨_, rfl, rfl⟩
  · simp only [RepX]; exact ⟨_, rfl, rfl⟩
  · simp only [RepX]
  · simp only [RepX]
  · simp only [RepX]
  · rename_i h1 h2 h3 h4 h5 h6
    simp only [RepX]
    refine ⟨_, ⟨rfl, ?_⟩, rfl⟩
    cases v <;> first | rfl | exact absurd rfl (h5 _) | exact absurd rfl (h6 _)

theorem Fr.val {g w} {d dh : Nat} {st : St} {a : Act} (h : Fr g w d dh st a) (x : Operand) : RepX g w dh (keyOf d x) (st.val x) (a.eval x) := by
  cases x with
  | tmp t =>
    simp only [St.val, keyOf, Act.eval, List.getD_eq_getElem?_getD]
    cases ht : st.tm[t]? with
    | none => simp [RepX]
    | some y =>
      have := h.rep t y ht
      simpa using this
  | const v => exact constX_rep g w dh _ v
  | global n => simp [St.val, RepX]
  | func f =>
    simp only [St.val, RepX, Act.eval]
    exact ⟨[], [], rfl, by simp [RepXs], by simp [RepXs]⟩

theorem typed_rep {C : Ctx} {g w} {dh : Nat} {κ : Key} {i : Nat} {x : X} {v : Value} (h : RepX g w dh κ x v) : RepX g w dh κ (typed C i x) v := by
  cases x <;> simp only [typed] <;> try exact h
  simp only [RepX] at h
  subst h
  split
  · simp only [RepX]
    exact ⟨none, 0, rfl, Nat.le_refl _, (fun i hi => absurd hi (by simp)), (fun b hb => by simpa using hb), (fun _ => .inl rfl)⟩
  · simp only [RepX]

/-! ### The ghost's steps -/
def Ghost.rekey (g : Ghost) (κ κ' : Key) : Ghost := { g with own := fun b => if g.own b = some κ then some κ' else g.own b }

theorem Ghost.rekey_ext {g : Ghost} {w : World} {d : Nat} {κ κ' : Key} : Ext g w (g.rekey κ κ') w d (fun x => x = κ) :=
  ⟨rfl, rfl, rfl, Nat.le_refl _, fun b _ ho => ⟨rfl, by
    simp only [Ghost.rekey]
    rw [if_neg (fun e => ho κ e rfl)], rfl⟩, fun _ _ h => ⟨rfl, h⟩, fun _ _ _ h => ⟨h, rfl, rfl⟩, fun _ _ => rfl⟩

theorem WF.rekey {g : Ghost} {w : World} {κ κ' : Key} (h : WF g w) : WF (g.rekey κ κ') w := fun b hb => by
  obtain ⟨h1, h2⟩ := h b hb
  simp only [Ghost.rekey, h1]
  exact ⟨by simp, h2⟩

theorem RepX.rekey {g w} {d dh : Nat} {κ κ' : Key} (hd : dh ≤ d) (hκ : κ ≠ .no) : ∀ (x : X) (v : Value), RepX g w dh κ x v → RepX (g.rekey κ κ') w dh κ' x v
  | .sl e xs nl own, v, r => by
    simp only [RepX] at r ⊢
    obtain ⟨a, c, h1, h2, h3, h4, h5⟩ := r
    have he := Ghost.rekey_ext (g := g) (w := w) (d := d) (κ := κ) (κ' := κ')
    refine ⟨a, c, h1, h2, h3.ext he (RepC.ext he e), h4, fun ho => ?_⟩
    rcases h5 ho with h | ⟨b, arr, ty, fr, e1, e2, e3, e4, e5, e6⟩
    · exact .inl h
    · exact .inr ⟨b, arr, ty, fr, e1, e2, e3, e4, e5, by simp [Ghost.rekey, e6]⟩
  | .dead, v, r => by simp [RepX]
  | .undef, v, r => by simpa only [RepX] using r
  | .nils, v, r => by simpa only [RepX] using r
  | .d t x, v, r => by
    have := RepX.unown (dh := dh) (Ghost.rekey_ext (g := g) (w := w) (d := d) (κ := κ) (κ' := κ')) hd (fun e => hκ e.symm) (κ' := κ') _ _ r
    exact this
  | .cp t x, v, r => by
    have := RepX.unown (dh := dh) (Ghost.rekey_ext (g := g) (w := w) (d := d) (κ := κ) (κ' := κ')) hd (fun e => hκ e.symm) (κ' := κ') _ _ r
    exact this
  | .ptr i p, v, r => by
    have := RepX.unown (dh := dh) (Ghost.rekey_ext (g := g) (w := w) (d := d) (κ := κ) (κ' := κ')) hd (fun e => hκ e.symm) (κ' := κ') _ _ r
    exact this
  | .fn f b c, v, r => by
    have := RepX.unown (dh := dh) (Ghost.rekey_ext (g := g) (w := w) (d := d) (κ := κ) (κ' := κ')) hd (fun e => hκ e.symm) (κ' := κ') _ _ r
    exact this
  | .tup xs, v, r => by
    have := RepX.unown (dh := dh) (Ghost.rekey_ext (g := g) (w := w) (d := d) (κ := κ) (κ' := κ')) hd (fun e => hκ e.symm) (κ' := κ') _ _ r
    exact this
  | .lst l, v, r => by
    have := RepX.unown (dh := dh) (Ghost.rekey_ext (g := g) (w := w) (d := d) (κ := κ) (κ' := κ')) hd (fun e => hκ e.symm) (κ' := κ') _ _ r
    exact this
  | .cx x, v, r => by
    have := RepX.unown (dh := dh) (Ghost.rekey_ext (g := g) (w := w) (d := d) (κ := κ) (κ' := κ')) hd (fun e => hκ e.symm) (κ' := κ') _ _ r
    exact this
  | .mref id off len, v, r => by
    have := RepX.unown (dh := dh) (Ghost.rekey_ext (g := g) (w := w) (d := d) (κ := κ) (κ' := κ')) hd (fun e => hκ e.symm) (κ' := κ') _ _ r
    exact this
  | .agg xs, v, r => by simp [RepX] at r

theorem Ghost.rekey_heap {g w} {d dh : Nat} {H : Hp} {κ κ' : Key} (hd : dh ≤ d) (hκ : κ ≠ .no) (hh : ¬ κ.heap dh) (h : HRep g w dh H) : HRep (g.rekey κ κ') w dh H :=
  HRep.ext (Ghost.rekey_ext (d := d)) hd (fun e => hκ e.symm) (fun x hx e => hh (e ▸ hx)) rfl h

/-- An operation that turns nothing. -/
theorem OpWp.same {P : Program} {g w} {d dh : Nat} {st : St} {o : Oper} {a : Act} {v : X} {val : Value} (h : Fr g w d dh st a)
    (hr : (execOp a.eval o).run P w = .ok (.value val) w) (hv : RepX g w dh (kd o d) v val) : OpWp P g w d dh o a v [] st.H :=
  fun _ _ hn => wp_value hr (hn val w g hv (Ext.refl _ _ _ _) h.heap h.wf)

/-- An operation that hands on an operand, with its room. -/
theorem OpWp.take {P : Program} {g w} {d dh : Nat} {C : Ctx} {i : Nat} {st : St} {o : Oper} {a : Act} {x : Operand} (h : Fr g w d dh st a)
    (hr : (execOp a.eval o).run P w = .ok (.value (a.eval x)) w) (ho : o.op.operands.toList = [x]) : OpWp P g w d dh o a (typed C i (st.val x)) [true] st.H := by
  intro next Q hn
  have hx := typed_rep (C := C) (i := i) (h.val x)
  cases x with
  | tmp t =>
    refine wp_value hr (hn _ w (g.rekey (.tmp d t) (kd o d)) ?_ ?_ ?_ h.wf.rekey)
    · exact RepX.rekey h.le (by simp) _ _ hx
    · refine Ghost.rekey_ext.mono (Nat.le_refl _) ?_
      rintro κ rfl
      exact .inl ⟨t, rfl, .inr (by simp [ho, takenBy])⟩
    · exact Ghost.rekey_heap h.le (by simp) (by simp [Key.heap]) h.heap
  | const v =>
    refine wp_value hr (hn _ w g ?_ (Ext.refl _ _ _ _) h.heap h.wf)
    exact typed_rep (constX_rep g w dh _ v)
  | global n =>
    refine wp_value hr (hn _ w g ?_ (Ext.refl _ _ _ _) h.heap h.wf)
    simp [St.val, typed, RepX]
  | func f =>
    refine wp_value hr (hn _ w g ?_ (Ext.refl _ _ _ _) h.heap h.wf)
    simp only [St.val, typed, RepX, Act.eval]
    exact ⟨[], [], rfl, by simp [RepXs], by simp [RepXs]⟩

end Go.Proofs.Ytgickaihlebgmaa.V

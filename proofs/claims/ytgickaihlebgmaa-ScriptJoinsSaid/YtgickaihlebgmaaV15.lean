/-
  What the evaluator tells is so: calls.
  It speaks of whatever program; no condition.
-/
import Derived.Test.YtgickaihlebgmaaV14
namespace Go.Proofs.Ytgickaihlebgmaa.V
open Go
set_option linter.unusedVariables false
set_option linter.unusedSimpArgs false

/-- A function that is entered when it is called. -/
def FnOk (P : Program) (f : Nat) : Prop := ∀ (args : Array Value) (w : World), (callFunc f args).run P w = .ok (.enter f args) w

/-- What a call of a function owes that turns no variable of its caller's. -/
def PureOk (P : Program) (f : Nat) (F : List X → Option X) : Prop :=
  FnOk P f ∧ ∀ (args : List X) (r : X), F args = some r → ∀ (g : Ghost) (w : World) (d dh : Nat) (vs : List Value), dh ≤ d → WF g w → RepXs g w dh args vs →
    Calls P f vs.toArray w fun e w' => ∃ v g', e = .returned v ∧ RepX g' w' dh (.tmp (d + 1) 0) r v ∧ Ext g w g' w' d (fun κ => κ.deep (d + 1)) ∧ WF g' w'

/-- What a call of a function owes that may turn its caller's variables. -/
def EffOk (P : Program) (f : Nat) (F : List X → Hp → Option (X × Hp)) : Prop :=
  FnOk P f ∧ ∀ (args : List X) (H : Hp) (r : X) (H' : Hp), F args H = some (r, H') → ∀ (g : Ghost) (w : World) (d dh : Nat) (vs : List Value), dh ≤ d → WF g w → HRep g w dh H → RepXs g w dh args vs →
    Calls P f vs.toArray w fun e w' => ∃ v g', e = .returned v ∧ RepX g' w' dh (.tmp (d + 1) 0) r v ∧ Ext g w g' w' d (fun κ => κ.deep (d + 1) ∨ κ.heap dh) ∧ WF g' w' ∧ HRep g' w' dh H'

def OrcOk (P : Program) (f : Nat) : Orc → Prop
  | .pure F => PureOk P f fun args => (F args).run some
  | .eff F => EffOk P f fun args H => (F args H).run some

/-- All that the evaluator is given is so. -/
structure COk (P : Program) (C : Ctx) : Prop where
  ar : C.A = Ar.real
  tys : TysOk P C.tys
  orc : ∀ f o, C.O f = some o → OrcOk P f o

section
variable {P : Program} {C : Ctx} {dst : Option Nat} {ty : Nat} {pos : String} {af : Array Edge} {gd : Option (Nat × Bool)}

theorem run_builtin (b : Builtin) (args : Array Operand) (argTypes : Array Nat) (a : Act) (w : World) :
    (execOp a.eval ⟨dst, .call ⟨.builtin b, args, argTypes⟩, ty, pos, af, gd⟩).run P w = (builtin b argTypes ty (args.map fun | .const _ => true | _ => false) (args.map a.eval)).run P w := by
  simp only [execOp, resolve, Sem.run_bind, Sem.run_pure, Result.andThen_ok, invoke]
  rfl

theorem core_len (hC : TysOk P C.tys) (args : Array Operand) (argTypes : Array Nat) : CoreOk P C ⟨dst, .call ⟨.builtin .len, args, argTypes⟩, ty, pos, af, gd⟩ := by
  intro R tr g w d dh st a h k r hk
  have ops : (⟨dst, .call ⟨.builtin .len, args, argTypes⟩, ty, pos, af, gd⟩ : Oper).op.operands.toList.map st.val = args.toList.map st.val := by simp [Op.operands, Call.operands]
  rw [ops] at hk
  have hk' : (match argTypes.toList.map C.ty, args.toList.map st.val with
      | [some ⟨.slice _, _, _, _⟩], [.sl _ xs _ _] => k (.d (.int .i64) (xs.length : Int)) [] st.H
      | [some ⟨.slice .any, _, _, _⟩], [.lst l] => k (.d (.int .i64) (l.length : Int)) [] st.H
      | [some ⟨.str, _, _, _⟩], [.d .str s] => k (.d (.int .i64) (s.size : Int)) [] st.H
      | [some ⟨.arr n _, _, _, _⟩], [_] => k (.d (.int .i64) (n : Int)) [] st.H
      | _, _ => none) = some r := hk
  have run : ∀ v w', (Builtin.len_ argTypes ty (args.map a.eval)).run P w = .ok v w' → (execOp a.eval ⟨dst, .call ⟨.builtin .len, args, argTypes⟩, ty, pos, af, gd⟩).run P w = .ok (.value v) w' := by
    intro v w' hr
    rw [run_builtin]
    simp only [builtin, Sem.run_bind, hr, Result.andThen_ok, Sem.run_pure]
  have one : ∀ {α β : Type} (l : List α) (f : α → β) (y : β), l.map f = [y] → ∃ x, l = [x] ∧ f x = y := by
    intro α β l f y e
    match l, e with
    | [x], e => exact ⟨x, rfl, by simpa using e⟩
  obtain ⟨al⟩ := args
  obtain ⟨tl⟩ := argTypes
  simp only [] at hk' run
  split at hk'
  · rename_i e1 e2 e3 e4 et xs nl own h1 h2
    obtain ⟨t, rfl, ht⟩ := one _ _ _ h1
    obtain ⟨x, rfl, hx⟩ := one _ _ _ h2
    have hv := h.val x
    rw [hx] at hv
    simp only [RepX] at hv
    obtain ⟨b, c, hv, _⟩ := hv
    obtain ⟨ei, hu, _⟩ := tyB_slice (Ctx.ty_ok hC ht).1
    refine ⟨_, _, _, hk', OpWp.same h (val := .int .i64 xs.length) (run _ _ ?_) (RepX.int_iff.2 rfl)⟩
    simp [Builtin.len_, run_underlying hu, hv, goInt]
  · rename_i e1 e2 e3 l h1 h2
    obtain ⟨t, rfl, ht⟩ := one _ _ _ h1
    obtain ⟨x, rfl, hx⟩ := one _ _ _ h2
    have hv := h.val x
    rw [hx] at hv
    simp only [RepX] at hv
    obtain ⟨b, us, c, hv, _, hr, _⟩ := hv
    have hlen := RepXs.len l us hr
    obtain ⟨ei, hu, _⟩ := tyB_slice (Ctx.ty_ok hC ht).1
    refine ⟨_, _, _, hk', OpWp.same h (val := .int .i64 us.length) (run _ _ ?_) (RepX.int_iff.2 (by rw [hlen]))⟩
    simp [Builtin.len_, run_underlying hu, hv, goInt]
  · rename_i e2 e3 e4 s h1 h2
    obtain ⟨t, rfl, ht⟩ := one _ _ _ h1
    obtain ⟨x, rfl, hx⟩ := one _ _ _ h2
    have hv := h.val x
    rw [hx, RepX.str_iff] at hv
    have hu := tyB_str (Ctx.ty_ok hC ht).1
    refine ⟨_, _, _, hk', OpWp.same h (val := .int .i64 s.size) (run _ _ ?_) (RepX.int_iff.2 rfl)⟩
    simp [Builtin.len_, run_underlying hu, hv, goInt]
  · rename_i n e1 e2 e3 e4 x0 h1 h2
    obtain ⟨t, rfl, ht⟩ := one _ _ _ h1
    obtain ⟨x, rfl, hx⟩ := one _ _ _ h2
    obtain ⟨ei, hu, _⟩ := tyB_arr (Ctx.ty_ok hC ht).1
    refine ⟨_, _, _, hk', OpWp.same h (val := .int .i64 n) (run _ _ ?_) (RepX.int_iff.2 rfl)⟩
    simp [Builtin.len_, run_underlying hu, goInt]
  · cases hk'

theorem two_of_map {α β : Type} (l : List α) (f : α → β) (y z : β) (e : l.map f = [y, z]) : ∃ u v, l = [u, v] ∧ f u = y ∧ f v = z := by
  match l, e with
  | [u, v], e => exact ⟨u, v, rfl, by simpa using e⟩

theorem core_min (args : Array Operand) (argTypes : Array Nat) : CoreOk P C ⟨dst, .call ⟨.builtin .min, args, argTypes⟩, ty, pos, af, gd⟩ := by
  intro R tr g w d dh st a h k r hk
  have ops : (⟨dst, .call ⟨.builtin .min, args, argTypes⟩, ty, pos, af, gd⟩ : Oper).op.operands.toList.map st.val = args.toList.map st.val := by simp [Op.operands, Call.operands]
  rw [ops] at hk
  have hk' : (match args.toList.map st.val with
      | [.d (.int ka) a, .d (.int kb) b] => if ka = kb then k (.d (.int ka) (if b < a then b else a)) [] st.H else none
      | _ => none) = some r := hk
  obtain ⟨al⟩ := args
  split at hk'
  · rename_i ka u kb v h1
    split at hk'
    · rename_i hkk
      subst hkk
      obtain ⟨x, y, e1, hx, hy⟩ := two_of_map _ _ _ _ h1
      simp only at e1
      subst e1
      have hvx := h.val x
      have hvy := h.val y
      rw [hx, RepX.int_iff] at hvx
      rw [hy, RepX.int_iff] at hvy
      refine ⟨_, _, _, hk', OpWp.same h (val := .int ka (if v < u then v else u)) ?_ (RepX.int_iff.2 rfl)⟩
      rw [run_builtin]
      simp [builtin, Builtin.min_, Builtin.min2, hvx, hvy]
    · cases hk'
  · cases hk'

theorem core_max (args : Array Operand) (argTypes : Array Nat) : CoreOk P C ⟨dst, .call ⟨.builtin .max, args, argTypes⟩, ty, pos, af, gd⟩ := by
  intro R tr g w d dh st a h k r hk
  have ops : (⟨dst, .call ⟨.builtin .max, args, argTypes⟩, ty, pos, af, gd⟩ : Oper).op.operands.toList.map st.val = args.toList.map st.val := by simp [Op.operands, Call.operands]
  rw [ops] at hk
  have hk' : (match args.toList.map st.val with
      | [.d (.int ka) a, .d (.int kb) b] => if ka = kb then k (.d (.int ka) (if b > a then b else a)) [] st.H else none
      | _ => none) = some r := hk
  obtain ⟨al⟩ := args
  split at hk'
  · rename_i ka u kb v h1
    split at hk'
    · rename_i hkk
      subst hkk
      obtain ⟨x, y, e1, hx, hy⟩ := two_of_map _ _ _ _ h1
      simp only at e1
      subst e1
      have hvx := h.val x
      have hvy := h.val y
      rw [hx, RepX.int_iff] at hvx
      rw [hy, RepX.int_iff] at hvy
      refine ⟨_, _, _, hk', OpWp.same h (val := .int ka (if v > u then v else u)) ?_ (RepX.int_iff.2 rfl)⟩
      rw [run_builtin]
      simp [builtin, Builtin.max_, Builtin.max2, hvx, hvy]
    · cases hk'
  · cases hk'

/-- The first cells of a slice. -/
theorem firstCells_sl {g w} {dh : Nat} {κ : Key} {e : Ty} {xs : List e.den} {nl own v} (h : RepX g w dh κ (.sl e xs nl own) v) (hpos : 0 < e.size) :
    ∃ cs, Parts (RepC w g e) xs cs ∧ (∀ w', (Builtin.lenOf v).run P w' = .ok xs.length w') ∧ ∀ w', w'.heap = w.heap → (Builtin.firstCells e.size xs.length v).run P w' = .ok cs.toArray w' := by
  simp only [RepX] at h
  obtain ⟨base, c, rfl, h2, hrun, _⟩ := h
  obtain ⟨cs0, q1, q2, q3⟩ := Run.cells hrun hpos
  refine ⟨cs0, q1, fun w' => rfl, fun w' hw' => ?_⟩
  cases base with
  | none =>
    have hx : xs = [] := by
      cases xs with
      | nil => rfl
      | cons x xs => obtain ⟨A, _, e, _⟩ := hrun 0 (by simp); cases e
    have : cs0 = [] := List.eq_nil_of_length_eq_zero (by rw [q2, hx]; simp)
    subst this
    exact run_firstCells_none w' _ _ _ _
  | some A =>
    by_cases hne : xs = []
    · have : cs0 = [] := List.eq_nil_of_length_eq_zero (by rw [q2, hne]; simp)
      subst this
      exact run_firstCells_some w' _ _ A _ _ [] (by simp [hne]) (by simp)
    · refine run_firstCells_some w' _ _ A _ _ cs0 q2 (fun j v hj => ?_)
      have hjl : j < cs0.length := (List.getElem?_eq_some_iff.1 hj).1
      rw [Addr.add_plain A _ (hrun.spot hne)]
      obtain ⟨k1, _⟩ := q3 _ rfl j hjl
      rw [List.getElem?_eq_getElem hjl] at hj
      rw [← hj, ← k1]
      simp [World.cell?, hw']

theorem core_append (hC : TysOk P C.tys) (args : Array Operand) (argTypes : Array Nat) : CoreOk P C ⟨dst, .call ⟨.builtin .append, args, argTypes⟩, ty, pos, af, gd⟩ := by
  intro R tr g w d dh st a h k r hk
  have ops : (⟨dst, .call ⟨.builtin .append, args, argTypes⟩, ty, pos, af, gd⟩ : Oper).op.operands.toList.map st.val = args.toList.map st.val := by simp [Op.operands, Call.operands]
  rw [ops] at hk
  have hk' : (match argTypes.toList, args.toList.map st.val with
      | [ts, tx], [s, x] => match C.ty ts, C.ty tx, typed C ts s, typed C tx x with
        | some ⟨.slice e, _, _, eb⟩, some ⟨.slice _, _, _, _⟩, .sl e1 xs nl true, .sl e2 ys _ _ => if e = e1 ∧ 0 < eb then
            match castTo (.slice e2) (.slice e1) ys with
            | some zs => bif decide ((xs.length + List.length zs) * eb ≤ 140737488355328) then k (.sl e1 (xs ++ zs) (nl.map (· && List.isEmpty zs)) true) [true, false] st.H else none
            | none => none
          else none
        | some ⟨.slice (.int .u8), _, _, eb⟩, some ⟨.str, _, _, _⟩, .sl (.int .u8) xs nl true, .d .str str =>
          if 0 < eb then bif decide ((xs.length + (bytesOf str).length) * eb ≤ 140737488355328) then k (.sl (.int .u8) (xs ++ bytesOf str) (nl.map (· && (bytesOf str).isEmpty)) true) [true, false] st.H else none else none
        | _, _, _, _ => none
      | _, _ => none) = some r := hk
  obtain ⟨al⟩ := args
  obtain ⟨tl⟩ := argTypes
  simp only [] at hk'
  have run : ∀ v w', (Builtin.append_ tl.toArray ty (al.toArray.map a.eval)).run P w = .ok v w' → (execOp a.eval ⟨dst, .call ⟨.builtin .append, al.toArray, tl.toArray⟩, ty, pos, af, gd⟩).run P w = .ok (.value v) w' := by
    intro v w' hr
    rw [run_builtin]
    simp only [builtin, Sem.run_bind, hr, Result.andThen_ok, Sem.run_pure]
  split at hk'
  · rename_i ts tx s0 x0 h1
    obtain ⟨s, x, rfl, rfl, rfl⟩ := two_of_map _ _ _ _ h1
    -- the common end
    have fin : ∀ {e : Ty} {e1 e2 e3 eb : Nat} {ez : (Ty.slice e).den} {xs zs : List e.den} {nl : Option Bool} {cs : List Value}, C.ty ts = some ⟨.slice e, ez, e3, eb⟩ → 0 < eb → typed C ts (st.val s) = .sl e xs nl true →
        (∃ dx, P.underlying tx = some dx ∧ ∀ k, dx ≠ .int k) → (∀ w', (Builtin.lenOf (a.eval x)).run P w' = .ok zs.length w') → (∀ w', w'.heap = w.heap → (Builtin.firstCells e.size zs.length (a.eval x)).run P w' = .ok cs.toArray w') →
        Parts (RepC w g e) zs cs → (xs.length + zs.length) * eb ≤ 140737488355328 →
        OpWp P g w d dh ⟨dst, .call ⟨.builtin .append, [s, x].toArray, [ts, tx].toArray⟩, ty, pos, af, gd⟩ a (.sl e (xs ++ zs) (nl.map (· && List.isEmpty zs)) true) [true, false] st.H := by
      intro e e1 e2 e3 eb ez xs zs nl cs he heb hs htx hlen hfirst hparts hbound next Q hn
      have hok := Ctx.ty_ok hC he
      obtain ⟨ei, hu, ht, hpos⟩ := tyB_slice hok.1
      have hbb : (P.info? ei).map (·.bytes) = some eb := by
        have := hok.2.2.2
        rw [hu] at this
        exact this
      obtain ⟨g1, hg1, hy, hH1, hw1, eU, eN, eμ, eo, hown, hnone⟩ := h.moveTo (C := C) s ts (kd ⟨dst, .call ⟨.builtin .append, [s, x].toArray, [ts, tx].toArray⟩, ty, pos, af, gd⟩ d)
      rw [hs] at hy
      have hkno : kd ⟨dst, .call ⟨.builtin .append, [s, x].toArray, [ts, tx].toArray⟩, ty, pos, af, gd⟩ d ≠ .no := by
        unfold kd; split <;> simp
      have hkheap : ¬ (kd ⟨dst, .call ⟨.builtin .append, [s, x].toArray, [ts, tx].toArray⟩, ty, pos, af, gd⟩ d).heap dh := by
        unfold kd; split <;> simp [Key.heap]
      obtain ⟨val, w2, g2, r1, r2, r3, r4, r5⟩ := append_core ty hu ht hpos hbb heb htx h.le hkno hy hw1 hlen hfirst (Parts.imp (RepC.ext hg1 e) _ _ hparts) hbound
      refine wp_value (run _ _ (by simpa using r1)) (hn _ _ g2 r2 ?_ ?_ r4)
      · refine (hg1.mono (Nat.le_refl _) ?_).trans (r3.mono (Nat.le_refl _) ?_)
        · rintro κ ⟨t, rfl, rfl⟩
          exact .inl ⟨t, rfl, .inr (by cases x <;> simp [Op.operands, Call.operands, takenBy])⟩
        · rintro κ rfl
          unfold kd
          cases dst with
          | some t => exact .inl ⟨t, rfl, .inl rfl⟩
          | none => exact .inr (.inr (Nat.le_refl _))
      · exact HRep.ext r3 h.le (fun e => hkno e.symm) (fun κ hκ e => hkheap (e ▸ hκ)) (by rw [r5]) hH1
    split at hk'
    · rename_i e ez e3 eb et tz tb teb e1 xs nl e2 ys nl2 own2 he hte hs hx
      split at hk'
      · rename_i hcond
        obtain ⟨rfl, heb⟩ := hcond
        split at hk'
        · rename_i zs hzs
          obtain ⟨hee, hz⟩ := castTo_some hzs
          cases hee
          simp only at hz
          subst hz
          cases hb : decide ((xs.length + List.length ys) * eb ≤ 140737488355328) <;> rw [hb] at hk'
          · cases hk'
          · have hbound : (xs.length + List.length ys) * eb ≤ 140737488355328 := by simpa using hb
            have hxr := typed_rep (C := C) (i := tx) (h.val x)
            rw [hx] at hxr
            obtain ⟨ei, hu, ht, hpos⟩ := tyB_slice (Ctx.ty_ok hC he).1
            obtain ⟨cs, c1, c2, c3⟩ := firstCells_sl (P := P) hxr hpos
            obtain ⟨ei2, hu2, _⟩ := tyB_slice (Ctx.ty_ok hC hte).1
            exact ⟨_, _, _, hk', fin (e1 := 0) (e2 := 0) he heb hs ⟨_, hu2, by simp⟩ c2 c3 c1 hbound⟩
        · cases hk'
      · cases hk'
    · rename_i ez e3 eb tz tb teb xs nl str he hte hs hx
      split at hk'
      · rename_i heb
        cases hb : decide ((xs.length + (bytesOf str).length) * eb ≤ 140737488355328) <;> rw [hb] at hk'
        · cases hk'
        · have hbound : (xs.length + (bytesOf str).length) * eb ≤ 140737488355328 := by simpa using hb
          have hxr := typed_rep (C := C) (i := tx) (h.val x)
          rw [hx, RepX.str_iff] at hxr
          have hlen : (bytesOf str).length = str.size := by rw [bytesOf, List.length_map, Array.length_toList]; rfl
          refine ⟨_, _, _, hk', fin (e1 := 0) (e2 := 0) (cs := str.data.toList.map fun b => Value.int .u8 b.toNat) he heb hs ⟨_, tyB_str (Ctx.ty_ok hC hte).1, by simp⟩ (fun w' => ?_) (fun w' _ => ?_) (bytes_cells str) hbound⟩
          · rw [hxr]
            show (Builtin.lenOf (.string str)).run P w' = _
            simp only [Builtin.lenOf, Sem.run_pure]
            rw [← hlen]
          · rw [hxr]
            show (Builtin.firstCells 1 (bytesOf str).length (.string str)).run P w' = _
            simp only [Builtin.firstCells, Sem.run_pure]
            congr 1
            have hex : str.extract 0 (bytesOf str).length = str := by
              rw [hlen]
              exact ByteArray.extract_zero_size
            rw [hex]
            apply Array.ext'
            simp
      · cases hk'
    · cases hk'
  · cases hk'

end
end Go.Proofs.Ytgickaihlebgmaa.V

/-
  What the evaluator tells is so: all operations; regions, drawn ones too.
  It speaks of whatever program; no condition.
-/
import Derived.Test.YtnbfiifkaddehaaWe
import Derived.TacticsIn

/- What the evaluator tells is so: calls of functions; all operations together. -/
namespace Go.Proofs.Ytnbfiifkaddehaa.V
open Go
set_option linter.unusedVariables false
set_option linter.unusedSimpArgs false

section
variable {P : Program} {C : Ctx} {dst : Option Nat} {ty : Nat} {pos : String} {af : Array Edge} {gd : Option (Nat × Bool)}

theorem RepXs.append {g w} {dh : Nat} : ∀ {xs ys : List X} {us vs : List Value}, RepXs g w dh xs us → RepXs g w dh ys vs → RepXs g w dh (xs ++ ys) (us ++ vs)
  | [], ys, us, vs, h1, h2 => by
    simp only [RepXs] at h1
    subst h1
    simpa using h2
  | x :: xs, ys, us, vs, h1, h2 => by
    simp only [RepXs] at h1
    obtain ⟨v, us', rfl, k1, k2⟩ := h1
    simp only [List.cons_append, RepXs]
    exact ⟨v, _, rfl, k1, RepXs.append k2 h2⟩

theorem Fr.args {g w} {d dh : Nat} {st : St} {a : Act} (h : Fr g w d dh st a) : ∀ (ts : List Nat) (l : List Operand), ts.length = l.length → RepXs g w dh ((List.zipWith (typed C) ts (l.map st.val)).map X.unown) (l.map a.eval)
  | [], [], _ => by simp [RepXs]
  | t :: ts, x :: l, e => by
    simp only [List.map_cons, List.zipWith_cons_cons, RepXs]
    exact ⟨_, _, rfl, (typed_rep (h.val x)).unown', Fr.args h ts l (by simpa using e)⟩
  | [], _ :: _, e => by simp at e
  | _ :: _, [], e => by simp at e

theorem calls_rd {f : Nat} {args : Array Value} {w : World} {R : Ending → World → Prop} {rd : Option Nat} (h : Calls P f args w R) : CallsIn (rdF rd) 0 P f args w R :=
  (callsIn_wide (n := 0)).2 h

theorem wp_enter {o : Oper} {a : Act} {w : World} {f : Nat} {args : Array Value} {next : Act → World → Prop} {Q : Exit → Act → World → Prop}
    (h : (execOp a.eval o).run P w = .ok (.enter f args) w) (rd : Option Nat) (hc : Calls P f args w fun e w'' => ∃ v, e = .returned v ∧ next (a.put o.dst v) w'') : o.wpIn (rdF rd) 0 P a w next Q := by
  refine ⟨fun _ _ => trivial, ?_⟩
  rw [semAt_of h, h]
  refine ⟨fun e => by simp [rdF] at e, CallsIn.mono (calls_rd hc) ?_⟩
  rintro e w'' ⟨v, rfl, hv⟩
  exact hv

theorem wp_round {o : Oper} {a : Act} {w : World} {l f : Nat} {tmps : Array Value} {assign body : Code} {next : Act → World → Prop} {Q : Exit → Act → World → Prop}
    (h : (execOp a.eval o).run P w = .ok (.round l f tmps assign body) w) (rd : Option Nat) (hc : RoundIn (rdF none) 0 P l f tmps assign body w fun e w'' => ∃ v, e = .returned v ∧ next (a.put o.dst v) w'') : o.wpIn (rdF rd) 0 P a w next Q := by
  refine ⟨fun _ _ => trivial, ?_⟩
  rw [semAt_of h, h]
  have hc' : RoundIn (rdF rd) 0 P l f tmps assign body w fun e w'' => ∃ v, e = .returned v ∧ next (a.put o.dst v) w'' := hc
  refine ⟨fun e => by simp [rdF] at e, RoundIn.mono hc' ?_⟩
  rintro e w'' ⟨v, rfl, hv⟩
  exact hv

theorem core_value (hC : COk P C) (f : Operand) (args : Array Operand) (argTypes : Array Nat) : CoreOk P C ⟨dst, .call ⟨.value f, args, argTypes⟩, ty, pos, af, gd⟩ := by
  intro R tr g w d dh st a h k r hk
  have ops : (⟨dst, .call ⟨.value f, args, argTypes⟩, ty, pos, af, gd⟩ : Oper).op.operands.toList.map st.val = st.val f :: args.toList.map st.val := by simp [Op.operands, Call.operands]
  rw [ops] at hk
  have hk' : (match (generalizing := false) st.val f :: args.toList.map st.val with
      | .fn f first cap :: args => if argTypes.size = args.length then match C.O f with
        | some (.pure F) => (F (first ++ (List.zipWith (typed C) argTypes.toList args).map X.unown ++ cap)).run fun r => k r [] st.H
        | some (.eff F) => (F (first ++ (List.zipWith (typed C) argTypes.toList args).map X.unown ++ cap) st.H).run fun r => k r.1 [] r.2
        | some (.own F) => match first, argTypes.toList, args with
          | [], t :: ts, a :: az => match typed C t a with
            | .sl e xs nl true => (F (.sl e xs nl true :: ((List.zipWith (typed C) ts az).map X.unown ++ cap))).run fun r => k r [false, true] st.H
            | .ps e xs => (F (.ps e xs :: ((List.zipWith (typed C) ts az).map X.unown ++ cap))).run fun r => k r [false, true] st.H
            | _ => none
          | _, _, _ => none
        | some (.ext F) => (F (first ++ (List.zipWith (typed C) argTypes.toList args).map X.unown ++ cap)).run fun r => k r.unown [] st.H
        | none => none
        else none
      | .yld id :: args => if argTypes.size = args.length then match st.H[id]? with
        | some (.unit, .rnd key tms) => match C.Y key with
          | some F => (F id tms ((List.zipWith (typed C) argTypes.toList args).map X.unown) st.H).run fun r => k (.d .bool r.1) [] r.2
          | none => none
        | _ => none
        else none
      | _ => none) = some r := hk
  split at hk'
  · rename_i fn first cap l hl
    simp only [List.cons.injEq] at hl
    obtain ⟨hf, rfl⟩ := hl
    split at hk'
    · rename_i hsz
      have hv := h.val f
      rw [hf] at hv
      simp only [RepX] at hv
      obtain ⟨vs, us, hv, h1, h2⟩ := hv
      have hargs := RepXs.append (RepXs.append h1 (h.args (C := C) argTypes.toList args.toList (by simpa using hsz))) h2
      have hev : vs.toArray ++ args.map a.eval ++ us.toArray = (vs ++ args.toList.map a.eval ++ us).toArray := by
        apply Array.ext'
        simp
      have enter : ∀ (hfn : FnOk P fn), (execOp a.eval ⟨dst, .call ⟨.value f, args, argTypes⟩, ty, pos, af, gd⟩).run P w = .ok (.enter fn (vs ++ args.toList.map a.eval ++ us).toArray) w := by
        intro hfn
        simp only [execOp, resolve, Sem.run_bind, hv, Deferred.ofValue, Sem.run_pure, Result.andThen_ok, invoke]
        rw [hfn, hev]
      have hkno : kd ⟨dst, .call ⟨.value f, args, argTypes⟩, ty, pos, af, gd⟩ d ≠ .no := by
        unfold kd; split <;> simp
      have hkheap : ¬ (kd ⟨dst, .call ⟨.value f, args, argTypes⟩, ty, pos, af, gd⟩ d).heap dh := by
        unfold kd; split <;> simp [Key.heap]
      split at hk'
      · rename_i F hF
        obtain ⟨hfn, hcall⟩ : PureOk P fn fun args => (F args).run some := hC.orc fn _ hF
        · obtain ⟨res, hres, hk'⟩ := Tr.run_some hk'
          refine ⟨_, _, _, hk', fun next Q hn => ?_⟩
          have hc := hcall _ _ hres g w d dh _ h.le h.wf hargs
          intro rd
          refine wp_enter (enter hfn) rd (hc.mono ?_)
          rintro e w' ⟨v, g', rfl, r1, r2, r3⟩
          refine ⟨v, rfl, ?_⟩
          refine hn v w' (g'.rekey (.tmp (d + 1) 0) (kd _ d)) (RepX.rekey h.le (by simp) _ _ r1) ?_ ?_ r3.rekey
          · refine (r2.mono (Nat.le_refl _) (fun κ hκ => .inr (.inr hκ))).trans (Ghost.rekey_ext.mono (Nat.le_refl _) ?_)
            rintro κ rfl
            exact .inr (.inr (Nat.le_refl _))
          · refine Ghost.rekey_heap h.le (by simp) (by simp [Key.heap]) ?_
            have hfar : ∀ κ : Key, κ.heap dh → ¬ κ.deep (d + 1) := by
              intro κ hκ hd
              have := h.le
              cases κ <;> simp only [Key.heap, Key.deep] at hκ hd <;> omega
            exact HRep.ext r2 h.le (fun e => e) hfar (r2.num dh hfar) h.heap
      · rename_i F hF
        obtain ⟨hfn, hcall⟩ : EffOk P fn fun args H => (F args H).run some := hC.orc fn _ hF
        · obtain ⟨res, hres, hk'⟩ := Tr.run_some hk'
          refine ⟨_, _, _, hk', fun next Q hn => ?_⟩
          have hc := hcall _ _ _ _ hres g w d dh _ h.le h.wf h.heap hargs
          intro rd
          refine wp_enter (enter hfn) rd (hc.mono ?_)
          rintro e w' ⟨v, g', rfl, r1, r2, r3, r4⟩
          refine ⟨v, rfl, ?_⟩
          refine hn v w' (g'.rekey (.tmp (d + 1) 0) (kd _ d)) (RepX.rekey h.le (by simp) _ _ r1) ?_ ?_ r3.rekey
          · refine (r2.mono (Nat.le_refl _) (fun κ hκ => ?_)).trans (Ghost.rekey_ext.mono (Nat.le_refl _) ?_)
            · rcases hκ with hκ | hκ
              · exact .inr (.inr hκ)
              · exact .inr (.inl hκ)
            · rintro κ rfl
              exact .inr (.inr (Nat.le_refl _))
          · exact Ghost.rekey_heap h.le (by simp) (by simp [Key.heap]) r4
      · rename_i F hF
        obtain ⟨hfn, hcall, hcallP⟩ : OwnOk P fn fun args => (F args).run some := hC.orc fn _ hF
        split at hk'
        · rename_i first' tys' args' t ts x0 az hts hvals
          obtain ⟨al⟩ := args
          match al, hvals with
          | y :: ys, hvals =>
            simp only [List.map_cons, List.cons.injEq] at hvals
            obtain ⟨rfl, rfl⟩ := hvals
            split at hk'
            · rename_i e xs nl hty
              obtain ⟨res, hres, hk'⟩ := Tr.run_some hk'
              refine ⟨_, _, _, hk', fun next Q hn => ?_⟩
              have h1' : vs = [] := by simpa only [RepXs] using h1
              subst h1'
              obtain ⟨g1, hg1, hy, hH1, hw1, eU, eN, eμ, eo, hown, hnone⟩ := h.moveTo (C := C) y t (.tmp (d + 1) 0)
              rw [hty] at hy
              have hlen : ts.length = ys.length := by
                have : argTypes.toList.length = (y :: ys).length := by simpa using hsz
                rw [hts] at this
                simpa using this
              have hno1 : ¬ ∃ t, y = .tmp t ∧ Key.no = Key.tmp d t := by
                rintro ⟨_, _, e⟩
                cases e
              have hrest := RepXs.append (RepXs.ext hg1 h.le hno1 _ _ (h.args (C := C) ts ys hlen)) (RepXs.ext hg1 h.le hno1 _ _ h2)
              have hc := hcall e xs nl _ _ hres g1 w d dh _ _ h.le hw1 hy hrest
              have ee := enter hfn
              simp only [List.nil_append, List.map_cons, List.cons_append] at ee
              intro rd
              refine wp_enter ee rd (hc.mono ?_)
              rintro e' w' ⟨v, g', rfl, r1, r2, r3⟩
              refine ⟨v, rfl, ?_⟩
              refine hn v w' (g'.rekey (.tmp (d + 1) 0) (kd _ d)) (RepX.rekey h.le (by simp) _ _ r1) ?_ ?_ r3.rekey
              · refine (hg1.mono (Nat.le_refl _) ?_).trans ((r2.mono (Nat.le_refl _) (fun κ hκ => .inr (.inr hκ))).trans (Ghost.rekey_ext.mono (Nat.le_refl _) ?_))
                · rintro κ ⟨t2, rfl, rfl⟩
                  refine .inl ⟨t2, rfl, .inr ?_⟩
                  have hops : (Op.call ⟨.value f, ⟨.tmp t2 :: ys⟩, argTypes⟩).operands.toList = f :: .tmp t2 :: ys := by simp [Op.operands, Call.operands]
                  rw [hops]
                  cases f <;> simp [takenBy]
                · rintro κ rfl
                  exact .inr (.inr (Nat.le_refl _))
              · refine Ghost.rekey_heap h.le (by simp) (by simp [Key.heap]) ?_
                have hfar : ∀ κ : Key, κ.heap dh → ¬ κ.deep (d + 1) := by
                  intro κ hκ hd
                  have := h.le
                  cases κ <;> simp only [Key.heap, Key.deep] at hκ hd <;> omega
                exact HRep.ext r2 h.le (fun e => e) hfar (r2.num dh hfar) hH1
            · rename_i e xs hty
              obtain ⟨res, hres, hk'⟩ := Tr.run_some hk'
              refine ⟨_, _, _, hk', fun next Q hn => ?_⟩
              have h1' : vs = [] := by simpa only [RepXs] using h1
              subst h1'
              obtain ⟨g1, hg1, hy, hH1, hw1, eU, eN, eμ, eo, hown, hnone⟩ := h.moveTo (C := C) y t (.tmp (d + 1) 0)
              rw [hty] at hy
              have hlen : ts.length = ys.length := by
                have : argTypes.toList.length = (y :: ys).length := by simpa using hsz
                rw [hts] at this
                simpa using this
              have hno1 : ¬ ∃ t, y = .tmp t ∧ Key.no = Key.tmp d t := by
                rintro ⟨_, _, e⟩
                cases e
              have hrest := RepXs.append (RepXs.ext hg1 h.le hno1 _ _ (h.args (C := C) ts ys hlen)) (RepXs.ext hg1 h.le hno1 _ _ h2)
              have hc := hcallP e xs _ _ hres g1 w d dh _ _ h.le hw1 hy hrest
              have ee := enter hfn
              simp only [List.nil_append, List.map_cons, List.cons_append] at ee
              intro rd
              refine wp_enter ee rd (hc.mono ?_)
              rintro e' w' ⟨v, g', rfl, r1, r2, r3⟩
              refine ⟨v, rfl, ?_⟩
              refine hn v w' (g'.rekey (.tmp (d + 1) 0) (kd _ d)) (RepX.rekey h.le (by simp) _ _ r1) ?_ ?_ r3.rekey
              · refine (hg1.mono (Nat.le_refl _) ?_).trans ((r2.mono (Nat.le_refl _) (fun κ hκ => .inr (.inr hκ))).trans (Ghost.rekey_ext.mono (Nat.le_refl _) ?_))
                · rintro κ ⟨t2, rfl, rfl⟩
                  refine .inl ⟨t2, rfl, .inr ?_⟩
                  have hops : (Op.call ⟨.value f, ⟨.tmp t2 :: ys⟩, argTypes⟩).operands.toList = f :: .tmp t2 :: ys := by simp [Op.operands, Call.operands]
                  rw [hops]
                  cases f <;> simp [takenBy]
                · rintro κ rfl
                  exact .inr (.inr (Nat.le_refl _))
              · refine Ghost.rekey_heap h.le (by simp) (by simp [Key.heap]) ?_
                have hfar : ∀ κ : Key, κ.heap dh → ¬ κ.deep (d + 1) := by
                  intro κ hκ hd
                  have := h.le
                  cases κ <;> simp only [Key.heap, Key.deep] at hκ hd <;> omega
                exact HRep.ext r2 h.le (fun e => e) hfar (r2.num dh hfar) hH1
            · cases hk'
        · cases hk'
      · rename_i F hF
        obtain ⟨res, hres, hk'⟩ := Tr.run_some hk'
        have hext : ExtOk P fn fun args => (F args).run some := hC.orc fn _ hF
        obtain ⟨v, e1, e2⟩ := hext _ _ hres g w dh _ h.wf hargs
        refine ⟨_, _, _, hk', OpWp.same h (val := v) ?_ (e2.unown')⟩
        simp only [execOp, resolve, Sem.run_bind, hv, Deferred.ofValue, Sem.run_pure, Result.andThen_ok, invoke]
        rw [hev, e1]
      · cases hk'
    · cases hk'
  · rename_i id l hl
    simp only [List.cons.injEq] at hl
    obtain ⟨hf, rfl⟩ := hl
    split at hk'
    · rename_i hsz
      have hv := h.val f
      rw [hf] at hv
      simp only [RepX] at hv
      obtain ⟨hid, hv⟩ := hv
      have hargs := h.args (C := C) argTypes.toList args.toList (by simpa using hsz)
      split at hk'
      · rename_i key tms hH
        split at hk'
        · rename_i F hF
          obtain ⟨⟨b, H'⟩, hres, hk'⟩ := Tr.run_some hk'
          refine ⟨_, _, _, hk', fun next Q hn => ?_⟩
          obtain ⟨fn, tmps, assign, body, e1, e2⟩ := hC.yld key F hF id tms _ st.H b H' hH hres g w d dh _ h.le h.wf h.heap hargs
          have erun : (execOp a.eval ⟨dst, .call ⟨.value f, args, argTypes⟩, ty, pos, af, gd⟩).run P w = .ok (.round (g.μ dh id) fn tmps assign body) w := by
            simp only [execOp, resolve, Sem.run_bind, hv, Deferred.ofValue, Sem.run_pure, Result.andThen_ok, invoke]
            have e3 : (#[] ++ Array.map a.eval args) = (args.toList.map a.eval).toArray := by
              apply Array.ext'
              simp
            rw [e3, e1]
          intro rd
          refine wp_round erun rd (e2.mono ?_)
          rintro e w' ⟨g', rfl, r1, r2, r3⟩
          refine ⟨_, rfl, hn _ w' g' (RepX.bool_iff.2 rfl) (r1.mono (Nat.le_refl _) ?_) r3 r2⟩
          rintro κ (hκ | hκ)
          · exact .inr (.inr hκ)
          · exact .inr (.inl hκ)
        · cases hk'
      · cases hk'
    · cases hk'
  · cases hk'

theorem core_ok (hC : COk P C) (o : Oper) : CoreOk P C o := by
  obtain ⟨dst, op, ty, pos, af, gd⟩ := o
  cases op
  case move x => exact core_move x
  case assign x => exact core_assign x
  case pick c x y => exact core_pick c x y
  case alloc T => exact core_alloc hC.tys T
  case box T x => exact core_box hC.tys T x
  case buildSlice T n p => exact core_buildSlice hC.tys T n p
  case build T p => exact core_build hC.tys T p
  case load T x => exact core_load hC.tys T x
  case store T x y => exact core_store hC.tys T x y
  case nilCheck x => exact core_nilCheck x
  case binOp op T x y U => exact core_binOp hC.ar hC.tys hC.eqs op T U x y
  case makeMap T r => exact core_makeMap T r
  case lookup T m x ok => exact core_lookup hC.ar hC.mps T m x ok
  case mapUpdate T m x y => exact core_mapUpdate hC.ar hC.mps T m x y
  case unOp op T x => exact core_unOp hC.ar op T x
  case convert s t x => exact core_convert hC.ar hC.tys s t x
  case makeFunc fn first cap =>
    cases fn
    case func f => exact core_makeFunc f first cap
    all_goals
      intro R tr g w d dh st a h k r hk
      unfold coreK at hk
      simp at hk
  case slice T x lo hi mx => exact core_slice hC.tys T x lo hi mx
  case fieldAddr S x j => exact core_fieldAddr hC.tys S x j
  case field S x j => exact core_field hC.tys S x j
  case indexAddr T x i => exact core_indexAddr hC.tys T x i
  case index T x i => exact core_index hC.tys T x i
  case makeSlice T x y => exact core_makeSlice hC.tys T x y
  case range T x => exact core_range hC.tys T x
  case next x str => exact core_next x str
  case extract x j => exact core_extract x j
  case call c =>
    obtain ⟨cal, args, tys⟩ := c
    cases cal
    case value f => exact core_value hC f args tys
    case builtin b =>
      cases b
      case len => exact core_len hC.tys args tys
      case append => exact core_append hC.tys args tys
      case min => exact core_min args tys
      case max => exact core_max args tys
      case clear => exact core_clear hC.zer args tys
      all_goals
        intro R tr g w d dh st a h k r hk
        unfold coreK at hk
        simp at hk
    case invoke =>
      intro R tr g w d dh st a h k r hk
      unfold coreK at hk
      simp at hk
  all_goals
    intro R tr g w d dh st a h k r hk
    unfold coreK at hk
    simp at hk

end
end Go.Proofs.Ytnbfiifkaddehaa.V

/- What the evaluator tells is so: regions in the text's order. -/
namespace Go.Proofs.Ytnbfiifkaddehaa.V
open Go
set_option linter.unusedVariables false
set_option linter.unusedSimpArgs false

/-- Whose blocks a frame's code may write. -/
def Kf (d dh : Nat) (κ : Key) : Prop := κ.deep d ∨ κ.heap dh

theorem Kop.kf {o : Oper} {d dh : Nat} {cons : List Bool} {κ : Key} (h : Kop o d dh cons κ) : Kf d dh κ := by
  rcases h with ⟨t, rfl, _⟩ | h | h
  · exact .inl (Nat.le_refl _)
  · exact .inr h
  · refine .inl ?_
    cases κ <;> simp only [Key.deep] at h ⊢ <;> first | omega | exact h

theorem opC_sound {P : Program} {C : Ctx} (hC : COk P C) {R : Type} {tr : Bool} {o : Oper} {g w} {d dh : Nat} {st : St} {a : Act} (h : Fr g w d dh st a) {k : St → Option R} {r : R} (hk : opC C tr o st k = some r)
    {next : Act → World → Prop} {Q : Exit → Act → World → Prop} (hn : ∀ st' val w' g', k st' = some r → Fr g' w' d dh st' (a.put o.dst val) → Ext g w g' w' d (Kf d dh) → next (a.put o.dst val) w') (rd : Option Nat) : o.wpIn (rdF rd) 0 P a w next Q := by
  unfold opC at hk
  split at hk
  · cases hk
  obtain ⟨v, cons, H', h1, h2⟩ := core_ok hC o tr h _ r hk
  exact h2 next Q (fun val w' g' r1 r2 r3 r4 => hn _ val w' g' h1 (h.put r1 r2 r3 r4) (r2.mono (Nat.le_refl _) (fun _ => Kop.kf))) rd

/-- One place of a frame is told of otherwise. -/
theorem Fr.place {g w g'} {d dh p : Nat} {K : Key → Prop} {st : St} {a : Act} {x : X} {H' : Hp} (h : Fr g w d dh st a) (he : Ext g w g' w d K) (hno : ¬ K .no) (hKt : ∀ t, t ≠ p → ¬ K (.tmp d t)) (hmk : ¬ K (.mark d))
    (hH : HRep g' w dh H') (hw : WF g' w) (hx : RepX g' w dh (.tmp d p) x (a.tmps.getD p undef)) : Fr g' w d dh { tm := st.tm.set p x, H := H' } a := by
  refine ⟨by simpa using h.len, fun t y e => ?_, hH, hw, h.le, h.mks.ext he hmk⟩
  simp only at e
  by_cases ht : p = t
  · subst ht
    have hl : p < st.tm.length := by simpa using (List.getElem?_eq_some_iff.1 e).1
    rw [List.getElem?_set_self hl] at e
    cases e
    exact hx
  · rw [List.getElem?_set_ne ht] at e
    exact RepX.ext he h.le hno (hKt t (fun e => ht e.symm)) y _ (h.rep t y e)

theorem Fr.getD {g w} {d dh p : Nat} {st : St} {a : Act} (h : Fr g w d dh st a) : RepX g w dh (.tmp d p) (st.tm.getD p .dead) (a.tmps.getD p undef) := by
  rw [List.getD_eq_getElem?_getD]
  cases e : st.tm[p]? with
  | none => simp [RepX]
  | some x => exact h.rep p x e

/-- A block's cells are settled up to here. -/
def Ghost.up (g : Ghost) (b n : Nat) : Ghost := { g with U := fun x => if x = b then n else g.U x }

theorem Pris.up {g : Ghost} {w : World} {d b : Nat} {κ : Key} {e : Ty} {xs : List e.den} {arr : Array Value} {ty : Nat} {fr : Nat × Nat} {cs rest : List Value} (hw : WF g w) (e2 : w.heap[b]? = some (.cells arr ty fr)) (e5 : g.U b = 0) (e6 : g.own b = some κ) (e7 : arr.toList = cs ++ rest) (e8 : Parts (RepC w g e) xs cs) :
    Ext g w (g.up b (xs.length * e.size)) w d (fun x => x = κ) ∧ WF (g.up b (xs.length * e.size)) w ∧ Run w (g.up b (xs.length * e.size)) (RepC w (g.up b (xs.length * e.size)) e) e.size xs (some ⟨b, 0, none⟩) := by
  have hb : b < w.heap.size := (Array.getElem?_eq_some_iff.1 e2).1
  have hcl := Parts.length (RepC.length (w := w) (g := g) e) xs cs e8
  have he : Ext g w (g.up b (xs.length * e.size)) w d (fun x => x = κ) := by
    refine ⟨rfl, rfl, rfl, Nat.le_refl _, fun i hi hk => ⟨rfl, rfl, ?_⟩, fun i off ho => ⟨rfl, ?_⟩, fun _ _ _ h => ⟨h, rfl, rfl⟩, fun _ _ => rfl⟩
    · have hne : i ≠ b := fun e => hk κ (e ▸ e6) rfl
      simp [Ghost.up, hne]
    · have hne : i ≠ b := by
        rintro rfl
        omega
      simp [Ghost.up, hne]; exact ho
  refine ⟨he, ⟨fun i hi => ?_, Tabs.ext he hw.2⟩, ?_⟩
  · have hne : i ≠ b := by omega
    obtain ⟨q1, q2⟩ := hw.1 i hi
    exact ⟨q1, by simp [Ghost.up, hne, q2]⟩
  · refine Run.of_cells (RepC.length e) (Parts.imp (RepC.ext he e) _ _ e8) fun j hj => ?_
    rw [hcl] at hj
    refine ⟨?_, by simp [Ghost.up]; exact hj⟩
    rw [Nat.zero_add, cell_of_heap e2, ← Array.getElem?_toList, e7, List.getElem?_append_left (by omega)]
    exact List.getElem?_eq_getElem _

/-- Two more variables are told of: the first one's block is there already. -/
def Ghost.vars2 (g : Ghost) (dh b c : Nat) (t : Ty) : Ghost :=
  { g with
    N := fun h => if h = dh then g.N dh + 2 else g.N h
    μ := fun h id => if h = dh ∧ id = g.N dh then b else if h = dh ∧ id = g.N dh + 1 then c else g.μ h id
    oty := fun h id => if h = dh ∧ id = g.N dh then t else if h = dh ∧ id = g.N dh + 1 then .bool else g.oty h id }

theorem Ghost.vars2_ext {g : Ghost} {w : World} {d dh b c : Nat} {t : Ty} : Ext g w (g.vars2 dh b c t) w d (fun κ => κ = .obj dh (g.N dh)) := by
  refine ⟨rfl, rfl, rfl, Nat.le_refl _, fun _ _ _ => ⟨rfl, rfl, rfl⟩, fun _ _ h => ⟨rfl, h⟩, fun x _ id hid => ?_, fun x hx => ?_⟩
  · by_cases hh : x = dh
    · subst hh
      have h1 : id ≠ g.N x := by omega
      have h2 : id ≠ g.N x + 1 := by omega
      simp [Ghost.vars2, h1, h2]; omega
    · simp [Ghost.vars2, hh, hid]
  · by_cases hh : x = dh
    · subst hh
      exact absurd rfl (hx (.obj x (g.N x)) rfl)
    · simp [Ghost.vars2, hh]

theorem OdR.rekey1 {g w} {κ κ' : Key} {a : Ty} {xs : List (Bool × List a.den × Unit)} {hole : Option Nat} {hd : Nat → Option Addr × Nat} {cell : Nat → Option Value} {b : Nat} (ho : g.own b = some κ) (h : OdR g w κ a xs hole hd cell)
    (hb : ∀ i, i < xs.length → (hd i).2 ≠ 0 → (hd i).1 ≠ some ⟨b, 0, none⟩) : OdR (g.rekey1 b κ') w κ a xs hole hd cell := by
  refine ⟨fun i hi => ?_, h.2⟩
  obtain ⟨h1, h2, h3, h4, h5⟩ := h.1 i hi
  have he := Ghost.rekey1_ext (g := g) (w := w) (d := 0) (κ' := κ') ho
  refine ⟨h1, h2, h3, h4.ext he (RepC.ext he a), fun hh => ?_⟩
  rcases h5 hh with m0 | ⟨b', arr', ty', fr', m1, m2, m3, m4, m5, m6⟩
  · exact .inl m0
  · by_cases hc : (hd i).2 = 0
    · exact .inl hc
    · have hne : b' ≠ b := by
        rintro rfl
        exact hb i hi hc m1
      exact .inr ⟨b', arr', ty', fr', m1, m2, m3, m4, m5, by simp [Ghost.rekey1, hne, m6]⟩

theorem WF.rekey1 {g : Ghost} {w : World} {b : Nat} {κ κ' : Key} (h : WF g w) (ho : g.own b = some κ) : WF (g.rekey1 b κ') w := by
  refine ⟨fun b' hb => ?_, Tabs.ext (Ghost.rekey1_ext (d := 0) ho) h.2⟩
  obtain ⟨h1, h2⟩ := h.1 b' hb
  have hne : b' ≠ b := by
    rintro rfl
    rw [ho] at h1
    cases h1
  exact ⟨by simp [Ghost.rekey1, hne, h1], h2⟩

theorem OdR.run {g w} {κ : Key} {a : Ty} {xs : List (Bool × List a.den × Unit)} {hd : Nat → Option Addr × Nat} {arr : Array Value} {ty b : Nat} {fr : Nat × Nat} (h : OdR g w κ a xs none hd (fun k => arr[k]?)) (hb : w.heap[b]? = some (.cells arr ty fr)) {n : Nat} (hn : xs.length * 2 ≤ n)
    {g' : Ghost} {d : Nat} {K : Key → Prop} (he : Ext g w g' w d K) (hU : g'.U b = n) : Run w g' (RepC w g' (stT a)) 2 xs (some ⟨b, 0, none⟩) := by
  intro i hi
  obtain ⟨h1, h2, h3, h4, h5⟩ := h.1 i hi
  refine ⟨_, [.bool (xs[i]).1, .slice (hd i).1 (xs[i]).2.1.length (hd i).2], rfl, rfl, rfl, ?_, fun j hj => ?_⟩
  · exact ⟨[.bool (xs[i]).1], [.slice (hd i).1 (xs[i]).2.1.length (hd i).2], rfl, rfl, [.slice (hd i).1 (xs[i]).2.1.length (hd i).2], [], rfl, ⟨_, _, rfl, h3, h4.ext he (RepC.ext he a)⟩, rfl⟩
  · have hj2 : j < 2 := hj
    refine ⟨?_, by rw [hU]; show 0 + (i * 2 + j) < n; omega⟩
    show w.cell? ⟨b, 0 + (i * 2 + j), none⟩ = _
    rw [Nat.zero_add, cell_of_heap hb]
    have hj3 : j = 0 ∨ j = 1 := by omega
    rcases hj3 with rfl | rfl
    · rw [show i * 2 + 0 = 2 * i by omega]; exact h1
    · rw [show i * 2 + 1 = 2 * i + 1 by omega]; exact h2

theorem pre_sound {R : Type} {n p : Nat} {g w} {d dh : Nat} {st : St} {a : Act} (h : Fr g w d dh st a) {k : St → Option R} {r : R} (hk : preX n p st k = some r) :
    ∃ st' g', k st' = some r ∧ Fr g' w d dh st' a ∧ Ext g w g' w d (Kf d dh) := by
  have hp := h.getD (p := p)
  unfold preX at hk
  split at hk
  · rename_i e nl ev
    rw [ev] at hp
    refine ⟨_, g, hk, ?_, Ext.refl _ _ _ _⟩
    refine h.place (K := fun _ => False) (Ext.refl _ _ _ _) (fun e => e) (fun _ _ e => e) (fun e => e) h.heap h.wf ?_
    simp only [RepX] at hp ⊢
    obtain ⟨b0, c, h1, h2, h3, h4, h5⟩ := hp
    refine ⟨b0, c, h1, h2, ?_⟩
    rcases h5 trivial with h5 | ⟨b, arr, ty, fr, e1, e2, e3, e4, e5, e6⟩
    · exact .inl ⟨h5, rfl⟩
    · exact .inr ⟨b, arr, ty, fr, [], arr.toList, e1, e2, e3, e4, by simpa using e5, e6, rfl, rfl⟩
  · rename_i e xs ev
    rw [ev] at hp
    simp only [RepX] at hp
    obtain ⟨b0, c, h1, h2, h3⟩ := hp
    cases hem : List.isEmpty xs with
    | true =>
      rw [hem] at hk
      have hnil : xs = [] := by simpa using hem
      subst hnil
      refine ⟨_, g, hk, ?_, Ext.refl _ _ _ _⟩
      refine h.place (K := fun _ => False) (Ext.refl _ _ _ _) (fun e => e) (fun _ _ e => e) (fun e => e) h.heap h.wf ?_
      simp only [RepX]
      exact ⟨b0, c, h1, h2, Run.nil, (fun b hb => by cases hb), (fun hd => by cases hd)⟩
    | false =>
      rw [hem] at hk
      simp only [cond_false] at hk
      split at hk
      · rename_i hgd
        have hne : xs ≠ [] := by
          rintro rfl
          simp at hem
        have hlen : 0 < xs.length := List.length_pos_iff.2 hne
        rcases h3 with ⟨h0, _⟩ | ⟨b, arr, ty, fr, cs, rest, rfl, e2, e3, e4, e5, e6, e7, e8⟩
        · omega
        have hb : b < w.heap.size := (Array.getElem?_eq_some_iff.1 e2).1
        have hN : st.H.length = g.N dh := h.heap.1
        have he : Ext g w (g.var b dh (.arr xs.length e)) w d (fun κ => κ = .tmp d p ∨ κ = .obj dh (g.N dh)) := by
          refine ⟨rfl, rfl, rfl, Nat.le_refl _, fun i hi hk => ⟨rfl, ?_, rfl⟩, fun _ _ h => ⟨rfl, h⟩, fun x _ id hid => ?_, fun x hx => ?_⟩
          · have hne : i ≠ b := fun e => hk (.tmp d p) (e ▸ e6) (.inl rfl)
            simp [Ghost.var, hne]
          · by_cases hh : x = dh
            · subst hh
              have : id ≠ g.N x := by omega
              simp [Ghost.var, this]; omega
            · simp [Ghost.var, hh, hid]
          · by_cases hh : x = dh
            · subst hh
              exact absurd (.inr rfl) (hx (.obj x (g.N x)) rfl)
            · simp [Ghost.var, hh]
        have hcl := Parts.length (RepC.length (w := w) (g := g) e) xs cs e8
        have hH : HRep (g.var b dh (.arr xs.length e)) w dh (st.H ++ [(.arr xs.length e, .d (.arr xs.length e) xs)]) := by
          refine ⟨by simp [hN, Ghost.var], fun i ti ci ei => ?_⟩
          by_cases hi : i < st.H.length
          · rw [List.getElem?_append_left hi] at ei
            obtain ⟨r1, r2, r3⟩ := h.heap.2 i ti ci ei
            have hidN : i < g.N dh := by rw [← hN]; exact hi
            obtain ⟨k1, k2, k3⟩ := he.mu dh h.le i hidN
            exact ⟨k3.trans r1, r2, r3.to he h.le (by simp) (fun _ => by simp) (by simp; omega) k2⟩
          · have hi2 : i = st.H.length := by
              have := (List.getElem?_eq_some_iff.1 ei).1
              simp at this; omega
            subst hi2
            simp only [List.getElem?_concat_length, Option.some.injEq, Prod.mk.injEq] at ei
            obtain ⟨rfl, rfl⟩ := ei
            rw [hN]
            refine ⟨by simp [Ghost.var], by simpa [good] using hgd, .inr ⟨by simp [Ghost.var], by simp [Ghost.var, e5], .inl ⟨arr, ty, fr, by simpa [Ghost.var] using e2, e4.open, ?_⟩⟩⟩
            simp only [RepO]
            refine ⟨trivial, rfl, ?_⟩
            have ht : arr.toList.take (Ty.arr xs.length e).size = cs := by
              rw [e7]
              exact List.take_left' (by rw [hcl]; rfl)
            rw [ht]
            exact e8.imp (RepC.ext he e)
        refine ⟨_, _, hk, h.place he (by simp) (fun t ht => by simpa using ht) (by simp) hH ?_ ?_, he.mono (Nat.le_refl _) ?_⟩
        · refine ⟨fun i hi => ?_, Tabs.ext he h.wf.2⟩
          have hne : i ≠ b := by omega
          obtain ⟨q1, q2⟩ := h.wf.1 i hi
          simp [Ghost.var, hne, q1, q2]
        · simp only [RepX]
          rw [hN]
          refine ⟨by simp [Ghost.var], xs.length, 0, ⟨b, 0, none⟩, c, by simp [Ghost.var, pathAt], by omega, h2, h1, fun _ => by simp [Ghost.var]⟩
        · rintro κ (rfl | rfl)
          · exact .inl (Nat.le_refl _)
          · exact .inr rfl
      · cases hk
  · rename_i e xs ev
    rw [ev] at hp
    simp only [RepX] at hp
    obtain ⟨b0, c, h1, h2, h3⟩ := hp
    rcases h3 with ⟨h0, rfl⟩ | ⟨b, arr, ty, fr, cs, rest, rfl, e2, e3, e4, e5, e6, e7, e8⟩
    · refine ⟨_, g, hk, ?_, Ext.refl _ _ _ _⟩
      refine h.place (K := fun _ => False) (Ext.refl _ _ _ _) (fun e => e) (fun _ _ e => e) (fun e => e) h.heap h.wf ?_
      simp only [RepX]
      exact ⟨b0, c, h1, h2, Run.nil, (fun b hb => by cases hb), fun _ => .inl h0⟩
    · obtain ⟨he, hw, hrun⟩ := Pris.up (d := d) (κ := .tmp d p) h.wf e2 e5 e6 e7 e8
      refine ⟨_, g.up b (xs.length * e.size), hk, h.place he (by simp) (fun t ht => by simpa using ht) (by simp) (HRep.ext he h.le (by simp) (by rintro κ hκ rfl; exact hκ) rfl h.heap) hw ?_, he.mono (Nat.le_refl _) ?_⟩
      · simp only [RepX]
        exact ⟨some ⟨b, 0, none⟩, c, h1, h2, hrun, (fun b hb => by cases hb), fun _ => .inr ⟨b, arr, ty, fr, rfl, e2, e3, e4, by simp [Ghost.up], e6⟩⟩
      · rintro κ rfl
        exact .inl (Nat.le_refl _)
  · rename_i a1 xs ev
    rw [ev] at hp
    simp only [RepX] at hp
    obtain ⟨A, c, h1, h2, h3⟩ := hp
    cases hem : List.isEmpty xs with
    | true => rw [hem] at hk; cases hk
    | false =>
      rw [hem] at hk
      simp only [cond_false] at hk
      split at hk
      · rename_i hgd
        have hne : xs ≠ [] := by
          rintro rfl
          simp at hem
        rcases h3 with ⟨_, h0⟩ | ⟨b, arr, ty, fr, hd, rfl, e2, e3, e4, e5, e6, e7, e8⟩
        · exact absurd h0 hne
        have hN : st.H.length = g.N dh := h.heap.1
        have hb : b < w.heap.size := (Array.getElem?_eq_some_iff.1 e2).1
        -- the outer block is the variable's; the inner ones are its part's; the variables are told
        have x1 : Ext g w (g.rekey1 b (.obj dh (g.N dh))) w d (fun κ => κ = .tmp d p) := Ghost.rekey1_ext e6
        have x2 : Ext (g.rekey1 b (.obj dh (g.N dh))) w ((g.rekey1 b (.obj dh (g.N dh))).rekey (.tmp d p) (.cell dh (g.N dh) 0)) w d (fun κ => κ = .tmp d p) := Ghost.rekey_ext
        have x3 : Ext ((g.rekey1 b (.obj dh (g.N dh))).rekey (.tmp d p) (.cell dh (g.N dh) 0)) w (((g.rekey1 b (.obj dh (g.N dh))).rekey (.tmp d p) (.cell dh (g.N dh) 0)).vars2 dh b c (.arr xs.length (stT a1))) w d (fun κ => κ = .obj dh (g.N dh)) := Ghost.vars2_ext
        have o3 := ((e7.rekey1 (κ' := .obj dh (g.N dh)) e6 e8).rekey (κ' := .cell dh (g.N dh) 0)).ext x3 (by simp)
        have w3 := Tabs.ext x3 ((h.wf.rekey1 (κ' := .obj dh (g.N dh)) e6).rekey (κ := .tmp d p) (κ' := .cell dh (g.N dh) 0)).2
        have w2 := ((h.wf.rekey1 (κ' := .obj dh (g.N dh)) e6).rekey (κ := .tmp d p) (κ' := .cell dh (g.N dh) 0)).1
        have he := (x1.trans x2).mono (d' := d) (K' := fun κ => κ = .tmp d p ∨ κ = .obj dh (g.N dh)) (Nat.le_refl _) (fun κ k => .inl k) |>.trans (x3.mono (Nat.le_refl _) (fun κ k => .inr k))
        generalize hg' : ((g.rekey1 b (.obj dh (g.N dh))).rekey (.tmp d p) (.cell dh (g.N dh) 0)).vars2 dh b c (.arr xs.length (stT a1)) = g' at he o3 w3 x3
        have gN : g'.N dh = g.N dh + 2 := by rw [← hg']; simp [Ghost.vars2, Ghost.rekey, Ghost.rekey1]
        have gμ0 : g'.μ dh (g.N dh) = b := by rw [← hg']; simp [Ghost.vars2, Ghost.rekey, Ghost.rekey1]
        have gμ1 : g'.μ dh (g.N dh + 1) = c := by rw [← hg']; simp [Ghost.vars2, Ghost.rekey, Ghost.rekey1]
        have go0 : g'.oty dh (g.N dh) = .arr xs.length (stT a1) := by rw [← hg']; simp [Ghost.vars2, Ghost.rekey, Ghost.rekey1]
        have go1 : g'.oty dh (g.N dh + 1) = .bool := by rw [← hg']; simp [Ghost.vars2, Ghost.rekey, Ghost.rekey1]
        have gw : g'.own b = some (.obj dh (g.N dh)) := by rw [← hg']; simp [Ghost.vars2, Ghost.rekey, Ghost.rekey1]
        have gU : g'.U b = 0 := by rw [← hg']; simpa [Ghost.vars2, Ghost.rekey, Ghost.rekey1] using e5
        have hH : HRep g' w dh (st.H ++ [(.arr xs.length (stT a1), .od a1 xs none), (.bool, .dead)]) := by
          refine ⟨by simp [hN, gN], fun i ti ci ei => ?_⟩
          by_cases hi : i < st.H.length
          · rw [List.getElem?_append_left hi] at ei
            obtain ⟨r1, r2, r3⟩ := h.heap.2 i ti ci ei
            have hidN : i < g.N dh := by rw [← hN]; exact hi
            obtain ⟨k1, k2, k3⟩ := he.mu dh h.le i hidN
            exact ⟨k3.trans r1, r2, r3.to he h.le (by simp) (fun _ => by simp) (by simp; omega) k2⟩
          · have hi2 : i = st.H.length ∨ i = st.H.length + 1 := by
              have := (List.getElem?_eq_some_iff.1 ei).1
              simp at this; omega
            rcases hi2 with rfl | rfl
            · rw [List.getElem?_append_right (Nat.le_refl _), Nat.sub_self] at ei
              simp only [List.getElem?_cons_zero, Option.some.injEq, Prod.mk.injEq] at ei
              obtain ⟨rfl, rfl⟩ := ei
              rw [hN]
              refine ⟨go0, by simpa [good] using hgd, .inr ⟨by rw [gμ0]; exact gw, by rw [gμ0]; exact gU, .inr (.inr ⟨a1, xs, none, rfl, rfl, by rw [gN]; omega, by rw [gμ1]; exact h2, arr, ty, fr, hd, by rw [gμ0]; exact e2, e4, by rw [gμ1]; exact e3, o3⟩)⟩⟩
            · rw [List.getElem?_append_right (by omega), show st.H.length + 1 - st.H.length = 1 by omega] at ei
              simp only [List.getElem?_cons_succ, List.getElem?_cons_zero, Option.some.injEq, Prod.mk.injEq] at ei
              obtain ⟨rfl, rfl⟩ := ei
              rw [hN]
              exact ⟨go1, rfl, .inl ⟨by simp, rfl⟩⟩
        refine ⟨_, g', hk, h.place he (by simp) (fun t ht => by simpa using ht) (by simp) hH ⟨fun i hi => ?_, w3⟩ ?_, he.mono (Nat.le_refl _) ?_⟩
        · have := w2 i hi
          rw [← hg']
          exact this
        · simp only [RepX]
          rw [hN]
          exact ⟨by rw [gN]; omega, go0, by rw [gμ1]; exact h2, by rw [gμ0, gμ1]; exact h1⟩
        · rintro κ (rfl | rfl)
          · exact .inl (Nat.le_refl _)
          · exact .inr rfl
      · cases hk
  · rename_i a1 id len ev
    rw [ev] at hp
    simp only [RepX] at hp
    obtain ⟨hN, h2, h3, h4⟩ := hp
    split at hk
    · rename_i t a2 xs hid
      split at hk
      · rename_i haa
        subst haa
        obtain ⟨r1, r2, hlive⟩ := h.heap.2 id t _ hid
        obtain ⟨r3, r4, r56⟩ := hlive.at (by simp)
        obtain ⟨rt, rN, rc, arr, tyo, fr, hd, q1, q2, q3, q4⟩ := r56.rows
        have hlen : len = xs.length := by
          rw [r1, rt] at h2
          simpa using h2.symm
        subst hlen
        have x1 : Ext g w (g.rekey (.cell dh id 0) (.tmp d p)) w d (fun κ => κ = .cell dh id 0) := Ghost.rekey_ext
        have o1 : (g.rekey (.cell dh id 0) (.tmp d p)).own (g.μ dh id) = some (.obj dh id) := by simp [Ghost.rekey, r3]
        have x2 : Ext (g.rekey (.cell dh id 0) (.tmp d p)) w ((g.rekey (.cell dh id 0) (.tmp d p)).rekey1 (g.μ dh id) (.tmp d p)) w d (fun κ => κ = .obj dh id) := Ghost.rekey1_ext o1
        have he := (x1.mono (d' := d) (K' := fun κ => κ = .cell dh id 0 ∨ κ = .obj dh id) (Nat.le_refl _) (fun κ k => .inl k)).trans (x2.mono (Nat.le_refl _) (fun κ k => .inr k))
        refine ⟨_, _, hk, h.place he (by simp) (fun t ht => by simp) (by simp) (h.heap.setL he h.le (by simp) rfl hid (fun κ _ e => ?_) (.inl ⟨by rw [rt]; simp, rfl⟩)) ((h.wf.rekey).rekey1 o1) ?_, he.mono (Nat.le_refl _) ?_⟩
        · rcases e with rfl | rfl
          · exact .inr ⟨0, rfl⟩
          · exact .inl rfl
        · simp only [RepX]
          refine ⟨_, _, h4, h3, .inr ⟨g.μ dh id, arr, tyo, fr, hd, rfl, q1, q3, q2, by simpa [Ghost.rekey, Ghost.rekey1] using r4, by simp [Ghost.rekey1], (q4.rekey (κ' := .tmp d p)).ext x2 (by simp), fun i hi hc hA => ?_⟩⟩
          obtain ⟨_, _, _, _, k5⟩ := q4.1 i hi
          rcases k5 (fun e => by cases e) with m0 | ⟨b', _, _, _, m1, _, _, _, _, m6⟩
          · exact hc m0
          · rw [hA] at m1
            simp only [Option.some.injEq, Addr.mk.injEq, and_true] at m1
            rw [← m1, r3] at m6
            cases m6
        · rintro κ (rfl | rfl)
          · exact .inr rfl
          · exact .inr rfl
      · cases hk
    · cases hk
  · rename_i a1 xs ev
    rw [ev] at hp
    simp only [RepX] at hp
    obtain ⟨A, c, h1, h2, h3⟩ := hp
    rcases h3 with ⟨h0, rfl⟩ | ⟨b, arr, ty, fr, hd, rfl, e2, e3, e4, e5, e6, e7, e8⟩
    · refine ⟨_, g, hk, ?_, Ext.refl _ _ _ _⟩
      refine h.place (K := fun _ => False) (Ext.refl _ _ _ _) (fun e => e) (fun _ _ e => e) (fun e => e) h.heap h.wf ?_
      simp only [RepX]
      exact ⟨A, c, h1, h2, Run.nil, (fun b hb => by cases hb), fun _ => .inl h0⟩
    · have he : Ext g w (g.up b (xs.length * 2)) w d (fun κ => κ = .tmp d p) := by
        refine ⟨rfl, rfl, rfl, Nat.le_refl _, fun i hi hk => ⟨rfl, rfl, ?_⟩, fun i off ho => ⟨rfl, ?_⟩, fun _ _ _ h => ⟨h, rfl, rfl⟩, fun _ _ => rfl⟩
        · have hne : i ≠ b := fun e => hk (.tmp d p) (e ▸ e6) rfl
          simp [Ghost.up, hne]
        · have hne : i ≠ b := by
            rintro rfl
            omega
          simp [Ghost.up, hne]; exact ho
      have hb : b < w.heap.size := (Array.getElem?_eq_some_iff.1 e2).1
      refine ⟨_, g.up b (xs.length * 2), hk, h.place he (by simp) (fun t ht => by simpa using ht) (by simp) (HRep.ext he h.le (by simp) (by rintro κ hκ rfl; exact hκ) rfl h.heap) ⟨fun i hi => ?_, Tabs.ext he h.wf.2⟩ ?_, he.mono (Nat.le_refl _) ?_⟩
      · have hne : i ≠ b := by omega
        obtain ⟨q1, q2⟩ := h.wf.1 i hi
        exact ⟨q1, by simp [Ghost.up, hne, q2]⟩
      · simp only [RepX]
        exact ⟨some ⟨b, 0, none⟩, c, h1, h2, e7.run e2 (Nat.le_refl _) he (by simp [Ghost.up]), (fun b hb => by cases hb), fun _ => .inr ⟨b, arr, ty, fr, rfl, e2, e3, .inl e4, by simp [Ghost.up, stT, Ty.size], e6⟩⟩
      · rintro κ rfl
        exact .inl (Nat.le_refl _)
  · rename_i e id off len ev
    rw [ev] at hp
    simp only [RepX] at hp
    obtain ⟨hN, n', o, a0, c, h2, h3, h4, h5, h6⟩ := hp
    simp only [pathAt, Option.some.injEq, Prod.mk.injEq] at h2
    obtain ⟨rfl, h2⟩ := h2
    split at hk
    · rename_i t n e2 l hid
      split at hk
      · rename_i hee
        subst hee
        obtain ⟨r1, r2, hlive⟩ := h.heap.2 id t _ hid
        obtain ⟨r3, r4, r56⟩ := hlive.at (by simp)
        rw [h2] at r1
        subst r1
        obtain ⟨arr, tyo, fr, r5, rf, r6⟩ := r56.cells (p := []) rfl (by simp) (fun _ _ _ e => by cases e)
        simp only [RepO] at r6
        obtain ⟨q1, q2, q3⟩ := r6
        simp only [Ty.arr.injEq, and_true] at q1
        subst q1
        have hb : g.μ dh id < w.heap.size := (Array.getElem?_eq_some_iff.1 r5).1
        have hcl := Parts.length (RepC.length (w := w) (g := g) e) _ _ q3
        let g' : Ghost := { g with U := fun b => if b = g.μ dh id then n * e.size else g.U b }
        have he : Ext g w g' w d (fun κ => κ = .obj dh id) := by
          refine ⟨rfl, rfl, rfl, Nat.le_refl _, fun i hi hk => ⟨rfl, rfl, ?_⟩, fun i off ho => ⟨rfl, ?_⟩, fun _ _ _ h => ⟨h, rfl, rfl⟩, fun _ _ => rfl⟩
          · have hne : i ≠ g.μ dh id := fun e => hk (.obj dh id) (e ▸ r3) rfl
            simp [g', hne]
          · have hne : i ≠ g.μ dh id := by
              rintro rfl
              omega
            simp [g', hne]; exact ho
        refine ⟨_, g', hk, h.place he (by simp) (fun t ht => by simp) (by simp) (h.heap.setL he h.le (by simp) rfl hid (fun κ _ e => .inl e) (.inl ⟨by simp, rfl⟩)) ?_ ?_, he.mono (Nat.le_refl _) ?_⟩
        · refine ⟨fun i hi => ?_, Tabs.ext he h.wf.2⟩
          have hne : i ≠ g.μ dh id := by omega
          obtain ⟨q1, q2⟩ := h.wf.1 i hi
          exact ⟨q1, by simp [g', hne, q2]⟩
        · simp only [RepX]
          have hll : (List.take len (List.drop off l)).length = len := by
            rw [List.length_take, List.length_drop]
            omega
          refine ⟨some a0, c, by rw [hll]; exact h5, by rw [hll]; exact h4, ?_, (fun b hb => by cases hb; rfl), (fun hd => by cases hd)⟩
          by_cases hl0 : len = 0
          · subst hl0
            simp only [List.take_zero]
            exact Run.nil
          · rw [h6 (by omega)]
            have hrun : Run w g' (RepC w g' e) e.size l (some ⟨g.μ dh id, 0, none⟩) := by
              refine Run.of_cells (RepC.length e) (Parts.imp (RepC.ext he e) _ _ q3) (fun j hj => ?_)
              rw [hcl, q2] at hj
              refine ⟨?_, by simp [g']; exact hj⟩
              rw [Nat.zero_add, cell_of_heap r5, ← Array.getElem?_toList]
              exact take_get (n := (Ty.arr n e).size) (by rw [List.getElem?_eq_getElem])
            have := (hrun.drop off).take len
            rw [Option.map_some, Addr.add_lit] at this
            exact this
        · rintro κ rfl
          exact .inr rfl
      · cases hk
    · cases hk
  · exact ⟨st, g, hk, h, Ext.refl _ _ _ _⟩

theorem op_sound {P : Program} {C : Ctx} (hC : COk P C) {R : Type} {tr : Bool} {o : Oper} {g w} {d dh : Nat} {st : St} {a : Act} (h : Fr g w d dh st a) {k : St → Option R} {r : R} (hk : opK C tr o st k = some r)
    {next : Act → World → Prop} {Q : Exit → Act → World → Prop} (hn : ∀ st' val w' g', k st' = some r → Fr g' w' d dh st' (a.put o.dst val) → Ext g w g' w' d (Kf d dh) → next (a.put o.dst val) w') (rd : Option Nat) : o.wpIn (rdF rd) 0 P a w next Q := by
  have new : ∀ n, newK C n o (o.op.operands.toList.map st.val) (fun v => k (st.put o.dst v)) = some r → o.wpIn (rdF rd) 0 P a w next Q := by
    intro n hk
    obtain ⟨v, h1, h2⟩ := new_sound hC h hk
    have e0 : ∀ (l : List Operand) (tm : List X), unownAll l [] tm = tm := by
      intro l tm
      cases l with
      | nil => rfl
      | cons x l => cases x <;> rfl
    refine h2 next Q (fun val w' g' r1 r2 r3 r4 => hn _ val w' g' h1 ?_ (r2.mono (Nat.le_refl _) (fun _ => Kop.kf))) rd
    have := h.put r1 r2 r3 r4
    rw [e0] at this
    exact this
  unfold opK at hk
  split at hk
  · exact new 9 hk
  · exact new 10 hk
  · exact new 11 hk
  · exact new 12 hk
  unfold preK at hk
  split at hk
  · exact opC_sound hC h hk hn rd
  · obtain ⟨st', g', h1, h2, h3⟩ := pre_sound h hk
    exact opC_sound hC h2 h1 (fun st'' val w' g'' k1 k2 k3 => hn st'' val w' g'' k1 k2 (h3.trans k3)) rd
  · obtain ⟨st', g', h1, h2, h3⟩ := pre_sound h hk
    exact opC_sound hC h2 h1 (fun st'' val w' g'' k1 k2 k3 => hn st'' val w' g'' k1 k2 (h3.trans k3)) rd
  · exact opC_sound hC h hk hn rd

theorem Fr.skip {g w} {d dh : Nat} {st : St} {a : Act} (o : Oper) (h : Fr g w d dh st a) : Fr g w d dh (st.put o.dst .undef) (a.put o.dst undef) := by
  have := h.put (o := { o with op := .alloc 0 }) (v := .undef) (val := undef) (cons := []) (H' := st.H) (by simp only [RepX]) (Ext.refl _ _ _ _) h.heap h.wf
  exact this

theorem Act.put_defers' (a : Act) (d : Option Nat) (v : Value) : (a.put d v).defers = a.defers := by cases d <;> rfl

theorem set_same {α : Type} (l : List α) (i : Nat) (d x : α) (h : l.getD i d = x) (hd : x ≠ d) : l.set i x = l := by
  by_cases hi : i < l.length
  · rw [List.getD_eq_getElem?_getD, List.getElem?_eq_getElem hi] at h
    simp at h
    subst h
    exact List.set_getElem_self hi
  · exact List.set_eq_of_length_le (Nat.le_of_not_lt hi)

theorem wanted_bool {g w} {d dh : Nat} {st : St} {a : Act} {all : List Oper} (h : Fr g w d dh st a) {o : Oper} {j t : Nat} {want b : Bool} (hg : o.guard = some (j, want)) (ht : (all[j]?).bind (·.dst) = some t) (hx : st.tm.getD t .dead = .d .bool b) :
    Region.wanted o (yielded all.toArray a.tmps) = (b == want) := by
  have hlt : t < st.tm.length := by
    rcases Nat.lt_or_ge t st.tm.length with h1 | h1
    · exact h1
    · rw [List.getD_eq_getElem?_getD, List.getElem?_eq_none h1] at hx; cases hx
  have hx' : st.tm[t]? = some (.d .bool b) := by
    rw [List.getD_eq_getElem?_getD, List.getElem?_eq_getElem hlt] at hx
    rw [List.getElem?_eq_getElem hlt]
    simpa using hx
  have hv := h.rep t _ hx'
  rw [RepX.bool_iff] at hv
  have hsz : t < a.tmps.size := by rw [← h.len]; exact hlt
  have hv' : a.tmps[t]? = some (.bool b) := by
    rw [Array.getElem?_eq_getElem hsz]
    simpa [Array.getD, hsz] using hv
  have hj : ((all.toArray[j]?).bind fun o => o.dst) = some t := by simpa using ht
  simp only [Region.wanted, hg, yielded, hj, Option.bind_some, hv']
  cases b <;> cases want <;> rfl

theorem wanted_undef {g w} {d dh : Nat} {st : St} {a : Act} {all : List Oper} (h : Fr g w d dh st a) {o : Oper} {j t : Nat} {want : Bool} (hg : o.guard = some (j, want)) (ht : (all[j]?).bind (·.dst) = some t) (hx : st.tm.getD t .dead = .undef) :
    Region.wanted o (yielded all.toArray a.tmps) = false := by
  have hlt : t < st.tm.length := by
    rcases Nat.lt_or_ge t st.tm.length with h1 | h1
    · exact h1
    · rw [List.getD_eq_getElem?_getD, List.getElem?_eq_none h1] at hx; cases hx
  have hx' : st.tm[t]? = some .undef := by
    rw [List.getD_eq_getElem?_getD, List.getElem?_eq_getElem hlt] at hx
    rw [List.getElem?_eq_getElem hlt]
    simpa using hx
  have hv := h.rep t _ hx'
  simp only [RepX] at hv
  have hsz : t < a.tmps.size := by rw [← h.len]; exact hlt
  have hv' : a.tmps[t]? = some undef := by
    rw [Array.getElem?_eq_getElem hsz]
    simpa [Array.getD, hsz] using hv
  have hj : ((all.toArray[j]?).bind fun o => o.dst) = some t := by simpa using ht
  simp only [Region.wanted, hg, yielded, hj, Option.bind_some, hv', undef]
  cases want <;> rfl

/-- One operation of a region, its guard with it. -/
def stepG {R : Type} (C : Ctx) (all : List Oper) (o : Oper) (st : St) (k : St → Option R) : Option R :=
  match o.guard with
  | none => opK C (asked C all o) o st k
  | some (j, want) => match (all[j]?).bind (·.dst) with
    | none => none
    | some g => match st.tm.getD g .dead with
      | .undef => k (st.put o.dst .undef)
      | .d .bool b => bif b == want then opK C (asked C all o) o st k else k (st.put o.dst .undef)
      | _ => none

theorem opsK_cons {R : Type} (C : Ctx) (all : List Oper) (o : Oper) (l : List Oper) (st : St) (k : St → Option R) : opsK C all (o :: l) st k = stepG C all o st fun st' => opsK C all l st' k := by
  rw [opsK]
  unfold stepG
  split
  · rename_i hg; simp only [hg]
  · rename_i j want hg
    simp only [hg]
    split
    · rename_i ht; simp only [ht]
    · rename_i t ht
      simp only [ht]
      split
      · rename_i hx; simp only [hx]
      · rename_i b hx
        simp only [hx]
        cases hb : (b == want)
        · have hbw : b = !want := by cases b <;> cases want <;> simp_all
          simp only [cond_false]
          rw [set_same st.tm t .dead _ (by rw [hx, hbw]) (by simp)]
        · have hbw : b = want := by cases b <;> cases want <;> simp_all
          simp only [cond_true]
          rw [set_same st.tm t .dead _ (by rw [hx, hbw]) (by simp)]
      · rename_i h1 h2
        split <;> first | rfl | (rename_i hx; exact absurd hx h1) | (rename_i b hx; exact absurd hx (h2 b))

theorem stepG_sound {P : Program} {C : Ctx} (hC : COk P C) {R : Type} {all : List Oper} {o : Oper} {g w} {d dh : Nat} {st : St} {a : Act} (h : Fr g w d dh st a) {k : St → Option R} {r : R} (hk : stepG C all o st k = some r)
    {next : Act → World → Prop} {Q : Exit → Act → World → Prop} (hn : ∀ st' val w' g', k st' = some r → Fr g' w' d dh st' (a.put o.dst val) → Ext g w g' w' d (Kf d dh) → next (a.put o.dst val) w') (rd : Option Nat) :
    if Region.wanted o (yielded all.toArray a.tmps) then o.wpIn (rdF rd) 0 P a w next Q else next (a.put o.dst undef) w := by
  unfold stepG at hk
  split at hk
  · rename_i hg
    rw [if_pos (by simp [Region.wanted, hg])]
    exact op_sound hC h hk hn rd
  · rename_i j want hg
    split at hk
    · cases hk
    · rename_i t ht
      split at hk
      · rename_i hx
        rw [if_neg (by rw [wanted_undef h hg ht hx]; simp)]
        exact hn _ _ _ g hk (h.skip o) (Ext.refl _ _ _ _)
      · rename_i b hx
        rw [wanted_bool h hg ht hx]
        cases hb : (b == want) <;> rw [hb] at hk
        · exact hn _ _ _ g hk (h.skip o) (Ext.refl _ _ _ _)
        · exact op_sound hC h hk hn rd
      · cases hk

theorem opsK_sound {P : Program} {C : Ctx} (hC : COk P C) {R : Type} {all : List Oper} {d dh : Nat} {k : St → Option R} {r : R} {Q : Exit → Act → World → Prop} (rd : Option Nat) : ∀ (l : List Oper) (g : Ghost) (w : World) (st : St) (a : Act), Fr g w d dh st a → opsK C all l st k = some r →
    (∀ st' a' w' g', k st' = some r → Fr g' w' d dh st' a' → Ext g w g' w' d (Kf d dh) → a'.defers = a.defers → Q .normal a' w') → wpListIn (rdF rd) 0 P all.toArray Q l a w
  | [], g, w, st, a, h, hk, hn => hn st a w g hk h (Ext.refl _ _ _ _) rfl
  | o :: l, g, w, st, a, h, hk, hn => by
    rw [opsK_cons] at hk
    have := stepG_sound hC h hk (next := wpListIn (rdF rd) 0 P all.toArray Q l) (Q := Q) (fun st' val w' g' h1 h2 h3 =>
      opsK_sound hC rd l g' w' st' _ h2 h1 fun st'' a'' w'' g'' k1 k2 k3 k4 => hn st'' a'' w'' g'' k1 k2 (h3.trans k3) (k4.trans (Act.put_defers' _ _ _))) rd
    simp only [wpListIn]
    split
    · rename_i hw
      rw [if_pos hw] at this
      exact this
    · rename_i hw
      rw [if_neg hw] at this
      exact ⟨fun _ _ => trivial, this⟩

end Go.Proofs.Ytnbfiifkaddehaa.V

/- What the evaluator tells is so: an operation's answer does not hang on what is done with it. -/
namespace Go.Proofs.Ytnbfiifkaddehaa.V
open Go
set_option linter.unusedVariables false
set_option linter.unusedSimpArgs false

theorem bif_bind {α β : Type} (c : Bool) (x y : Option α) (f : α → Option β) : (bif c then x else y).bind f = bif c then x.bind f else y.bind f := by cases c <;> rfl

theorem bif_none {α : Type} {c : Bool} {x : Option α} {r : α} (h : (bif c then x else none) = some r) : x = some r := by
  cases c
  · cases h
  · exact h

theorem bif_or {α : Type} {c : Bool} {x y : Option α} {r : α} (h : (bif c then x else y) = some r) : x = some r ∨ y = some r := by
  cases c
  · exact .inr h
  · exact .inl h

theorem binK_nat {R : Type} (A : Ar) (op : BinOp) (x y : X) (k : X → Option R) : binK A op x y k = (binK A op x y some).bind k := by
  unfold binK
  split
  · cases op <;> simp only [bif_bind, Option.bind_some, Option.bind_none] <;> first | rfl | (split <;> simp [bif_bind])
  · cases op <;> simp only [bif_bind, Option.bind_some, Option.bind_none]
  · cases op <;> simp only [bif_bind, Option.bind_some, Option.bind_none]
  · cases op <;> simp only [bif_bind, Option.bind_some, Option.bind_none]
  · cases op <;> simp only [bif_bind, Option.bind_some, Option.bind_none]
  · cases op <;> simp only [bif_bind, Option.bind_some, Option.bind_none]
  · split
    · cases op <;> simp only [bif_bind, Option.bind_some, Option.bind_none]
    · rfl
  · rfl

theorem run_bind {α β γ : Type} (f : α → Option β) (g : β → Option γ) : ∀ t : Tr α, (t.run f).bind g = t.run fun a => (f a).bind g
  | .no => rfl
  | .give _ => rfl
  | .test c a b => by
    cases c
    · exact run_bind f g b
    · exact run_bind f g a

theorem coreK_nat {R : Type} (C : Ctx) (tr : Bool) (o : Oper) (vals : List X) (H : Hp) (k : X → List Bool → Hp → Option R) :
    coreK C tr o vals H k = (coreK C tr o vals H fun v c H' => some (v, c, H')).bind fun p => k p.1 p.2.1 p.2.2 := by
  unfold coreK
  split
  all_goals try rfl
  all_goals (repeat' (first | rfl | (rw [run_bind]; rfl) | simp only [bif_bind, Option.bind_some, Option.bind_none] | split))
  all_goals
    rw [binK_nat]
    conv => rhs; rw [binK_nat]
    generalize binK _ _ _ _ some = z
    cases z <;> rfl

theorem vals_call (st : St) (cal : Operand) (args : Array Operand) (tys : Array Nat) : (Op.call ⟨.value cal, args, tys⟩).operands.toList.map st.val = st.val cal :: args.toList.map st.val := by simp [Op.operands, Call.operands]

/-- An operation that neither looks at variables nor turns them. -/
theorem coreK_far {R : Type} {C : Ctx} {tr : Bool} {all : List Oper} {o : Oper} {st : St} {H H2 : Hp} {k : X → List Bool → Hp → Option R} (h1 : readsH0 C o = false) (h2 : writesH C all o = false) :
    coreK C tr o (o.op.operands.toList.map st.val) H k = coreK C tr o (o.op.operands.toList.map st.val) H2 (fun v c _ => k v c H) := by
  obtain ⟨dst, op, ty, pos, af, gd⟩ := o
  cases op
  case call c =>
    obtain ⟨cal, args, tys⟩ := c
    cases cal
    case value f =>
      cases f
      case func f =>
        simp only [vals_call]
        simp only [readsH0] at h1
        unfold coreK
        simp only [St.val]
        split at h1
        · rename_i F hF
          (try dsimp only)
          simp only [hF]
          repeat' (first | rfl | contradiction | split)
        · rename_i F hF
          (try dsimp only)
          simp only [hF]
          repeat' (first | rfl | contradiction | split)
        · cases h1
      all_goals simp [readsH0] at h1
    case builtin b =>
      generalize (List.map st.val _) = vals
      unfold coreK
      dsimp only
      cases b <;> (try dsimp only) <;> repeat' (first | rfl | contradiction | split)
    all_goals
      generalize (List.map st.val _) = vals
      unfold coreK
      try dsimp only
  all_goals first
    | (simp [readsH0] at h1; done)
    | (generalize (List.map st.val _) = vals
       unfold coreK
       repeat' (first | rfl | contradiction | split))

/-- An operation that does not turn variables leaves them. -/
theorem coreK_still {C : Ctx} {all : List Oper} {o : Oper} {st : St} {H : Hp} {v : X} {cons : List Bool} {H' : Hp} (h2 : writesH C all o = false) (h : coreK C (asked C all o) o (o.op.operands.toList.map st.val) H (fun v c H' => some (v, c, H')) = some (v, cons, H')) : H' = H := by
  by_cases h1 : readsH0 C o = false
  · rw [coreK_far (H2 := H) h1 h2] at h
    have := coreK_far (k := fun v c H' => some (v, c, H')) (tr := asked C all o) (st := st) (H := H) (H2 := []) h1 h2
    rw [coreK_nat] at h
    generalize coreK C (asked C all o) o (o.op.operands.toList.map st.val) H (fun v c H' => some (v, c, H')) = z at h
    cases z <;> simp at h
    exact h.2.2.symm
  · obtain ⟨dst, op, ty, pos, af, gd⟩ := o
    cases op
    case load T x =>
      have ha : asked C all ⟨dst, .load T x, ty, pos, af, gd⟩ = false := by simpa [writesH] using h2
      rw [ha] at h
      generalize (List.map st.val _) = vals at h
      unfold coreK at h
      repeat' (first | contradiction | (cases h; rfl) | split at h)
    case fieldAddr S x j =>
      generalize (List.map st.val _) = vals at h
      unfold coreK at h
      repeat' (first | contradiction | (cases h; rfl) | split at h)
    case lookup T m x ok =>
      generalize (List.map st.val _) = vals at h
      unfold coreK at h
      repeat' (first | contradiction | (cases h; rfl) | split at h)
    case slice T x lo hi mx =>
      generalize (List.map st.val _) = vals at h
      unfold coreK at h
      repeat' (first | contradiction | (cases h; rfl) | split at h)
      all_goals
        (repeat replace h := bif_none h)
        cases h; rfl
    case indexAddr S x j =>
      generalize (List.map st.val _) = vals at h
      unfold coreK at h
      repeat' (first | contradiction | (cases h; rfl) | split at h)
      all_goals
        replace h := bif_none h
        cases h; rfl
    case call c =>
      exfalso
      obtain ⟨cal, args, tys⟩ := c
      cases cal
      case value f =>
        cases f
        case func f =>
          simp only [readsH0, writesH] at h1 h2
          split at h2
          · simp_all
          · simp_all
          · cases h2
        all_goals simp [writesH] at h2
      case builtin b =>
        cases b <;> first | (simp [writesH] at h2; done) | (simp [readsH0] at h1; done)
      all_goals simp [readsH0] at h1
    all_goals first
      | (simp [writesH] at h2; done)
      | (simp [readsH0] at h1; done)

/-- An operation of which it is told that it leads to no variable. -/
theorem coreK_far2 {R : Type} {C : Ctx} {tr : Bool} {o : Oper} {st : St} {H H2 : Hp} {k : X → List Bool → Hp → Option R} (hf : farOf C o = true) (hl : leadsX (o.op.operands.toList.map st.val) = false) :
    coreK C tr o (o.op.operands.toList.map st.val) H k = coreK C tr o (o.op.operands.toList.map st.val) H2 (fun v c _ => k v c H) := by
  obtain ⟨dst, op, ty, pos, af, gd⟩ := o
  cases dst with
  | none => simp [farOf] at hf
  | some dst =>
    cases op
    case load T x =>
      generalize (List.map st.val _) = vals at hl ⊢
      unfold coreK
      repeat' (first | rfl | contradiction | (simp [leadsX] at hl; done) | split)
    case indexAddr T x i =>
      generalize (List.map st.val _) = vals at hl ⊢
      unfold coreK
      repeat' (first | rfl | contradiction | (simp [leadsX] at hl; done) | split)
    case fieldAddr T x j =>
      generalize (List.map st.val _) = vals at hl ⊢
      unfold coreK
      repeat' (first | rfl | contradiction | (simp [leadsX] at hl; done) | split)
    all_goals simp [farOf] at hf

/-- What an operation takes over, its text tells. -/
theorem coreK_takes {C : Ctx} {all : List Oper} {o : Oper} {st : St} {H : Hp} {v : X} {cons : List Bool} {H' : Hp} (h : coreK C (asked C all o) o (o.op.operands.toList.map st.val) H (fun v c H' => some (v, c, H')) = some (v, cons, H')) :
    ∀ t ∈ takenBy o.op.operands.toList cons, t ∈ takes C all o := by
  have nil : ∀ (l : List Operand), takenBy l [] = [] := by
    intro l
    cases l with
    | nil => rfl
    | cons x l => cases x <;> rfl
  obtain ⟨dst, op, ty, pos, af, gd⟩ := o
  cases op
  case move x =>
    have h' : (if asked C all ⟨dst, .move x, ty, pos, af, gd⟩ then some (typed C ty (st.val x), [true], H) else some ((typed C ty (st.val x)).unown, ([] : List Bool), H)) = some (v, cons, H') := h
    split at h'
    · rename_i ha
      cases h'
      intro t ht
      cases x <;> simp [Op.operands, takenBy] at ht
      subst ht
      simp [takes, ha, tmpsOf, Op.operands]
    · cases h'
      simp [nil]
  case assign x =>
    have h' : some (typed C ty (st.val x), [true], H) = some (v, cons, H') := h
    cases h'
    intro t ht
    cases x <;> simp [Op.operands, takenBy] at ht
    subst ht
    simp [takes, tmpsOf, Op.operands]
  case convert s1 t1 x =>
    have hx : cons = [] ∨ (s1 = t1 ∧ cons = [true]) := by
      have h' : (match C.ty s1, C.ty t1, st.val x with
        | some ⟨.int _, _, _, _⟩, some ⟨.int kt, _, _, _⟩, .d (.int _) n => some (X.d (.int kt) (C.A.wrap kt n), ([] : List Bool), H)
        | some ⟨.slice (.int .u8), _, _, _⟩, some ⟨.str, _, _, _⟩, .sl (.int .u8) xs _ _ => some (.d .str (strOf xs), [], H)
        | some ⟨.str, _, _, _⟩, some ⟨.slice (.int .u8), _, _, _⟩, .d .str s => some (.sl (.int .u8) (bytesOf s) (some false) true, [], H)
        | some ⟨.str, _, _, _⟩, some ⟨.str, _, _, _⟩, .d .str s => some (.d .str s, [], H)
        | some ⟨.slice (.int .u8), _, _, _⟩, some ⟨.slice (.int .u8), _, _, _⟩, .sl (.int .u8) (y :: ys) (some false) true => if s1 = t1 then some (.sl (.int .u8) (y :: ys) (some false) true, [true], H) else none
        | _, _, _ => none) = some (v, cons, H') := h
      repeat' (first | contradiction | (cases h'; exact .inl rfl) | (cases h'; rename_i e; exact .inr ⟨e, rfl⟩) | split at h')
    rcases hx with rfl | ⟨rfl, rfl⟩
    · simp [nil]
    · intro t ht
      cases x <;> simp [Op.operands, takenBy] at ht
      subst ht
      simp [takes]
  case box T x =>
    generalize hvals : (List.map st.val _) = vals at h
    unfold coreK at h
    repeat' (first | contradiction | split at h)
    all_goals
      cases h
      intro t ht
      cases x <;> simp [Op.operands, takenBy] at ht
      subst ht
      simp [takes, tmpsOf, Op.operands]
  case store T x y =>
    generalize hvals : (List.map st.val _) = vals at h
    unfold coreK at h
    repeat' (first | contradiction | split at h)
    all_goals
      first | cases h | (replace h := bif_none h; cases h)
      intro t ht
      cases x <;> cases y <;> simp [Op.operands, takenBy] at ht
      all_goals
        subst ht
        simp [takes]
  case call c =>
    obtain ⟨cal, args, tys⟩ := c
    have only : cons = [] ∨ (∃ s x, cal = .builtin .append ∧ args.toList = [s, x] ∧ cons = [true, false]) ∨
        (∃ f0 s l, cal = .value f0 ∧ args.toList = s :: l ∧ cons = [false, true] ∧ ((∃ f F, f0 = .func f ∧ C.O f = some (.own F)) ∨ ∃ t, f0 = .tmp t)) := by
      cases cal
      case value f0 =>
        have hv : (List.map st.val (Op.call ⟨.value f0, args, tys⟩).operands.toList) = st.val f0 :: args.toList.map st.val := by simp [Op.operands, Call.operands]
        simp only [hv] at h
        unfold coreK at h
        dsimp only at h
        split at h
        · rename_i f first cap l hl
          simp only [List.cons.injEq] at hl
          obtain ⟨hf, rfl⟩ := hl
          split at h
          · split at h
            · refine .inl ?_
              obtain ⟨_, _, h⟩ := Tr.run_some h
              cases h; rfl
            · refine .inl ?_
              obtain ⟨_, _, h⟩ := Tr.run_some h
              cases h; rfl
            · rename_i F hF
              split at h
              · rename_i t ts a az hts hvals
                obtain ⟨al⟩ := args
                match al, hvals with
                | y :: ys, hvals =>
                  split at h
                  · obtain ⟨_, _, h⟩ := Tr.run_some h
                    cases h
                    refine .inr (.inr ⟨f0, y, ys, rfl, rfl, rfl, ?_⟩)
                    cases f0 with
                    | tmp t => exact .inr ⟨t, rfl⟩
                    | func f' =>
                      simp only [St.val, X.fn.injEq] at hf
                      exact .inl ⟨f', F, rfl, by rw [hf.1]; exact hF⟩
                    | const v0 =>
                      exfalso
                      simp only [St.val, constX] at hf
                      split at hf <;> cases hf
                    | global i =>
                      exfalso
                      simp only [St.val, globX] at hf
                      split at hf <;> cases hf
                  · obtain ⟨_, _, h⟩ := Tr.run_some h
                    cases h
                    refine .inr (.inr ⟨f0, y, ys, rfl, rfl, rfl, ?_⟩)
                    cases f0 with
                    | tmp t => exact .inr ⟨t, rfl⟩
                    | func f' =>
                      simp only [St.val, X.fn.injEq] at hf
                      exact .inl ⟨f', F, rfl, by rw [hf.1]; exact hF⟩
                    | const v0 =>
                      exfalso
                      simp only [St.val, constX] at hf
                      split at hf <;> cases hf
                    | global i =>
                      exfalso
                      simp only [St.val, globX] at hf
                      split at hf <;> cases hf
                  · cases h
              · cases h
            · refine .inl ?_
              obtain ⟨_, _, h⟩ := Tr.run_some h
              cases h; rfl
            · cases h
          · cases h
        · refine .inl ?_
          split at h
          · split at h
            · split at h
              · obtain ⟨_, _, h⟩ := Tr.run_some h
                cases h; rfl
              · cases h
            · cases h
          · cases h
        · cases h
      case builtin b =>
        have hv : (List.map st.val (Op.call ⟨.builtin b, args, tys⟩).operands.toList) = args.toList.map st.val := by simp [Op.operands, Call.operands]
        simp only [hv] at h
        generalize hvals : args.toList.map st.val = vals at h
        unfold coreK at h
        dsimp only at h
        cases b
        case append =>
          dsimp only at h
          split at h
          · obtain ⟨s, x, hs, _, _⟩ := two_of_map _ _ _ _ hvals
            refine .inr (.inl ⟨s, x, rfl, hs, ?_⟩)
            repeat' (first | contradiction | split at h)
            all_goals
              replace h := bif_none h
              cases h; rfl
          · cases h
        all_goals
          refine .inl ?_
          (try dsimp only at h)
          repeat' (first | contradiction | (cases h; rfl) | split at h)
      all_goals
        refine .inl ?_
        generalize (List.map st.val _) = vals at h
        unfold coreK at h
        (try dsimp only at h)
        repeat' (first | contradiction | (cases h; rfl) | (obtain ⟨_, _, h⟩ := Tr.run_some h; cases h; rfl) | split at h)
    rcases only with rfl | ⟨s, x, rfl, ha, rfl⟩ | ⟨f0, s, l, rfl, ha, rfl, hf⟩
    · simp [nil]
    · intro t ht
      have hops : (Op.call ⟨.builtin .append, args, tys⟩).operands.toList = [s, x] := by simp [Op.operands, Call.operands, ha]
      simp only [hops] at ht
      cases s <;> cases x <;> simp [takenBy] at ht
      all_goals
        subst ht
        simp [takes, ha]
    · intro t ht
      have hops : (Op.call ⟨.value f0, args, tys⟩).operands.toList = f0 :: s :: l := by simp [Op.operands, Call.operands, ha]
      simp only [hops] at ht
      cases s with
      | tmp t0 =>
        have ht' : t = t0 := by cases f0 <;> simp [takenBy] at ht <;> exact ht
        subst ht'
        rcases hf with ⟨f, F, rfl, hF⟩ | ⟨u, rfl⟩
        · simp [takes, ha, hF]
        · simp [takes, ha]
      | _ => cases f0 <;> simp [takenBy] at ht
  all_goals
    have hc : cons = [] := by
      generalize (List.map st.val _) = vals at h
      unfold coreK at h
      repeat' (first | contradiction | (cases h; rfl) | (replace h := bif_none h) | (replace h := bif_or h; rcases h with h | h) | (rw [binK_nat] at h; generalize binK _ _ _ _ some = z at h; cases z) | split at h)
    subst hc
    simp [nil]

end Go.Proofs.Ytnbfiifkaddehaa.V

/- What the evaluator tells is so: regions that draw their order. -/
namespace Go.Proofs.Ytnbfiifkaddehaa.V
open Go
set_option linter.unusedVariables false
set_option linter.unusedSimpArgs false

theorem opC_nat {R : Type} (C : Ctx) (tr : Bool) (o : Oper) (st : St) (k : St → Option R) : opC C tr o st k = (opC C tr o st some).bind k := by
  unfold opC
  split
  · rfl
  rw [coreK_nat]
  conv => rhs; rw [coreK_nat]
  cases coreK C tr o (o.op.operands.toList.map st.val) st.H fun v c H' => some (v, c, H') <;> rfl

theorem preX_nat {R : Type} (n p : Nat) (st : St) (k : St → Option R) : preX n p st k = (preX n p st some).bind k := by
  unfold preX
  repeat' (first | rfl | simp only [bif_bind, Option.bind_some, Option.bind_none] | split)

theorem opK_nat {R : Type} (C : Ctx) (tr : Bool) (o : Oper) (st : St) (k : St → Option R) : opK C tr o st k = (opK C tr o st some).bind k := by
  have pre : ∀ n p, (preX n p st fun st => opC C tr o st k) = (preX n p st fun st => opC C tr o st some).bind k := by
    intro n p
    rw [preX_nat]
    conv => rhs; rw [preX_nat]
    rw [Option.bind_assoc]
    congr 1
    funext st'
    exact opC_nat C tr o st' k
  have new : ∀ n, (newK C n o (o.op.operands.toList.map st.val) fun v => k (st.put o.dst v)) = (newK C n o (o.op.operands.toList.map st.val) fun v => some (st.put o.dst v)).bind k := by
    intro n
    unfold newK
    repeat' (first | rfl | simp only [bif_bind, Option.bind_some, Option.bind_none] | split)
  unfold opK
  split
  · exact new 9
  · exact new 10
  · exact new 11
  · exact new 12
  unfold preK
  split
  · exact opC_nat C tr o st k
  · exact pre _ _
  · exact pre _ _
  · exact opC_nat C tr o st k

theorem opK_plain {R : Type} {C : Ctx} {tr : Bool} {o : Oper} (h : hintOf C o = 0) (st : St) (k : St → Option R) : opK C tr o st k = opC C tr o st k := by
  unfold opK preK
  rw [h]
  rfl

theorem stepG_nat {R : Type} (C : Ctx) (all : List Oper) (o : Oper) (st : St) (k : St → Option R) : stepG C all o st k = (stepG C all o st some).bind k := by
  unfold stepG
  split
  · rw [opK_nat]
  · split
    · rfl
    · split
      · rfl
      · rename_i b _
        cases (b == _)
        · rfl
        · simp only [cond_true]
          rw [opK_nat]
      · rfl

theorem takes_sub (C : Ctx) (all : List Oper) (o : Oper) : ∀ t ∈ takes C all o, t ∈ namesOf all o := by
  intro t ht
  refine List.mem_append_left _ ?_
  obtain ⟨dst, op, ty, pos, af, gd⟩ := o
  cases op <;> simp only [takes] at ht <;> try (cases ht; done)
  case move x => split at ht <;> first | exact ht | cases ht
  case assign x => exact ht
  case box T x => exact ht
  case store T x y =>
    cases y <;> simp at ht
    subst ht
    simp [tmpsOf, Op.operands]
  case convert s1 t1 x =>
    cases x <;> simp at ht
    obtain ⟨_, rfl⟩ := ht
    simp [tmpsOf, Op.operands]
  case call c =>
    obtain ⟨cal, args, tys⟩ := c
    have key : ∀ t' l, args.toList = Operand.tmp t' :: l → t' ∈ tmpsOf ⟨dst, .call ⟨cal, args, tys⟩, ty, pos, af, gd⟩ := by
      intro t' l h2
      simp only [tmpsOf, List.mem_filterMap]
      refine ⟨.tmp t', ?_, rfl⟩
      have hm : Operand.tmp t' ∈ args.toList := by rw [h2]; simp
      cases cal <;> simp [Op.operands, Call.operands] <;> first | (simpa using hm) | (exact .inr (by simpa using hm))
    split at ht
    · rename_i h2
      simp at ht
      subst ht
      exact key _ _ h2
    · rename_i h2
      split at ht
      · simp at ht
        subst ht
        exact key _ _ h2
      · cases ht
    · rename_i h2
      simp at ht
      subst ht
      exact key _ _ h2
    · cases ht

theorem getElem?_put (st : St) (d : Option Nat) (v : X) (t : Nat) : (st.put d v).tm[t]? = if d = some t then (if t < st.tm.length then some v else none) else st.tm[t]? := by
  cases d with
  | none => simp [St.put]
  | some d =>
    simp only [St.put, Option.some.injEq]
    by_cases h : d = t
    · subst h
      rw [if_pos rfl]
      by_cases hl : d < st.tm.length
      · simp [hl]
      · simp [hl]
    · rw [if_neg h, List.getElem?_set_ne h]

theorem getD_of_getElem? {l l' : List X} {t : Nat} (hl : l.length = l'.length) (h : l.getD t .dead = l'.getD t .dead) : l[t]? = l'[t]? := by
  by_cases ht : t < l.length
  · have ht' : t < l'.length := by omega
    rw [List.getD_eq_getElem?_getD, List.getD_eq_getElem?_getD, List.getElem?_eq_getElem ht, List.getElem?_eq_getElem ht'] at h
    rw [List.getElem?_eq_getElem ht, List.getElem?_eq_getElem ht']
    simpa using h
  · rw [List.getElem?_eq_none (Nat.le_of_not_lt ht), List.getElem?_eq_none (by omega)]

/-- What an operation that is performed turns, and on what it hangs. -/
theorem opK_local {C : Ctx} {all : List Oper} {o : Oper} {st st' : St} (hp : hintOf C o = 0) (h : opK C (asked C all o) o st some = some st') :
    (∀ t, t ∉ turnsOf C all o → st'.tm[t]? = st.tm[t]?) ∧ st'.tm.length = st.tm.length ∧ (writesH C all o = false → st'.H = st.H) ∧
    ∀ s : St, (∀ t ∈ namesOf all o, s.tm.getD t .dead = st.tm.getD t .dead) → s.tm.length = st.tm.length → (readsH C o = true ∨ writesH C all o = true → s.H = st.H) →
      ∃ s', opK C (asked C all o) o s some = some s' ∧ (∀ t ∈ turnsOf C all o, s'.tm[t]? = st'.tm[t]?) ∧ (writesH C all o = true → s'.H = st'.H) := by
  rw [opK_plain hp] at h
  unfold opC at h
  split at h
  · cases h
  rename_i hfar
  rw [coreK_nat] at h
  rw [Option.bind_eq_some_iff] at h
  obtain ⟨⟨v, cons, H'⟩, h1, h2⟩ := h
  simp only [Option.some.injEq] at h2
  subst h2
  have htk := coreK_takes h1
  refine ⟨fun t ht => ?_, ?_, fun hw => ?_, fun s hs hl hH => ?_⟩
  · rw [getElem?_put]
    simp only [turnsOf, List.mem_append, Option.mem_toList, not_or] at ht
    rw [if_neg ht.1]
    rw [getElem?_unownAll, if_neg (fun e => ht.2 (htk t e))]
  · cases o.dst <;> simp [St.put, length_unownAll]
  · have := coreK_still hw h1
    cases o.dst <;> simpa [St.put] using this
  · have hvals : o.op.operands.toList.map s.val = o.op.operands.toList.map st.val := by
      refine List.map_congr_left fun x hx => ?_
      cases x with
      | tmp t =>
        simp only [St.val]
        refine hs t (List.mem_append_left _ ?_)
        exact List.mem_filterMap.2 ⟨.tmp t, hx, rfl⟩
      | _ => rfl
    have hcore : ∃ H2, coreK C (asked C all o) o (o.op.operands.toList.map s.val) s.H (fun v c H' => some (v, c, H')) = some (v, cons, H2) ∧ (writesH C all o = true → H2 = H') := by
      rw [hvals]
      by_cases hr : readsH C o = true ∨ writesH C all o = true
      · rw [hH hr]
        exact ⟨H', h1, fun _ => rfl⟩
      · simp only [not_or, Bool.not_eq_true] at hr
        refine ⟨s.H, ?_, fun e => by rw [hr.2] at e; cases e⟩
        have e1 : coreK C (asked C all o) o (o.op.operands.toList.map st.val) s.H (fun v c H' => some (v, c, H')) = coreK C (asked C all o) o (o.op.operands.toList.map st.val) st.H (fun v c _ => some (v, c, s.H)) := by
          cases hf : farOf C o with
          | true =>
            refine coreK_far2 hf ?_
            rw [hf] at hfar
            simpa using hfar
          | false =>
            refine coreK_far (all := all) ?_ hr.2
            have := hr.1
            simp only [readsH, hf, Bool.not_false, Bool.true_and] at this
            exact this
        rw [e1, coreK_nat, h1]
        rfl
    obtain ⟨H2, hc, hHw⟩ := hcore
    refine ⟨St.put { tm := unownAll o.op.operands.toList cons s.tm, H := H2 } o.dst v, ?_, fun t ht => ?_, fun hw => ?_⟩
    · rw [opK_plain hp]
      unfold opC
      rw [hvals, if_neg hfar, ← hvals, coreK_nat, hc]
      rfl
    · rw [getElem?_put, getElem?_put]
      simp only [length_unownAll]
      by_cases hd : o.dst = some t
      · rw [if_pos hd, if_pos hd, hl]
      · rw [if_neg hd, if_neg hd]
        simp only [turnsOf, List.mem_append, Option.mem_toList] at ht
        have ht' := takes_sub C all o t (ht.resolve_left hd)
        have hst := getD_of_getElem? hl (hs t ht')
        rw [getElem?_unownAll, getElem?_unownAll, hst]
    · have := hHw hw
      cases o.dst <;> simpa [St.put] using this

theorem stepG_local {C : Ctx} {all : List Oper} {o : Oper} {st st' : St} (hp : hintOf C o = 0) (h : stepG C all o st some = some st') :
    (∀ t, t ∉ turnsOf C all o → st'.tm[t]? = st.tm[t]?) ∧ st'.tm.length = st.tm.length ∧ (writesH C all o = false → st'.H = st.H) ∧
    ∀ s : St, (∀ t ∈ namesOf all o, s.tm.getD t .dead = st.tm.getD t .dead) → s.tm.length = st.tm.length → (readsH C o = true ∨ writesH C all o = true → s.H = st.H) →
      ∃ s', stepG C all o s some = some s' ∧ (∀ t ∈ turnsOf C all o, s'.tm[t]? = st'.tm[t]?) ∧ (writesH C all o = true → s'.H = st'.H) := by
  have skip : ∀ st', some (st.put o.dst .undef) = some st' → (∀ t ∈ namesOf all o, True) →
      (∀ t, t ∉ turnsOf C all o → st'.tm[t]? = st.tm[t]?) ∧ st'.tm.length = st.tm.length ∧ (writesH C all o = false → st'.H = st.H) ∧
      ∀ s : St, (∀ t ∈ namesOf all o, s.tm.getD t .dead = st.tm.getD t .dead) → s.tm.length = st.tm.length → (readsH C o = true ∨ writesH C all o = true → s.H = st.H) →
        (∀ t ∈ turnsOf C all o, (s.put o.dst .undef).tm[t]? = st'.tm[t]?) ∧ (writesH C all o = true → (s.put o.dst .undef).H = st'.H) := by
    intro st' e _
    simp only [Option.some.injEq] at e
    subst e
    refine ⟨fun t ht => ?_, by cases o.dst <;> simp [St.put], fun _ => by cases o.dst <;> simp [St.put], fun s hs hl hH => ⟨fun t ht => ?_, fun hw => ?_⟩⟩
    · rw [getElem?_put]
      simp only [turnsOf, List.mem_append, Option.mem_toList, not_or] at ht
      rw [if_neg ht.1]
    · rw [getElem?_put, getElem?_put, hl]
      by_cases hd : o.dst = some t
      · rw [if_pos hd, if_pos hd]
      · rw [if_neg hd, if_neg hd]
        simp only [turnsOf, List.mem_append, Option.mem_toList] at ht
        exact getD_of_getElem? hl (hs t (takes_sub C all o t (ht.resolve_left hd)))
    · have := hH (.inr hw)
      cases o.dst <;> simpa [St.put] using this
  unfold stepG at h
  cases hg : o.guard with
  | none =>
    simp only [hg] at h
    obtain ⟨h1, h2, h3, h4⟩ := opK_local hp h
    refine ⟨h1, h2, h3, fun s hs hl hH => ?_⟩
    obtain ⟨s', k1, k2, k3⟩ := h4 s hs hl hH
    exact ⟨s', by simp only [stepG, hg]; exact k1, k2, k3⟩
  | some p =>
    obtain ⟨j, want⟩ := p
    simp only [hg] at h
    cases ht : (all[j]?).bind (·.dst) with
    | none => simp only [ht] at h; cases h
    | some t =>
      simp only [ht] at h
      have hname : t ∈ namesOf all o := by
        simp only [namesOf, hg, ht]
        simp
      split at h
      · rename_i hx
        obtain ⟨h1, h2, h3, h4⟩ := skip st' h (fun _ _ => trivial)
        refine ⟨h1, h2, h3, fun s hs hl hH => ⟨s.put o.dst .undef, ?_, h4 s hs hl hH⟩⟩
        simp only [stepG, hg, ht, hs t hname, hx]
      · rename_i b hx
        cases hb : (b == want) <;> rw [hb] at h
        · obtain ⟨h1, h2, h3, h4⟩ := skip st' h (fun _ _ => trivial)
          refine ⟨h1, h2, h3, fun s hs hl hH => ⟨s.put o.dst .undef, ?_, h4 s hs hl hH⟩⟩
          simp only [stepG, hg, ht, hs t hname, hx, hb, cond_false]
        · obtain ⟨h1, h2, h3, h4⟩ := opK_local hp h
          refine ⟨h1, h2, h3, fun s hs hl hH => ?_⟩
          obtain ⟨s', k1, k2, k3⟩ := h4 s hs hl hH
          refine ⟨s', ?_, k2, k3⟩
          simp only [stepG, hg, ht, hs t hname, hx, hb, cond_true]
          exact k1
      · cases h

theorem St.ext' {s t : St} (h1 : ∀ i : Nat, s.tm[i]? = t.tm[i]?) (h2 : s.H = t.H) : s = t := by
  obtain ⟨a, b⟩ := s
  obtain ⟨c, d⟩ := t
  simp only at h2
  subst h2
  congr
  exact List.ext_getElem? h1

/-- Two operations that are apart may be done in either order. -/
theorem step_comm {C : Ctx} {all : List Oper} {x y : Oper} (hap : apartB C all x y = true) {st s1 s12 : St} (h1 : stepG C all x st some = some s1) (h2 : stepG C all y s1 some = some s12) :
    ∃ s2, stepG C all y st some = some s2 ∧ stepG C all x s2 some = some s12 := by
  simp only [apartB, Bool.and_eq_true, beq_iff_eq, List.all_eq_true, Bool.not_eq_true', List.contains_eq_mem, decide_eq_false_iff_not, Bool.and_eq_false_iff, Bool.or_eq_false_iff] at hap
  obtain ⟨⟨⟨⟨⟨px, py⟩, a1⟩, a2⟩, a3⟩, a4⟩ := hap
  obtain ⟨x1, x2, x3, x4⟩ := stepG_local px h1
  obtain ⟨y1, y2, y3, y4⟩ := stepG_local py h2
  have getD_eq : ∀ (l l' : List X) (t : Nat), l[t]? = l'[t]? → l.getD t .dead = l'.getD t .dead := fun l l' t e => by rw [List.getD_eq_getElem?_getD, List.getD_eq_getElem?_getD, e]
  obtain ⟨s2, k1, k2, k3⟩ := y4 st (fun t ht => getD_eq _ _ _ (x1 t (fun e => (a1 t e).1 ht)).symm) x2.symm (fun hr => by
    refine (x3 ?_).symm
    rcases a3 with a3 | a3
    · exact a3
    · rcases hr with hr | hr
      · rw [a3.1] at hr; cases hr
      · rw [a3.2] at hr; cases hr)
  obtain ⟨z1, z2, z3, z4⟩ := stepG_local py k1
  obtain ⟨s21, l1, l2, l3⟩ := x4 s2 (fun t ht => getD_eq _ _ _ (z1 t (fun e => a2 t e ht))) z2 (fun hr => by
    refine z3 ?_
    rcases hr with hr | hr
    · rcases a4 with a4 | a4
      · exact a4
      · rw [a4] at hr; cases hr
    · rcases a3 with a3 | a3
      · rw [a3] at hr; cases hr
      · exact a3.2)
  obtain ⟨w1, w2, w3, _⟩ := stepG_local px l1
  refine ⟨s2, k1, ?_⟩
  rw [l1]
  congr 1
  refine St.ext' (fun t => ?_) ?_
  · by_cases htx : t ∈ turnsOf C all x
    · rw [l2 t htx, y1 t (a1 t htx).2]
    · rw [w1 t htx]
      by_cases hty : t ∈ turnsOf C all y
      · exact k2 t hty
      · rw [z1 t hty, y1 t hty, x1 t htx]
  · cases hwx : writesH C all x with
    | true =>
      rcases a3 with a3 | a3
      · rw [hwx] at a3; cases a3
      · rw [l3 hwx, y3 a3.2]
    | false =>
      rw [w3 hwx]
      cases hwy : writesH C all y with
      | true => exact k3 hwy
      | false => rw [z3 hwy, y3 hwy, x3 hwx]

/-- Operations of a region, by their places. -/
def runL (C : Ctx) (all : List Oper) : List Nat → St → Option St
  | [], st => some st
  | i :: l, st => match all[i]? with
    | some o => (stepG C all o st some).bind (runL C all l)
    | none => none

theorem runL_bubble {C : Ctx} {all : List Oper} {i : Nat} {y : Oper} (hy : all[i]? = some y) (l2 : List Nat) : ∀ (l1 : List Nat), (∀ j ∈ l1, ∃ x, all[j]? = some x ∧ apartB C all x y = true) → ∀ st s, runL C all (l1 ++ i :: l2) st = some s →
    ∃ s1, stepG C all y st some = some s1 ∧ runL C all (l1 ++ l2) s1 = some s
  | [], _, st, s, h => by
    simp only [List.nil_append, runL, hy, Option.bind_eq_some_iff] at h
    exact h
  | j :: l1, hj, st, s, h => by
    obtain ⟨x, hx, hap⟩ := hj j (by simp)
    simp only [List.cons_append, runL, hx, Option.bind_eq_some_iff] at h
    obtain ⟨sj, h1, h2⟩ := h
    obtain ⟨s1, k1, k2⟩ := runL_bubble hy l2 l1 (fun j' hj' => hj j' (by simp [hj'])) sj s h2
    obtain ⟨s2, m1, m2⟩ := step_comm hap h1 k1
    refine ⟨s2, m1, ?_⟩
    simp only [List.cons_append, runL, hx, m2, Option.bind_some]
    exact k2

end Go.Proofs.Ytnbfiifkaddehaa.V

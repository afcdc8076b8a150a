/-
  What the evaluator tells is so: calls of functions; all operations together.
  It speaks of whatever program; no condition.
-/
import Derived.Test.YtgickaihlebgmaaV15
namespace Go.Proofs.Ytgickaihlebgmaa.V
open Go
set_option linter.unusedVariables false
set_option linter.unusedSimpArgs false

section
variable {P : Program} {C : Ctx} {dst : Option Nat} {ty : Nat} {pos : String} {af : Array Edge} {gd : Option (Nat × Bool)}

theorem RepXs.append {g w} {dh : Nat} : ∀ {xs ys : List X} {us vs : List Value}, RepXs g w dh xs us → RepXs g w dh ys vs → RepXs g w dh (xs ++ ys) (us ++ vs)
  | [], ys, us, vs, h1, h2 => by
    simp only [RepXs] at h1
    subst h1
    simpa using h2
  | x :: xs, ys, us, vs, h1, h2 => by
    simp only [RepXs] at h1
    obtain ⟨v, us', rfl, k1, k2⟩ := h1
    simp only [List.cons_append, RepXs]
    exact ⟨v, _, rfl, k1, RepXs.append k2 h2⟩

theorem Fr.args {g w} {d dh : Nat} {st : St} {a : Act} (h : Fr g w d dh st a) : ∀ (ts : List Nat) (l : List Operand), ts.length = l.length → RepXs g w dh ((List.zipWith (typed C) ts (l.map st.val)).map X.unown) (l.map a.eval)
  | [], [], _ => by simp [RepXs]
  | t :: ts, x :: l, e => by
    simp only [List.map_cons, List.zipWith_cons_cons, RepXs]
    exact ⟨_, _, rfl, (typed_rep (h.val x)).unown', Fr.args h ts l (by simpa using e)⟩
  | [], _ :: _, e => by simp at e
  | _ :: _, [], e => by simp at e

theorem core_value (hC : COk P C) (f : Operand) (args : Array Operand) (argTypes : Array Nat) : CoreOk P C ⟨dst, .call ⟨.value f, args, argTypes⟩, ty, pos, af, gd⟩ := by
  intro R tr g w d dh st a h k r hk
  have ops : (⟨dst, .call ⟨.value f, args, argTypes⟩, ty, pos, af, gd⟩ : Oper).op.operands.toList.map st.val = st.val f :: args.toList.map st.val := by simp [Op.operands, Call.operands]
  rw [ops] at hk
  have hk' : (match (generalizing := false) st.val f :: args.toList.map st.val with
      | .fn f first cap :: args => if argTypes.size = args.length then match C.O f with
        | some (.pure F) => (F (first ++ (List.zipWith (typed C) argTypes.toList args).map X.unown ++ cap)).run fun r => k r [] st.H
        | some (.eff F) => (F (first ++ (List.zipWith (typed C) argTypes.toList args).map X.unown ++ cap) st.H).run fun r => k r.1 [] r.2
        | none => none
        else none
      | _ => none) = some r := hk
  split at hk'
  · rename_i fn first cap l hl
    simp only [List.cons.injEq] at hl
    obtain ⟨hf, rfl⟩ := hl
    split at hk'
    · rename_i hsz
      have hv := h.val f
      rw [hf] at hv
      simp only [RepX] at hv
      obtain ⟨vs, us, hv, h1, h2⟩ := hv
      have hargs := RepXs.append (RepXs.append h1 (h.args (C := C) argTypes.toList args.toList (by simpa using hsz))) h2
      have hev : vs.toArray ++ args.map a.eval ++ us.toArray = (vs ++ args.toList.map a.eval ++ us).toArray := by
        apply Array.ext'
        simp
      have enter : ∀ (hfn : FnOk P fn), (execOp a.eval ⟨dst, .call ⟨.value f, args, argTypes⟩, ty, pos, af, gd⟩).run P w = .ok (.enter fn (vs ++ args.toList.map a.eval ++ us).toArray) w := by
        intro hfn
        simp only [execOp, resolve, Sem.run_bind, hv, Deferred.ofValue, Sem.run_pure, Result.andThen_ok, invoke]
        rw [hfn, hev]
      have hkno : kd ⟨dst, .call ⟨.value f, args, argTypes⟩, ty, pos, af, gd⟩ d ≠ .no := by
        unfold kd; split <;> simp
      have hkheap : ¬ (kd ⟨dst, .call ⟨.value f, args, argTypes⟩, ty, pos, af, gd⟩ d).heap dh := by
        unfold kd; split <;> simp [Key.heap]
      split at hk'
      · rename_i F hF
        obtain ⟨hfn, hcall⟩ : PureOk P fn fun args => (F args).run some := hC.orc fn _ hF
        · obtain ⟨res, hres, hk'⟩ := Tr.run_some hk'
          refine ⟨_, _, _, hk', fun next Q hn => ?_⟩
          have hc := hcall _ _ hres g w d dh _ h.le h.wf hargs
          simp only [Oper.wp, enter hfn, Oper.upon]
          refine hc.mono ?_
          rintro e w' ⟨v, g', rfl, r1, r2, r3⟩
          refine hn v w' (g'.rekey (.tmp (d + 1) 0) (kd _ d)) (RepX.rekey h.le (by simp) _ _ r1) ?_ ?_ r3.rekey
          · refine (r2.mono (Nat.le_refl _) (fun κ hκ => .inr (.inr hκ))).trans (Ghost.rekey_ext.mono (Nat.le_refl _) ?_)
            rintro κ rfl
            exact .inr (.inr (Nat.le_refl _))
          · refine Ghost.rekey_heap h.le (by simp) (by simp [Key.heap]) ?_
            have hfar : ∀ κ : Key, κ.heap dh → ¬ κ.deep (d + 1) := by
              intro κ hκ hd
              have := h.le
              cases κ <;> simp only [Key.heap, Key.deep] at hκ hd <;> omega
            exact HRep.ext r2 h.le (fun e => e) hfar (r2.num dh hfar) h.heap
      · rename_i F hF
        obtain ⟨hfn, hcall⟩ : EffOk P fn fun args H => (F args H).run some := hC.orc fn _ hF
        · obtain ⟨res, hres, hk'⟩ := Tr.run_some hk'
          refine ⟨_, _, _, hk', fun next Q hn => ?_⟩
          have hc := hcall _ _ _ _ hres g w d dh _ h.le h.wf h.heap hargs
          simp only [Oper.wp, enter hfn, Oper.upon]
          refine hc.mono ?_
          rintro e w' ⟨v, g', rfl, r1, r2, r3, r4⟩
          refine hn v w' (g'.rekey (.tmp (d + 1) 0) (kd _ d)) (RepX.rekey h.le (by simp) _ _ r1) ?_ ?_ r3.rekey
          · refine (r2.mono (Nat.le_refl _) (fun κ hκ => ?_)).trans (Ghost.rekey_ext.mono (Nat.le_refl _) ?_)
            · rcases hκ with hκ | hκ
              · exact .inr (.inr hκ)
              · exact .inr (.inl hκ)
            · rintro κ rfl
              exact .inr (.inr (Nat.le_refl _))
          · exact Ghost.rekey_heap h.le (by simp) (by simp [Key.heap]) r4
      · cases hk'
    · cases hk'
  · cases hk'

theorem core_ok (hC : COk P C) (o : Oper) : CoreOk P C o := by
  obtain ⟨dst, op, ty, pos, af, gd⟩ := o
  cases op
  case move x => exact core_move x
  case assign x => exact core_assign x
  case pick c x y => exact core_pick c x y
  case alloc T => exact core_alloc hC.tys T
  case box T x => exact core_box hC.tys T x
  case buildSlice T n p => exact core_buildSlice hC.tys T n p
  case build T p => exact core_build hC.tys T p
  case load T x => exact core_load hC.tys T x
  case store T x y => exact core_store hC.tys T x y
  case nilCheck x => exact core_nilCheck x
  case binOp op T x y U => exact core_binOp hC.ar hC.tys op T U x y
  case unOp op T x => exact core_unOp hC.ar op T x
  case convert s t x => exact core_convert hC.ar hC.tys s t x
  case makeFunc fn first cap =>
    cases fn
    case func f => exact core_makeFunc f first cap
    all_goals
      intro R tr g w d dh st a h k r hk
      unfold coreK at hk
      simp at hk
  case slice T x lo hi mx => exact core_slice hC.tys T x lo hi mx
  case fieldAddr S x j => exact core_fieldAddr hC.tys S x j
  case field S x j => exact core_field hC.tys S x j
  case indexAddr T x i => exact core_indexAddr hC.tys T x i
  case index T x i => exact core_index hC.tys T x i
  case extract x j => exact core_extract x j
  case call c =>
    obtain ⟨cal, args, tys⟩ := c
    cases cal
    case value f => exact core_value hC f args tys
    case builtin b =>
      cases b
      case len => exact core_len hC.tys args tys
      case append => exact core_append hC.tys args tys
      case min => exact core_min args tys
      case max => exact core_max args tys
      all_goals
        intro R tr g w d dh st a h k r hk
        unfold coreK at hk
        simp at hk
    case invoke =>
      intro R tr g w d dh st a h k r hk
      unfold coreK at hk
      simp at hk
  all_goals
    intro R tr g w d dh st a h k r hk
    unfold coreK at hk
    simp at hk

end
end Go.Proofs.Ytgickaihlebgmaa.V

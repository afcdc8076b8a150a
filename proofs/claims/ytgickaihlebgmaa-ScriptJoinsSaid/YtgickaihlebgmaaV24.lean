/-
  What the evaluator tells is so: the forms in which functions and loops are proved.
  It speaks of whatever program; no condition.
-/
import Derived.Test.YtgickaihlebgmaaV23
namespace Go.Proofs.Ytgickaihlebgmaa.V
open Go
set_option linter.unusedVariables false
set_option linter.unusedSimpArgs false

def bodyOf (fn : Func) : Code := fn.body.getD .skip

/-- All loops in a piece of code. -/
def loopsAll : Code → List Code
  | .loop b => b :: loopsAll b
  | .seq a b => loopsAll a ++ loopsAll b
  | .cond _ a b => loopsAll a ++ loopsAll b
  | .block _ c => loopsAll c
  | .scope c => loopsAll c
  | _ => []

def loopAt (fn : Func) (i : Nat) : Code := (loopsAll (bodyOf fn)).getD i .skip

/-- A loop comes to this. -/
def LoopTo (C : Ctx) (fuel : Nat) (body : Code) (N : Nat) (ks : List Nat) (xs : List X) (H : Hp) (r : Ex × List X × Hp) : Prop := ∃ m, LoopN C fuel body N ks m xs H r

theorem Forget.same (xs : List X) : Forget xs xs := fun _ => .inr (.inl rfl)
theorem Forget.cons {x y : X} {ys xs : List X} (h : x = .dead ∨ x = y) (t : Forget ys xs) : Forget (y :: ys) (x :: xs) := by
  intro i
  cases i with
  | zero =>
    rcases h with h | h
    · exact .inl (by simpa using h)
    · exact .inr (.inl (by simpa using h))
  | succ i => simpa using t i
theorem Forget.unown {y : X} {ys xs : List X} (t : Forget ys xs) : Forget (y :: ys) (y.unown :: xs) := by
  intro i
  cases i with
  | zero => exact .inr (.inr (by simp))
  | succ i => simpa using t i

theorem LoopTo.weak {C : Ctx} {fuel : Nat} {body : Code} {N : Nat} {ks : List Nat} {xs ys xs' : List X} {H H1 H' : Hp} {r : Ex × List X × Hp}
    (h : ∀ (k : Ex → List X → Hp → Option (Ex × List X × Hp)), stepF C fuel body N ks xs H k = k .normal ys H1) (hf : Forget ys xs') (hH : HWeak H1 H') (hl : H.length ≤ H'.length) (hb : LeadsB H1 H' xs') (t : LoopTo C fuel body N ks xs' H' r) : LoopTo C fuel body N ks xs H r := by
  obtain ⟨m, hm⟩ := t
  exact ⟨m + 1, .inr ⟨ys, H1, xs', H', h _, hf, hH, hl, hb, hm⟩⟩

theorem LoopTo.next {C : Ctx} {fuel : Nat} {body : Code} {N : Nat} {ks : List Nat} {xs xs' : List X} {H H' : Hp} {r : Ex × List X × Hp}
    (h : ∀ (k : Ex → List X → Hp → Option (Ex × List X × Hp)), stepF C fuel body N ks xs H k = k .normal xs' H') (t : LoopTo C fuel body N ks xs' H' r) (hl : H.length ≤ H'.length := by simp) : LoopTo C fuel body N ks xs H r :=
  t.weak h (Forget.same _) (HWeak.refl _) hl (.inl rfl)

theorem LoopTo.end {C : Ctx} {fuel : Nat} {body : Code} {N : Nat} {ks : List Nat} {xs ys xs' : List X} {H H1 H' : Hp} {e : Ex} (he : e ≠ .normal)
    (h : ∀ (k : Ex → List X → Hp → Option (Ex × List X × Hp)), stepF C fuel body N ks xs H k = k e ys H1) (hf : Forget ys xs') (hH : HWeak H1 H') (hl : H.length ≤ H'.length) (hb : LeadsB H1 H' xs') : LoopTo C fuel body N ks xs H (e, xs', H') :=
  ⟨1, .inl ⟨ys, H1, he, h _, hf, hH, hl, hb⟩⟩

theorem LoopTo.left {C : Ctx} {fuel : Nat} {body : Code} {N : Nat} {ks : List Nat} {xs xs' : List X} {H H' : Hp} {e : Ex} (he : e ≠ .normal)
    (h : ∀ (k : Ex → List X → Hp → Option (Ex × List X × Hp)), ∃ ys, stepF C fuel body N ks xs H k = k e ys H' ∧ Forget ys xs') (hl : H.length ≤ H'.length := by simp) : LoopTo C fuel body N ks xs H (e, xs', H') := by
  obtain ⟨ys, h1, hf⟩ := h fun e xs H => some (e, xs, H)
  exact ⟨1, .inl ⟨ys, H', he, h1, hf, HWeak.refl _, hl, .inl rfl⟩⟩

theorem LoopTo.done {C : Ctx} {fuel : Nat} {body : Code} {N : Nat} {ks : List Nat} {xs xs' : List X} {H H' : Hp} {e : Ex} (he : e ≠ .normal)
    (h : ∀ (k : Ex → List X → Hp → Option (Ex × List X × Hp)), stepF C fuel body N ks xs H k = k e xs' H') (hl : H.length ≤ H'.length := by simp) : LoopTo C fuel body N ks xs H (e, xs', H') :=
  LoopTo.end he h (Forget.same _) (HWeak.refl _) hl (.inl rfl)

/-- What is told of a loop is so. -/
def Tells (C : Ctx) (fuel : Nat) (body : Code) : Prop := ∀ key N ks F, firstRegion body = some key → C.L key = some (N, ks, F) → ∀ xs H r, (F xs H).run some = some r → LoopTo C fuel body N ks xs H r

theorem Tells.mk {C : Ctx} {fuel : Nat} {body : Code} {key N : Nat} {ks : List Nat} {F : List X → Hp → Tr (Ex × List X × Hp)} (h1 : firstRegion body = some key) (h2 : C.L key = some (N, ks, F))
    (h : ∀ xs H r, (F xs H).run some = some r → LoopTo C fuel body N ks xs H r) : Tells C fuel body := by
  intro key' N' ks' F' e1 e2
  rw [h1] at e1
  cases e1
  rw [h2] at e2
  cases e2
  exact h

theorem tells_loops {P : Program} {C : Ctx} (hC : COk P C) (hmix : P.follows .mixedOrders = true) (fuel : Nat) (c : Code) : (∀ b ∈ loopsAll c, Tells C fuel b) → ∀ d dh, LoopsOk P C d dh (loopsOf c) := by
  have no : ∀ c : Code, loopsOf c = [] → ∀ d dh, LoopsOk P C d dh (loopsOf c) := fun c e d dh x hx => by rw [e] at hx; cases hx
  induction c with
  | loop b ih =>
    intro h d dh body hb key N ks F h1 h2
    simp only [loopsOf, List.mem_singleton] at hb
    have ih := ih (fun x hx => h x (by simp [loopsAll, hx])) d dh
    subst hb
    exact loopN_ok hC hmix ih (h body (by simp [loopsAll]) key N ks F h1 h2)
  | seq a b iha ihb =>
    intro h d dh x hx
    simp only [loopsOf, List.mem_append] at hx
    exact hx.elim (iha (fun b hb => h b (by simp [loopsAll, hb])) d dh x) (ihb (fun b hb => h b (by simp [loopsAll, hb])) d dh x)
  | cond _ a b iha ihb =>
    intro h d dh x hx
    simp only [loopsOf, List.mem_append] at hx
    exact hx.elim (iha (fun b hb => h b (by simp [loopsAll, hb])) d dh x) (ihb (fun b hb => h b (by simp [loopsAll, hb])) d dh x)
  | block _ c ih => exact fun h d dh => ih (fun b hb => h b (by simpa [loopsAll] using hb)) d dh
  | scope c ih => exact fun h d dh => ih (fun b hb => h b (by simpa [loopsAll] using hb)) d dh
  | skip => exact fun _ => no _ rfl
  | region _ _ _ => exact fun _ => no _ rfl
  | rangeFunc _ _ _ _ _ _ => exact fun _ => no _ rfl
  | exit _ => exact fun _ => no _ rfl
  | label _ => exact fun _ => no _ rfl
  | goto _ => exact fun _ => no _ rfl
  | ret => exact fun _ => no _ rfl
  | refuse _ => exact fun _ => no _ rfl

theorem bodyOf_eq {fn : Func} (h : fn.body.isSome = true) : fn.body = some (bodyOf fn) := by
  unfold bodyOf
  cases e : fn.body with
  | none => rw [e] at h; cases h
  | some c => rfl

theorem loopAt_all {fn : Func} {n : Nat} (hn : (loopsAll (bodyOf fn)).length = n) {T : Code → Prop} (h : ∀ i, i < n → T (loopAt fn i)) : ∀ b ∈ loopsAll (bodyOf fn), T b := by
  intro b hb
  obtain ⟨i, hi, e⟩ := List.mem_iff_getElem.1 hb
  have := h i (hn ▸ hi)
  unfold loopAt at this
  rw [List.getD_eq_getElem?_getD, List.getElem?_eq_getElem hi] at this
  simpa [e] using this

/-- A function of its arguments alone. -/
theorem pureOk {P : Program} {C : Ctx} (hC : COk P C) (hmix : P.follows .mixedOrders = true) (f : Nat) (fn : Func) (hf : P.funcs[f]? = some fn) (hname : (fn.name == "runtime.NumGoroutine") = false) (hb : fn.body.isSome = true) (fuel n : Nat)
    (hn : (loopsAll (bodyOf fn)).length = n) (hL : ∀ i, i < n → Tells C fuel (loopAt fn i)) {F : List X → Option X}
    (hF : ∀ args r, F args = some r → argsB args = true ∧ resB r = true ∧ ∃ H', bodyX C fuel fn args [] = some (r, H')) : PureOk P f F :=
  pure_ok hC hmix hf (by simpa using hname) (bodyOf_eq hb) fuel (fun d => tells_loops hC hmix fuel _ (loopAt_all hn hL) d d) hF

/-- A function that may turn its caller's variables. -/
theorem effOk {P : Program} {C : Ctx} (hC : COk P C) (hmix : P.follows .mixedOrders = true) (f : Nat) (fn : Func) (hf : P.funcs[f]? = some fn) (hname : (fn.name == "runtime.NumGoroutine") = false) (hb : fn.body.isSome = true) (fuel n : Nat)
    (hn : (loopsAll (bodyOf fn)).length = n) (hL : ∀ i, i < n → Tells C fuel (loopAt fn i)) {F : List X → Hp → Option (X × Hp)}
    (hF : ∀ args H r H', F args H = some (r, H') → (∀ x ∈ args, ∀ e xs nl own, x = .sl e xs nl own → own = false) ∧ ∃ x H1, r = x.unown ∧ bodyX C fuel fn args H = some (x, H1) ∧ HWeak H1 H' ∧ H.length ≤ H'.length ∧ LeadsB H1 H' [x]) : EffOk P f F :=
  eff_ok hC hmix hf (by simpa using hname) (bodyOf_eq hb) fuel (fun d dh => tells_loops hC hmix fuel _ (loopAt_all hn hL) d dh) hF

theorem Tr.one {α : Type} {c : Bool} {a r : α} (h : (Tr.test c (.give a) .no).run some = some r) : c = true ∧ a = r := by
  cases c
  · cases h
  · exact ⟨rfl, by simpa [Tr.run] using h⟩

/-- By parts: what holds of each part holds of the whole. -/
theorem PureOk.union {P : Program} {f : Nat} {F : List X → Option X} (h0 : FnOk P f) (h : ∀ args r, F args = some r → ∃ G, PureOk P f G ∧ G args = some r) : PureOk P f F :=
  ⟨h0, fun args r hr => by
    obtain ⟨G, hG, hr⟩ := h args r hr
    exact hG.2 args r hr⟩

end Go.Proofs.Ytgickaihlebgmaa.V

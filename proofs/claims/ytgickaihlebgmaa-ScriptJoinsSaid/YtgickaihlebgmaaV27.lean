/-
  What is told of functions: less may be told of a result; a slice that came in may be nil or not.
  It speaks of whatever program; no condition.
-/
import Derived.Test.YtgickaihlebgmaaV26
namespace Go.Proofs.Ytgickaihlebgmaa.V
open Go
set_option linter.unusedVariables false
set_option linter.unusedSimpArgs false

/-- Less told of one value. -/
def Wk1 (y x : X) : Prop := x = .dead ∨ x = y ∨ ∃ e xs nl nl' o o', y = .sl e xs nl o ∧ x = .sl e xs nl' o' ∧ (nl' = none ∨ nl' = nl) ∧ (o' = true → o = true)
def Wk1s : List X → List X → Prop
  | [], [] => True
  | y :: ys, x :: xs => Wk1 y x ∧ Wk1s ys xs
  | _, _ => False
/-- Less told of a result. -/
def Wk (y x : X) : Prop := Wk1 y x ∨ ∃ ys xs, y = .tup ys ∧ x = .tup xs ∧ Wk1s ys xs

theorem Wk1.same (x : X) : Wk1 x x := .inr (.inl rfl)
theorem Wk.same (x : X) : Wk x x := .inl (.same x)
theorem Wk1.sl {e : Ty} {xs : List e.den} {nl nl' : Option Bool} {o o' : Bool} (h : nl' = none ∨ nl' = nl) (ho : o' = true → o = true) : Wk1 (.sl e xs nl o) (.sl e xs nl' o') := .inr (.inr ⟨e, xs, nl, nl', o, o', rfl, rfl, h, ho⟩)

theorem RepX.wk1 {g w} {dh : Nat} {κ : Key} {y x : X} {v : Value} (h : Wk1 y x) (r : RepX g w dh κ y v) : RepX g w dh κ x v := by
  rcases h with rfl | rfl | ⟨e, xs, nl, nl', o, o', rfl, rfl, hn, ho⟩
  · simp [RepX]
  · exact r
  · simp only [RepX] at r ⊢
    obtain ⟨a, c, h1, h2, h3, h4, h5⟩ := r
    refine ⟨a, c, h1, h2, h3, fun b hb => ?_, fun hb => h5 (ho hb)⟩
    rcases hn with rfl | rfl
    · cases hb
    · exact h4 b hb
theorem RepXs.wk1 {g w} {dh : Nat} : ∀ {ys xs : List X} {vs : List Value}, Wk1s ys xs → RepXs g w dh ys vs → RepXs g w dh xs vs
  | [], [], _, _, r => r
  | y :: ys, x :: xs, vs, h, r => by
    obtain ⟨h1, h2⟩ := h
    simp only [RepXs] at r ⊢
    obtain ⟨v, us, e, r1, r2⟩ := r
    exact ⟨v, us, e, r1.wk1 h1, r2.wk1 h2⟩
  | [], _ :: _, _, h, _ => h.elim
  | _ :: _, [], _, h, _ => h.elim
theorem RepX.wk {g w} {dh : Nat} {κ : Key} {y x : X} {v : Value} (h : Wk y x) (r : RepX g w dh κ y v) : RepX g w dh κ x v := by
  rcases h with h | ⟨ys, xs, rfl, rfl, h⟩
  · exact r.wk1 h
  · simp only [RepX] at r ⊢
    obtain ⟨vs, e, r⟩ := r
    exact ⟨vs, e, r.wk1 h⟩

theorem PureOk.wk {P : Program} {f : Nat} {F G : List X → Option X} (h : PureOk P f F) (hG : ∀ args r, G args = some r → ∃ y, F args = some y ∧ Wk y r) : PureOk P f G := by
  refine ⟨h.1, fun args r hr g w d dh vs h1 h2 h3 => ?_⟩
  obtain ⟨y, hy, hw⟩ := hG args r hr
  refine (h.2 args y hy g w d dh vs h1 h2 h3).mono ?_
  rintro e w' ⟨v, g', he, k1, k2, k3⟩
  exact ⟨v, g', he, k1.wk hw, k2, k3⟩
theorem EffOk.wk {P : Program} {f : Nat} {F G : List X → Hp → Option (X × Hp)} (h : EffOk P f F) (hG : ∀ args H r H', G args H = some (r, H') → ∃ y, F args H = some (y, H') ∧ Wk y r) : EffOk P f G := by
  refine ⟨h.1, fun args H r H' hr g w d dh vs h1 h2 h3 h4 => ?_⟩
  obtain ⟨y, hy, hw⟩ := hG args H r H' hr
  refine (h.2 args H y H' hy g w d dh vs h1 h2 h3 h4).mono ?_
  rintro e w' ⟨v, g', he, k1, k2, k3, k4⟩
  exact ⟨v, g', he, k1.wk hw, k2, k3, k4⟩

/-- A function whose first argument is a slice: nil or not, if it is not known. -/
theorem PureOk.anyNl {P : Program} {f : Nat} {F G : List X → Option X} (h : PureOk P f F)
    (hG : ∀ args r, G args = some r → F args = some r ∨ ∃ e xs rest, args = .sl e xs none false :: rest ∧ (xs = [] → ∃ y, F (.sl e xs (some true) false :: rest) = some y ∧ Wk y r) ∧ ∃ y, F (.sl e xs (some false) false :: rest) = some y ∧ Wk y r) : PureOk P f G := by
  refine ⟨h.1, fun args r hr g w d dh vs h1 h2 h3 => ?_⟩
  rcases hG args r hr with hr' | ⟨e, xs, rest, rfl, hA, hB⟩
  · exact h.2 args r hr' g w d dh vs h1 h2 h3
  · simp only [RepXs] at h3
    obtain ⟨v0, us, rfl, hv, hrest⟩ := h3
    have hv' := hv
    simp only [RepX] at hv'
    obtain ⟨a, c, rfl, k2, k3, _, _⟩ := hv'
    have go : ∀ b, a.isNone = b → (∃ y, F (.sl e xs (some b) false :: rest) = some y ∧ Wk y r) → Calls P f (.slice a xs.length c :: us).toArray w fun e w' => ∃ v g', e = .returned v ∧ RepX g' w' dh (.tmp (d + 1) 0) r v ∧ Ext g w g' w' d (fun κ => κ.deep (d + 1)) ∧ WF g' w' := by
      rintro b hb ⟨y, hy, hw⟩
      have hrep : RepXs g w dh (.sl e xs (some b) false :: rest) (.slice a xs.length c :: us) := by
        simp only [RepXs]
        refine ⟨_, _, rfl, ?_, hrest⟩
        simp only [RepX]
        exact ⟨a, c, rfl, k2, k3, fun b' hb' => by cases hb'; exact hb, fun hb => by cases hb⟩
      refine (h.2 _ y hy g w d dh _ h1 h2 hrep).mono ?_
      rintro e' w' ⟨v, g', he, q1, q2, q3⟩
      exact ⟨v, g', he, q1.wk hw, q2, q3⟩
    cases a with
    | none =>
      refine go true rfl (hA ?_)
      cases xs with
      | nil => rfl
      | cons x xs =>
        obtain ⟨A, _, hA', _⟩ := k3 0 (by simp)
        cases hA'
    | some A => exact go false rfl hB

/-- A function of its arguments alone; less is told of its result than its text does. -/
theorem pureWk {P : Program} {C : Ctx} (hC : COk P C) (hmix : P.follows .mixedOrders = true) (f : Nat) (fn : Func) (hf : P.funcs[f]? = some fn) (hname : (fn.name == "runtime.NumGoroutine") = false) (hb : fn.body.isSome = true) (fuel n : Nat)
    (hn : (loopsAll (bodyOf fn)).length = n) (hL : ∀ i, i < n → Tells C fuel (loopAt fn i)) {F : List X → Option X}
    (hF : ∀ args r, F args = some r → argsB args = true ∧ ∃ x H', bodyX C fuel fn args [] = some (x, H') ∧ resB x = true ∧ Wk x r) : PureOk P f F := by
  have h0 : PureOk P f fun args => if (F args).isSome then (bodyX C fuel fn args []).map (·.1) else none := by
    refine pureOk hC hmix f fn hf hname hb fuel n hn hL fun args r h => ?_
    split at h
    · rename_i hs
      obtain ⟨r0, hr0⟩ := Option.isSome_iff_exists.1 hs
      obtain ⟨k1, x, H', k2, k3, k4⟩ := hF args r0 hr0
      rw [k2] at h
      simp only [Option.map_some, Option.some.injEq] at h
      subst h
      exact ⟨k1, k3, H', k2⟩
    · cases h
  refine h0.wk fun args r h => ?_
  obtain ⟨k1, x, H', k2, k3, k4⟩ := hF args r h
  exact ⟨x, by simp [h, k2], k4⟩

end Go.Proofs.Ytgickaihlebgmaa.V

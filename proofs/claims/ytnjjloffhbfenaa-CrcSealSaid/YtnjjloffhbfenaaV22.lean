/-
  What the evaluator tells is so: loops by their rounds; functions.
  It speaks of whatever program; no condition.
-/
import Derived.Test.YtnjjloffhbfenaaV21
namespace Go.Proofs.Ytnjjloffhbfenaa.V
open Go
set_option linter.unusedVariables false
set_option linter.unusedSimpArgs false

/-- A loop, so many rounds at most: how it is left, and what lives on. -/
def loopF (C : Ctx) (fuel : Nat) (body : Code) (N : Nat) (ks : List Nat) : Nat → List X → Hp → Option (Ex × List X × Hp)
  | 0, _, _ => none
  | m + 1, xs, H => codeK C fuel body { tm := keepOnly N ks xs, H := H } fun e st => match e with
    | .normal => if st.tm.length = N then loopF C fuel body N ks m (ks.map fun t => st.tm.getD t .dead) st.H else none
    | e => if st.tm.length = N then some (e, ks.map fun t => st.tm.getD t .dead, st.H) else none

/-- A frame of which less is told. -/
theorem Fr.forget {g w} {d dh : Nat} {st st' : St} {a : Act} (h : Fr g w d dh st a) (hl : st'.tm.length = st.tm.length) (hH : st'.H = st.H) (hx : ∀ (t : Nat) (x : X), st'.tm[t]? = some x → x = .dead ∨ st.tm[t]? = some x) : Fr g w d dh st' a := by
  refine ⟨hl.trans h.len, fun t x e => ?_, hH ▸ h.heap, h.wf, h.le⟩
  rcases hx t x e with rfl | e'
  · simp [RepX]
  · exact h.rep t x e'

theorem idxOf_get : ∀ (ks : List Nat) (t i : Nat), ks.idxOf? t = some i → ks[i]? = some t
  | [], _, _, h => by simp at h
  | k :: ks, t, i, h => by
    rw [List.idxOf?_cons] at h
    split at h
    · rename_i hk
      cases h
      simp at hk
      simp [hk]
    · rw [Option.map_eq_some_iff] at h
      obtain ⟨j, hj, rfl⟩ := h
      simpa using idxOf_get ks t j hj

theorem keepOnly_get {n : Nat} {ks : List Nat} {xs : List X} {t : Nat} {x : X} (h : (keepOnly n ks xs)[t]? = some x) : x = .dead ∨ ∃ i, ks[i]? = some t ∧ xs.getD i .dead = x := by
  unfold keepOnly at h
  rw [List.getElem?_map, Option.map_eq_some_iff] at h
  obtain ⟨j, hj, rfl⟩ := h
  have : j = t := by
    rw [List.getElem?_range] at hj
    · simpa using hj.symm
    · have := (List.getElem?_eq_some_iff.1 hj).1
      simpa using this
  subst this
  split
  · rename_i i hi
    exact .inr ⟨i, idxOf_get ks j i hi, rfl⟩
  · exact .inl rfl

theorem Fr.keep {g w} {d dh : Nat} {st : St} {a : Act} (h : Fr g w d dh st a) (N : Nat) (hN : st.tm.length = N) (ks : List Nat) : Fr g w d dh { tm := keepOnly N ks (ks.map fun t => st.tm.getD t .dead), H := st.H } a := by
  refine h.forget (by simp [keepOnly, hN]) rfl fun t x e => ?_
  rcases keepOnly_get e with e | ⟨i, hi, hx⟩
  · exact .inl e
  · rw [List.getD_eq_getElem?_getD, List.getElem?_map, hi] at hx
    simp only [Option.map_some, Option.getD_some] at hx
    by_cases hd : x = .dead
    · exact .inl hd
    · refine .inr ?_
      rw [List.getD_eq_getElem?_getD] at hx
      cases ht : st.tm[t]? with
      | none => rw [ht] at hx; simp at hx; exact absurd hx.symm hd
      | some y => rw [ht] at hx; simp at hx; rw [hx]

/-- Of places less may be told. -/
def Forget (ys xs : List X) : Prop := ∀ i, xs.getD i .dead = .dead ∨ xs.getD i .dead = ys.getD i .dead

theorem Fr.weak {g w} {d dh : Nat} {N : Nat} {ks : List Nat} {xs ys : List X} {H : Hp} {a : Act} (h : Fr g w d dh { tm := keepOnly N ks ys, H := H } a) (hf : Forget ys xs) : Fr g w d dh { tm := keepOnly N ks xs, H := H } a := by
  refine h.forget (by simp [keepOnly]) rfl fun t x e => ?_
  have ht : t < N := by
    have := (List.getElem?_eq_some_iff.1 e).1
    simpa [keepOnly] using this
  have hk : ∀ zs : List X, (keepOnly N ks zs)[t]? = some (match ks.idxOf? t with | some i => zs.getD i .dead | none => .dead) := by
    intro zs
    unfold keepOnly
    rw [List.getElem?_map, List.getElem?_range ht]
    rfl
  rw [hk] at e ⊢
  simp only [Option.some.injEq] at e ⊢
  cases hi : ks.idxOf? t with
  | none => rw [hi] at e; exact .inl e.symm
  | some i =>
    rw [hi] at e
    simp only at e ⊢
    rcases hf i with h0 | h0
    · exact .inl (e.symm.trans h0)
    · exact .inr (h0.symm.trans e)

theorem loopF_ok {P : Program} {C : Ctx} (hC : COk P C) (hmix : P.follows .mixedOrders = true) {d dh fuel : Nat} {body : Code} {N : Nat} {ks : List Nat} (hL : LoopsOk P C d dh (loopsOf body)) {F : List X → Hp → Option (Ex × List X × Hp)}
    (hF : ∀ xs H r, F xs H = some r → ∃ m ys, loopF C fuel body N ks m xs H = some (r.1, ys, r.2.2) ∧ Forget ys r.2.1) : LoopOk P d dh body N ks F := by
  intro st e xsF HF hN hres g w a h
  obtain ⟨m, ys, hm, hf⟩ := hF _ _ _ hres
  refine wp_loop_fuel (fun n a' w' => ∃ g' xs H', loopF C fuel body N ks n xs H' = some (e, ys, HF) ∧ Fr g' w' d dh { tm := keepOnly N ks xs, H := H' } a' ∧ Ext g w g' w' d (Kf d dh) ∧ a'.defers = a.defers) ?_ (n := m) ?_
  · rintro n a' w' ⟨g', xs, H', h1, h2, h3, h4⟩
    cases n with
    | zero => simp [loopF] at h1
    | succ n =>
      simp only [loopF] at h1
      refine codeK_sound hC hmix fuel body g' w' _ a' _ _ h2 h1 hL fun e2 st2 a2 w2 g2 k1 k2 k3 k4 => ?_
      cases e2 with
      | normal =>
        simp only at k1
        split at k1
        · rename_i hN2
          exact ⟨n, Nat.lt_succ_self n, g2, _, _, k1, k2.keep N hN2 ks, h3.trans k3, k4.trans h4⟩
        · cases k1
      | exit i =>
        simp only at k1
        split at k1
        · rename_i hN2
          simp only [Option.some.injEq, Prod.mk.injEq] at k1
          obtain ⟨rfl, rfl, rfl⟩ := k1
          exact ⟨rfl, g2, (k2.keep N hN2 ks).weak hf, h3.trans k3, k4.trans h4⟩
        · cases k1
      | goto i =>
        simp only at k1
        split at k1
        · rename_i hN2
          simp only [Option.some.injEq, Prod.mk.injEq] at k1
          obtain ⟨rfl, rfl, rfl⟩ := k1
          exact ⟨rfl, g2, (k2.keep N hN2 ks).weak hf, h3.trans k3, k4.trans h4⟩
        · cases k1
      | ret =>
        simp only at k1
        split at k1
        · rename_i hN2
          simp only [Option.some.injEq, Prod.mk.injEq] at k1
          obtain ⟨rfl, rfl, rfl⟩ := k1
          exact ⟨rfl, g2, (k2.keep N hN2 ks).weak hf, h3.trans k3, k4.trans h4⟩
        · cases k1
  · exact ⟨g, _, _, hm, h.keep N hN ks, Ext.refl _ _ _ _, rfl⟩

mutual
/-- An argument that leads to no variable and whose room is not its own. -/
def argB : X → Bool
  | .d _ _ => true
  | .sl _ _ _ own => !own
  | .nils => true
  | .undef => true
  | .dead => true
  | .cp _ _ => true
  | .fn _ a b => argsB a && argsB b
  | .tup xs => argsB xs
  | _ => false
def argsB : List X → Bool
  | [] => true
  | x :: xs => argB x && argsB xs
end

mutual
theorem RepX.far {g w} {dh dh2 : Nat} {κ κ2 : Key} : ∀ (x : X) (v : Value), argB x = true → RepX g w dh κ x v → RepX g w dh2 κ2 x v
  | .d t x, v, _, h => by simpa only [RepX] using h
  | .sl e xs nl own, v, hb, h => by
    simp only [argB, Bool.not_eq_true'] at hb
    subst hb
    simp only [RepX] at h ⊢
    obtain ⟨a, c, h1, h2, h3, h4, _⟩ := h
    exact ⟨a, c, h1, h2, h3, h4, (fun e => by cases e)⟩
  | .nils, v, _, h => by simpa only [RepX] using h
  | .undef, v, _, h => by simpa only [RepX] using h
  | .dead, v, _, h => by simp only [RepX]
  | .cp t x, v, _, h => by simpa only [RepX] using h
  | .fn f a b, v, hb, h => by
    simp only [argB, Bool.and_eq_true] at hb
    simp only [RepX] at h ⊢
    obtain ⟨vs, us, h1, h2, h3⟩ := h
    exact ⟨vs, us, h1, RepXs.far a vs hb.1 h2, RepXs.far b us hb.2 h3⟩
  | .tup xs, v, hb, h => by
    simp only [argB] at hb
    simp only [RepX] at h ⊢
    obtain ⟨vs, h1, h2⟩ := h
    exact ⟨vs, h1, RepXs.far xs vs hb h2⟩
  | .ptr _ _, _, hb, _ => by simp [argB] at hb
  | .agg _, _, hb, _ => by simp [argB] at hb
theorem RepXs.far {g w} {dh dh2 : Nat} : ∀ (xs : List X) (vs : List Value), argsB xs = true → RepXs g w dh xs vs → RepXs g w dh2 xs vs
  | [], vs, _, h => by simpa only [RepXs] using h
  | x :: xs, vs, hb, h => by
    simp only [argsB, Bool.and_eq_true] at hb
    simp only [RepXs] at h ⊢
    obtain ⟨v, us, h1, h2, h3⟩ := h
    exact ⟨v, us, h1, RepX.far x v hb.1 h2, RepXs.far xs us hb.2 h3⟩
end

/-- A result that leads to no variable. -/
def resB : X → Bool
  | .sl _ _ _ _ => true
  | x => argB x

theorem RepX.res {g w} {dh dh2 : Nat} {κ : Key} {x : X} {v : Value} (hb : resB x = true) (h : RepX g w dh κ x v) : RepX g w dh2 κ x v := by
  cases x
  case sl e xs nl own => simpa only [RepX] using h
  all_goals exact RepX.far _ v hb h

theorem Fr.enter {g w} {d dh : Nat} {H : Hp} (hH : HRep g w dh H) (hw : WF g w) (hd : dh ≤ d) {args : List X} {vs : List Value} (ha : RepXs g w dh args vs) (hb : ∀ x ∈ args, ∀ e xs nl own, x = .sl e xs nl own → own = false) (n : Nat) :
    Fr g w d dh { tm := args ++ List.replicate n .undef, H := H } { tmps := vs.toArray ++ Array.replicate n undef, defers := [] } := by
  have hlen : ∀ (xs : List X) (vs : List Value), RepXs g w dh xs vs → xs.length = vs.length := by
    intro xs
    induction xs with
    | nil => intro vs h; simp only [RepXs] at h; simp [h]
    | cons x xs ih =>
      intro vs h
      simp only [RepXs] at h
      obtain ⟨v, us, rfl, _, h3⟩ := h
      simp [ih us h3]
  have hl := hlen args vs ha
  refine ⟨by simp [hl], fun t x e => ?_, hH, hw, hd⟩
  by_cases ht : t < args.length
  · rw [List.getElem?_append_left ht] at e
    obtain ⟨v, hv, hr⟩ := RepXs.get args vs t x ha e
    have htv : t < vs.length := by omega
    have : (vs.toArray ++ Array.replicate n undef).getD t undef = v := by
      rw [List.getElem?_eq_getElem htv] at hv
      simp only [Option.some.injEq] at hv
      simp [Array.getD, Array.getElem_append, htv, hv]
      omega
    simp only [this]
    have hmem : x ∈ args := List.mem_of_getElem? e
    cases x
    case sl e0 xs nl own =>
      have := hb _ hmem e0 xs nl own rfl
      subst this
      simp only [RepX] at hr ⊢
      obtain ⟨a, c, h1, h2, h3, h4, _⟩ := hr
      exact ⟨a, c, h1, h2, h3, h4, (fun e => by cases e)⟩
    all_goals (simp only [RepX] at hr ⊢; try exact hr)
  · rw [List.getElem?_append_right (by omega)] at e
    have hx : x = .undef := by
      have := List.mem_of_getElem? e
      exact List.eq_of_mem_replicate this
    subst hx
    simp only [RepX]
    have hlt : t - args.length < n := by
      have := (List.getElem?_eq_some_iff.1 e).1
      simpa using this
    simp [Array.getD, Array.getElem_append]
    intro h1 h2
    omega

end Go.Proofs.Ytnjjloffhbfenaa.V

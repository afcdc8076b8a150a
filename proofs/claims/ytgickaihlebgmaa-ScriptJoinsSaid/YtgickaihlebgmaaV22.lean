/-
  What the evaluator tells is so: loops by their rounds; functions.
  It speaks of whatever program; no condition.
-/
import Derived.Test.YtgickaihlebgmaaV21
namespace Go.Proofs.Ytgickaihlebgmaa.V
open Go
set_option linter.unusedVariables false
set_option linter.unusedSimpArgs false

/-- One round of a loop. -/
def stepF {R : Type} (C : Ctx) (fuel : Nat) (body : Code) (N : Nat) (ks : List Nat) (xs : List X) (H : Hp) (k : Ex → List X → Hp → Option R) : Option R :=
  codeK C fuel body { tm := keepOnly N ks xs, H := H } fun e st => if st.tm.length = N then k e (ks.map fun t => st.tm.getD t .dead) st.H else none

mutual
/-- Does it lead to variables below a number alone? -/
def belowB (n : Nat) : X → Bool
  | .ptr id _ => decide (id < n)
  | .mref id _ _ => decide (id < n)
  | .fn _ a b => belowBs n a && belowBs n b
  | .tup l => belowBs n l
  | .lst l => belowBs n l
  | .agg l => belowBs n l
  | .cx x => belowB n x
  | _ => true
def belowBs (n : Nat) : List X → Bool
  | [] => true
  | x :: xs => belowB n x && belowBs n xs
end

theorem belowBs_iff (n : Nat) : ∀ (xs : List X), belowBs n xs = true ↔ ∀ x ∈ xs, belowB n x = true
  | [] => by simp [belowBs]
  | x :: xs => by simp [belowBs, belowBs_iff n xs]

/-- Variables behind the first ones are told of no more. -/
def Ghost.trunc (g : Ghost) (dh n : Nat) : Ghost := { g with N := fun h => if h = dh then n else g.N h }

/-- Data stay where what is settled does. -/
theorem Run.cellsExt {g w g' w'} (h : ∀ b off, off < g.U b → w'.cell? ⟨b, off, none⟩ = w.cell? ⟨b, off, none⟩ ∧ off < g'.U b) {α : Type} {R R' : α → List Value → Prop} (hR : ∀ x cs, R x cs → R' x cs) {size : Nat} {xs : List α} {a : Option Addr}
    (hr : Run w g R size xs a) : Run w' g' R' size xs a := by
  intro i hi
  obtain ⟨A, cs, ha, hs, hl, hx, hc⟩ := hr i hi
  refine ⟨A, cs, ha, hs, hl, hR _ _ hx, fun j hj => ?_⟩
  obtain ⟨h1, h2⟩ := hc j hj
  obtain ⟨k1, k2⟩ := h _ _ h2
  exact ⟨k1.trans h1, k2⟩
theorem RepC.cellsExt {g w g' w'} (h : ∀ b off, off < g.U b → w'.cell? ⟨b, off, none⟩ = w.cell? ⟨b, off, none⟩ ∧ off < g'.U b) : ∀ (t : Ty) (x : t.den) (cs : List Value), RepC w g t x cs → RepC w' g' t x cs
  | .int _, _, _, r => r
  | .bool, _, _, r => r
  | .str, _, _, r => r
  | .any, _, _, r => r
  | .slice e, _, _, ⟨a, c, e1, e2, r⟩ => ⟨a, c, e1, e2, r.cellsExt h (RepC.cellsExt h e)⟩
  | .arr _ e, _, _, ⟨e1, r⟩ => ⟨e1, r.imp (RepC.cellsExt h e)⟩
  | .struct c, x, cs, r => RepC.cellsExt h c x cs r
  | .unit, _, _, r => r
  | .prod a b, _, _, ⟨c1, c2, e, r1, r2⟩ => ⟨c1, c2, e, RepC.cellsExt h a _ _ r1, RepC.cellsExt h b _ _ r2⟩

theorem RepC.trunc {g w} {dh n : Nat} (t : Ty) (x : t.den) (cs : List Value) (r : RepC w g t x cs) : RepC w (g.trunc dh n) t x cs :=
  RepC.cellsExt (g := g) (w := w) (g' := g.trunc dh n) (w' := w) (fun _ _ h => ⟨rfl, h⟩) t x cs r

mutual
theorem RepX.trunc {g w} {dh n : Nat} (hn : n ≤ g.N dh) {κ : Key} : ∀ (x : X) (v : Value), belowB n x = true → RepX g w dh κ x v → RepX (g.trunc dh n) w dh κ x v
  | .dead, _, _, _ => by simp [RepX]
  | .undef, v, _, r => by simpa only [RepX] using r
  | .nils, v, _, r => by simpa only [RepX] using r
  | .d t x, v, _, r => by
    simp only [RepX] at r ⊢
    obtain ⟨cs, h1, h2⟩ := r
    exact ⟨cs, h1.trunc, h2⟩
  | .sl e xs nl own, v, _, r => by
    simp only [RepX] at r ⊢
    obtain ⟨a, c, h1, h2, h3, h4, h5⟩ := r
    refine ⟨a, c, h1, h2, Run.cellsExt (g := g) (w := w) (g' := g.trunc dh n) (w' := w) (fun _ _ h => ⟨rfl, h⟩) (fun y cs hy => hy.trunc) h3, h4, fun ho => ?_⟩
    rcases h5 ho with h0 | ⟨b, arr, ty, fr, e1, e2, e3, e4, e5, e6⟩
    · exact .inl h0
    · exact .inr ⟨b, arr, ty, fr, e1, e2, e3, e4, e5, e6⟩
  | .cp t x, v, _, r => by
    simp only [RepX] at r ⊢
    obtain ⟨A, cs, h1, h2, h3, h4⟩ := r
    exact ⟨A, cs, h1, h2, h3.trunc, h4⟩
  | .ptr id path, v, hb, r => by
    simp only [belowB, decide_eq_true_eq] at hb
    simp only [RepX] at r ⊢
    obtain ⟨h1, off, t, h2, h3⟩ := r
    exact ⟨by simp [Ghost.trunc, hb], off, t, h2, h3⟩
  | .fn f first captured, v, hb, r => by
    simp only [belowB, Bool.and_eq_true] at hb
    simp only [RepX] at r ⊢
    obtain ⟨vs, us, h1, h2, h3⟩ := r
    exact ⟨vs, us, h1, RepXs.trunc hn first vs hb.1 h2, RepXs.trunc hn captured us hb.2 h3⟩
  | .tup xs, v, hb, r => by
    simp only [belowB] at hb
    simp only [RepX] at r ⊢
    obtain ⟨vs, h1, h2⟩ := r
    exact ⟨vs, h1, RepXs.trunc hn xs vs hb h2⟩
  | .agg _, v, _, r => by simp [RepX] at r
  | .lst l, v, hb, r => by
    simp only [belowB] at hb
    simp only [RepX] at r ⊢
    obtain ⟨a, us, c, h1, h2, h3, h4⟩ := r
    exact ⟨a, us, c, h1, h2, RepXs.trunc hn l us hb h3, h4⟩
  | .cx x, v, hb, r => by
    simp only [belowB] at hb
    simp only [RepX] at r ⊢
    obtain ⟨A, u, h1, h2, h3, h4, h5⟩ := r
    exact ⟨A, u, h1, h2, RepX.trunc hn x u hb h3, h4, h5⟩
  | .mref id off len, v, hb, r => by
    simp only [belowB, decide_eq_true_eq] at hb
    simp only [RepX] at r ⊢
    obtain ⟨h1, h2⟩ := r
    exact ⟨by simp [Ghost.trunc, hb], h2⟩
theorem RepXs.trunc {g w} {dh n : Nat} (hn : n ≤ g.N dh) : ∀ (xs : List X) (vs : List Value), belowBs n xs = true → RepXs g w dh xs vs → RepXs (g.trunc dh n) w dh xs vs
  | [], vs, _, r => by simpa only [RepXs] using r
  | x :: xs, vs, hb, r => by
    simp only [belowBs, Bool.and_eq_true] at hb
    simp only [RepXs] at r ⊢
    obtain ⟨v, us, h1, h2, h3⟩ := r
    exact ⟨v, us, h1, RepX.trunc hn x v hb.1 h2, RepXs.trunc hn xs us hb.2 h3⟩
end

mutual
theorem RepO.trunc {g w} {dh id n : Nat} (hn : n ≤ g.N dh) : ∀ (x : X) (t : Ty) (off : Nat) (cs : List Value), belowB n x = true → RepO g w dh id x t off cs → RepO (g.trunc dh n) w dh id x t off cs
  | .d t' x, t, off, cs, _, r => by
    simp only [RepO] at r ⊢
    exact ⟨r.1, r.2.trunc⟩
  | .agg xs, t, off, cs, hb, r => by
    simp only [belowB] at hb
    cases t <;> simp only [RepO] at r ⊢
    exact RepOs.trunc hn xs _ off cs hb r
  | .sl e xs nl own, t, off, cs, hb, r => by
    simp only [RepO] at r ⊢
    obtain ⟨r1, v, r2, r3⟩ := r
    exact ⟨r1, v, r2, RepX.trunc hn _ v hb r3⟩
  | .fn f a b, t, off, cs, hb, r => by
    simp only [RepO] at r ⊢
    obtain ⟨r1, v, r2, r3⟩ := r
    exact ⟨r1, v, r2, RepX.trunc hn _ v hb r3⟩
  | .ptr i p, t, off, cs, hb, r => by
    simp only [RepO] at r ⊢
    obtain ⟨r1, v, r2, r3⟩ := r
    exact ⟨r1, v, r2, RepX.trunc hn _ v hb r3⟩
  | .dead, _, _, _, _, r => by simp [RepO] at r
  | .undef, _, _, _, _, r => by simp [RepO] at r
  | .nils, _, _, _, _, r => by simp [RepO] at r
  | .cp _ _, _, _, _, _, r => by simp [RepO] at r
  | .tup _, _, _, _, _, r => by simp [RepO] at r
  | .lst _, _, _, _, _, r => by simp [RepO] at r
  | .cx _, _, _, _, _, r => by simp [RepO] at r
  | .mref _ _ _, _, _, _, _, r => by simp [RepO] at r
theorem RepOs.trunc {g w} {dh id n : Nat} (hn : n ≤ g.N dh) : ∀ (xs : List X) (t : Ty) (off : Nat) (cs : List Value), belowBs n xs = true → RepOs g w dh id xs t off cs → RepOs (g.trunc dh n) w dh id xs t off cs
  | [], t, off, cs, _, r => by simpa only [RepOs] using r
  | x :: xs, t, off, cs, hb, r => by
    simp only [belowBs, Bool.and_eq_true] at hb
    cases t <;> simp only [RepOs] at r ⊢
    obtain ⟨c1, c2, r1, r2, r3⟩ := r
    exact ⟨c1, c2, r1, RepO.trunc hn x _ off c1 hb.1 r2, RepOs.trunc hn xs _ _ c2 hb.2 r3⟩
end

/-- Of variables less may be told: of the last ones nothing; of others their data alone. -/
def HWeak (H1 H2 : Hp) : Prop := H2.length ≤ H1.length ∧ (∀ (id : Nat) (t : Ty) (c : X), H2[id]? = some (t, c) → ∃ c1, H1[id]? = some (t, c1) ∧ (c = c1 ∨ ∃ y, toD t c1 = some y ∧ c = .d t y)) ∧
  (H2.length = H1.length ∨ ∀ (id : Nat) (t : Ty) (c : X), H2[id]? = some (t, c) → belowB H2.length c = true)
theorem HWeak.refl (H : Hp) : HWeak H H := ⟨Nat.le_refl _, fun id t c h => ⟨c, h, .inl rfl⟩, .inl rfl⟩

/-- A part of the variables at the front, each as it is, or its data. -/
def frontB : Hp → Hp → Prop
  | _, [] => True
  | (t, c) :: H, (t', c') :: H' => t' = t ∧ (c' = c ∨ ∃ y, toD t c = some y ∧ c' = .d t y) ∧ frontB H H'
  | [], _ :: _ => False
theorem frontB_get : ∀ (H H' : Hp), frontB H H' → H'.length ≤ H.length ∧ ∀ (id : Nat) (t : Ty) (c : X), H'[id]? = some (t, c) → ∃ c1, H[id]? = some (t, c1) ∧ (c = c1 ∨ ∃ y, toD t c1 = some y ∧ c = .d t y)
  | H, [], _ => ⟨by simp, fun id t c e => by simp at e⟩
  | (t, c) :: H, (t', c') :: H', h => by
    obtain ⟨rfl, h2, h3⟩ := h
    obtain ⟨k1, k2⟩ := frontB_get H H' h3
    refine ⟨by simpa using k1, fun id t2 c2 e => ?_⟩
    cases id with
    | zero =>
      simp only [List.getElem?_cons_zero, Option.some.injEq, Prod.mk.injEq] at e
      obtain ⟨rfl, rfl⟩ := e
      exact ⟨c, rfl, h2⟩
    | succ id => exact k2 id t2 c2 (by simpa using e)
  | [], _ :: _, h => h.elim
theorem HWeak.of {H H' : Hp} (h : frontB H H') (hb : (H'.all fun p => belowB H'.length p.2) = true) : HWeak H H' := by
  obtain ⟨k1, k2⟩ := frontB_get H H' h
  refine ⟨k1, k2, .inr fun id t c e => ?_⟩
  exact List.all_eq_true.1 hb (t, c) (List.mem_of_getElem? e)

theorem HRep.hweak {g w} {dh : Nat} {H1 H2 : Hp} (h : HRep g w dh H1) (k : HWeak H1 H2) : HRep (g.trunc dh H2.length) w dh H2 := by
  obtain ⟨k1, k2, k3⟩ := k
  have hn : H2.length ≤ g.N dh := by rw [← h.1]; exact k1
  refine ⟨by simp [Ghost.trunc], fun id t c e => ?_⟩
  obtain ⟨c1, e1, e2⟩ := k2 id t c e
  obtain ⟨r1, r2, r3, r4, arr, ty, r5, r6⟩ := h.2 id t c1 e1
  refine ⟨r1, r2, r3, r4, arr, ty, r5, ?_⟩
  have r7 : RepO g w dh id c t 0 arr.toList := by
    rcases e2 with rfl | ⟨y, hy, rfl⟩
    · exact r6
    · simp only [RepO]
      exact ⟨trivial, RepO.toD c1 t 0 _ y r6 hy⟩
  rcases k3 with k3 | k3
  · have hg : g.trunc dh H2.length = g := by
      unfold Ghost.trunc
      rw [k3, h.1]
      have : (fun h => if h = dh then g.N dh else g.N h) = g.N := by
        funext x
        split
        · rename_i e; rw [e]
        · rfl
      rw [this]
    rw [hg]; exact r7
  · exact RepO.trunc hn c t 0 _ (k3 id t c e) r7

theorem Ext.trunc {g w g' w'} {d dh n : Nat} {K : Key → Prop} (h : Ext g w g' w' d K) (hK : K (.obj dh 0)) (hn : g.N dh ≤ n) : Ext g w (g'.trunc dh n) w' d K where
  os := h.os
  tape := h.tape
  output := h.output
  size := h.size
  keep := h.keep
  cells := h.cells
  mu x hx id hid := by
    obtain ⟨k1, k2, k3⟩ := h.mu x hx id hid
    refine ⟨?_, k2, k3⟩
    simp only [Ghost.trunc]
    split
    · rename_i e; subst e; omega
    · exact k1
  num x hx := by
    simp only [Ghost.trunc]
    split
    · rename_i e
      subst e
      exact absurd hK (hx _ rfl)
    · exact h.num x hx

/-- A frame of which less is told. -/
theorem Fr.forget {g w} {d dh : Nat} {st st' : St} {a : Act} (h : Fr g w d dh st a) (hl : st'.tm.length = st.tm.length) (hH : st'.H = st.H) (hx : ∀ (t : Nat) (x : X), st'.tm[t]? = some x → x = .dead ∨ st.tm[t]? = some x ∨ ∃ y, st.tm[t]? = some y ∧ x = y.unown) : Fr g w d dh st' a := by
  refine ⟨hl.trans h.len, fun t x e => ?_, hH ▸ h.heap, h.wf, h.le⟩
  rcases hx t x e with rfl | e' | ⟨y, e', rfl⟩
  · simp [RepX]
  · exact h.rep t x e'
  · exact (h.rep t y e').unown'

theorem idxOf_get : ∀ (ks : List Nat) (t i : Nat), ks.idxOf? t = some i → ks[i]? = some t
  | [], _, _, h => by simp at h
  | k :: ks, t, i, h => by
    rw [List.idxOf?_cons] at h
    split at h
    · rename_i hk
      cases h
      simp at hk
      simp [hk]
    · rw [Option.map_eq_some_iff] at h
      obtain ⟨j, hj, rfl⟩ := h
      simpa using idxOf_get ks t j hj

theorem keepOnly_get {n : Nat} {ks : List Nat} {xs : List X} {t : Nat} {x : X} (h : (keepOnly n ks xs)[t]? = some x) : x = .dead ∨ ∃ i, ks[i]? = some t ∧ xs.getD i .dead = x := by
  unfold keepOnly at h
  rw [List.getElem?_map, Option.map_eq_some_iff] at h
  obtain ⟨j, hj, rfl⟩ := h
  have : j = t := by
    rw [List.getElem?_range] at hj
    · simpa using hj.symm
    · have := (List.getElem?_eq_some_iff.1 hj).1
      simpa using this
  subst this
  split
  · rename_i i hi
    exact .inr ⟨i, idxOf_get ks j i hi, rfl⟩
  · exact .inl rfl

theorem Fr.keep {g w} {d dh : Nat} {st : St} {a : Act} (h : Fr g w d dh st a) (N : Nat) (hN : st.tm.length = N) (ks : List Nat) : Fr g w d dh { tm := keepOnly N ks (ks.map fun t => st.tm.getD t .dead), H := st.H } a := by
  refine h.forget (by simp [keepOnly, hN]) rfl fun t x e => ?_
  rcases keepOnly_get e with e | ⟨i, hi, hx⟩
  · exact .inl e
  · rw [List.getD_eq_getElem?_getD, List.getElem?_map, hi] at hx
    simp only [Option.map_some, Option.getD_some] at hx
    by_cases hd : x = .dead
    · exact .inl hd
    · refine .inr (.inl ?_)
      rw [List.getD_eq_getElem?_getD] at hx
      cases ht : st.tm[t]? with
      | none => rw [ht] at hx; simp at hx; exact absurd hx.symm hd
      | some y => rw [ht] at hx; simp at hx; rw [hx]

/-- Of places less may be told. -/
def Forget (ys xs : List X) : Prop := ∀ i, xs.getD i .dead = .dead ∨ xs.getD i .dead = ys.getD i .dead ∨ xs.getD i .dead = (ys.getD i .dead).unown

/-- What lives on leads to no variable that is told of no more. -/
def LeadsB (H1 H2 : Hp) (xs : List X) : Prop := H2.length = H1.length ∨ belowBs H2.length xs = true

theorem Fr.weak {g w} {d dh : Nat} {N : Nat} {ks : List Nat} {xs ys : List X} {H H' : Hp} {a : Act} (h : Fr g w d dh { tm := keepOnly N ks ys, H := H } a) (hf : Forget ys xs) (hH : HWeak H H') (hl : LeadsB H H' xs) :
    Fr (g.trunc dh H'.length) w d dh { tm := keepOnly N ks xs, H := H' } a := by
  have h1 : Fr g w d dh { tm := keepOnly N ks xs, H := H } a := by
    refine h.forget (by simp [keepOnly]) rfl fun t x e => ?_
    have ht : t < N := by
      have := (List.getElem?_eq_some_iff.1 e).1
      simpa [keepOnly] using this
    have hk : ∀ zs : List X, (keepOnly N ks zs)[t]? = some (match ks.idxOf? t with | some i => zs.getD i .dead | none => .dead) := by
      intro zs
      unfold keepOnly
      rw [List.getElem?_map, List.getElem?_range ht]
      rfl
    rw [hk] at e ⊢
    simp only [Option.some.injEq] at e ⊢
    cases hi : ks.idxOf? t with
    | none => rw [hi] at e; exact .inl e.symm
    | some i =>
      rw [hi] at e
      simp only at e ⊢
      rcases hf i with h0 | h0 | h0
      · exact .inl (e.symm.trans h0)
      · exact .inr (.inl (h0.symm.trans e))
      · exact .inr (.inr ⟨_, rfl, e.symm.trans h0⟩)
  have hn : H'.length ≤ g.N dh := by rw [← h1.heap.1]; exact hH.1
  refine ⟨h1.len, fun t x e => ?_, h1.heap.hweak hH, h1.wf, h1.le⟩
  have hr := h1.rep t x e
  rcases hl with hl | hl
  · have hg : g.trunc dh H'.length = g := by
      unfold Ghost.trunc
      rw [hl, h1.heap.1]
      have : (fun h => if h = dh then g.N dh else g.N h) = g.N := by
        funext x
        split
        · rename_i e; rw [e]
        · rfl
      rw [this]
    rw [hg]; exact hr
  · refine RepX.trunc hn x _ ?_ hr
    rcases keepOnly_get e with rfl | ⟨i, _, hx⟩
    · rfl
    · rw [← hx]
      by_cases hi : i < xs.length
      · rw [List.getD_eq_getElem?_getD, List.getElem?_eq_getElem hi]
        exact (belowBs_iff _ _).1 hl _ (List.getElem_mem hi)
      · rw [List.getD_eq_getElem?_getD, List.getElem?_eq_none (by omega)]
        rfl

/-- A loop comes to this, in so many rounds. Between rounds less may be told. -/
def LoopN (C : Ctx) (fuel : Nat) (body : Code) (N : Nat) (ks : List Nat) : Nat → List X → Hp → Ex × List X × Hp → Prop
  | 0, _, _, _ => False
  | m + 1, xs, H, r =>
    (∃ ys H1, r.1 ≠ .normal ∧ stepF C fuel body N ks xs H (fun e xs H => some (e, xs, H)) = some (r.1, ys, H1) ∧ Forget ys r.2.1 ∧ HWeak H1 r.2.2 ∧ H.length ≤ r.2.2.length ∧ LeadsB H1 r.2.2 r.2.1) ∨
    (∃ ys H1 xs' H', stepF C fuel body N ks xs H (fun e xs H => some (e, xs, H)) = some (Ex.normal, ys, H1) ∧ Forget ys xs' ∧ HWeak H1 H' ∧ H.length ≤ H'.length ∧ LeadsB H1 H' xs' ∧ LoopN C fuel body N ks m xs' H' r)

theorem loopN_ok {P : Program} {C : Ctx} (hC : COk P C) (hmix : P.follows .mixedOrders = true) {d dh fuel : Nat} {body : Code} {N : Nat} {ks : List Nat} (hL : LoopsOk P C d dh (loopsOf body)) {F : List X → Hp → Option (Ex × List X × Hp)}
    (hF : ∀ xs H r, F xs H = some r → ∃ m, LoopN C fuel body N ks m xs H r) : LoopOk P d dh body N ks F := by
  intro st e xsF HF hN hres g w a h
  obtain ⟨m, hm⟩ := hF _ _ _ hres
  refine wp_loop_fuel (fun n a' w' => ∃ g' xs H', LoopN C fuel body N ks n xs H' (e, xsF, HF) ∧ Fr g' w' d dh { tm := keepOnly N ks xs, H := H' } a' ∧ Ext g w g' w' d (Kf d dh) ∧ a'.defers = a.defers ∧ g.N dh ≤ H'.length) ?_ (n := m) ?_
  · rintro n a' w' ⟨g', xs, H', h1, h2, h3, h4, h5⟩
    cases n with
    | zero => exact h1.elim
    | succ n =>
      have hK : Kf d dh (.obj dh 0) := .inr rfl
      rcases h1 with ⟨ys, H1, q1, q2, q3, q4, q6, q7⟩ | ⟨ys, H1, xs', H2, q2, q3, q4, q6, q7, q5⟩
      · have hs := q2
        unfold stepF at hs
        refine codeK_sound hC hmix fuel body g' w' _ a' _ _ h2 hs hL fun e2 st2 a2 w2 g2 k1 k2 k3 k4 => ?_
        simp only at k1
        split at k1
        · rename_i hN2
          simp only [Option.some.injEq, Prod.mk.injEq] at k1
          obtain ⟨rfl, rfl, rfl⟩ := k1
          have hfin : e2.to = e2.to ∧ ∃ g', Fr g' w2 d dh { tm := keepOnly N ks xsF, H := HF } a2 ∧ Ext g w g' w2 d (Kf d dh) ∧ a2.defers = a.defers := ⟨rfl, _, (k2.keep N hN2 ks).weak q3 q4 q7, (h3.trans k3).trunc hK (Nat.le_trans h5 q6), k4.trans h4⟩
          cases e2 with
          | normal => exact absurd rfl q1
          | exit i => exact hfin
          | goto i => exact hfin
          | ret => exact hfin
        · cases k1
      · have hs := q2
        unfold stepF at hs
        refine codeK_sound hC hmix fuel body g' w' _ a' _ _ h2 hs hL fun e2 st2 a2 w2 g2 k1 k2 k3 k4 => ?_
        simp only at k1
        split at k1
        · rename_i hN2
          simp only [Option.some.injEq, Prod.mk.injEq] at k1
          obtain ⟨rfl, rfl, rfl⟩ := k1
          exact ⟨n, Nat.lt_succ_self n, _, _, _, q5, (k2.keep N hN2 ks).weak q3 q4 q7, (h3.trans k3).trunc hK (Nat.le_trans h5 q6), k4.trans h4, Nat.le_trans h5 q6⟩
        · cases k1
  · exact ⟨g, _, _, hm, h.keep N hN ks, Ext.refl _ _ _ _, rfl, Nat.le_of_eq h.heap.1.symm⟩

mutual
/-- An argument that leads to no variable and whose room is not its own. -/
def argB : X → Bool
  | .d _ _ => true
  | .sl _ _ _ own => !own
  | .nils => true
  | .undef => true
  | .dead => true
  | .cp _ _ => true
  | .fn _ a b => argsB a && argsB b
  | .tup xs => argsB xs
  | .lst l => argsB l
  | .cx x => argB x
  | _ => false
def argsB : List X → Bool
  | [] => true
  | x :: xs => argB x && argsB xs
end

mutual
theorem RepX.far {g w} {dh dh2 : Nat} {κ κ2 : Key} : ∀ (x : X) (v : Value), argB x = true → RepX g w dh κ x v → RepX g w dh2 κ2 x v
  | .d t x, v, _, h => by simpa only [RepX] using h
  | .sl e xs nl own, v, hb, h => by
    simp only [argB, Bool.not_eq_true'] at hb
    subst hb
    simp only [RepX] at h ⊢
    obtain ⟨a, c, h1, h2, h3, h4, _⟩ := h
    exact ⟨a, c, h1, h2, h3, h4, (fun e => by cases e)⟩
  | .nils, v, _, h => by simpa only [RepX] using h
  | .undef, v, _, h => by simpa only [RepX] using h
  | .dead, v, _, h => by simp only [RepX]
  | .cp t x, v, _, h => by simpa only [RepX] using h
  | .fn f a b, v, hb, h => by
    simp only [argB, Bool.and_eq_true] at hb
    simp only [RepX] at h ⊢
    obtain ⟨vs, us, h1, h2, h3⟩ := h
    exact ⟨vs, us, h1, RepXs.far a vs hb.1 h2, RepXs.far b us hb.2 h3⟩
  | .tup xs, v, hb, h => by
    simp only [argB] at hb
    simp only [RepX] at h ⊢
    obtain ⟨vs, h1, h2⟩ := h
    exact ⟨vs, h1, RepXs.far xs vs hb h2⟩
  | .ptr _ _, _, hb, _ => by simp [argB] at hb
  | .mref _ _ _, _, hb, _ => by simp [argB] at hb
  | .lst l, v, hb, h => by
    simp only [argB] at hb
    simp only [RepX] at h ⊢
    obtain ⟨a, us, c, h1, h2, h3, h4⟩ := h
    exact ⟨a, us, c, h1, h2, RepXs.far l us hb h3, h4⟩
  | .cx x, v, hb, h => by
    simp only [argB] at hb
    simp only [RepX] at h ⊢
    obtain ⟨A, u, h1, h2, h3, h4, h5⟩ := h
    exact ⟨A, u, h1, h2, RepX.far x u hb h3, h4, h5⟩
  | .agg _, _, hb, _ => by simp [argB] at hb
theorem RepXs.far {g w} {dh dh2 : Nat} : ∀ (xs : List X) (vs : List Value), argsB xs = true → RepXs g w dh xs vs → RepXs g w dh2 xs vs
  | [], vs, _, h => by simpa only [RepXs] using h
  | x :: xs, vs, hb, h => by
    simp only [argsB, Bool.and_eq_true] at hb
    simp only [RepXs] at h ⊢
    obtain ⟨v, us, h1, h2, h3⟩ := h
    exact ⟨v, us, h1, RepX.far x v hb.1 h2, RepXs.far xs us hb.2 h3⟩
end

/-- A result that leads to no variable. -/
def resB : X → Bool
  | .sl _ _ _ _ => true
  | x => argB x

theorem RepX.res {g w} {dh dh2 : Nat} {κ : Key} {x : X} {v : Value} (hb : resB x = true) (h : RepX g w dh κ x v) : RepX g w dh2 κ x v := by
  cases x
  case sl e xs nl own => simpa only [RepX] using h
  all_goals exact RepX.far _ v hb h

theorem Fr.enter {g w} {d dh : Nat} {H : Hp} (hH : HRep g w dh H) (hw : WF g w) (hd : dh ≤ d) {args : List X} {vs : List Value} (ha : RepXs g w dh args vs) (hb : ∀ x ∈ args, ∀ e xs nl own, x = .sl e xs nl own → own = false) (n : Nat) :
    Fr g w d dh { tm := args ++ List.replicate n .undef, H := H } { tmps := vs.toArray ++ Array.replicate n undef, defers := [] } := by
  have hlen : ∀ (xs : List X) (vs : List Value), RepXs g w dh xs vs → xs.length = vs.length := by
    intro xs
    induction xs with
    | nil => intro vs h; simp only [RepXs] at h; simp [h]
    | cons x xs ih =>
      intro vs h
      simp only [RepXs] at h
      obtain ⟨v, us, rfl, _, h3⟩ := h
      simp [ih us h3]
  have hl := hlen args vs ha
  refine ⟨by simp [hl], fun t x e => ?_, hH, hw, hd⟩
  by_cases ht : t < args.length
  · rw [List.getElem?_append_left ht] at e
    obtain ⟨v, hv, hr⟩ := RepXs.get args vs t x ha e
    have htv : t < vs.length := by omega
    have : (vs.toArray ++ Array.replicate n undef).getD t undef = v := by
      rw [List.getElem?_eq_getElem htv] at hv
      simp only [Option.some.injEq] at hv
      simp [Array.getD, Array.getElem_append, htv, hv]
      omega
    simp only [this]
    have hmem : x ∈ args := List.mem_of_getElem? e
    cases x
    case sl e0 xs nl own =>
      have := hb _ hmem e0 xs nl own rfl
      subst this
      simp only [RepX] at hr ⊢
      obtain ⟨a, c, h1, h2, h3, h4, _⟩ := hr
      exact ⟨a, c, h1, h2, h3, h4, (fun e => by cases e)⟩
    all_goals (simp only [RepX] at hr ⊢; try exact hr)
  · rw [List.getElem?_append_right (by omega)] at e
    have hx : x = .undef := by
      have := List.mem_of_getElem? e
      exact List.eq_of_mem_replicate this
    subst hx
    simp only [RepX]
    have hlt : t - args.length < n := by
      have := (List.getElem?_eq_some_iff.1 e).1
      simpa using this
    simp [Array.getD, Array.getElem_append]
    intro h1 h2
    omega

end Go.Proofs.Ytgickaihlebgmaa.V

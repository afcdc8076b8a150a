/-
  What the evaluator tells is so: parts of variables read and written; the heap as a whole; a frame; what an operation owes.
  It speaks of whatever program; no condition.
-/
import Derived.Test.YtgickaihlebgmaaV4
namespace Go.Proofs.Ytgickaihlebgmaa.V
open Go
set_option linter.unusedVariables false

theorem RepO.get {g w} {dh id : Nat} : ∀ (p : List Nat) (c : X) (t : Ty) (off o : Nat) (cs : List Value) (t' : Ty) (y : X), RepO g w dh id c t off cs → pathAt t p = some (o, t') → getP p c = some y →
    ∃ pre mid post, cs = pre ++ mid ++ post ∧ pre.length = o ∧ RepO g w dh id y t' (off + o) mid
  | [], c, t, off, o, cs, t', y, h, e, ey => by
    simp only [pathAt, Option.some.injEq, Prod.mk.injEq] at e
    obtain ⟨rfl, rfl⟩ := e
    simp only [getP, Option.some.injEq] at ey
    subst ey
    exact ⟨[], cs, [], by simp, rfl, h⟩
  | j :: p, c, t, off, o, cs, t', y, h, e, ey => by
    simp only [pathAt] at e
    split at e
    · rename_i o1 t1 e1
      simp only [Option.map_eq_some_iff] at e
      obtain ⟨⟨o2, t2⟩, e2, e3⟩ := e
      simp only [Prod.mk.injEq] at e3
      obtain ⟨rfl, rfl⟩ := e3
      have fin : ∀ u pre mid post, cs = pre ++ mid ++ post → pre.length = o1 → RepO g w dh id u t1 (off + o1) mid → getP p u = some y →
          ∃ pre mid post, cs = pre ++ mid ++ post ∧ pre.length = o1 + o2 ∧ RepO g w dh id y t2 (off + (o1 + o2)) mid := by
        intro u pre mid post ec ep hu eu
        obtain ⟨pre', mid', post', rfl, f2, f3⟩ := RepO.get p u t1 (off + o1) o2 mid t2 y hu e2 eu
        exact ⟨pre ++ pre', mid', post' ++ post, by simp [ec], by simp [ep, f2], by rw [← Nat.add_assoc]; exact f3⟩
      cases c
      case agg xs =>
        simp only [getP] at ey
        split at ey
        · rename_i x ex
          cases t <;> simp only [RepO] at h
          simp only [stepAt] at e1
          obtain ⟨pre, mid, post, f1, f2, f3, _⟩ := RepOs.at (Ext.refl g w dh (fun _ => False)) (Nat.le_refl _) (fun e => e) xs _ off cs j o1 t1 x h e1 ex
          exact fin x pre mid post f1 f2 f3 ey
        · cases ey
      case d t0 x =>
        simp only [RepO] at h
        obtain ⟨rfl, h⟩ := h
        cases t0 <;> simp only [getP] at ey <;> try (cases ey; done)
        case struct c0 =>
          split at ey
          · rename_i z ez
            simp only [stepAt] at e1
            obtain ⟨oz, pre, mid, post, f1, f2, f3, f4⟩ := RepC.comp c0 x cs j z h ez
            rw [e1] at f1
            simp only [Option.some.injEq, Prod.mk.injEq] at f1
            obtain ⟨rfl, rfl⟩ := f1
            exact fin (V.mkX z.1 z.2) pre mid post f2 f3 (RepO.mkX f4) ey
          · cases ey
        case arr n e0 =>
          obtain ⟨h1, h2⟩ := h
          simp only [stepAt] at e1
          split at e1
          · rename_i hj
            simp only [Option.some.injEq, Prod.mk.injEq] at e1
            obtain ⟨rfl, rfl⟩ := e1
            have hj' : j < List.length x := by omega
            obtain ⟨pre, mid, post, f1, f2, f3, _⟩ := Parts.at (RepC.length (w := w) (g := g) e0) x cs j hj' h2
            refine fin (V.mkX e0 (List.getD x j e0.zero)) pre mid post f1 f2 (RepO.mkX ?_) ey
            rw [List.getD_eq_getElem?_getD, List.getElem?_eq_getElem hj']
            exact f3
          · cases e1
      all_goals (simp only [getP] at ey; try (cases ey; done))
    · cases e

theorem castTo_some {t t' : Ty} {x : t.den} {y : t'.den} (h : castTo t t' x = some y) : ∃ e : t = t', e ▸ x = y := by
  unfold castTo at h
  split at h
  · rename_i e; exact ⟨e, by simpa using h⟩
  · cases h

mutual
theorem RepO.toD {g w} {dh id : Nat} : ∀ (x : X) (t : Ty) (off : Nat) (cs : List Value) (y : t.den), RepO g w dh id x t off cs → toD t x = some y → RepC w g t y cs
  | .d t' x, t, off, cs, y, h, e => by
    simp only [RepO] at h
    obtain ⟨rfl, h⟩ := h
    have e' : castTo t' t' x = some y := by
      cases t' <;> simpa only [V.toD] using e
    obtain ⟨e1, rfl⟩ := castTo_some e'
    exact h
  | .agg xs, t, off, cs, y, h, e => by
    cases t <;> simp only [RepO] at h
    rename_i c0
    simp only [V.toD] at e
    exact RepOs.toDs xs c0 off cs y h e
  | .sl e0 xs nl own, t, off, cs, y, h, e => by
    simp only [RepO] at h
    obtain ⟨rfl, v, rfl, h⟩ := h
    simp only [V.toD] at e
    obtain ⟨e1, rfl⟩ := castTo_some e
    simp only [RepX] at h
    obtain ⟨a, c, rfl, h2, h3, _⟩ := h
    exact ⟨a, c, rfl, h2, h3⟩
  | .fn _ _ _, t, off, cs, y, h, e => by
    simp only [RepO] at h
    obtain ⟨rfl, _⟩ := h
    simp [V.toD] at e
  | .ptr _ _, t, off, cs, y, h, e => by
    simp only [RepO] at h
    obtain ⟨rfl, _⟩ := h
    simp [V.toD] at e
  | .dead, _, _, _, _, r, _ => by simp [RepO] at r
  | .undef, _, _, _, _, r, _ => by simp [RepO] at r
  | .nils, _, _, _, _, r, _ => by simp [RepO] at r
  | .cp _ _, _, _, _, _, r, _ => by simp [RepO] at r
  | .tup _, _, _, _, _, r, _ => by simp [RepO] at r
  | .lst _, _, _, _, _, r, _ => by simp [RepO] at r
  | .cx _, _, _, _, _, r, _ => by simp [RepO] at r
  | .mref _ _ _, _, _, _, _, r, _ => by simp [RepO] at r
theorem RepOs.toDs {g w} {dh id : Nat} : ∀ (xs : List X) (t : Ty) (off : Nat) (cs : List Value) (y : t.den), RepOs g w dh id xs t off cs → toDs t xs = some y → RepC w g t y cs
  | [], t, off, cs, y, h, e => by
    simp only [RepOs] at h
    obtain ⟨rfl, rfl⟩ := h
    rfl
  | x :: xs, t, off, cs, y, h, e => by
    cases t <;> simp only [RepOs] at h
    obtain ⟨c1, c2, rfl, h1, h2⟩ := h
    simp only [V.toDs] at e
    split at e
    · rename_i u eu
      split at e
      · rename_i v ev
        simp only [Option.some.injEq] at e
        subst e
        exact ⟨c1, c2, rfl, RepO.toD x _ off c1 u h1 eu, RepOs.toDs xs _ _ c2 v h2 ev⟩
      · cases e
    · cases e
end

theorem goodPath : ∀ (p : List Nat) (t : Ty) (o : Nat) (t' : Ty), good t = true → pathAt t p = some (o, t') → good t' = true
  | [], t, o, t', hg, e => by
    simp only [pathAt, Option.some.injEq, Prod.mk.injEq] at e
    obtain ⟨_, rfl⟩ := e
    exact hg
  | j :: p, t, o, t', hg, e => by
    simp only [pathAt] at e
    split at e
    · rename_i o1 t1 e1
      simp only [Option.map_eq_some_iff] at e
      obtain ⟨⟨o2, t2⟩, e2, e3⟩ := e
      simp only [Prod.mk.injEq] at e3
      obtain ⟨_, rfl⟩ := e3
      refine goodPath p t1 o2 t2 ?_ e2
      cases t <;> simp only [stepAt] at e1 <;> try (cases e1; done)
      case struct c =>
        simp only [good, Bool.and_eq_true] at hg
        have : ∀ (c : Ty) (j o : Nat) (t1 : Ty), good c = true → chainAt c j = some (o, t1) → good t1 = true := by
          intro c
          induction c with
          | prod a b _ ihb =>
            intro j o t1 hg e
            simp only [good, Bool.and_eq_true] at hg
            cases j with
            | zero => simp only [chainAt, Option.some.injEq, Prod.mk.injEq] at e; obtain ⟨_, rfl⟩ := e; exact hg.1
            | succ j =>
              simp only [chainAt, Option.map_eq_some_iff] at e
              obtain ⟨⟨o', t''⟩, e1, e2⟩ := e
              simp only [Prod.mk.injEq] at e2
              obtain ⟨_, rfl⟩ := e2
              exact ihb j o' _ hg.2 e1
          | _ => intro j o t1 _ e; simp [chainAt] at e
        exact this c j o1 t1 hg.2 e1
      case arr n e0 =>
        split at e1
        · simp only [Option.some.injEq, Prod.mk.injEq] at e1
          obtain ⟨_, rfl⟩ := e1
          exact hg
        · cases e1
    · cases e

theorem pathAt_le : ∀ (p : List Nat) (t : Ty) (o : Nat) (t' : Ty), pathAt t p = some (o, t') → o + t'.size ≤ t.size
  | [], t, o, t', e => by
    simp only [pathAt, Option.some.injEq, Prod.mk.injEq] at e
    obtain ⟨rfl, rfl⟩ := e
    omega
  | j :: p, t, o, t', e => by
    simp only [pathAt] at e
    split at e
    · rename_i o1 t1 e1
      simp only [Option.map_eq_some_iff] at e
      obtain ⟨⟨o2, t2⟩, e2, e3⟩ := e
      simp only [Prod.mk.injEq] at e3
      obtain ⟨rfl, rfl⟩ := e3
      have h2 := pathAt_le p t1 o2 t2 e2
      have h1 : o1 + t1.size ≤ t.size := by
        cases t <;> simp only [stepAt] at e1 <;> try (cases e1; done)
        case struct c => exact chainAt_le c j o1 t1 e1
        case arr n e0 =>
          split at e1
          · simp only [Option.some.injEq, Prod.mk.injEq] at e1
            obtain ⟨rfl, rfl⟩ := e1
            rename_i hj
            have := Nat.mul_le_mul_right e0.size (show j + 1 ≤ n by omega)
            simp only [Ty.size]
            rw [Nat.add_mul] at this
            omega
          · cases e1
      omega
    · cases e

theorem RepO.set {g w g' w'} {d dh id : Nat} {K : Key → Prop} (he : Ext g w g' w' d K) (hd : dh ≤ d) (hno : ¬ K .no) :
    ∀ (p : List Nat) (c : X) (t : Ty) (off o : Nat) (cs : List Value) (t' : Ty) (y c' : X) (m : List Value), good t = true → RepO g w dh id c t off cs → pathAt t p = some (o, t') → setP p c y = some c' →
    (∀ o', off ≤ o' → o' < off + t.size → K (.cell dh id o') → off + o ≤ o' ∧ o' < off + o + t'.size) →
    RepO g' w' dh id y t' (off + o) m → ∃ pre mid post, cs = pre ++ mid ++ post ∧ pre.length = o ∧ mid.length = t'.size ∧ RepO g' w' dh id c' t off (pre ++ m ++ post)
  | [], c, t, off, o, cs, t', y, c', m, hg, h, e, ey, hK, hy => by
    simp only [pathAt, Option.some.injEq, Prod.mk.injEq] at e
    obtain ⟨rfl, rfl⟩ := e
    simp only [setP, Option.some.injEq] at ey
    subst ey
    exact ⟨[], cs, [], by simp, rfl, RepO.length c t off cs h, by simpa using hy⟩
  | j :: p, c, t, off, o, cs, t', y, c', m, hg, h, e, ey, hK, hy => by
    have hgs : ∀ o1 t1, pathAt t [j] = some (o1, t1) → good t1 = true := fun o1 t1 e1 => goodPath [j] t o1 t1 hg e1
    simp only [pathAt] at e
    split at e
    · rename_i o1 t1 e1
      have hg1 : good t1 = true := hgs o1 t1 (by simp [pathAt, e1])
      have hle1 : o1 + t1.size ≤ t.size := pathAt_le [j] t o1 t1 (by simp [pathAt, e1])
      simp only [Option.map_eq_some_iff] at e
      obtain ⟨⟨o2, t2⟩, e2, e3⟩ := e
      simp only [Prod.mk.injEq] at e3
      obtain ⟨rfl, rfl⟩ := e3
      have hle2 := pathAt_le p t1 o2 t2 e2
      rw [← Nat.add_assoc] at hy
      have hK1 : ∀ o', off + o1 ≤ o' → o' < off + o1 + t1.size → K (.cell dh id o') → off + o1 + o2 ≤ o' ∧ o' < off + o1 + o2 + t2.size := fun o' l1 l2 k => by
        have := hK o' (by omega) (by omega) k
        omega
      have hK2 : ∀ o', off ≤ o' → o' < off + t.size → K (.cell dh id o') → off + o1 ≤ o' ∧ o' < off + o1 + t1.size := fun o' l1 l2 k => by
        have := hK o' l1 l2 k
        omega
      cases c
      case agg xs =>
        simp only [setP] at ey
        split at ey
        · rename_i x ex
          split at ey
          · rename_i x' ex'
            simp only [Option.some.injEq] at ey
            subst ey
            cases t <;> simp only [RepO] at h
            simp only [stepAt] at e1
            obtain ⟨pre, mid, post, rfl, f2, f3, f4⟩ := RepOs.at he hd hno xs _ off cs j o1 t1 x h e1 ex
            obtain ⟨pre', mid', post', rfl, k2, k3, k4⟩ := RepO.set he hd hno p x t1 (off + o1) o2 mid t2 y x' m hg1 f3 e2 ex' hK1 hy
            refine ⟨pre ++ pre', mid', post' ++ post, by simp, by simp [f2, k2], k3, ?_⟩
            simp only [RepO]
            have := f4 x' _ hK2 k4
            simpa using this
          · cases ey
        · cases ey
      case d t0 x =>
        simp only [RepO] at h
        obtain ⟨rfl, h⟩ := h
        cases t0 <;> simp only [setP] at ey <;> try (cases ey; done)
        case struct c0 =>
          split at ey
          · rename_i u eu
            split at ey
            · rename_i u' eu'
              simp only [Option.some.injEq] at ey
              subst ey
              simp only [stepAt] at e1
              simp only [good, Bool.and_eq_true] at hg
              have h' := RepOs.of_chain (dh := dh) (id := id) c0 x off cs hg.1 h
              obtain ⟨pre, mid, post, rfl, f2, f3, f4⟩ := RepOs.at he hd hno _ _ off cs j o1 t1 u h' e1 eu
              obtain ⟨pre', mid', post', rfl, k2, k3, k4⟩ := RepO.set he hd hno p u t1 (off + o1) o2 mid t2 y u' m hg1 f3 e2 eu' hK1 hy
              refine ⟨pre ++ pre', mid', post' ++ post, by simp, by simp [f2, k2], k3, ?_⟩
              simp only [RepO]
              have := f4 u' _ hK2 k4
              simpa using this
            · cases ey
          · cases ey
        case arr n e0 =>
          split at ey
          · rename_i u eu
            split at ey
            · rename_i v ev
              simp only [Option.some.injEq] at ey
              subst ey
              obtain ⟨h1, h2⟩ := h
              simp only [stepAt] at e1
              split at e1
              · rename_i hj
                simp only [Option.some.injEq, Prod.mk.injEq] at e1
                obtain ⟨rfl, rfl⟩ := e1
                have hj' : j < List.length x := by omega
                obtain ⟨pre, mid, post, rfl, f2, f3, f4⟩ := Parts.at (RepC.length (w := w) (g := g) e0) x cs j hj' h2
                have hx : RepO g w dh id (V.mkX e0 (List.getD x j e0.zero)) e0 (off + j * e0.size) mid := RepO.mkX (by
                  rw [List.getD_eq_getElem?_getD, List.getElem?_eq_getElem hj']
                  exact f3)
                have h2' := Parts.imp (RepC.ext he e0) x _ h2
                obtain ⟨pre0, mid0, post0, g1, g2, g3, g4⟩ := Parts.at (RepC.length (w := w') (g := g') e0) x _ j hj' h2'
                have hml := RepC.length e0 _ _ f3
                have hml0 := RepC.length e0 _ _ g3
                have g1' : pre ++ (mid ++ post) = pre0 ++ (mid0 ++ post0) := by simpa [List.append_assoc] using g1
                obtain ⟨q1, q2⟩ := List.append_inj g1' (by rw [f2, g2])
                obtain ⟨q3, q4⟩ := List.append_inj q2 (by rw [hml, hml0])
                subst q1; subst q4
                obtain ⟨pre', mid', post', rfl, k2, k3, k4⟩ := RepO.set he hd hno p _ e0 (off + j * e0.size) o2 mid t2 y u m hg1 hx e2 eu hK1 hy
                refine ⟨pre ++ pre', mid', post' ++ post, by simp, by simp [f2, k2], k3, ?_⟩
                simp only [RepO]
                refine ⟨trivial, by simp [h1], ?_⟩
                have := g4 v _ (RepO.toD u e0 _ _ v k4 ev)
                simpa using this
              · cases e1
            · cases ey
          · cases ey
      all_goals (simp only [setP] at ey; try (cases ey; done))
    · cases e

/-- What the variables that have an address hold. -/
def HRep (g : Ghost) (w : World) (dh : Nat) (H : Hp) : Prop :=
  H.length = g.N dh ∧ ∀ id t c, H[id]? = some (t, c) → g.oty dh id = t ∧ good t = true ∧ g.own (g.μ dh id) = some (.obj dh id) ∧ g.U (g.μ dh id) = 0 ∧
    ∃ arr ty, w.heap[g.μ dh id]? = some (.cells arr ty (0, 0)) ∧ RepO g w dh id c t 0 arr.toList

theorem HRep.ext {g w g' w'} {d dh : Nat} {H : Hp} {K : Key → Prop} (h : Ext g w g' w' d K) (hd : dh ≤ d) (hno : ¬ K .no) (hK : ∀ κ, κ.heap dh → ¬ K κ) (hN : g'.N dh = g.N dh) (r : HRep g w dh H) : HRep g' w' dh H := by
  refine ⟨r.1.trans hN.symm, fun id t c e => ?_⟩
  obtain ⟨r1, r2, r3, r4, arr, ty, r5, r6⟩ := r.2 id t c e
  have hid : id < g.N dh := by
    rw [← r.1]
    exact (List.getElem?_eq_some_iff.1 e).1
  obtain ⟨k1, k2, k3⟩ := h.mu dh hd id hid
  have hb := (Array.getElem?_eq_some_iff.1 r5).1
  obtain ⟨l1, l2, l3⟩ := h.keep _ hb (fun κ e' => by rw [r3] at e'; cases e'; exact hK _ rfl)
  rw [k2]
  exact ⟨k3.trans r1, r2, l2.trans r3, l3.trans r4, arr, ty, l1.trans r5, RepO.ext h hd hno c t 0 _ (fun off _ _ => hK _ rfl) r6⟩

/-- Of blocks that are not yet there nothing is told. -/
def WF (g : Ghost) (w : World) : Prop := ∀ b, w.heap.size ≤ b → g.own b = none ∧ g.U b = 0

theorem RepX.unown {g w g' w'} {d dh : Nat} {K : Key → Prop} (h : Ext g w g' w' d K) (hd : dh ≤ d) (hno : ¬ K .no) {κ κ' : Key} : ∀ (x : X) (v : Value), RepX g w dh κ x v → RepX g' w' dh κ' x.unown v
  | .dead, v, r => by simp [X.unown, RepX]
  | .undef, v, r => by simpa only [X.unown, RepX] using r
  | .nils, v, r => by simpa only [X.unown, RepX] using r
  | .d t x, v, r => by
    simp only [X.unown, RepX] at r ⊢
    obtain ⟨cs, h1, h2⟩ := r
    exact ⟨cs, RepC.ext h t x cs h1, h2⟩
  | .sl e xs nl own, v, r => by
    simp only [X.unown, RepX] at r ⊢
    obtain ⟨a, c, h1, h2, h3, h4, h5⟩ := r
    exact ⟨a, c, h1, h2, h3.ext h (RepC.ext h e), h4, fun ho => by cases ho⟩
  | .cp t x, v, r => by
    have := RepX.ext (dh := dh) h hd hno (κ := .no) hno (.cp t x) v (by simp only [RepX] at r ⊢; exact r)
    simp only [X.unown, RepX] at this ⊢
    exact this
  | .ptr id path, v, r => by
    have := RepX.ext (dh := dh) h hd hno (κ := .no) hno (.ptr id path) v (by simp only [RepX] at r ⊢; exact r)
    simp only [X.unown, RepX] at this ⊢
    exact this
  | .fn f first captured, v, r => by
    have := RepX.ext (dh := dh) h hd hno (κ := .no) hno (.fn f first captured) v (by simp only [RepX] at r ⊢; exact r)
    simp only [X.unown, RepX] at this ⊢
    exact this
  | .tup xs, v, r => by
    have := RepX.ext (dh := dh) h hd hno (κ := .no) hno (.tup xs) v (by simp only [RepX] at r ⊢; exact r)
    simp only [X.unown, RepX] at this ⊢
    exact this
  | .lst l, v, r => by
    have := RepX.ext (dh := dh) h hd hno (κ := .no) hno (.lst l) v (by simp only [RepX] at r ⊢; exact r)
    simp only [X.unown, RepX] at this ⊢
    exact this
  | .cx x, v, r => by
    have := RepX.ext (dh := dh) h hd hno (κ := .no) hno (.cx x) v (by simp only [RepX] at r ⊢; exact r)
    simp only [X.unown, RepX] at this ⊢
    exact this
  | .mref id off len, v, r => by
    have := RepX.ext (dh := dh) h hd hno (κ := .no) hno (.mref id off len) v (by simp only [RepX] at r ⊢; exact r)
    simp only [X.unown, RepX] at this ⊢
    exact this
  | .agg _, v, r => by simp [RepX] at r

/-- The same in one world. -/
theorem RepX.unown' {g w} {dh : Nat} {κ κ' : Key} {x : X} {v : Value} (r : RepX g w dh κ x v) : RepX g w dh κ' x.unown v :=
  RepX.unown (Ext.refl g w dh (fun _ => False)) (Nat.le_refl _) (fun h => h) x v r

/-- A frame as the evaluator tells it. -/
structure Fr (g : Ghost) (w : World) (d dh : Nat) (st : St) (a : Act) : Prop where
  len : st.tm.length = a.tmps.size
  rep : ∀ t x, st.tm[t]? = some x → RepX g w dh (.tmp d t) x (a.tmps.getD t undef)
  heap : HRep g w dh st.H
  wf : WF g w
  le : dh ≤ d

end Go.Proofs.Ytgickaihlebgmaa.V

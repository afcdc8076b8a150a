/-
  What the evaluator tells is so: variables that have an address; what a frame holds; what an operation owes.
  It speaks of whatever program; no condition.
-/
import Derived.Test.YtgickaihlebgmaaV3
import Derived.Laws.AppendOwn
import Derived.Laws.Append
namespace Go.Proofs.Ytgickaihlebgmaa.V
open Go
set_option linter.unusedVariables false

mutual
/-- What a variable, or a part of one, holds, as cells. -/
def RepO (g : Ghost) (w : World) (dh id : Nat) : X → Ty → Nat → List Value → Prop
  | .d t' x, t, _, cs => t' = t ∧ RepC w g t' x cs
  | .agg xs, t, off, cs => match t with
    | .struct c => RepOs g w dh id xs c off cs
    | _ => False
  | .sl e xs nl own, t, off, cs => t = .slice e ∧ ∃ v, cs = [v] ∧ RepX g w dh (.cell dh id off) (.sl e xs nl own) v
  | .fn f a b, t, _, cs => t = .any ∧ ∃ v, cs = [v] ∧ RepX g w dh .no (.fn f a b) v
  | .ptr i p, t, _, cs => t = .any ∧ ∃ v, cs = [v] ∧ RepX g w dh .no (.ptr i p) v
  | _, _, _, _ => False
def RepOs (g : Ghost) (w : World) (dh id : Nat) : List X → Ty → Nat → List Value → Prop
  | [], t, _, cs => t = .unit ∧ cs = []
  | x :: xs, t, off, cs => match t with
    | .prod a b => ∃ c1 c2, cs = c1 ++ c2 ∧ RepO g w dh id x a off c1 ∧ RepOs g w dh id xs b (off + a.size) c2
    | _ => False
end

mutual
theorem RepO.ext {g w g' w'} {d dh id : Nat} {K : Key → Prop} (h : Ext g w g' w' d K) (hd : dh ≤ d) (hno : ¬ K .no) :
    ∀ (x : X) (t : Ty) (off : Nat) (cs : List Value), (∀ o', off ≤ o' → o' < off + t.size → ¬ K (.cell dh id o')) → RepO g w dh id x t off cs → RepO g' w' dh id x t off cs
  | .d t' x, t, off, cs, hc, r => by
    simp only [RepO] at r ⊢
    exact ⟨r.1, RepC.ext h t' x cs r.2⟩
  | .agg xs, t, off, cs, hc, r => by
    cases t <;> simp only [RepO] at r ⊢
    exact RepOs.ext h hd hno xs _ off cs hc r
  | .sl e xs nl own, t, off, cs, hc, r => by
    simp only [RepO] at r ⊢
    obtain ⟨r1, v, r2, r3⟩ := r
    subst r1
    exact ⟨rfl, v, r2, RepX.ext h hd hno (hc off (Nat.le_refl _) (by simp [Ty.size])) _ v r3⟩
  | .fn f a b, t, off, cs, hc, r => by
    simp only [RepO] at r ⊢
    obtain ⟨r1, v, r2, r3⟩ := r
    exact ⟨r1, v, r2, RepX.ext h hd hno hno _ v r3⟩
  | .ptr i p, t, off, cs, hc, r => by
    simp only [RepO] at r ⊢
    obtain ⟨r1, v, r2, r3⟩ := r
    exact ⟨r1, v, r2, RepX.ext h hd hno hno _ v r3⟩
  | .dead, _, _, _, _, r => by simp [RepO] at r
  | .undef, _, _, _, _, r => by simp [RepO] at r
  | .nils, _, _, _, _, r => by simp [RepO] at r
  | .cp _ _, _, _, _, _, r => by simp [RepO] at r
  | .tup _, _, _, _, _, r => by simp [RepO] at r
  | .lst _, _, _, _, _, r => by simp [RepO] at r
  | .cx _, _, _, _, _, r => by simp [RepO] at r
  | .mref _ _ _, _, _, _, _, r => by simp [RepO] at r
theorem RepOs.ext {g w g' w'} {d dh id : Nat} {K : Key → Prop} (h : Ext g w g' w' d K) (hd : dh ≤ d) (hno : ¬ K .no) :
    ∀ (xs : List X) (t : Ty) (off : Nat) (cs : List Value), (∀ o', off ≤ o' → o' < off + t.size → ¬ K (.cell dh id o')) → RepOs g w dh id xs t off cs → RepOs g' w' dh id xs t off cs
  | [], t, off, cs, _, r => by simpa only [RepOs] using r
  | x :: xs, t, off, cs, hc, r => by
    cases t <;> simp only [RepOs] at r ⊢
    obtain ⟨c1, c2, r1, r2, r3⟩ := r
    exact ⟨c1, c2, r1, RepO.ext h hd hno x _ off c1 (fun o' l1 l2 => hc o' l1 (by simp only [Ty.size]; omega)) r2, RepOs.ext h hd hno xs _ _ c2 (fun o' l1 l2 => hc o' (by omega) (by simp only [Ty.size]; omega)) r3⟩
end

mutual
theorem RepO.length {g w} {dh id : Nat} : ∀ (x : X) (t : Ty) (off : Nat) (cs : List Value), RepO g w dh id x t off cs → cs.length = t.size
  | .d t' x, t, off, cs, r => by
    simp only [RepO] at r
    obtain ⟨rfl, r⟩ := r
    exact RepC.length _ x cs r
  | .agg xs, t, off, cs, r => by
    cases t <;> simp only [RepO] at r
    have := RepOs.length xs _ off cs r
    exact this
  | .sl e xs nl own, t, off, cs, r => by
    simp only [RepO] at r
    obtain ⟨rfl, v, rfl, _⟩ := r
    rfl
  | .fn f a b, t, off, cs, r => by
    simp only [RepO] at r
    obtain ⟨rfl, v, rfl, _⟩ := r
    rfl
  | .ptr i p, t, off, cs, r => by
    simp only [RepO] at r
    obtain ⟨rfl, v, rfl, _⟩ := r
    rfl
  | .dead, _, _, _, r => by simp [RepO] at r
  | .undef, _, _, _, r => by simp [RepO] at r
  | .nils, _, _, _, r => by simp [RepO] at r
  | .cp _ _, _, _, _, r => by simp [RepO] at r
  | .tup _, _, _, _, r => by simp [RepO] at r
  | .lst _, _, _, _, r => by simp [RepO] at r
  | .cx _, _, _, _, r => by simp [RepO] at r
  | .mref _ _ _, _, _, _, r => by simp [RepO] at r
theorem RepOs.length {g w} {dh id : Nat} : ∀ (xs : List X) (t : Ty) (off : Nat) (cs : List Value), RepOs g w dh id xs t off cs → cs.length = t.size
  | [], t, off, cs, r => by
    simp only [RepOs] at r
    obtain ⟨rfl, rfl⟩ := r
    rfl
  | x :: xs, t, off, cs, r => by
    cases t <;> simp only [RepOs] at r
    obtain ⟨c1, c2, rfl, r2, r3⟩ := r
    have h1 := RepO.length x _ off c1 r2
    have h2 := RepOs.length xs _ _ c2 r3
    simp [Ty.size, h1, h2]
end

theorem RepX.onecell_sl {g w} {dh : Nat} {κ : Key} {e : Ty} {xs nl own v} (h : RepX g w dh κ (.sl e xs nl own) v) : v.oneCell' = true := by
  simp only [RepX] at h
  obtain ⟨a, c, rfl, _⟩ := h
  rfl

mutual
theorem RepO.plain {g w} {dh id : Nat} : ∀ (x : X) (t : Ty) (off : Nat) (cs : List Value), RepO g w dh id x t off cs → Plain cs
  | .d t' x, t, off, cs, r => by
    simp only [RepO] at r
    obtain ⟨rfl, r⟩ := r
    exact RepC.plain _ x cs r
  | .agg xs, t, off, cs, r => by
    cases t <;> simp only [RepO] at r
    exact RepOs.plain xs _ off cs r
  | .sl e xs nl own, t, off, cs, r => by
    simp only [RepO] at r
    obtain ⟨rfl, v, rfl, h⟩ := r
    exact .one h.onecell_sl
  | .fn f a b, t, off, cs, r => by
    simp only [RepO] at r
    obtain ⟨rfl, v, rfl, h⟩ := r
    simp only [RepX] at h
    obtain ⟨_, _, rfl, _⟩ := h
    exact .one rfl
  | .ptr i p, t, off, cs, r => by
    simp only [RepO] at r
    obtain ⟨rfl, v, rfl, h⟩ := r
    simp only [RepX] at h
    obtain ⟨_, _, _, _, rfl⟩ := h
    exact .one rfl
  | .dead, _, _, _, r => by simp [RepO] at r
  | .undef, _, _, _, r => by simp [RepO] at r
  | .nils, _, _, _, r => by simp [RepO] at r
  | .cp _ _, _, _, _, r => by simp [RepO] at r
  | .tup _, _, _, _, r => by simp [RepO] at r
  | .lst _, _, _, _, r => by simp [RepO] at r
  | .cx _, _, _, _, r => by simp [RepO] at r
  | .mref _ _ _, _, _, _, r => by simp [RepO] at r
theorem RepOs.plain {g w} {dh id : Nat} : ∀ (xs : List X) (t : Ty) (off : Nat) (cs : List Value), RepOs g w dh id xs t off cs → Plain cs
  | [], t, off, cs, r => by
    simp only [RepOs] at r
    obtain ⟨rfl, rfl⟩ := r
    intro v hv; cases hv
  | x :: xs, t, off, cs, r => by
    cases t <;> simp only [RepOs] at r
    obtain ⟨c1, c2, rfl, r2, r3⟩ := r
    intro v hv
    rcases List.mem_append.1 hv with hv | hv
    · exact RepO.plain x _ off c1 r2 v hv
    · exact RepOs.plain xs _ _ c2 r3 v hv
end

/-- Data, as a variable's content. -/
theorem RepO.mkX {g w} {dh id : Nat} {t : Ty} {x : t.den} {off : Nat} {cs : List Value} (h : RepC w g t x cs) : RepO g w dh id (mkX t x) t off cs := by
  cases t
  case slice e =>
    obtain ⟨a, c, rfl, h2, h3⟩ := h
    simp only [V.mkX, RepO]
    refine ⟨trivial, _, rfl, ?_⟩
    simp only [RepX]
    exact ⟨a, c, rfl, h2, h3, (fun b hb => by cases hb), (fun hb => by cases hb)⟩
  all_goals (simp only [V.mkX, RepO]; exact ⟨trivial, h⟩)

/-- A chain is one down to its end. -/
def chain : Ty → Bool
  | .unit => true
  | .prod _ b => chain b
  | _ => false

theorem RepOs.of_chain {g w} {dh id : Nat} : ∀ (c : Ty) (x : c.den) (off : Nat) (cs : List Value), chain c = true → RepC w g c x cs → RepOs g w dh id (explode c x) c off cs
  | .unit, _, _, _, _, h => by
    simp only [explode, RepOs]
    exact ⟨trivial, h⟩
  | .prod a b, x, off, cs, hc, h => by
    obtain ⟨c1, c2, rfl, h1, h2⟩ := h
    simp only [V.explode, RepOs]
    exact ⟨c1, c2, rfl, RepO.mkX h1, RepOs.of_chain b x.2 _ c2 hc h2⟩
  | .int _, _, _, _, hc, _ | .bool, _, _, _, hc, _ | .str, _, _, _, hc, _ | .any, _, _, _, hc, _ | .slice _, _, _, _, hc, _ | .arr _ _, _, _, _, hc, _ | .struct _, _, _, _, hc, _ => by cases hc

theorem chB_chain {P : Program} : ∀ (c : Ty) (fs : List Field) (off : Nat), chB P c fs off = true → chain c = true
  | .unit, _, _, _ => rfl
  | .prod a b, [], _, h => by simp [chB] at h
  | .prod a b, f :: fs, off, h => by
    simp only [chB, Bool.and_eq_true] at h
    exact chB_chain b fs _ h.2
  | .int _, _, _, h | .bool, _, _, h | .str, _, _, h | .any, _, _, h | .slice _, _, _, h | .arr _ _, _, _, h | .struct _, _, _, h => by simp [chB] at h

/-- A kind in which each struct is a chain. -/
def good : Ty → Bool
  | .slice e => good e
  | .arr _ e => good e
  | .struct c => chain c && good c
  | .prod a b => good a && good b
  | _ => true

/-- A part of a chain of data. -/
theorem RepC.comp {g w} : ∀ (c : Ty) (x : c.den) (cs : List Value) (j : Nat) (y : Σ t : Ty, t.den), RepC w g c x cs → compAt c x j = some y →
    ∃ o pre mid post, chainAt c j = some (o, y.1) ∧ cs = pre ++ mid ++ post ∧ pre.length = o ∧ RepC w g y.1 y.2 mid
  | .prod a b, x, cs, 0, y, h, e => by
    obtain ⟨c1, c2, rfl, h1, h2⟩ := h
    simp only [compAt, Option.some.injEq] at e
    subst e
    exact ⟨0, [], c1, c2, rfl, rfl, rfl, h1⟩
  | .prod a b, x, cs, j + 1, y, h, e => by
    obtain ⟨c1, c2, rfl, h1, h2⟩ := h
    simp only [compAt] at e
    obtain ⟨o, pre, mid, post, e1, rfl, e3, e4⟩ := RepC.comp b x.2 c2 j y h2 e
    refine ⟨a.size + o, c1 ++ pre, mid, post, by simp [chainAt, e1], by simp, ?_, e4⟩
    simp [RepC.length a _ _ h1, e3]
  | .unit, _, _, _, _, _, e | .int _, _, _, _, _, _, e | .bool, _, _, _, _, _, e | .str, _, _, _, _, _, e | .any, _, _, _, _, _, e | .slice _, _, _, _, _, _, e | .arr _ _, _, _, _, _, _, e | .struct _, _, _, _, _, _, e => by
    simp [compAt] at e

theorem Parts.at {α : Type} {R : α → List Value → Prop} {s : Nat} (hR : ∀ x cs, R x cs → cs.length = s) : ∀ (xs : List α) (cs : List Value) (j : Nat) (hj : j < xs.length), Parts R xs cs →
    ∃ pre mid post, cs = pre ++ mid ++ post ∧ pre.length = j * s ∧ R xs[j] mid ∧ ∀ y m, R y m → Parts R (xs.set j y) (pre ++ m ++ post)
  | x :: xs, cs, 0, _, h => by
    obtain ⟨c1, c2, rfl, h1, h2⟩ := h
    exact ⟨[], c1, c2, rfl, by simp, h1, fun y m hy => ⟨m, c2, rfl, hy, h2⟩⟩
  | x :: xs, cs, j + 1, hj, h => by
    obtain ⟨c1, c2, rfl, h1, h2⟩ := h
    obtain ⟨pre, mid, post, rfl, e2, e3, e4⟩ := Parts.at hR xs c2 j (by simpa using hj) h2
    refine ⟨c1 ++ pre, mid, post, by simp, ?_, e3, fun y m hy => ⟨c1, pre ++ m ++ post, by simp, h1, e4 y m hy⟩⟩
    simp [hR _ _ h1, e2, Nat.add_mul, Nat.add_comm]

theorem chainAt_le : ∀ (c : Ty) (j o : Nat) (t : Ty), chainAt c j = some (o, t) → o + t.size ≤ c.size
  | .prod a b, 0, o, t, e => by
    simp only [chainAt, Option.some.injEq, Prod.mk.injEq] at e
    obtain ⟨rfl, rfl⟩ := e
    simp only [Ty.size]; omega
  | .prod a b, j + 1, o, t, e => by
    simp only [chainAt, Option.map_eq_some_iff] at e
    obtain ⟨⟨o', t'⟩, e1, e2⟩ := e
    simp only [Prod.mk.injEq] at e2
    obtain ⟨rfl, rfl⟩ := e2
    have := chainAt_le b j o' t' e1
    simp only [Ty.size]; omega
  | .unit, _, _, _, e | .int _, _, _, _, e | .bool, _, _, _, e | .str, _, _, _, e | .any, _, _, _, e | .slice _, _, _, _, e | .arr _ _, _, _, _, e | .struct _, _, _, _, e => by
    simp [chainAt] at e

theorem RepOs.at {g w g' w'} {d dh id : Nat} {K : Key → Prop} (he : Ext g w g' w' d K) (hd : dh ≤ d) (hno : ¬ K .no) : ∀ (xs : List X) (c : Ty) (off : Nat) (cs : List Value) (j o : Nat) (t : Ty) (x : X), RepOs g w dh id xs c off cs → chainAt c j = some (o, t) → xs[j]? = some x →
    ∃ pre mid post, cs = pre ++ mid ++ post ∧ pre.length = o ∧ RepO g w dh id x t (off + o) mid ∧ ∀ y m, (∀ o', off ≤ o' → o' < off + c.size → K (.cell dh id o') → off + o ≤ o' ∧ o' < off + o + t.size) → RepO g' w' dh id y t (off + o) m → RepOs g' w' dh id (xs.set j y) c off (pre ++ m ++ post)
  | [], _, _, _, _, _, _, _, _, _, e => by simp at e
  | x :: xs, c, off, cs, 0, o, t, y, h, e, ex => by
    cases c <;> simp only [RepOs] at h
    obtain ⟨c1, c2, rfl, h1, h2⟩ := h
    simp only [chainAt, Option.some.injEq, Prod.mk.injEq] at e
    obtain ⟨rfl, rfl⟩ := e
    simp at ex
    subst ex
    exact ⟨[], c1, c2, rfl, rfl, h1, fun y m hK hy => by
      simp only [List.set_cons_zero, RepOs]
      refine ⟨m, c2, rfl, hy, RepOs.ext he hd hno xs _ _ c2 (fun o' l1 l2 k => ?_) h2⟩
      have := (hK o' (by omega) (by simp only [Ty.size]; omega) k).2
      omega⟩
  | x :: xs, c, off, cs, j + 1, o, t, y, h, e, ex => by
    cases c <;> simp only [RepOs] at h
    rename_i a b
    obtain ⟨c1, c2, rfl, h1, h2⟩ := h
    simp only [chainAt, Option.map_eq_some_iff] at e
    obtain ⟨⟨o', t'⟩, e1, e2⟩ := e
    simp only [Prod.mk.injEq] at e2
    obtain ⟨rfl, rfl⟩ := e2
    obtain ⟨pre, mid, post, rfl, f2, f3, f4⟩ := RepOs.at he hd hno xs b _ c2 j o' t' y h2 e1 (by simpa using ex)
    rw [Nat.add_assoc] at f3
    refine ⟨c1 ++ pre, mid, post, by simp, by simp [RepO.length x a off c1 h1, f2], f3, fun y m hK hy => ?_⟩
    simp only [List.set_cons_succ, RepOs]
    refine ⟨c1, pre ++ m ++ post, by simp, RepO.ext he hd hno x a off c1 (fun o1 l1 l2 k => ?_) h1, f4 y m (fun o1 l1 l2 k => by have := hK o1 (by omega) (by simp only [Ty.size]; omega) k; omega) (by rw [Nat.add_assoc]; exact hy)⟩
    have := (hK o1 l1 (by simp only [Ty.size]; omega) k).1
    omega

end Go.Proofs.Ytgickaihlebgmaa.V

/-
  Chapter 10, automata, the plain law: the document's way to the beginnings; arcs; ways; no program in sight.
  No condition.
-/
import Derived.Test.YtnbfiifkaddehaaTr6
namespace Go.Proofs.Ytnbfiifkaddehaa.V
open Go
set_option linter.unusedVariables false
set_option linter.unusedSimpArgs false

/-- The document's way: of one length each that is not the one ahead. -/
def stepB (n : Nat) (acc : List (List Int)) (w : List Int) : List (List Int) := if n < w.length ∧ (acc = [] ∨ acc.getLastD [] ≠ w.take (n + 1)) then acc ++ [w.take (n + 1)] else acc
def bFrom (l : List (List Int)) : Nat → Nat → List (List Int) → List (List Int)
  | 0, _, K => K
  | m + 1, n, K => bFrom l m (n + 1) (K ++ l.foldl (stepB n) [])

theorem last_mem {K : List (List Int)} (h : K ≠ []) : K.getLastD [] ∈ K := by
  rw [List.getLastD_eq_getLast?, List.getLast?_eq_some_getLast h]
  exact List.getLast_mem h
theorem pair_last {R : List Int → List Int → Prop} : ∀ {K : List (List Int)}, K.Pairwise R → ∀ q ∈ K, q = K.getLastD [] ∨ R q (K.getLastD [])
  | [], _, q, hq => by simp at hq
  | [x], _, q, hq => by rw [List.mem_singleton.1 hq]; exact .inl rfl
  | x :: y :: K, h, q, hq => by
    obtain ⟨h1, h2⟩ := List.pairwise_cons.1 h
    have e : (x :: y :: K).getLastD [] = (y :: K).getLastD [] := rfl
    rw [e]
    rcases List.mem_cons.1 hq with rfl | hq
    · exact .inr (h1 _ (last_mem (by simp)))
    · exact pair_last h2 q hq

theorem foldB_eq {n : Nat} {K0 : List (List Int)} (h0 : ∀ q ∈ K0, q.length ≤ n) : ∀ (l D acc : List (List Int)), R.Rises l → (∀ u ∈ D, ∀ w ∈ l, R.ltL u w = true) → acc.Pairwise (fun a b => R.ltL a b = true) → (∀ q ∈ acc, q.length = n + 1 ∧ ∃ u ∈ D, q = u.take (n + 1)) →
    l.foldl (stepK n) (K0 ++ acc) = K0 ++ l.foldl (stepB n) acc
  | [], D, acc, _, _, _, _ => rfl
  | w :: l, D, acc, h1, h2, h3, h4 => by
    obtain ⟨h1a, h1b⟩ := List.pairwise_cons.1 h1
    rw [List.foldl_cons, List.foldl_cons]
    have hD : ∀ u ∈ w :: D, ∀ x ∈ l, R.ltL u x = true := fun u hu x hx => by
      rcases List.mem_cons.1 hu with rfl | hu
      · exact h1a x hx
      · exact h2 u hu x (by simp [hx])
    by_cases hn : n < w.length
    · have hl := (take_last hn).1
      have hni0 : w.take (n + 1) ∉ K0 := fun hh => by have := h0 _ hh; omega
      by_cases hq : w.take (n + 1) ∈ acc
      · have hne : acc ≠ [] := List.ne_nil_of_mem hq
        have hlast : acc.getLastD [] = w.take (n + 1) := by
          rcases pair_last h3 _ hq with e | e
          · exact e.symm
          · obtain ⟨_, u, hu, e2⟩ := h4 _ (last_mem hne)
            rcases ltL_take (n + 1) u w (h2 u hu w (by simp)) with e3 | e3
            · rw [e2, e3]
            · rw [← e2] at e3
              rw [R.ltL_asym e] at e3
              cases e3
        have e1 : stepK n (K0 ++ acc) w = K0 ++ acc := by
          unfold stepK addP
          rw [if_pos hn, if_pos (List.mem_append.2 (.inr hq))]
        have e2 : stepB n acc w = acc := by
          unfold stepB
          rw [if_neg]
          rintro ⟨_, h | h⟩
          · exact hne h
          · exact h hlast
        rw [e1, e2]
        exact foldB_eq h0 l (w :: D) acc h1b hD h3 fun q hq => by
          obtain ⟨k1, u, k2, k3⟩ := h4 q hq
          exact ⟨k1, u, by simp [k2], k3⟩
      · have e1 : stepK n (K0 ++ acc) w = K0 ++ (acc ++ [w.take (n + 1)]) := by
          unfold stepK addP
          rw [if_pos hn, if_neg (fun hh => (List.mem_append.1 hh).elim hni0 hq), List.append_assoc]
        have e2 : stepB n acc w = acc ++ [w.take (n + 1)] := by
          unfold stepB
          rw [if_pos]
          refine ⟨hn, ?_⟩
          by_cases e : acc = []
          · exact .inl e
          · exact .inr fun hh => hq (hh ▸ last_mem e)
        rw [e1, e2]
        refine foldB_eq h0 l (w :: D) _ h1b hD ?_ fun q hq' => ?_
        · rw [List.pairwise_append]
          refine ⟨h3, List.pairwise_singleton _ _, fun a ha b hb => ?_⟩
          rw [List.mem_singleton.1 hb]
          obtain ⟨_, u, hu, rfl⟩ := h4 a ha
          rcases ltL_take (n + 1) u w (h2 u hu w (by simp)) with e | e
          · exact absurd (e ▸ ha) hq
          · exact e
        · rcases List.mem_append.1 hq' with hq' | hq'
          · obtain ⟨k1, u, k2, k3⟩ := h4 q hq'
            exact ⟨k1, u, by simp [k2], k3⟩
          · rw [List.mem_singleton.1 hq']
            exact ⟨hl, w, by simp, rfl⟩
    · have e1 : stepK n (K0 ++ acc) w = K0 ++ acc := if_neg hn
      have e2 : stepB n acc w = acc := if_neg fun h => hn h.1
      rw [e1, e2]
      exact foldB_eq h0 l (w :: D) acc h1b hD h3 fun q hq => by
        obtain ⟨k1, u, k2, k3⟩ := h4 q hq
        exact ⟨k1, u, by simp [k2], k3⟩
theorem bFrom_eq {l : List (List Int)} (hl : R.Rises l) : ∀ (m n : Nat) (K : List (List Int)), (∀ q ∈ K, q.length ≤ n) → K.Pairwise shL → bFrom l m n K = kFrom l m n K
  | 0, n, K, _, _ => rfl
  | m + 1, n, K, h, hs => by
    have e := foldB_eq h l [] [] hl (fun u hu => by simp at hu) List.Pairwise.nil (fun q hq => by simp at hq)
    rw [List.append_nil] at e
    obtain ⟨k1, k2⟩ := foldK_sh l [] K hl (fun u hu => by simp at hu) hs (fun q hq => .inl (h q hq))
    rw [bFrom, kFrom, ← e]
    exact bFrom_eq hl m (n + 1) _ k2 k1

/-! ### Arcs -/
theorem mem_goA {a : Arc} {p : List Int} : ∀ {K : List (List Int)} {k : Nat}, a ∈ goA K k p ↔ ∃ j, ∃ h : j < K.length, K[j] ≠ [] ∧ K[j].dropLast = p ∧ a = (K[j].getLastD 0, ((k + j : Nat) : Int), ())
  | [], k => by simp [goA]
  | q :: r, k => by
    have ih := mem_goA (a := a) (p := p) (K := r) (k := k + 1)
    have hr : (∃ j, ∃ h : j < r.length, r[j] ≠ [] ∧ r[j].dropLast = p ∧ a = (r[j].getLastD 0, ((k + 1 + j : Nat) : Int), ())) ↔ ∃ j, ∃ h : j + 1 < (q :: r).length, (q :: r)[j + 1] ≠ [] ∧ (q :: r)[j + 1].dropLast = p ∧ a = ((q :: r)[j + 1].getLastD 0, ((k + (j + 1) : Nat) : Int), ()) := by
      constructor
      · rintro ⟨j, h, h1, h2, h3⟩
        exact ⟨j, by simpa using h, h1, h2, by rw [h3, show k + 1 + j = k + (j + 1) by omega]; rfl⟩
      · rintro ⟨j, h, h1, h2, h3⟩
        exact ⟨j, by simpa using h, h1, h2, by rw [h3, show k + 1 + j = k + (j + 1) by omega]; rfl⟩
    rw [goA]
    by_cases e : q ≠ [] ∧ q.dropLast = p
    · rw [if_pos e, List.mem_cons, ih, hr]
      constructor
      · rintro (h | ⟨j, h⟩)
        · exact ⟨0, by simp, e.1, e.2, h⟩
        · exact ⟨j + 1, h⟩
      · rintro ⟨j, h1, h2, h3, h4⟩
        cases j with
        | zero => exact .inl h4
        | succ j => exact .inr ⟨j, h1, h2, h3, h4⟩
    · rw [if_neg e, ih, hr]
      constructor
      · rintro ⟨j, h⟩
        exact ⟨j + 1, h⟩
      · rintro ⟨j, h1, h2, h3, h4⟩
        cases j with
        | zero => exact absurd ⟨h2, h3⟩ e
        | succ j => exact ⟨j, h1, h2, h3, h4⟩

theorem ltL_snoc : ∀ (p : List Int) (c d : Int), R.ltL (p ++ [c]) (p ++ [d]) = decide (c < d)
  | [], c, d => by rw [List.nil_append, List.nil_append, ltL_cons, ltL_nilr]; simp
  | x :: p, c, d => by
    rw [List.cons_append, List.cons_append, ltL_cons, ltL_snoc p]
    simp
theorem eq_snoc {q p : List Int} (h : q ≠ []) (e : q.dropLast = p) : q = p ++ [q.getLastD 0] := by
  subst e
  conv => lhs; rw [← List.dropLast_concat_getLast h]
  congr 2
  rw [List.getLastD_eq_getLast?, List.getLast?_eq_some_getLast h]
  rfl
theorem goA_rises {p : List Int} : ∀ {K : List (List Int)} {k : Nat}, K.Pairwise shL → (goA K k p).Pairwise fun a b => a.1 < b.1
  | [], _, _ => List.Pairwise.nil
  | q :: r, k, h => by
    obtain ⟨h1, h2⟩ := List.pairwise_cons.1 h
    rw [goA]
    split
    · rename_i e
      refine List.Pairwise.cons (fun b hb => ?_) (goA_rises h2)
      obtain ⟨j, hj, k1, k2, rfl⟩ := mem_goA.1 hb
      have e1 := eq_snoc e.1 e.2
      have e2 := eq_snoc k1 k2
      have hs := h1 _ (List.getElem_mem hj)
      rw [e1, e2] at hs
      rcases hs with hs | ⟨_, hs⟩
      · simp at hs
      · rw [ltL_snoc, decide_eq_true_eq] at hs
        exact hs
    · exact goA_rises h2

theorem arcTo_goA {p : List Int} {c : Int} : ∀ {K : List (List Int)} {k : Nat}, arcTo (goA K k p) c = if p ++ [c] ∈ K then (((k + K.idxOf (p ++ [c]) : Nat) : Int), true) else (0, false)
  | [], k => by simp [goA, arcTo]
  | q :: r, k => by
    have ih := arcTo_goA (p := p) (c := c) (K := r) (k := k + 1)
    have hrest : q ≠ p ++ [c] → (if p ++ [c] ∈ q :: r then (((k + (q :: r).idxOf (p ++ [c]) : Nat) : Int), true) else (0, false)) = if p ++ [c] ∈ r then (((k + 1 + r.idxOf (p ++ [c]) : Nat) : Int), true) else (0, false) := by
      intro hq
      have h1 : p ++ [c] ∈ q :: r ↔ p ++ [c] ∈ r := by
        rw [List.mem_cons]
        exact ⟨fun h => h.elim (fun e => absurd e.symm hq) id, .inr⟩
      have h2 : (q :: r).idxOf (p ++ [c]) = r.idxOf (p ++ [c]) + 1 := by
        rw [List.idxOf_cons, show (q == p ++ [c]) = false from by rw [beq_eq_false_iff_ne]; exact hq]; rfl
      simp only [h1, h2, show k + (r.idxOf (p ++ [c]) + 1) = k + 1 + r.idxOf (p ++ [c]) by omega]
    rw [goA]
    by_cases e : q ≠ [] ∧ q.dropLast = p
    · rw [if_pos e]
      have e1 := eq_snoc e.1 e.2
      by_cases hc : q.getLastD 0 = c
      · rw [hc] at e1
        unfold arcTo
        rw [List.find?_cons, show sgn c (q.getLastD 0, (k : Int), ()) = true from by unfold sgn; rw [beq_iff_eq]; exact hc]
        rw [if_pos (by rw [← e1]; simp), ← e1, List.idxOf_cons]
        simp
      · have hq : q ≠ p ++ [c] := fun hh => by
          rw [e1] at hh
          exact hc (List.cons.inj (List.append_cancel_left hh)).1
        rw [hrest hq, ← ih]
        unfold arcTo
        rw [List.find?_cons, show sgn c (q.getLastD 0, (k : Int), ()) = false from by unfold sgn; rw [beq_eq_false_iff_ne]; exact hc]
    · rw [if_neg e, ih, hrest]
      rintro rfl
      exact e ⟨by simp, by simp⟩

/-- The automaton of beginnings. -/
def autoL (K l : List (List Int)) : List Sta := K.map (staOf2 K l)
theorem autoL_get {K l : List (List Int)} {i : Nat} (h : i < K.length) : (autoL K l).getD i staZ = staOf2 K l K[i] := by
  unfold autoL
  rw [List.getD_eq_getElem?_getD, List.getElem?_map, List.getElem?_eq_getElem h]
  rfl
theorem autoL_idx {K l : List (List Int)} {p : List Int} (h : p ∈ K) : (autoL K l).getD (K.idxOf p) staZ = staOf2 K l p := by
  have := List.idxOf_lt_length_iff.2 h
  rw [autoL_get this, List.getElem_idxOf]
theorem autoL_len (K l : List (List Int)) : (autoL K l).length = K.length := List.length_map _

theorem stepA_auto {K l : List (List Int)} {p : List Int} (c : Int) (hp : p ∈ K) : stepA (autoL K l) (K.idxOf p : Int) c = if p ++ [c] ∈ K then ((K.idxOf (p ++ [c]) : Int), true) else (0, false) := by
  have := List.idxOf_lt_length_iff.2 hp
  unfold stepA
  rw [if_pos (by rw [autoL_len]; omega), Int.toNat_natCast]
  rw [show (autoL K l).getD (K.idxOf p) (false, [], ()) = staOf2 K l p from autoL_idx hp]
  unfold staOf2
  simp only [arcTo_goA, Nat.zero_add]

/-- Where a word's signs lead from a state. -/
def walkL (l : List Sta) : Int → List Int → Int × Bool
  | at_, [] => (at_, decide (l.length > 0))
  | at_, c :: r => bif (stepA l at_ c).2 then walkL l (stepA l at_ c).1 r else (0, false)

theorem Begs.pre {l K : List (List Int)} (h : Begs l K) {p q : List Int} (hq : q ∈ K) (hp : p <+: q) : p ∈ K := by
  rw [h.mem] at hq ⊢
  rcases hq with rfl | ⟨w, h1, h2⟩
  · left; exact List.prefix_nil.1 hp
  · right; exact ⟨w, h1, hp.trans h2⟩
theorem Begs.nil {l K : List (List Int)} (h : Begs l K) : [] ∈ K := (h.mem []).2 (.inl rfl)

theorem walk_auto {l K : List (List Int)} (h : Begs l K) : ∀ (w p : List Int), p ∈ K → walkL (autoL K l) (K.idxOf p : Int) w = if p ++ w ∈ K then ((K.idxOf (p ++ w) : Int), true) else (0, false)
  | [], p, hp => by
    have := List.idxOf_lt_length_iff.2 hp
    rw [walkL, List.append_nil, if_pos hp, decide_eq_true (by rw [autoL_len]; omega)]
  | c :: w, p, hp => by
    rw [walkL, stepA_auto c hp]
    by_cases hc : p ++ [c] ∈ K
    · rw [if_pos hc]
      dsimp only
      rw [cond_true, walk_auto h w _ hc]
      simp only [List.append_assoc, List.singleton_append]
    · rw [if_neg hc]
      dsimp only
      rw [cond_false, if_neg (fun hh => hc (h.pre hh ⟨w, by simp⟩))]
theorem idx_nil {K : List (List Int)} (h : K.Pairwise shL) (h0 : [] ∈ K) (hn : K.Nodup) : K.idxOf [] = 0 := by
  cases K with
  | nil => simp at h0
  | cons q r =>
    have h1 := (List.pairwise_cons.1 h).1
    rcases List.mem_cons.1 h0 with e | e
    · rw [← e]; simp
    · have := h1 _ e
      rcases this with h2 | ⟨h2, _⟩
      · simp at h2
      · have : q = [] := List.length_eq_zero_iff.1 h2
        rw [this]; simp

end Go.Proofs.Ytnbfiifkaddehaa.V

/-
  Chapter 10, automata, the plain law: the states are those of all beginnings; in which order they stand; no program in sight.
  No condition.
-/
import Derived.Test.YtnbfiifkaddehaaTr5
namespace Go.Proofs.Ytnbfiifkaddehaa.V
open Go
set_option linter.unusedVariables false
set_option linter.unusedSimpArgs false

theorem Inv.run {l : List (List Int)} {n : Nat} : ∀ (d i : Nat) (K F : List (List Int)) (s : List Sta × List Int × List Ent), l.length - i = d → i ≤ l.length → Inv l n i K F s →
    Inv l n l.length ((l.drop i).foldl (stepK n) K) ((l.drop i).foldl (stepE n) F) (inL n (l.drop i) i s) := by
  intro d
  induction d with
  | zero =>
    intro i K F s h1 h2 h
    rw [List.drop_eq_nil_iff.2 (by omega)]
    obtain rfl : i = l.length := by omega
    exact h
  | succ d ih =>
    intro i K F s h1 h2 h
    have hi : i < l.length := by omega
    have hg : l.getD i [] = l[i] := by rw [List.getD_eq_getElem?_getD, List.getElem?_eq_getElem hi]; rfl
    rw [R.dropG [] hi, List.foldl_cons, List.foldl_cons, inL]
    have := ih (i + 1) _ _ _ (by omega) (by omega) (h.step hi)
    rw [hg] at this ⊢
    exact this

theorem Inv.round {l : List (List Int)} {n : Nat} {K F : List (List Int)} {s : List Sta × List Int × List Ent} (h : Inv l n l.length K F s) : Inv l (n + 1) 0 K F (s.1, s.2.1, []) := by
  refine ⟨h.out, h.nod, fun q hq => Nat.le_trans (h.len q hq) (by omega), h.par, h.fin, h.pln, fun j hj => ?_, fun x v => ?_⟩
  · have := h.pos j hj
    rw [if_pos hj] at this
    rw [if_neg (Nat.not_lt_zero j)]
    exact this
  · constructor
    · intro hx; cases hx
    · rintro ⟨q, q1, q2, _⟩
      have := h.len q q1
      omega

theorem Inv.out_run {l : List (List Int)} : ∀ (m n : Nat) (K F : List (List Int)) (out : List Sta) (pos : List Int), Inv l n 0 K F (out, pos, []) →
    Inv l (n + m) 0 (kFrom l m n K) (eFrom l m n F) ((outL l m n (out, pos)).1, (outL l m n (out, pos)).2, [])
  | 0, n, K, F, out, pos, h => h
  | m + 1, n, K, F, out, pos, h => by
    have h1 := (Inv.run _ 0 K F _ rfl (Nat.zero_le _) h).round
    rw [List.drop_zero] at h1
    have h2 := Inv.out_run m (n + 1) _ _ _ _ h1
    rw [outL, kFrom, eFrom, show n + (m + 1) = n + 1 + m by omega, show (n : Int) + 1 = ((n + 1 : Nat) : Int) by omega]
    exact h2

theorem Inv.start (l : List (List Int)) : Inv l 0 0 [[]] [] ([staZ], List.replicate l.length 0, []) := by
  refine ⟨rfl, by simp, fun q hq => by rw [List.mem_singleton.1 hq]; simp, fun q hq h0 => absurd (List.mem_singleton.1 hq) h0, fun f hf => by simp at hf, by simp, fun j hj => ?_, fun x v => ?_⟩
  · rw [if_neg (Nat.not_lt_zero j), List.take_zero]
    refine ⟨by simp, ?_⟩
    dsimp only
    rw [List.getD_eq_getElem?_getD, List.getElem?_replicate, if_pos hj]
    simp
  · constructor
    · intro hx; cases hx
    · rintro ⟨q, q1, q2, _⟩
      rw [List.mem_singleton.1 q1] at q2
      simp at q2

theorem mem_foldE {n : Nat} {r : List Int} : ∀ (l F : List (List Int)), r ∈ l.foldl (stepE n) F ↔ r ∈ F ∨ (r ∈ l ∧ r.length = n + 1)
  | [], F => by simp
  | w :: l, F => by
    rw [List.foldl_cons, mem_foldE l]
    unfold stepE
    by_cases e : n + 1 = w.length
    · rw [if_pos e, List.mem_append, List.mem_singleton, List.mem_cons]
      constructor
      · rintro ((h | rfl) | ⟨h1, h2⟩)
        · exact .inl h
        · exact .inr ⟨.inl rfl, e.symm⟩
        · exact .inr ⟨.inr h1, h2⟩
      · rintro (h | ⟨rfl | h1, h2⟩)
        · exact .inl (.inl h)
        · exact .inl (.inr rfl)
        · exact .inr ⟨h1, h2⟩
    · rw [if_neg e, List.mem_cons]
      constructor
      · rintro (h | ⟨h1, h2⟩)
        · exact .inl h
        · exact .inr ⟨.inr h1, h2⟩
      · rintro (h | ⟨rfl | h1, h2⟩)
        · exact .inl h
        · exact absurd h2.symm e
        · exact .inr ⟨h1, h2⟩
theorem mem_eFrom {l : List (List Int)} {r : List Int} : ∀ (m n : Nat) (F : List (List Int)), r ∈ eFrom l m n F ↔ r ∈ F ∨ (r ∈ l ∧ n + 1 ≤ r.length ∧ r.length ≤ n + m)
  | 0, n, F => by
    rw [eFrom]
    constructor
    · exact .inl
    · rintro (h | ⟨_, h1, h2⟩)
      · exact h
      · omega
  | m + 1, n, F => by
    rw [eFrom, mem_eFrom m (n + 1), mem_foldE]
    constructor
    · rintro ((h | ⟨h1, h2⟩) | ⟨h1, h2, h3⟩)
      · exact .inl h
      · exact .inr ⟨h1, by omega, by omega⟩
      · exact .inr ⟨h1, by omega, by omega⟩
    · rintro (h | ⟨h1, h2, h3⟩)
      · exact .inl (.inl h)
      · by_cases e : r.length = n + 1
        · exact .inl (.inr ⟨h1, e⟩)
        · exact .inr ⟨h1, by omega, by omega⟩

theorem mem_addP {K : List (List Int)} {p r : List Int} : r ∈ addP K p ↔ r ∈ K ∨ r = p := by
  unfold addP
  split
  · rename_i h
    exact ⟨.inl, fun hh => hh.elim id fun e => e ▸ h⟩
  · rw [List.mem_append, List.mem_singleton]
theorem mem_foldK {n : Nat} {r : List Int} : ∀ (l K : List (List Int)), r ∈ l.foldl (stepK n) K ↔ r ∈ K ∨ ∃ w ∈ l, n < w.length ∧ r = w.take (n + 1)
  | [], K => by simp
  | w :: l, K => by
    rw [List.foldl_cons, mem_foldK l]
    unfold stepK
    by_cases e : n < w.length
    · rw [if_pos e, mem_addP]
      constructor
      · rintro ((h | h) | ⟨u, h1, h2⟩)
        · exact .inl h
        · exact .inr ⟨w, by simp, e, h⟩
        · exact .inr ⟨u, by simp [h1], h2⟩
      · rintro (h | ⟨u, h1, h2⟩)
        · exact .inl (.inl h)
        · rcases List.mem_cons.1 h1 with rfl | h1
          · exact .inl (.inr h2.2)
          · exact .inr ⟨u, h1, h2⟩
    · rw [if_neg e]
      constructor
      · rintro (h | ⟨u, h1, h2⟩)
        · exact .inl h
        · exact .inr ⟨u, by simp [h1], h2⟩
      · rintro (h | ⟨u, h1, h2⟩)
        · exact .inl h
        · rcases List.mem_cons.1 h1 with rfl | h1
          · exact absurd h2.1 e
          · exact .inr ⟨u, h1, h2⟩
theorem mem_kFrom {l : List (List Int)} {r : List Int} : ∀ (m n : Nat) (K : List (List Int)), r ∈ kFrom l m n K ↔ r ∈ K ∨ ∃ w ∈ l, ∃ k, n ≤ k ∧ k < n + m ∧ k < w.length ∧ r = w.take (k + 1)
  | 0, n, K => by
    rw [kFrom]
    constructor
    · exact .inl
    · rintro (h | ⟨w, _, k, h1, h2, _⟩)
      · exact h
      · omega
  | m + 1, n, K => by
    rw [kFrom, mem_kFrom m (n + 1), mem_foldK]
    constructor
    · rintro ((h | ⟨w, h1, h2, h3⟩) | ⟨w, h1, k, h2, h3, h4⟩)
      · exact .inl h
      · exact .inr ⟨w, h1, n, Nat.le_refl _, by omega, h2, h3⟩
      · exact .inr ⟨w, h1, k, by omega, by omega, h4⟩
    · rintro (h | ⟨w, h1, k, h2, h3, h4, h5⟩)
      · exact .inl (.inl h)
      · by_cases e : k = n
        · subst e; exact .inl (.inr ⟨w, h1, h4, h5⟩)
        · exact .inr ⟨w, h1, k, by omega, by omega, h4, h5⟩

/-- The words that may be made into an automaton. -/
structure Fits (l : List (List Int)) : Prop where
  len : l.length ≤ 300
  fit : ∀ w ∈ l, fitB w = true
  ris : R.Rises l
theorem Fits.of {l : List (List Int)} (h : (writeW l).2 = 0) : Fits l := by
  obtain ⟨h1, h2, h3⟩ := writeW_good h
  exact ⟨h1, h2, h3⟩

theorem mem_kL {l : List (List Int)} (h : ∀ w ∈ l, w.length ≤ 20) {p : List Int} : p ∈ kL l ↔ p = [] ∨ ∃ w ∈ l, p <+: w := by
  unfold kL
  rw [mem_kFrom, List.mem_singleton]
  constructor
  · rintro (h1 | ⟨w, h1, k, _, _, _, rfl⟩)
    · exact .inl h1
    · exact .inr ⟨w, h1, List.take_prefix _ _⟩
  · rintro (h1 | ⟨w, h1, h2⟩)
    · exact .inl h1
    · by_cases e : p = []
      · exact .inl e
      · have h3 : 0 < p.length := List.length_pos_iff.2 e
        have h4 := h2.length_le
        have h5 := h w h1
        exact .inr ⟨w, h1, p.length - 1, Nat.zero_le _, by omega, by omega, by rw [show p.length - 1 + 1 = p.length by omega]; exact List.prefix_iff_eq_take.1 h2⟩

theorem mkL_eq {l : List (List Int)} (h : ∀ w ∈ l, 1 ≤ w.length ∧ w.length ≤ 20) : mkL l = (kL l).map (staOf2 (kL l) l) ∧ (kL l).Nodup ∧ (∀ q ∈ kL l, q ≠ [] → q.dropLast ∈ kL l) := by
  have h1 := Inv.out_run 20 0 _ _ _ _ (Inv.start l)
  refine ⟨?_, h1.nod, h1.par⟩
  have h2 := h1.out
  dsimp only at h2
  unfold mkL outS
  rw [show (20 - (0 : Int)).toNat = 20 from rfl]
  refine h2.trans ?_
  refine List.map_congr_left fun p _ => ?_
  unfold staOf2
  have : decide (p ∈ eFrom l 20 0 []) = decide (p ∈ l) := by
    have e : p ∈ eFrom l 20 0 [] ↔ p ∈ l := by
      rw [mem_eFrom]
      constructor
      · rintro (hh | hh)
        · simp at hh
        · exact hh.1
      · intro hh
        exact .inr ⟨hh, by have := h p hh; omega, by have := h p hh; omega⟩
    simp only [e]
  rw [this]
  rfl

/-! ### How beginnings stand -/
theorem ltL_cons (x y : Int) (a b : List Int) : R.ltL (x :: a) (y :: b) = (decide (x < y) || (decide (x = y) && R.ltL a b)) := by
  rw [ltL_dec, ltL_dec, R.cmpL]
  by_cases h1 : x < y
  · simp [h1]
  · by_cases h2 : y < x
    · simp [h1, h2, show x ≠ y by omega]
    · simp [h1, h2, show x = y by omega]
theorem ltL_nilr (a : List Int) : R.ltL a [] = false := by cases a <;> rfl
theorem ltL_nill (x : Int) (a : List Int) : R.ltL [] (x :: a) = true := rfl
theorem ltL_take : ∀ (k : Nat) (a b : List Int), R.ltL a b = true → a.take k = b.take k ∨ R.ltL (a.take k) (b.take k) = true
  | 0, a, b, _ => .inl (by simp)
  | k + 1, [], [], h => by rw [ltL_nilr] at h; cases h
  | k + 1, [], y :: b, h => .inr rfl
  | k + 1, x :: a, [], h => by rw [ltL_nilr] at h; cases h
  | k + 1, x :: a, y :: b, h => by
    rw [ltL_cons, Bool.or_eq_true, Bool.and_eq_true, decide_eq_true_eq, decide_eq_true_eq] at h
    rw [List.take_succ_cons, List.take_succ_cons]
    rcases h with h | ⟨rfl, h⟩
    · right; rw [ltL_cons, decide_eq_true h]; rfl
    · rcases ltL_take k a b h with h | h
      · left; rw [h]
      · right; rw [ltL_cons, h]; simp

/-- A shorter one stands ahead; of one length the lesser one. -/
def shL (a b : List Int) : Prop := a.length < b.length ∨ (a.length = b.length ∧ R.ltL a b = true)

theorem foldK_sh {n : Nat} : ∀ (l D K : List (List Int)), R.Rises l → (∀ u ∈ D, ∀ w ∈ l, R.ltL u w = true) → K.Pairwise shL → (∀ q ∈ K, q.length ≤ n ∨ (q.length = n + 1 ∧ ∃ u ∈ D, q = u.take (n + 1))) →
    (l.foldl (stepK n) K).Pairwise shL ∧ ∀ q ∈ l.foldl (stepK n) K, q.length ≤ n + 1
  | [], D, K, _, _, h3, h4 => ⟨h3, fun q hq => by rcases h4 q hq with h | h <;> omega⟩
  | w :: l, D, K, h1, h2, h3, h4 => by
    obtain ⟨h1a, h1b⟩ := List.pairwise_cons.1 h1
    rw [List.foldl_cons]
    refine foldK_sh l (w :: D) _ h1b (fun u hu x hx => ?_) ?_ fun q hq => ?_
    · rcases List.mem_cons.1 hu with rfl | hu
      · exact h1a x hx
      · exact h2 u hu x (by simp [hx])
    · unfold stepK
      split
      · rename_i hn
        unfold addP
        split
        · exact h3
        · rename_i hni
          rw [List.pairwise_append]
          refine ⟨h3, List.pairwise_singleton _ _, fun a ha b hb => ?_⟩
          rw [List.mem_singleton.1 hb]
          have hl := (take_last hn).1
          rcases h4 a ha with h | ⟨h, u, hu, rfl⟩
          · exact .inl (by omega)
          · refine .inr ⟨by rw [hl]; exact h, ?_⟩
            rcases ltL_take (n + 1) u w (h2 u hu w (by simp)) with e | e
            · exact absurd (e ▸ ha) hni
            · exact e
      · exact h3
    · unfold stepK at hq
      split at hq
      · rename_i hn
        rcases mem_addP.1 hq with hq | rfl
        · rcases h4 q hq with h | ⟨h, u, hu, e⟩
          · exact .inl h
          · exact .inr ⟨h, u, by simp [hu], e⟩
        · exact .inr ⟨(take_last hn).1, w, by simp, rfl⟩
      · rcases h4 q hq with h | ⟨h, u, hu, e⟩
        · exact .inl h
        · exact .inr ⟨h, u, by simp [hu], e⟩
theorem kFrom_sh {l : List (List Int)} (hl : R.Rises l) : ∀ (m n : Nat) (K : List (List Int)), K.Pairwise shL → (∀ q ∈ K, q.length ≤ n) → (kFrom l m n K).Pairwise shL
  | 0, n, K, h1, _ => h1
  | m + 1, n, K, h1, h2 => by
    obtain ⟨k1, k2⟩ := foldK_sh l [] K hl (fun u hu => by simp at hu) h1 (fun q hq => .inl (h2 q hq))
    exact kFrom_sh hl m (n + 1) _ k1 k2
theorem kL_sh {l : List (List Int)} (hl : R.Rises l) : (kL l).Pairwise shL := kFrom_sh hl 20 0 _ (List.pairwise_singleton _ _) fun q hq => by rw [List.mem_singleton.1 hq]; simp

/-- All that is told of the beginnings. -/
structure Begs (l K : List (List Int)) : Prop where
  nod : K.Nodup
  par : ∀ q ∈ K, q ≠ [] → q.dropLast ∈ K
  mem : ∀ p, p ∈ K ↔ p = [] ∨ ∃ w ∈ l, p <+: w
  sh : K.Pairwise shL
theorem Fits.short {l : List (List Int)} (h : Fits l) : ∀ w ∈ l, 1 ≤ w.length ∧ w.length ≤ 20 := fun w hw => ⟨(fitB_good (h.fit w hw)).2.1, (fitB_good (h.fit w hw)).2.2.1⟩
theorem Fits.begs {l : List (List Int)} (h : Fits l) : Begs l (kL l) :=
  ⟨(mkL_eq h.short).2.1, (mkL_eq h.short).2.2, fun p => mem_kL fun w hw => (h.short w hw).2, kL_sh h.ris⟩

end Go.Proofs.Ytnbfiifkaddehaa.V

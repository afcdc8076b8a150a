/-
  Chapter 03, order, the plain law: lists of words that rise.
  No program in sight; no condition.
-/
import Derived.Test.YtanbekjefbebaaaOr10
namespace Go.Proofs.Ytanbekjefbebaaa.V
open Go
set_option linter.unusedVariables false
set_option linter.unusedSimpArgs false

abbrev Rises (l : List (List Int)) : Prop := l.Pairwise fun x y => ltL x y = true
theorem risesB_iff {l : List (List Int)} : risesB l = true ↔ Rises l := by simp [risesB, Rises]
theorem ltL_irr (a : List Int) : ltL a a = false := swoL.irrefl a
theorem ltL_tr {a b c : List Int} (h1 : ltL a b = true) (h2 : ltL b c = true) : ltL a c = true := swoL.trans _ _ _ h1 h2
theorem ltL_asym {a b : List Int} (h : ltL a b = true) : ltL b a = false := by
  cases h2 : ltL b a
  · rfl
  · have := ltL_tr h h2; rw [ltL_irr] at this; cases this
theorem ltL_or {a b : List Int} (h : a ≠ b) : ltL a b = true ∨ ltL b a = true := by
  cases h1 : ltL a b
  · cases h2 : ltL b a
    · exact absurd (ltL_anti h1 h2) h
    · exact .inr rfl
  · exact .inl rfl

/-- In a list that rises: who stands ahead stands at the head. -/
theorem cnt_at : ∀ {l : List (List Int)} (w : List Int), Rises l → ∀ i, (h : i < l.length) → ltL l[i] w = decide (i < cntL l w)
  | [], _, _, i, h => absurd h (by simp)
  | x :: l, w, hr, i, h => by
    obtain ⟨h1, h2⟩ := List.pairwise_cons.1 hr
    have ih := cnt_at (l := l) w h2
    unfold cntL at ih ⊢
    rw [List.countP_cons]
    cases hx : ltL x w
    · have h0 : List.countP (fun x => ltL x w) l = 0 := by
        rw [List.countP_eq_zero]
        intro y hy hlt
        have := ltL_tr (h1 y hy) hlt
        rw [hx] at this; cases this
      rw [h0]
      cases i with
      | zero => simpa using hx
      | succ i =>
        have hi : i < l.length := by simpa using h
        have := ih i hi
        rw [h0] at this
        simpa using this
    · cases i with
      | zero => simpa using hx
      | succ i =>
        have hi : i < l.length := by simpa using h
        have := ih i hi
        simp only [List.getElem_cons_succ, if_true]
        rw [this]
        simp
theorem mem_cnt {l : List (List Int)} {w : List Int} (hr : Rises l) : w ∈ l ↔ ∃ h : cntL l w < l.length, l[cntL l w] = w := by
  constructor
  · intro hm
    obtain ⟨i, hi, rfl⟩ := List.getElem_of_mem hm
    have h1 := cnt_at l[i] hr i hi
    rw [ltL_irr] at h1
    have hle : cntL l l[i] ≤ i := by
      have := h1.symm
      rw [decide_eq_false_iff_not] at this
      omega
    have hlt : cntL l l[i] < l.length := by omega
    refine ⟨hlt, ?_⟩
    have h2 := cnt_at l[i] hr (cntL l l[i]) hlt
    rw [decide_eq_false (by omega)] at h2
    by_cases e : cntL l l[i] = i
    · simp only [e]
    · have h3 := (List.pairwise_iff_getElem.1 hr) (cntL l l[i]) i hlt hi (by omega)
      rw [h2] at h3; cases h3
  · rintro ⟨h, e⟩
    rw [← e]
    exact List.getElem_mem h

/-- Two lists that rise, of the same words, are one. -/
theorem rises_ext : ∀ {a b : List (List Int)}, Rises a → Rises b → (∀ x, x ∈ a ↔ x ∈ b) → a = b
  | [], [], _, _, _ => rfl
  | [], y :: b, _, _, h => absurd ((h y).2 (by simp)) (by simp)
  | x :: a, [], _, _, h => absurd ((h x).1 (by simp)) (by simp)
  | x :: a, y :: b, ha, hb, h => by
    obtain ⟨a1, a2⟩ := List.pairwise_cons.1 ha
    obtain ⟨b1, b2⟩ := List.pairwise_cons.1 hb
    have e : x = y := by
      by_cases e : x = y
      · exact e
      · have q1 : x ∈ b := by
          rcases List.mem_cons.1 ((h x).1 (by simp)) with q | q
          · exact absurd q e
          · exact q
        have q2 : y ∈ a := by
          rcases List.mem_cons.1 ((h y).2 (by simp)) with q | q
          · exact absurd q.symm e
          · exact q
        have := ltL_asym (a1 y q2)
        rw [b1 x q1] at this; cases this
    subst e
    congr 1
    refine rises_ext a2 b2 fun z => ?_
    have nx : ∀ {c : List (List Int)}, (∀ y ∈ c, ltL x y = true) → x ∉ c := fun hc hm => by
      have := hc x hm; rw [ltL_irr] at this; cases this
    constructor
    · intro hz
      rcases List.mem_cons.1 ((h z).1 (List.mem_cons_of_mem _ hz)) with q | q
      · exact absurd (q ▸ hz) (nx a1)
      · exact q
    · intro hz
      rcases List.mem_cons.1 ((h z).2 (List.mem_cons_of_mem _ hz)) with q | q
      · exact absurd (q ▸ hz) (nx b1)
      · exact q

theorem insL_mem {out : List (List Int)} {w z : List Int} : z ∈ insL out w ↔ z ∈ out ∨ z = w := by
  unfold insL
  by_cases h : w ∈ out
  · rw [if_pos h]
    constructor
    · exact .inl
    · rintro (q | rfl)
      · exact q
      · exact h
  · rw [if_neg h, List.mem_append, List.mem_cons]
    have e := List.take_append_drop (cntL out w) out
    constructor
    · rintro (q | q | q)
      · exact .inl (List.mem_of_mem_take q)
      · exact .inr q
      · exact .inl (List.mem_of_mem_drop q)
    · rintro (q | q)
      · rw [← e] at q
        rcases List.mem_append.1 q with q | q
        · exact .inl q
        · exact .inr (.inr q)
      · exact .inr (.inl q)
theorem insL_rises {out : List (List Int)} {w : List Int} (h : Rises out) : Rises (insL out w) := by
  unfold insL
  by_cases hm : w ∈ out
  · rw [if_pos hm]; exact h
  · rw [if_neg hm]
    have hlow : ∀ y ∈ out.take (cntL out w), ltL y w = true := fun y hy => by
      obtain ⟨i, hi, rfl⟩ := List.getElem_of_mem hy
      rw [List.length_take] at hi
      rw [List.getElem_take, cnt_at w h i (by omega), decide_eq_true_eq]
      omega
    have hhigh : ∀ y ∈ out.drop (cntL out w), ltL w y = true := fun y hy => by
      obtain ⟨i, hi, rfl⟩ := List.getElem_of_mem hy
      rw [List.length_drop] at hi
      rw [List.getElem_drop]
      have hlt := cnt_at w h (cntL out w + i) (by omega)
      rw [decide_eq_false (by omega)] at hlt
      have hne : out[cntL out w + i] ≠ w := fun e => hm (e ▸ List.getElem_mem _)
      rcases ltL_or hne with q | q
      · rw [hlt] at q; cases q
      · exact q
    refine List.pairwise_append.2 ⟨h.sublist (List.take_sublist _ _), List.pairwise_cons.2 ⟨hhigh, h.sublist (List.drop_sublist _ _)⟩, fun a ha b hb => ?_⟩
    rcases List.mem_cons.1 hb with rfl | hb
    · exact hlow a ha
    · exact ltL_tr (hlow a ha) (hhigh b hb)
theorem foldl_insL {l : List (List Int)} : ∀ {out : List (List Int)}, Rises out → Rises (l.foldl insL out) ∧ ∀ z, z ∈ l.foldl insL out ↔ z ∈ out ∨ z ∈ l := by
  induction l with
  | nil => intro out h; exact ⟨h, fun z => by simp⟩
  | cons x l ih =>
    intro out h
    obtain ⟨h1, h2⟩ := ih (insL_rises (w := x) h)
    refine ⟨h1, fun z => ?_⟩
    rw [List.foldl_cons, h2, insL_mem, List.mem_cons, or_assoc]
theorem setL_rises (l : List (List Int)) : Rises (setL l) := (foldl_insL List.Pairwise.nil).1
theorem setL_mem {l : List (List Int)} {z : List Int} : z ∈ setL l ↔ z ∈ l := by
  have := (foldl_insL (l := l) (out := []) List.Pairwise.nil).2 z
  simpa [setL] using this
theorem insL_len {out : List (List Int)} {w : List Int} : (insL out w).length ≤ out.length + 1 ∧ out.length ≤ (insL out w).length := by
  unfold insL
  split
  · omega
  · have := congrArg List.length (List.take_append_drop (cntL out w) out)
    rw [List.length_append] at this
    rw [List.length_append, List.length_cons]
    omega
theorem insL_ne {out : List (List Int)} {w : List Int} : (insL out w).isEmpty = false := by
  have : w ∈ insL out w := insL_mem.2 (.inr rfl)
  cases h : insL out w with
  | nil => rw [h] at this; simp at this
  | cons _ _ => rfl
theorem setL_short {l : List (List Int)} (h : shortB l = true) : shortB (setL l) = true := by
  unfold shortB at h ⊢
  rw [List.all_eq_true] at h ⊢
  exact fun x hx => h x (setL_mem.1 hx)
theorem setL_len (l : List (List Int)) : (setL l).length ≤ l.length := by
  have : ∀ (l out : List (List Int)), (l.foldl insL out).length ≤ out.length + l.length := by
    intro l
    induction l with
    | nil => intro out; simp
    | cons x l ih =>
      intro out
      have h1 := ih (insL out x)
      have h2 := (insL_len (out := out) (w := x)).1
      simp only [List.foldl_cons, List.length_cons]; omega
  have := this l []
  simpa [setL] using this
theorem setL_of_rises {l : List (List Int)} (h : Rises l) : setL l = l := rises_ext (setL_rises l) h fun _ => setL_mem
theorem setL_ext {a b : List (List Int)} (h : ∀ x, x ∈ a ↔ x ∈ b) : setL a = setL b := rises_ext (setL_rises a) (setL_rises b) fun x => by rw [setL_mem, setL_mem, h]

theorem compG_mem {p z : List Int} : ∀ {l : List (List Int)}, z ∈ compG p l → z ∈ l
  | [], h => by simp [compG] at h
  | x :: l, h => by
    unfold compG at h
    split at h
    · exact List.mem_cons_of_mem _ (compG_mem h)
    · rcases List.mem_cons.1 h with rfl | h
      · simp
      · exact List.mem_cons_of_mem _ (compG_mem h)
theorem compG_has {z : List Int} : ∀ {p : List Int} {l : List (List Int)}, z ∈ l → z = p ∨ z ∈ compG p l
  | p, [], h => by simp at h
  | p, x :: l, h => by
    unfold compG
    split
    · rename_i e
      subst e
      rcases List.mem_cons.1 h with rfl | h
      · exact .inl rfl
      · exact compG_has h
    · rcases List.mem_cons.1 h with rfl | h
      · exact .inr (by simp)
      · rcases compG_has (p := x) h with rfl | h
        · exact .inr (by simp)
        · exact .inr (List.mem_cons_of_mem _ h)
theorem compG_rises : ∀ {p : List Int} {l : List (List Int)}, (∀ y ∈ l, ltL y p = false) → l.Pairwise (fun x y => ltL y x = false) → (∀ y ∈ compG p l, ltL p y = true) ∧ Rises (compG p l)
  | p, [], _, _ => ⟨fun y h => by simp [compG] at h, List.Pairwise.nil⟩
  | p, x :: l, hp, hl => by
    obtain ⟨l1, l2⟩ := List.pairwise_cons.1 hl
    obtain ⟨i1, i2⟩ := compG_rises (p := x) l1 l2
    unfold compG
    split
    · rename_i e
      subst e
      exact ⟨i1, i2⟩
    · rename_i e
      have hpx : ltL p x = true := by
        rcases ltL_or e with q | q
        · rw [hp x (by simp)] at q; cases q
        · exact q
      refine ⟨fun y hy => ?_, List.pairwise_cons.2 ⟨i1, i2⟩⟩
      rcases List.mem_cons.1 hy with rfl | hy
      · exact hpx
      · exact ltL_tr hpx (i1 y hy)
theorem comp_srt (l : List (List Int)) : compL (srtL l) = setL l := by
  have hs : (srtL l).Pairwise fun x y => ltL y x = false := by
    have := List.pairwise_mergeSort (le := fun x y => !ltL y x) (fun a b c h1 h2 => by
      simp only [Bool.not_eq_true'] at h1 h2 ⊢
      exact swoL.ntrans c b a h2 h1) (fun a b => by
      cases h : ltL b a
      · simp
      · simp [ltL_asym h]) l
    exact this.imp fun h => by simpa using h
  have hm : ∀ z, z ∈ srtL l ↔ z ∈ l := fun z => (List.mergeSort_perm l _).mem_iff
  cases h : srtL l with
  | nil =>
    have : l = [] := by
      have := (List.mergeSort_perm l (fun x y => !ltL y x)).length_eq
      unfold srtL at h
      rw [h] at this
      exact List.eq_nil_of_length_eq_zero this.symm
    subst this; rfl
  | cons x s =>
    rw [h] at hs hm
    obtain ⟨l1, l2⟩ := List.pairwise_cons.1 hs
    obtain ⟨i1, i2⟩ := compG_rises (p := x) l1 l2
    refine rises_ext (List.pairwise_cons.2 ⟨i1, i2⟩) (setL_rises l) fun z => ?_
    rw [setL_mem, ← hm]
    constructor
    · intro hz
      rcases List.mem_cons.1 hz with rfl | hz
      · simp
      · exact List.mem_cons_of_mem _ (compG_mem hz)
    · intro hz
      rcases List.mem_cons.1 hz with rfl | hz
      · exact List.mem_cons_self
      · rcases compG_has (p := x) hz with rfl | hz
        · exact List.mem_cons_self
        · exact List.mem_cons_of_mem _ hz

end Go.Proofs.Ytanbekjefbebaaa.V

/-
  Chapter 09, word lists: the plain law: what is read of lines; that what is written is read again; no program in sight.
  No condition.
-/
import Derived.Test.YtaefpopjlmhmoaaDoorWo4
namespace Go.Proofs.YtaefpopjlmhmoaaDoor.V
open Go
set_option linter.unusedVariables false
set_option linter.unusedSimpArgs false

theorem rdL_ok {b : List Int} (hy : bytesB b = true) (h : U.rdE b = 0) : b = U.ups (U.rdL b) ∧ (U.rdL b).all U.goodN = true := by
  unfold U.rdE at h
  cases hv : U.validU b with
  | false => rw [hv] at h; simp at h
  | true =>
    unfold U.validU at hv
    obtain ⟨l, hl⟩ := Option.isSome_iff_exists.1 hv
    have := U.readU_some b.length rfl (bytesB_iff.1 hy) hl
    unfold U.rdL
    rw [hl]
    exact this
theorem rd_ups {l : List Int} (h : l.all U.goodN = true) : U.rdL (U.ups l) = l ∧ U.rdE (U.ups l) = 0 := by
  have := U.readU_ups h
  unfold U.rdL U.rdE U.validU
  rw [this]
  exact ⟨rfl, rfl⟩
theorem ub_small {n : Int} (h : n < 128) : U.ub n = [n] := by unfold U.ub; rw [if_pos h]
theorem ub_asc {n c : Int} (hg : U.goodN n = true) (hc : c ∈ U.ub n) (h : c < 128) : n = c := by
  have hg := U.goodN_iff.1 hg
  unfold U.ub at hc
  split at hc
  · exact (List.mem_singleton.1 hc).symm
  · split at hc
    · simp at hc; omega
    · split at hc
      · simp at hc; omega
      · simp at hc; omega
theorem mem_ups {l : List Int} {c : Int} (h : c ∈ U.ups l) : ∃ n ∈ l, c ∈ U.ub n := by
  unfold U.ups at h
  rw [List.mem_flatten] at h
  obtain ⟨q, hq, hc⟩ := h
  rw [List.mem_map] at hq
  obtain ⟨n, hn, rfl⟩ := hq
  exact ⟨n, hn, hc⟩
theorem ups_has {l : List Int} {n c : Int} (hn : n ∈ l) (hc : c ∈ U.ub n) : c ∈ U.ups l := by
  unfold U.ups
  rw [List.mem_flatten]
  exact ⟨_, List.mem_map.2 ⟨n, hn, rfl⟩, hc⟩
theorem fit_bytes {w : List Int} (h : fitB w = true) : ∀ c ∈ U.ups w, c ≠ 10 ∧ c ≠ 32 ∧ c ≠ 9 := by
  intro c hc
  obtain ⟨n, hn, hcn⟩ := mem_ups hc
  obtain ⟨h1, _, _, _, h5⟩ := fitB_good h
  have hg := List.all_eq_true.1 h1 n hn
  have := h5 n hn
  refine ⟨?_, ?_, ?_⟩
  · rintro rfl
    exact this.2.2 (ub_asc hg hcn (by omega))
  · rintro rfl
    exact this.1 (ub_asc hg hcn (by omega))
  · rintro rfl
    exact this.2.1 (ub_asc hg hcn (by omega))
theorem cut_none (p : Int → Bool) : ∀ q : List Int, (∀ x ∈ q, p x = false) → L.cut p q = [q]
  | [], _ => rfl
  | x :: q, h => by
    have ih := cut_none p q (fun y hy => h y (by simp [hy]))
    simp only [L.cut, h x (by simp), cond_false, ih]
theorem fields_one {q : List Int} (hne : q ≠ []) (h : ∀ c ∈ q, L.isBl c = false) : L.fieldsL q = [q] := by
  unfold L.fieldsL
  rw [cut_none _ q h]
  unfold L.full
  cases q with
  | nil => exact absurd rfl hne
  | cons _ _ => rfl
theorem ups_ne {w : List Int} (h : w ≠ []) : U.ups w ≠ [] := by
  cases w with
  | nil => exact absurd rfl h
  | cons n w =>
    rw [U.ups_cons]
    have h1 := U.ub_pos n
    intro e
    have h2 := congrArg List.length e
    rw [List.length_append, List.length_nil] at h2
    omega
theorem word_ups {w : List Int} (h : fitB w = true) : L.bareB (U.ups w) = false ∧ wordW (U.ups w) = (w, 0, ()) := by
  obtain ⟨h1, h2, h3, h4, h5⟩ := fitB_good h
  have hne : w ≠ [] := by rintro rfl; simp at h2
  have hf : L.fieldsL (U.ups w) = [U.ups w] := fields_one (ups_ne hne) fun c hc => by
    have := fit_bytes h c hc
    simp [L.isBl, this.2.1, this.2.2]
  obtain ⟨r1, r2⟩ := rd_ups h1
  constructor
  · unfold L.bareB
    rw [hf]
    cases w with
    | nil => exact absurd rfl hne
    | cons n w =>
      have hg := List.all_eq_true.1 h1 n (by simp)
      have hn : n ≠ 35 := by simpa using h4
      have : (U.ups (n :: w)).getD 0 0 ≠ 35 := by
        intro e
        have hm : (35 : Int) ∈ U.ub n := by
          rw [U.ups_cons] at e
          have hp := U.ub_pos n
          rw [List.getD_eq_getElem?_getD, List.getElem?_append_left (by omega), List.getElem?_eq_getElem (by omega), Option.getD_some] at e
          rw [← e]
          exact List.getElem_mem _
        exact hn (ub_asc hg hm (by omega))
      simp only [List.isEmpty_cons, Bool.false_or]
      have e0 : List.getD [U.ups (n :: w)] 0 [] = U.ups (n :: w) := rfl
      rw [e0]
      simpa using this
  · unfold wordW
    rw [hf]
    have e0 : List.getD [U.ups w] 0 [] = U.ups w := rfl
    rw [if_pos (show [U.ups w].length = 1 from rfl), e0, r1, r2, if_neg (by omega)]

/-- The words of lines. -/
def wsL (ls : List (List Int)) : List (List Int) := (ls.filter fun l => !(L.bareB l)).map fun l => (wordW l).1
def allG (ls : List (List Int)) : Prop := ∀ l ∈ ls, L.bareB l = false → (wordW l).2.1 = 0
theorem wsL_bare {l : List Int} {ls : List (List Int)} (h : L.bareB l = true) : wsL (l :: ls) = wsL ls := by simp [wsL, h]
theorem wsL_full {l : List Int} {ls : List (List Int)} (h : L.bareB l = false) : wsL (l :: ls) = (wordW l).1 :: wsL ls := by simp [wsL, h]
theorem wsL_app (a b : List (List Int)) : wsL (a ++ b) = wsL a ++ wsL b := by simp [wsL]

theorem fold_len : ∀ (l out : List (List Int)), out.length ≤ (l.foldl R.insL out).length
  | [], out => Nat.le_refl _
  | w :: l, out => Nat.le_trans R.insL_len.2 (fold_len l (R.insL out w))

theorem goR_good : ∀ (ls : List (List Int)) (i : Int) (out : List (List Int)), allG ls → out.length ≤ 300 →
    (((wsL ls).foldl R.insL out).length > 300 ∧ ∃ t : Int, i ≤ t ∧ t < i + ls.length ∧ goR ls i out = ([], t, 81)) ∨ (((wsL ls).foldl R.insL out).length ≤ 300 ∧ goR ls i out = ((wsL ls).foldl R.insL out, -1, 0))
  | [], i, out, _, h => .inr ⟨h, rfl⟩
  | l :: ls, i, out, hg, h => by
    have hg' : allG ls := fun q hq => hg q (by simp [hq])
    cases hb : L.bareB l with
    | true =>
      rw [goR, hb, cond_true, wsL_bare hb]
      rcases goR_good ls (i + 1) out hg' h with ⟨h1, t, h2, h3, h4⟩ | h1
      · exact .inl ⟨h1, t, by omega, by simp only [List.length_cons]; omega, h4⟩
      · exact .inr h1
    | false =>
      rw [goR, hb, cond_false, wsL_full hb, if_neg (fun e => e (hg l (by simp) hb)), List.foldl_cons]
      by_cases h2 : (R.insL out (wordW l).1).length > 300
      · rw [if_pos h2]
        have := fold_len (wsL ls) (R.insL out (wordW l).1)
        exact .inl ⟨by omega, i, Int.le_refl _, by simp only [List.length_cons]; omega, rfl⟩
      · rw [if_neg h2]
        rcases goR_good ls (i + 1) (R.insL out (wordW l).1) hg' (by omega) with ⟨h1, t, h2, h3, h4⟩ | h1
        · exact .inl ⟨h1, t, by omega, by simp only [List.length_cons]; omega, h4⟩
        · exact .inr h1

theorem goR_all : ∀ (ls : List (List Int)) (i : Int) (out : List (List Int)), (goR ls i out).2.2 = 0 → allG ls
  | [], _, _, _ => fun l hl => by simp at hl
  | l :: ls, i, out, h => by
    rw [goR] at h
    intro q hq hbq
    cases hb : L.bareB l with
    | true =>
      rw [hb, cond_true] at h
      rcases List.mem_cons.1 hq with rfl | hq
      · rw [hb] at hbq; cases hbq
      · exact goR_all ls _ _ h q hq hbq
    | false =>
      rw [hb, cond_false] at h
      split at h
      · rename_i h1; exact absurd h h1
      · rename_i h1
        split at h
        · simp at h
        · rcases List.mem_cons.1 hq with rfl | hq
          · exact Decidable.not_not.1 h1
          · exact goR_all ls _ _ h q hq hbq

/-- What is read with no error. -/
theorem readW_ok {b : List Int} (h : (readW b).2.2 = 0) : allG (L.splitL b) ∧ (R.setL (wsL (L.splitL b))).length ≤ 300 ∧ readW b = (R.setL (wsL (L.splitL b)), -1, 0) := by
  unfold readW at h ⊢
  have ha := goR_all _ _ _ h
  rcases goR_good (L.splitL b) 0 [] ha (by simp) with ⟨_, t, _, _, h4⟩ | ⟨h1, h2⟩
  · rw [h4] at h; simp at h
  · exact ⟨ha, h1, h2⟩

theorem bare_nil : L.bareB [] = true := rfl

/-- A word that is read fits. -/
theorem word_fit {l : List Int} (hy : bytesB l = true) (h10 : ∀ c ∈ l, L.isEnd c = false) (hb : L.bareB l = false) (he : (wordW l).2.1 = 0) : fitB (wordW l).1 = true ∧ L.fieldsL l = [U.ups (wordW l).1] := by
  have hs := word_short he
  unfold wordW at he hs ⊢
  split at he
  · rename_i h1
    rw [if_pos h1] at hs ⊢
    simp only at he hs ⊢
    rw [if_neg (by omega)] at he
    obtain ⟨q, hq⟩ := List.length_eq_one_iff.1 h1
    have e0 : List.getD (L.fieldsL l) 0 [] = q := by rw [hq]; rfl
    rw [e0] at he hs ⊢
    have hm := L.fields_mem (b := l) (q := q) (by rw [hq]; simp)
    have hyq : bytesB q = true := bytesB_iff.2 fun x hx => bytesB_iff.1 hy x (hm.2 x hx).1
    obtain ⟨r1, r2⟩ := rdL_ok hyq he
    have hne : U.rdL q ≠ [] := by
      intro e
      rw [e] at r1
      exact hm.1 r1
    have hin : ∀ n ∈ U.rdL q, n < 128 → n ∈ q := fun n hn hlt => by
      rw [r1]
      exact ups_has hn (by rw [ub_small hlt]; simp)
    refine ⟨?_, by rw [hq, ← r1]⟩
    have h35 : (U.rdL q).getD 0 0 ≠ 35 := by
      intro e
      cases hw : U.rdL q with
      | nil => exact hne hw
      | cons n w =>
        rw [hw] at e r1
        have hn : n = 35 := by simpa using e
        subst hn
        have : q.getD 0 0 = 35 := by rw [r1, U.ups_cons, ub_small (by omega)]; rfl
        unfold L.bareB at hb
        rw [hq] at hb
        have e1 : List.getD [q] 0 [] = q := rfl
        rw [e1, this] at hb
        simp at hb
    unfold fitB
    simp only [Bool.and_eq_true, decide_eq_true_eq, Bool.not_eq_true', beq_eq_false_iff_ne, List.any_eq_false]
    refine ⟨⟨List.length_pos_iff.2 hne, hs⟩, h35, fun n hn => ?_⟩
    unfold wrongB
    have hg := List.all_eq_true.1 r2 n hn
    have a1 : n ≠ 32 := by
      rintro rfl
      have := (hm.2 _ (hin 32 hn (by omega))).2
      simp [L.isBl] at this
    have a2 : n ≠ 9 := by
      rintro rfl
      have := (hm.2 _ (hin 9 hn (by omega))).2
      simp [L.isBl] at this
    have a3 : n ≠ 10 := by
      rintro rfl
      have := h10 _ (hm.2 _ (hin 10 hn (by omega))).1
      simp [L.isEnd] at this
    simp [hg, a1, a2, a3]
  · simp at he

theorem wsL_fit {b : List Int} (hy : bytesB b = true) (h : allG (L.splitL b)) : ∀ w ∈ wsL (L.splitL b), fitB w = true := by
  intro w hw
  unfold wsL at hw
  rw [List.mem_map] at hw
  obtain ⟨l, hl, rfl⟩ := hw
  rw [List.mem_filter] at hl
  have hb : L.bareB l = false := by simpa using hl.2
  have hm := fun c hc => L.split_mem (b := b) hl.1 c hc
  exact (word_fit (bytesB_iff.2 fun x hx => bytesB_iff.1 hy x (hm x hx).1) (fun c hc => (hm c hc).2) hb (h l hl.1 hb)).1

theorem read_fit {b : List Int} (hy : bytesB b = true) (h : (readW b).2.2 = 0) : (∀ w ∈ (readW b).1, fitB w = true) ∧ R.Rises (readW b).1 ∧ (readW b).1.length ≤ 300 := by
  obtain ⟨h1, h2, h3⟩ := readW_ok h
  rw [h3]
  exact ⟨fun w hw => wsL_fit hy h1 w (R.setL_mem.1 hw), R.setL_rises _, h2⟩

theorem fit_short {l : List (List Int)} (h : ∀ w ∈ l, fitB w = true) : short20 l = true := short20_iff.2 fun w hw => (fitB_good (h w hw)).2.2.1

theorem read_short {b : List Int} (hy : bytesB b = true) : short20 (readW b).1 = true ∧ (readW b).1.length ≤ 300 := by
  by_cases h : (readW b).2.2 = 0
  · obtain ⟨h1, _, h3⟩ := read_fit hy h
    exact ⟨fit_short h1, h3⟩
  · have : (readW b).1 = [] := goR_nil _ _ _ h
    rw [this]
    exact ⟨rfl, by simp⟩

theorem joinW_eq : ∀ {l : List (List Int)}, (∀ w ∈ l, fitB w = true) → joinW l = L.joinE (l.map U.ups)
  | [], _ => rfl
  | w :: l, h => by
    rw [joinW_cons, (putL_len (h w (by simp))).1, joinW_eq (fun v hv => h v (by simp [hv])), List.map_cons, L.joinE]
    simp
theorem wsL_ups : ∀ {l : List (List Int)}, (∀ w ∈ l, fitB w = true) → wsL (l.map U.ups) = l ∧ allG (l.map U.ups)
  | [], _ => ⟨rfl, fun q hq => by simp at hq⟩
  | w :: l, h => by
    obtain ⟨i1, i2⟩ := wsL_ups (l := l) fun v hv => h v (by simp [hv])
    obtain ⟨w1, w2⟩ := word_ups (h w (by simp))
    rw [List.map_cons]
    refine ⟨by rw [wsL_full w1, w2, i1], fun q hq hb => ?_⟩
    rcases List.mem_cons.1 hq with rfl | hq
    · rw [w2]
    · exact i2 q hq hb
theorem read_join {l : List (List Int)} (h : ∀ w ∈ l, fitB w = true) (hr : R.Rises l) (hl : l.length ≤ 300) : readW (joinW l) = (l, -1, 0) := by
  have hs : L.splitL (joinW l) = l.map U.ups := by
    rw [joinW_eq h]
    refine L.split_joinE fun q hq c hc => ?_
    rw [List.mem_map] at hq
    obtain ⟨w, hw, rfl⟩ := hq
    have := (fit_bytes (h w hw) c hc).1
    simp [L.isEnd, this]
  obtain ⟨h1, h2⟩ := wsL_ups h
  unfold readW
  rw [hs]
  have e : (wsL (l.map U.ups)).foldl R.insL [] = l := by rw [h1]; exact R.setL_of_rises hr
  rcases goR_good (l.map U.ups) 0 [] h2 (by simp) with ⟨g1, _⟩ | ⟨_, g2⟩
  · rw [e] at g1; omega
  · rw [g2, e]

theorem srt_adj : ∀ {l : List (List Int)} {n : Nat}, srtdTo l n = true → ∀ k, k < n → R.ltL (l.getD (k + 1) []) (l.getD k []) = false
  | l, 0, _, k, hk => by omega
  | l, n + 1, h, k, hk => by
    simp only [srtdTo, Bool.and_eq_true, Bool.not_eq_true'] at h
    by_cases e : k = n
    · subst e; exact h.1
    · exact srt_adj h.2 k (by omega)

theorem adj_rises : ∀ {l : List (List Int)}, (∀ k, k + 1 < l.length → R.ltL (l.getD k []) (l.getD (k + 1) []) = true) → R.Rises l
  | [], _ => List.Pairwise.nil
  | [x], _ => List.pairwise_singleton _ _
  | x :: y :: l, h => by
    have ih : R.Rises (y :: l) := adj_rises fun k hk => by
      have := h (k + 1) (by simpa using hk)
      simpa using this
    have hxy : R.ltL x y = true := by simpa using h 0 (by simp)
    refine List.Pairwise.cons (fun z hz => ?_) ih
    rcases List.mem_cons.1 hz with rfl | hz
    · exact hxy
    · exact R.ltL_tr hxy ((List.pairwise_cons.1 ih).1 z hz)

/-- Just words that rise are as many as they are when they are sorted, and stand in order. -/
theorem sorted_rises {l : List (List Int)} : (decide ((R.setL l).length ≠ l.length) || !(sortB l)) = false ↔ R.Rises l := by
  constructor
  · intro h
    simp only [Bool.or_eq_false_iff, decide_eq_false_iff_not, Bool.not_eq_false', Decidable.not_not] at h
    obtain ⟨h1, h2⟩ := h
    refine adj_rises fun k hk => ?_
    have ha := srt_adj h2 k (by omega)
    by_cases e : l.getD k [] = l.getD (k + 1) []
    · exfalso
      have hsub : R.setL l = R.setL (l.eraseIdx (k + 1)) := R.setL_ext fun z => by
        constructor
        · intro hz
          obtain ⟨i, hi, rfl⟩ := List.mem_iff_getElem.1 hz
          by_cases hik : i = k + 1
          · subst hik
            have e' : l[k + 1] = l[k] := by
              rw [List.getD_eq_getElem?_getD, List.getElem?_eq_getElem (by omega), List.getD_eq_getElem?_getD, List.getElem?_eq_getElem (by omega)] at e
              exact e.symm
            rw [e']
            exact List.mem_eraseIdx_iff_getElem.2 ⟨k, by omega, by omega, rfl⟩
          · exact List.mem_eraseIdx_iff_getElem.2 ⟨i, hi, hik, rfl⟩
        · exact fun hz => List.mem_of_mem_eraseIdx hz
      have hlen := R.setL_len (l.eraseIdx (k + 1))
      rw [List.length_eraseIdx_of_lt hk] at hlen
      rw [hsub] at h1
      omega
    · rcases R.ltL_or e with h | h
      · exact h
      · rw [ha] at h; cases h
  · intro h
    have e1 : R.setL l = l := R.setL_of_rises h
    rw [e1]
    simp only [ne_eq, not_true_eq_false, decide_false, Bool.false_or, Bool.not_eq_false']
    unfold sortB
    have : ∀ n, n < l.length → srtdTo l n = true := by
      intro n
      induction n with
      | zero => intro _; rfl
      | succ n ih =>
        intro hn
        simp only [srtdTo, Bool.and_eq_true, Bool.not_eq_true']
        refine ⟨?_, ih (by omega)⟩
        rw [List.getD_eq_getElem?_getD, List.getElem?_eq_getElem hn, List.getD_eq_getElem?_getD, List.getElem?_eq_getElem (show n < l.length by omega)]
        exact R.ltL_asym (List.pairwise_iff_getElem.1 h n (n + 1) (by omega) hn (by omega))
    by_cases h0 : l.length = 0
    · rw [h0]; rfl
    · exact this _ (by omega)

/-- What is written. -/
theorem writeW_ok {l : List (List Int)} (h : (writeW l).2 = 0) : l.length ≤ 300 ∧ (∀ w ∈ l, fitB w = true) ∧ R.Rises l ∧ writeW l = (joinW l, 0) := by
  unfold writeW at h ⊢
  by_cases h1 : l.length > 300
  · rw [if_pos h1] at h; simp at h
  · rw [if_neg h1] at h ⊢
    cases h2 : l.any badB with
    | true => rw [h2] at h; simp at h
    | false =>
      rw [h2, Bool.false_or] at h
      rw [Bool.false_or]
      cases h3 : (decide ((R.setL l).length ≠ l.length) || !(sortB l)) with
      | true => rw [h3] at h; simp at h
      | false => exact ⟨by omega, any_bad h2, sorted_rises.1 h3, rfl⟩
theorem writeW_bad {l : List (List Int)} (h : (writeW l).2 ≠ 0) : (writeW l).1 = [] := by
  unfold writeW at h ⊢
  by_cases h1 : l.length > 300
  · rw [if_pos h1]
  · rw [if_neg h1] at h ⊢
    cases h2 : (l.any badB || (decide ((R.setL l).length ≠ l.length) || !(sortB l))) with
    | true => rfl
    | false => rw [h2] at h; simp at h
theorem writeW_of {l : List (List Int)} (h1 : l.length ≤ 300) (h2 : ∀ w ∈ l, fitB w = true) (h3 : R.Rises l) : writeW l = (joinW l, 0) := by
  unfold writeW
  have e : l.any badB = false := by
    rw [List.any_eq_false]
    intro w hw
    unfold badB
    simp [h2 w hw]
  rw [if_neg (by omega), e, Bool.false_or, sorted_rises.2 h3]
  rfl

theorem joinW_len : ∀ {l : List (List Int)}, (∀ w ∈ l, fitB w = true) → (joinW l).length ≤ 81 * l.length
  | [], _ => by simp [joinW]
  | w :: l, h => by
    have := joinW_len (l := l) fun v hv => h v (by simp [hv])
    have := (putL_len (h w (by simp))).2
    rw [joinW_cons]
    simp only [List.length_append, List.length_cons, List.length_nil]
    omega
theorem joinW_bytes : ∀ {l : List (List Int)}, (∀ w ∈ l, fitB w = true) → bytesB (joinW l) = true
  | [], _ => rfl
  | w :: l, h => by
    have ih := joinW_bytes (l := l) fun v hv => h v (by simp [hv])
    rw [joinW_cons, (putL_len (h w (by simp))).1, bytesB_iff]
    intro c hc
    rw [List.mem_append, List.mem_append] at hc
    rcases hc with (hc | hc) | hc
    · exact U.ups_byts (fitB_good (h w (by simp))).1 c hc
    · have : c = 10 := by simpa using hc
      omega
    · exact bytesB_iff.1 ih c hc
theorem write_bytes (l : List (List Int)) : bytesB (writeW l).1 = true ∧ (writeW l).1.length ≤ 50000 := by
  by_cases h : (writeW l).2 = 0
  · obtain ⟨h1, h2, _, h4⟩ := writeW_ok h
    rw [h4]
    have := joinW_len h2
    exact ⟨joinW_bytes h2, by simp only; omega⟩
  · rw [writeW_bad h]; exact ⟨rfl, by simp⟩

/-- The two lists' lines. -/
theorem cut_cat (p : Int → Bool) (c : Int) (hc : p c = true) (r : List Int) : ∀ q : List Int, L.cut p (q ++ c :: r) = L.cut p q ++ L.cut p r
  | [] => by simp [L.cut, hc]
  | x :: q => by
    have ih := cut_cat p c hc r q
    have hne := L.cut_ne p q
    simp only [List.cons_append, L.cut]
    cases hx : p x with
    | true => simp only [cond_true]; rw [ih]; rfl
    | false =>
      simp only [cond_false]
      rw [ih]
      cases hq : L.cut p q with
      | nil => exact absurd hq hne
      | cons u us => rfl
theorem split_cat (a b : List Int) : L.splitL (a ++ 10 :: b) = L.cut L.isEnd a ++ L.splitL b := by
  unfold L.splitL
  rw [cut_cat L.isEnd 10 rfl b a]
  obtain ⟨l, q, hq⟩ := L.cut_last L.isEnd b
  rw [hq, ← List.append_assoc, L.dropE_cat, L.dropE_cat]
  cases q.isEmpty
  · simp
  · rfl
theorem cut_split (a : List Int) : L.cut L.isEnd a = L.splitL a ∨ L.cut L.isEnd a = L.splitL a ++ [[]] := by
  unfold L.splitL
  obtain ⟨l, q, hq⟩ := L.cut_last L.isEnd a
  rw [hq, L.dropE_cat]
  cases q with
  | nil => exact .inr rfl
  | cons _ _ => exact .inl rfl
theorem wsL_nil : wsL [[]] = [] := rfl
theorem cut_ws (a : List Int) : wsL (L.cut L.isEnd a) = wsL (L.splitL a) ∧ (allG (L.splitL a) → allG (L.cut L.isEnd a)) := by
  rcases cut_split a with e | e
  · rw [e]; exact ⟨rfl, fun h => h⟩
  · rw [e]
    refine ⟨by rw [wsL_app, wsL_nil, List.append_nil], fun h q hq hb => ?_⟩
    rcases List.mem_append.1 hq with hq | hq
    · exact h q hq hb
    · have : q = [] := by simpa using hq
      subst this
      rw [bare_nil] at hb
      cases hb

theorem read_joins {a b : List Int} (ha : (readW a).2.2 = 0) (hb : (readW b).2.2 = 0) :
    ((R.setL ((readW a).1 ++ (readW b).1)).length > 300 ∧ ∃ t : Int, 0 ≤ t ∧ readW (a ++ 10 :: b) = ([], t, 81)) ∨ ((R.setL ((readW a).1 ++ (readW b).1)).length ≤ 300 ∧ readW (a ++ 10 :: b) = (R.setL ((readW a).1 ++ (readW b).1), -1, 0)) := by
  obtain ⟨a1, a2, a3⟩ := readW_ok ha
  obtain ⟨b1, b2, b3⟩ := readW_ok hb
  have hg : allG (L.splitL (a ++ 10 :: b)) := by
    rw [split_cat]
    intro q hq hbq
    rcases List.mem_append.1 hq with hq | hq
    · exact (cut_ws a).2 a1 q hq hbq
    · exact b1 q hq hbq
  have e : (wsL (L.splitL (a ++ 10 :: b))).foldl R.insL [] = R.setL ((readW a).1 ++ (readW b).1) := by
    rw [split_cat, wsL_app, (cut_ws a).1, a3, b3]
    refine R.setL_ext fun z => ?_
    rw [List.mem_append, List.mem_append, R.setL_mem, R.setL_mem]
  unfold readW at *
  rcases goR_good (L.splitL (a ++ 10 :: b)) 0 [] hg (by simp) with ⟨g1, t, g2, _, g3⟩ | ⟨g1, g2⟩
  · rw [e] at g1
    exact .inl ⟨g1, t, g2, g3⟩
  · rw [e] at g1 g2
    exact .inr ⟨g1, g2⟩

end Go.Proofs.YtaefpopjlmhmoaaDoor.V

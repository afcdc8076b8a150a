/-
  Chapter 10, automata, the plain law: what is made may be; how many states there are, final ones, arcs; no program in sight.
  No condition.
-/
import Derived.Test.YtnbfiifkaddehaaTr7
namespace Go.Proofs.Ytnbfiifkaddehaa.V
open Go
set_option linter.unusedVariables false
set_option linter.unusedSimpArgs false

/-! ### It may be -/
theorem anyC_false {i n : Int} : ∀ {l : List Arc} {last : Int}, (∀ a ∈ l, U.goodN a.1 = true ∧ i < a.2.1 ∧ a.2.1 < n ∧ last < a.1) → (l.Pairwise fun a b => a.1 < b.1) → anyC i n last l = false
  | [], _, _, _ => rfl
  | a :: l, last, h1, h2 => by
    obtain ⟨h3, h4⟩ := List.pairwise_cons.1 h2
    obtain ⟨k1, k2, k3, k4⟩ := h1 a (by simp)
    have e : wrongA i n last a = false := by
      unfold wrongA
      rw [decide_eq_false (by omega), k1, decide_eq_false (by omega), decide_eq_false (by omega)]
      rfl
    rw [anyC, e, Bool.false_or]
    refine anyC_false (fun b hb => ?_) h4
    obtain ⟨j1, j2, j3, _⟩ := h1 b (by simp [hb])
    exact ⟨j1, j2, j3, h3 b hb⟩
theorem foldK_len {n : Nat} : ∀ (l K : List (List Int)), (l.foldl (stepK n) K).length ≤ K.length + l.length
  | [], K => by simp
  | w :: l, K => by
    have := foldK_len (n := n) l (stepK n K w)
    have h2 : (stepK n K w).length ≤ K.length + 1 := by
      unfold stepK addP
      split
      · split <;> simp
      · omega
    rw [List.foldl_cons, List.length_cons]
    omega
theorem kFrom_len {l : List (List Int)} : ∀ (m n : Nat) (K : List (List Int)), (kFrom l m n K).length ≤ K.length + m * l.length
  | 0, n, K => by simp [kFrom]
  | m + 1, n, K => by
    have := kFrom_len (l := l) m (n + 1) (l.foldl (stepK n) K)
    have := foldK_len (n := n) l K
    rw [kFrom, Nat.succ_mul]
    omega
theorem Fits.klen {l : List (List Int)} (h : Fits l) : (kL l).length ≤ 6001 := by
  have h1 := kFrom_len (l := l) 20 0 [[]]
  have h2 := h.len
  unfold kL
  rw [List.length_singleton] at h1
  omega

theorem sh_lt {K : List (List Int)} (h : K.Pairwise shL) {i j : Nat} (hi : i < K.length) (hj : j < K.length) (hlt : K[i].length < K[j].length) : i < j := by
  rcases Nat.lt_trichotomy i j with h1 | h1 | h1
  · exact h1
  · subst h1; omega
  · rcases List.pairwise_iff_getElem.1 h j i hj hi h1 with h2 | ⟨h2, _⟩ <;> omega

theorem good_in {l : List (List Int)} (h : Fits l) {q : List Int} (hq : q ∈ kL l) {c : Int} (hc : c ∈ q) : U.goodN c = true := by
  rcases (h.begs.mem q).1 hq with rfl | ⟨w, h1, h2⟩
  · simp at hc
  · exact List.all_eq_true.1 (fitB_good (h.fit w h1)).1 c (h2.subset hc)
theorem goodN_pos {c : Int} (h : U.goodN c = true) : 0 ≤ c := by
  unfold U.goodN at h
  simp only [Bool.and_eq_true, decide_eq_true_eq] at h
  omega

theorem goA_ok {l : List (List Int)} (h : Fits l) {i : Nat} (hi : i < (kL l).length) : ∀ a ∈ goA (kL l) 0 (kL l)[i], U.goodN a.1 = true ∧ (i : Int) < a.2.1 ∧ a.2.1 < ((kL l).length : Int) ∧ (-1 : Int) < a.1 := by
  intro a ha
  obtain ⟨j, hj, k1, k2, rfl⟩ := mem_goA.1 ha
  have e := eq_snoc k1 k2
  have hg := good_in h (List.getElem_mem hj) (c := (kL l)[j].getLastD 0) (by rw [List.getLastD_eq_getLast?, List.getLast?_eq_some_getLast k1]; exact List.getLast_mem k1)
  have hlt := sh_lt h.begs.sh hi hj (by
    have := congrArg List.length e
    rw [List.length_append, List.length_singleton] at this
    omega)
  have := goodN_pos hg
  dsimp only
  exact ⟨hg, by omega, by omega, by omega⟩
theorem anyS_false {n : Int} : ∀ {l : List Sta} {i : Nat}, (∀ j (h : j < l.length), anyC ((i + j : Nat) : Int) n (-1) l[j].2.1 = false) → anyS n i l = false
  | [], _, _ => rfl
  | s :: l, i, h => by
    have h0 := h 0 (by simp)
    rw [anyS, show anyC i n (-1) s.2.1 = false from h0, Bool.false_or, show (i : Int) + 1 = ((i + 1 : Nat) : Int) by omega]
    refine anyS_false fun j hj => ?_
    have := h (j + 1) (by simpa using hj)
    rw [show i + 1 + j = i + (j + 1) by omega]
    exact this
theorem check_auto {l : List (List Int)} (h : Fits l) : checkB (autoL (kL l) l) = true := by
  unfold checkB
  rw [autoL_len, decide_eq_true h.klen, decide_eq_true (List.length_pos_of_mem h.begs.nil), Bool.and_true]
  rw [show anyS ((kL l).length : Int) 0 (autoL (kL l) l) = false from ?_]
  · rfl
  · refine anyS_false (i := 0) fun j hj => ?_
    have hj' : j < (kL l).length := by rw [← autoL_len (kL l) l]; exact hj
    have e : (autoL (kL l) l)[j].2.1 = goA (kL l) 0 (kL l)[j] := by
      simp only [autoL, List.getElem_map, staOf2]
    rw [e, Nat.zero_add]
    exact anyC_false (goA_ok h hj') (goA_rises h.begs.sh)

/-! ### How many there are -/
theorem comL_take : ∀ (a b : List Int), a.take (R.comL a b) = b.take (R.comL a b)
  | [], b => by cases b <;> simp [R.comL]
  | x :: a, [] => by simp [R.comL]
  | x :: a, y :: b => by
    rw [R.comL]
    split
    · rename_i e
      subst e
      rw [List.take_succ_cons, List.take_succ_cons, comL_take a b]
    · simp
theorem comL_max : ∀ {k : Nat} {a b : List Int}, k ≤ a.length → k ≤ b.length → a.take k = b.take k → k ≤ R.comL a b
  | 0, _, _, _, _, _ => Nat.zero_le _
  | k + 1, [], b, h1, _, _ => by simp at h1
  | k + 1, x :: a, [], _, h2, _ => by simp at h2
  | k + 1, x :: a, y :: b, h1, h2, h3 => by
    rw [List.take_succ_cons, List.take_succ_cons, List.cons.injEq] at h3
    have := comL_max (k := k) (a := a) (b := b) (by simpa using h1) (by simpa using h2) h3.2
    rw [R.comL, if_pos h3.1]
    omega
theorem comL_pre {u w : List Int} : R.comL u w = w.length ↔ w <+: u := by
  constructor
  · intro h
    have := comL_take u w
    rw [h, List.take_length] at this
    rw [← this]
    exact List.take_prefix _ _
  · intro h
    have h1 := comL_max (k := w.length) (a := u) (b := w) h.length_le (Nat.le_refl _) (by rw [List.take_length]; exact (List.prefix_iff_eq_take.1 h).symm)
    have := (R.comL_le u w).2
    omega

theorem same_len {a b : List (List Int)} (ha : a.Nodup) (hb : b.Nodup) (h : ∀ x, x ∈ a ↔ x ∈ b) : a.length = b.length := ((List.perm_ext_iff_of_nodup ha hb).2 h).length_eq

/-- A word more: as many beginnings more as it has signs that it shares with none. -/
theorem begs_more {l l' K K' : List (List Int)} (h : Begs l K) (h' : Begs l' K') {w : List Int} (hl : ∀ x, x ∈ l' ↔ x ∈ l ∨ x = w) {m : Nat} (hm1 : ∀ u ∈ l, R.comL u w ≤ m) (hm2 : m = 0 ∨ ∃ u ∈ l, R.comL u w = m) (hmw : m ≤ w.length) :
    K'.length = K.length + (w.length - m) := by
  have hpre : ∀ j, j ≤ w.length → (w.take j ∈ K ↔ j ≤ m) := by
    intro j hj
    rw [h.mem]
    constructor
    · rintro (e | ⟨u, hu, e⟩)
      · have := congrArg List.length e
        rw [List.length_take, List.length_nil] at this
        omega
      · have e2 := e.length_le
        rw [List.length_take] at e2
        have e3 : w.take j = u.take j := by
          have := List.prefix_iff_eq_take.1 e
          rw [List.length_take, Nat.min_eq_left hj] at this
          exact this
        exact Nat.le_trans (comL_max (by omega) hj e3.symm) (hm1 u hu)
    · intro hjm
      rcases hm2 with hm | ⟨u, hu, hm⟩
      · left; rw [show j = 0 by omega, List.take_zero]
      · right
        refine ⟨u, hu, ?_⟩
        have e := comL_take u w
        rw [hm] at e
        have : w.take j = u.take j := by
          have e2 := congrArg (List.take j) e
          rw [List.take_take, List.take_take, Nat.min_eq_left hjm] at e2
          exact e2.symm
        rw [this]
        exact List.take_prefix _ _
  have hnew : ((List.range (w.length - m)).map fun k => w.take (m + 1 + k)).Nodup := by
    unfold List.Nodup
    rw [List.pairwise_map]
    refine List.Pairwise.imp_of_mem (R := fun a b => a ≠ b) (fun {a b} ha hb hab e => ?_) List.nodup_range
    have := congrArg List.length e
    rw [List.length_take, List.length_take] at this
    have ha' := List.mem_range.1 ha
    have hb' := List.mem_range.1 hb
    omega
  have e : K'.length = (K ++ (List.range (w.length - m)).map fun k => w.take (m + 1 + k)).length := by
    refine same_len h'.nod (List.nodup_append.2 ⟨h.nod, hnew, fun a ha b hb hab => ?_⟩) fun x => ?_
    · obtain ⟨k, hk, rfl⟩ := List.mem_map.1 hb
      have hk' := List.mem_range.1 hk
      subst hab
      have := (hpre (m + 1 + k) (by omega)).1 ha
      omega
    · rw [h'.mem, List.mem_append, h.mem]
      constructor
      · rintro (h1 | ⟨u, hu, h1⟩)
        · exact .inl (.inl h1)
        · rcases (hl u).1 hu with hu | rfl
          · exact .inl (.inr ⟨u, hu, h1⟩)
          · have hlen := h1.length_le
            have hx : x = u.take x.length := List.prefix_iff_eq_take.1 h1
            by_cases hxm : x.length ≤ m
            · have := (hpre x.length hlen).2 hxm
              rw [← hx, h.mem] at this
              exact .inl this
            · refine .inr (List.mem_map.2 ⟨x.length - (m + 1), List.mem_range.2 (by omega), ?_⟩)
              rw [show m + 1 + (x.length - (m + 1)) = x.length by omega]
              exact hx.symm
      · rintro ((h1 | ⟨u, hu, h1⟩) | h1)
        · exact .inl h1
        · exact .inr ⟨u, (hl u).2 (.inl hu), h1⟩
        · obtain ⟨k, _, rfl⟩ := List.mem_map.1 h1
          exact .inr ⟨w, (hl w).2 (.inr rfl), List.take_prefix _ _⟩
  rw [e, List.length_append, List.length_map, List.length_range]

theorem rises_nodup {l : List (List Int)} (h : R.Rises l) : l.Nodup := List.Pairwise.imp (fun {a b} hab e => by subst e; rw [R.ltL_irr] at hab; cases hab) h
theorem finals_len {l K : List (List Int)} (h : Begs l K) (hr : R.Rises l) : K.countP (fun p => decide (p ∈ l)) = l.length := by
  rw [List.countP_eq_length_filter]
  refine same_len (h.nod.sublist List.filter_sublist) (rises_nodup hr) fun x => ?_
  rw [List.mem_filter, decide_eq_true_eq, h.mem]
  exact ⟨fun hh => hh.2, fun hh => ⟨.inr ⟨x, hh, List.prefix_refl x⟩, hh⟩⟩

/-- Where all arcs lead. -/
def tosL (l : List Sta) : List Int := l.flatMap fun s => s.2.1.map fun a => a.2.1
theorem goA_to {p : List Int} : ∀ {K : List (List Int)} {k : Nat}, (goA K k p).Pairwise fun a b => a.2.1 < b.2.1
  | [], _ => List.Pairwise.nil
  | q :: r, k => by
    rw [goA]
    split
    · refine List.Pairwise.cons (fun b hb => ?_) goA_to
      obtain ⟨j, hj, k1, k2, rfl⟩ := mem_goA.1 hb
      dsimp only
      omega
    · exact goA_to
theorem tos_nodup {K l : List (List Int)} (hn : K.Nodup) : (tosL (autoL K l)).Nodup := by
  unfold tosL autoL List.Nodup
  rw [List.flatMap_map, List.pairwise_flatMap]
  refine ⟨fun p hp => ?_, ?_⟩
  · unfold staOf2
    rw [List.pairwise_map]
    exact List.Pairwise.imp (fun {a b} h => by omega) (goA_to (p := p) (K := K) (k := 0))
  · refine List.Pairwise.imp_of_mem (R := fun a b => a ≠ b) (fun {p q} hp hq hpq => ?_) hn
    intro x hx y hy e
    subst e
    unfold staOf2 at hx hy
    obtain ⟨a, ha, rfl⟩ := List.mem_map.1 hx
    obtain ⟨b, hb, e⟩ := List.mem_map.1 hy
    obtain ⟨i, hi, h1, h2, rfl⟩ := mem_goA.1 ha
    obtain ⟨j, hj, h3, h4, rfl⟩ := mem_goA.1 hb
    dsimp only at e
    obtain rfl : j = i := by omega
    exact hpq (h2.symm.trans h4)
theorem tos_len {K l : List (List Int)} (h : Begs l K) : (tosL (autoL K l)).length = K.length - 1 := by
  have hpos := List.length_pos_of_mem h.nil
  have h0 : K[0] = [] := by
    have := idx_nil h.sh h.nil h.nod
    have h2 := List.getElem_idxOf (List.idxOf_lt_length_iff.2 h.nil)
    simp only [this] at h2
    exact h2
  have hr : ((List.range (K.length - 1)).map fun k => ((k + 1 : Nat) : Int)).Nodup := by
    unfold List.Nodup
    rw [List.pairwise_map]
    exact List.Pairwise.imp (fun {a b} hab e => hab (by omega)) List.nodup_range
  have e := ((List.perm_ext_iff_of_nodup (tos_nodup (l := l) h.nod) hr).2 fun x => ?_).length_eq
  · rw [e, List.length_map, List.length_range]
  · unfold tosL autoL
    rw [List.flatMap_map, List.mem_flatMap]
    constructor
    · rintro ⟨p, hp, hx⟩
      obtain ⟨a, ha, rfl⟩ := List.mem_map.1 hx
      unfold staOf2 at ha
      obtain ⟨i, hi, h1, h2, rfl⟩ := mem_goA.1 ha
      have hi0 : i ≠ 0 := fun e => by subst e; exact h1 h0
      exact List.mem_map.2 ⟨i - 1, List.mem_range.2 (by omega), by dsimp only; omega⟩
    · intro hx
      obtain ⟨k, hk, rfl⟩ := List.mem_map.1 hx
      have hk' := List.mem_range.1 hk
      have hlt : k + 1 < K.length := by omega
      have hne : K[k + 1] ≠ [] := fun e => by
        have := List.pairwise_iff_getElem.1 h.nod 0 (k + 1) hpos hlt (by omega)
        exact this (h0.trans e.symm)
      refine ⟨K[k + 1].dropLast, h.par _ (List.getElem_mem hlt) hne, List.mem_map.2 ⟨(K[k + 1].getLastD 0, ((0 + (k + 1) : Nat) : Int), ()), mem_goA.2 ⟨k + 1, hlt, hne, rfl, rfl⟩, ?_⟩⟩
      dsimp only
      omega

end Go.Proofs.Ytnbfiifkaddehaa.V

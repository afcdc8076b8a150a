/-
  Chapter 10, automata: the document's beginnings, and its automaton; where a word leads: the functions do what they tell.
  It speaks of the pinned program alone; no condition.
-/
import Derived.Test.YtnbfiifkaddehaaTr10
namespace Go.Proofs.Ytnbfiifkaddehaa.V
open Go
set_option linter.unusedVariables false
set_option linter.unusedSimpArgs false

theorem pos_succ {n : Int} (h : 1 ≤ n) : ∃ m : Nat, n = ((m + 1 : Nat) : Int) := ⟨(n - 1).toNat, by omega⟩
theorem short_at2 {l : List (List Int)} (h : R.shortB l = true) {i : Nat} (hi : i < l.length) : (l.getD i []).length ≤ 1000 := short_at h hi
theorem short_mem {l : List (List Int)} : R.shortB l = true ↔ ∀ w ∈ l, w.length ≤ 1000 := by simp [R.shortB]
theorem getLast_get {l : List (List Int)} : l.getLastD [] = l.getD (l.length - 1) [] := by
  rw [List.getLastD_eq_getLast?, List.getLast?_eq_getElem?, List.getD_eq_getElem?_getD]

theorem loopBgi (l : List (List Int)) (nl : Option Bool) (out : List (List Int)) (m : Nat) (hl : l.length ≤ 300) (hm : m < 20) (hs : R.shortB l = true) : ∀ (d i : Nat) (acc : List (List Int)), l.length - i = d → i ≤ l.length → acc.length ≤ i → R.shortB acc = true →
    LoopTo (Cx Ar.real (Oq1 Ar.real) (Lbg Ar.real)) 100 (loopAt Try.f24 1) 59 [0, 3, 4, 5, 6] [.sl wTy l nl false, .sl wTy out (some false) true, i64x ((m + 1 : Nat) : Int), .sl wTy acc (some acc.isEmpty) true, i64x (i : Int)] []
      (.exit 2, [.sl wTy l nl false, .sl wTy out (some false) true, i64x ((m + 1 : Nat) : Int), .sl wTy ((l.drop i).foldl (stepB m) acc) (some ((l.drop i).foldl (stepB m) acc).isEmpty) true, .dead], []) := by
  intro d
  induction d with
  | zero =>
    intro i acc h1 h2 h3 h4
    rw [List.drop_eq_nil_iff.2 (by omega)]
    refine LoopTo.left (by simp) fun K => ?_
    rw [lBgi, bf (nlti (by omega))]
    exact ⟨_, rfl, R.fk (R.fk (R.fk (R.fk (R.fd (Forget.same _)))))⟩
  | succ d ih =>
    intro i acc h1 h2 h3 h4
    have hi : i < l.length := by omega
    rw [R.dropG [] hi, List.foldl_cons]
    obtain ⟨w, hw⟩ : ∃ w, w = l.getD i [] := ⟨_, rfl⟩
    have hws : w.length ≤ 1000 := by rw [hw]; exact short_at2 hs hi
    have T : ∀ K : Ex → List X → Hp → Option (Ex × List X × Hp), _ := fun K => lBgi Ar.real (Ex × List X × Hp) l nl out ((m + 1 : Nat) : Int) acc acc.isEmpty (i : Int) K
    simp only [Int.toNat_natCast, rw_se, ← hw, R.wi1 (show i ≤ 9000000000000000000 by omega)] at T
    rw [← hw]
    have hnext : ∀ acc', acc'.length ≤ i + 1 → R.shortB acc' = true → (∀ K : Ex → List X → Hp → Option (Ex × List X × Hp), stepF (Cx Ar.real (Oq1 Ar.real) (Lbg Ar.real)) 100 (loopAt Try.f24 1) 59 [0, 3, 4, 5, 6] [.sl wTy l nl false, .sl wTy out (some false) true, i64x ((m + 1 : Nat) : Int), .sl wTy acc (some acc.isEmpty) true, i64x (i : Int)] [] K =
        K .normal [.sl wTy l nl false, .sl wTy out (some false) true, i64x ((m + 1 : Nat) : Int), .sl wTy acc' (some acc'.isEmpty) true, i64x ((i + 1 : Nat) : Int)] []) → stepB m acc w = acc' →
        LoopTo (Cx Ar.real (Oq1 Ar.real) (Lbg Ar.real)) 100 (loopAt Try.f24 1) 59 [0, 3, 4, 5, 6] [.sl wTy l nl false, .sl wTy out (some false) true, i64x ((m + 1 : Nat) : Int), .sl wTy acc (some acc.isEmpty) true, i64x (i : Int)] []
          (.exit 2, [.sl wTy l nl false, .sl wTy out (some false) true, i64x ((m + 1 : Nat) : Int), .sl wTy ((l.drop (i + 1)).foldl (stepB m) (stepB m acc w)) (some ((l.drop (i + 1)).foldl (stepB m) (stepB m acc w)).isEmpty) true, .dead], []) := by
      intro acc' k1 k2 k3 k4
      rw [k4]
      exact LoopTo.next k3 (ih (i + 1) acc' (by omega) (by omega) k1 k2)
    by_cases hn : m < w.length
    · have hge : (decide ((w.length : Int) ≥ ((m + 1 : Nat) : Int)) == true) = true := by rw [decide_eq_true (by omega)]; rfl
      have hcut : decide ((0 : Int) ≤ ((m + 1 : Nat) : Int) ∧ ((m + 1 : Nat) : Int) ≤ (w.length : Int)) = true := by rw [decide_eq_true_eq]; omega
      have happ : decide ((acc.length + [w.take (m + 1)].length) * 24 ≤ 140737488355328) = true := by rw [decide_eq_true_eq, List.length_singleton]; omega
      have hsh : R.shortB (acc ++ [w.take (m + 1)]) = true := by
        rw [short_mem] at h4 ⊢
        intro x hx
        rcases List.mem_append.1 hx with hx | hx
        · exact h4 x hx
        · rw [List.mem_singleton.1 hx, List.length_take]; omega
      have hem : (acc.isEmpty && [w.take (m + 1)].isEmpty) = (acc ++ [w.take (m + 1)]).isEmpty := by cases acc <;> rfl
      have hlen : (acc ++ [w.take (m + 1)]).length ≤ i + 1 := by rw [List.length_append, List.length_singleton]; omega
      by_cases ha : acc = []
      · have ha0 : (((acc.length : Int) == 0) == false) = false := by rw [ha]; rfl
        refine hnext (acc ++ [w.take (m + 1)]) hlen hsh (fun K => ?_) (if_pos ⟨hn, .inl ha⟩)
        rw [T, bt (lti hi), bt (rng hi), bt hge, bf ha0, bt (rng hi), bt hcut, bt happ, hem]
      · have hpos : 0 < acc.length := List.length_pos_iff.2 ha
        have ha0 : (((acc.length : Int) == 0) == false) = true := by
          rw [show ((acc.length : Int) == 0) = false from by rw [beq_eq_false_iff_ne]; omega]; rfl
        have hwk : Ar.real.wrap .i64 ((acc.length : Int) - 1) = ((acc.length - 1 : Nat) : Int) := by rw [rw_wrap, wi64 (by omega) (by omega)]; omega
        have hlast : (acc.getD (acc.length - 1) []).length ≤ 1000 := short_at2 h4 (by omega)
        simp only [hwk, Int.toNat_natCast] at T
        by_cases he : acc.getD (acc.length - 1) [] = w.take (m + 1)
        · refine hnext acc (by omega) h4 (fun K => ?_) (if_neg (fun h => h.2.elim ha fun h => h (by rw [getLast_get]; exact he)))
          rw [T, bt (lti hi), bt (rng hi), bt hge, bt ha0, bt (by rw [decide_eq_true_eq]; omega), bt (rng hi), bt hcut, bt (decide_eq_true (Nat.le_trans hlast (by omega))), bf (by rw [decide_eq_true he]; rfl)]
        · refine hnext (acc ++ [w.take (m + 1)]) hlen hsh (fun K => ?_) (if_pos ⟨hn, .inr (by rw [getLast_get]; exact he)⟩)
          rw [T, bt (lti hi), bt (rng hi), bt hge, bt ha0, bt (by rw [decide_eq_true_eq]; omega), bt (rng hi), bt hcut, bt (decide_eq_true (Nat.le_trans hlast (by omega))), bt (by rw [decide_eq_false he]; rfl), bt (rng hi), bt hcut, bt happ, hem]
    · have hge : (decide ((w.length : Int) ≥ ((m + 1 : Nat) : Int)) == true) = false := by rw [decide_eq_false (by omega)]; rfl
      refine hnext acc (by omega) h4 (fun K => ?_) (if_neg fun h => hn h.1)
      rw [T, bt (lti hi), bt (rng hi), bf hge]

theorem foldB_len {n : Nat} : ∀ (l acc : List (List Int)), (l.foldl (stepB n) acc).length ≤ acc.length + l.length
  | [], acc => by simp
  | w :: l, acc => by
    have := foldB_len (n := n) l (stepB n acc w)
    have h2 : (stepB n acc w).length ≤ acc.length + 1 := by
      unfold stepB
      split <;> simp
    rw [List.foldl_cons, List.length_cons]
    omega

theorem loopBgo (l : List (List Int)) (nl : Option Bool) (hl : l.length ≤ 300) (hs : R.shortB l = true) : ∀ (d m : Nat) (out : List (List Int)), 20 - m = d → m ≤ 20 → out.length ≤ 1 + 300 * m →
    LoopTo (Cx Ar.real (Oq1 Ar.real) (Lbg Ar.real)) 100 (loopAt Try.f24 0) 59 [0, 3, 4] [.sl wTy l nl false, .sl wTy out (some false) true, i64x ((m + 1 : Nat) : Int)] []
      (.exit 0, [.dead, .sl wTy (bFrom l d m out) (some false) true, .dead], []) := by
  intro d
  induction d with
  | zero =>
    intro m out h1 h2 h3
    refine LoopTo.left (by simp) fun K => ?_
    rw [lBgo, bf (by rw [decide_eq_false_iff_not]; omega)]
    exact ⟨_, rfl, R.fd (R.fk (R.fd (Forget.same _)))⟩
  | succ d ih =>
    intro m out h1 h2 h3
    have hb := foldB_len (n := m) l []
    rw [List.length_nil] at hb
    rw [bFrom]
    refine LoopTo.next (fun K => ?_) (ih (m + 1) _ (by omega) (by omega) (by rw [List.length_append]; omega))
    rw [lBgo]
    simp only [rw_se, show Int.toNat 0 = 0 from rfl, List.drop_zero, R.wi1 (show m + 1 ≤ 9000000000000000000 by omega)]
    have e : begI l ((m + 1 : Nat) : Int) [] = l.foldl (stepB m) [] := rfl
    rw [e, bt (by rw [decide_eq_true_eq]; omega), bt (by rw [hs, decide_eq_true (show l.length ≤ 300 ∧ (1 : Int) ≤ ((m + 1 : Nat) : Int) ∧ ((m + 1 : Nat) : Int) ≤ 20 ∧ (0 : Int) ≤ 0 ∧ (0 : Int) ≤ (l.length : Int) ∧ ((0 : Nat) : Int) ≤ 0 from ⟨hl, by omega, by omega, by omega, by omega, by omega⟩)]; rfl), bt (by rw [decide_eq_true_eq]; omega)]
    rfl

theorem beg_ok : OrcOk Try.prog 24 (.pure (begF Ar.real)) := by
  refine pureOk (Cx.ok oq1 (Lbg Ar.real)) mixed 24 Try.f24 (by kernel_rfl) (by kernel_rfl) (by kernel_rfl) 100 2 (by kernel_rfl) (fun i h => ?_) fun args r h => ?_
  · have hi : i = 0 ∨ i = 1 := by omega
    rcases hi with rfl | rfl
    · refine Tells.mk (key := 3) (N := 59) (ks := [0, 3, 4]) (F := LbgoF Ar.real) (by kernel_rfl) rfl fun xs H r h => ?_
      unfold LbgoF at h
      split at h
      · rename_i l nl out n
        obtain ⟨hg, rfl⟩ := Tr.one h
        simp only [rw_se, Bool.and_eq_true, decide_eq_true_eq] at hg ⊢
        dsimp only [Ty.den] at hg
        obtain ⟨⟨h1, h2, h3, h4⟩, h5⟩ := hg
        obtain ⟨m, hm⟩ := pos_succ h2
        subst hm
        have e : begO l ((m + 1 : Nat) : Int) out = bFrom l (20 - m) m out := by
          unfold begO
          rw [show (21 - ((m + 1 : Nat) : Int)).toNat = 20 - m by omega, Int.toNat_natCast, Nat.add_sub_cancel]
        rw [e]
        exact loopBgo l nl h1 h5 _ m out rfl (by omega) (by omega)
      · cases h
    · refine Tells.mk (key := 7) (N := 59) (ks := [0, 3, 4, 5, 6]) (F := LbgiF Ar.real) (by kernel_rfl) rfl fun xs H r h => ?_
      unfold LbgiF at h
      split at h
      · rename_i l nl out n acc x i
        obtain ⟨hg, rfl⟩ := Tr.one h
        simp only [rw_se, Bool.and_eq_true, decide_eq_true_eq, beq_iff_eq] at hg ⊢
        dsimp only [Ty.den] at hg
        obtain ⟨⟨h1, h2, h3, h4, h5, h6⟩, h7, h8, h9⟩ := hg
        obtain ⟨m, hm⟩ := pos_succ h2
        subst hm
        obtain ⟨i, rfl⟩ := Int.eq_ofNat_of_zero_le h4
        subst h7
        simp only [Int.toNat_natCast]
        have e : ∀ l acc, begI l ((m + 1 : Nat) : Int) acc = l.foldl (stepB m) acc := fun _ _ => rfl
        rw [e]
        exact loopBgi l nl out m h1 (by omega) h8 _ i acc rfl (by omega) (by omega) h9
      · cases h
  · unfold begF at h
    split at h
    · rename_i l nl
      obtain ⟨hg, rfl⟩ := Tr.one h
      refine ⟨rfl, rfl, [], ?_⟩
      rw [tBg]
      simp only [rw_se, Bool.and_eq_true, decide_eq_true_eq] at hg ⊢
      rw [bt (by rw [hg.2, Bool.and_true, decide_eq_true_eq]; exact ⟨hg.1, by omega, by omega, by simp⟩)]
    · cases h

theorem oq3 : OOk (Oq3 Ar.real) := oq2.add beg_ok

/-! ### The document's automaton -/
theorem goA_take {B : List (List Int)} {k : Nat} {p : List Int} (hk : k < B.length) : goA (B.take (k + 1)) 0 p = if (B.getD k []) ≠ [] ∧ (B.getD k []).dropLast = p then goA (B.take k) 0 p ++ [((B.getD k []).getLastD 0, (k : Int), ())] else goA (B.take k) 0 p := by
  have e : B.take (k + 1) = B.take k ++ [B.getD k []] := by
    rw [List.take_add_one, List.getElem?_eq_getElem hk, List.getD_eq_getElem?_getD, List.getElem?_eq_getElem hk]; rfl
  rw [e, goA_append, List.length_take, Nat.min_eq_left (by omega), Nat.zero_add]
  simp only [goA]
  by_cases h : B.getD k [] ≠ [] ∧ (B.getD k []).dropLast = p
  · rw [if_pos h, if_pos h]
  · rw [if_neg h, if_neg h, List.append_nil]

theorem last_get (q : List Int) : q.getLastD 0 = q.getD (q.length - 1) 0 := by
  rw [List.getLastD_eq_getLast?, List.getLast?_eq_getElem?, List.getD_eq_getElem?_getD]

theorem loopRmi (l : List (List Int)) (nl : Option Bool) (B : List (List Int)) (nb : Option Bool) (out : List Sta) (x : Bool) (i : Nat) (f : Bool) (hB : B.length ≤ 10000) (hi : i < B.length) (hs : R.shortB B = true) : ∀ (d k : Nat) (arcs : List Arc), B.length - k = d → k ≤ B.length → arcs = goA (B.take k) 0 (B.getD i []) → arcs.length ≤ k →
    LoopTo (Crm Ar.real) 100 (loopAt Try.f11 1) 88 [0, 6, 7, 8, 9, 10] [.sl wTy l nl false, .sl wTy B nb false, .sl staT out (some x) true, i64x (i : Int), .ptr 0 [], i64x (k : Int)] [(staT, .agg [boolx f, .sl arcT arcs (some arcs.isEmpty) true])]
      (.exit 2, [.sl wTy l nl false, .sl wTy B nb false, .sl staT out (some x) true, i64x (i : Int), .ptr 0 [], .dead], [(staT, .agg [boolx f, .sl arcT (goA B 0 (B.getD i [])) (some (goA B 0 (B.getD i [])).isEmpty) true])]) := by
  intro d
  induction d with
  | zero =>
    intro k arcs h1 h2 h3 h4
    have e : arcs = goA B 0 (B.getD i []) := by rw [h3, List.take_of_length_le (by omega)]
    rw [← e]
    refine LoopTo.left (by simp) fun K => ?_
    rw [lRmi, bf (nlti (by omega))]
    exact ⟨_, rfl, R.fk (R.fk (R.fk (R.fk (R.fk (R.fd (Forget.same _))))))⟩
  | succ d ih =>
    intro k arcs h1 h2 h3 h4
    have hk : k < B.length := by omega
    have hq := short_at2 hs hk
    have hp := short_at2 hs hi
    have T : ∀ K : Ex → List X → Hp → Option (Ex × List X × Hp), _ := fun K => lRmi Ar.real (Ex × List X × Hp) l nl B nb out x (i : Int) (k : Int) f arcs arcs.isEmpty K
    have hw1 : Ar.real.wrap .i64 (((B.getD i []).length : Int) + 1) = (((B.getD i []).length + 1 : Nat) : Int) := R.wi1 (by omega)
    simp only [Int.toNat_natCast, rw_se, R.wi1 (show k ≤ 9000000000000000000 by omega), hw1] at T
    have hT := goA_take (p := B.getD i []) hk
    -- the next round
    have hno : ¬ (B.getD k [] ≠ [] ∧ (B.getD k []).dropLast = B.getD i []) → (∀ K : Ex → List X → Hp → Option (Ex × List X × Hp), stepF (Crm Ar.real) 100 (loopAt Try.f11 1) 88 [0, 6, 7, 8, 9, 10] [.sl wTy l nl false, .sl wTy B nb false, .sl staT out (some x) true, i64x (i : Int), .ptr 0 [], i64x (k : Int)] [(staT, .agg [boolx f, .sl arcT arcs (some arcs.isEmpty) true])] K =
        K .normal [.sl wTy l nl false, .sl wTy B nb false, .sl staT out (some x) true, i64x (i : Int), .ptr 0 [], i64x ((k + 1 : Nat) : Int)] [(staT, .agg [boolx f, .sl arcT arcs (some arcs.isEmpty) true])]) →
        LoopTo (Crm Ar.real) 100 (loopAt Try.f11 1) 88 [0, 6, 7, 8, 9, 10] [.sl wTy l nl false, .sl wTy B nb false, .sl staT out (some x) true, i64x (i : Int), .ptr 0 [], i64x (k : Int)] [(staT, .agg [boolx f, .sl arcT arcs (some arcs.isEmpty) true])]
      (.exit 2, [.sl wTy l nl false, .sl wTy B nb false, .sl staT out (some x) true, i64x (i : Int), .ptr 0 [], .dead], [(staT, .agg [boolx f, .sl arcT (goA B 0 (B.getD i [])) (some (goA B 0 (B.getD i [])).isEmpty) true])]) := by
      intro hc hK
      rw [if_neg hc, ← h3] at hT
      exact LoopTo.next hK (ih (k + 1) arcs (by omega) (by omega) hT.symm (by omega))
    by_cases hc1 : (B.getD k []).length = (B.getD i []).length + 1
    · have hne : B.getD k [] ≠ [] := fun e => by rw [e] at hc1; simp at hc1
      have hwk : Ar.real.wrap .i64 (((B.getD k []).length : Int) - 1) = (((B.getD k []).length - 1 : Nat) : Int) := by rw [rw_wrap, wi64 (by omega) (by omega)]; omega
      simp only [hwk, Int.toNat_natCast] at T
      have e1 : ((((B.getD k []).length : Int) == (((B.getD i []).length + 1 : Nat) : Int)) == true) = true := by
        rw [show (((B.getD k []).length : Int) == (((B.getD i []).length + 1 : Nat) : Int)) = true from by rw [beq_iff_eq]; omega]; rfl
      have ht : (List.take ((B.getD k []).length - 1) (B.getD k [])).length ≤ 1000000 := by rw [List.length_take]; omega
      by_cases hc2 : List.take ((B.getD k []).length - 1) (B.getD k []) = B.getD i []
      · rw [if_pos ⟨hne, by rw [List.dropLast_eq_take]; exact hc2⟩, ← h3] at hT
        rw [last_get] at hT
        have hem : (arcs.isEmpty && [((B.getD k []).getD ((B.getD k []).length - 1) 0, (k : Int), ())].isEmpty) = (arcs ++ [((B.getD k []).getD ((B.getD k []).length - 1) 0, (k : Int), ())]).isEmpty := by cases arcs <;> rfl
        refine LoopTo.next (fun K => ?_) (ih (k + 1) (arcs ++ [((B.getD k []).getD ((B.getD k []).length - 1) 0, (k : Int), ())]) (by omega) (by omega) hT.symm (by rw [List.length_append, List.length_singleton]; omega))
        rw [T, bt (lti hk), bt (rng hk), bt (rng hi), bt e1, bt (rng hk), bt (by rw [decide_eq_true_eq]; omega), bt (rng hi), bt (decide_eq_true ht), bt (decide_eq_true hc2), bt (rng hk), bt (by rw [decide_eq_true_eq]; omega), bt (by rw [decide_eq_true_eq, List.length_singleton]; omega), ← hem]
      · refine hno (fun h => hc2 (by rw [← List.dropLast_eq_take]; exact h.2)) fun K => ?_
        rw [T, bt (lti hk), bt (rng hk), bt (rng hi), bt e1, bt (rng hk), bt (by rw [decide_eq_true_eq]; omega), bt (rng hi), bt (decide_eq_true ht), bf (decide_eq_false hc2)]
    · have e1 : ((((B.getD k []).length : Int) == (((B.getD i []).length + 1 : Nat) : Int)) == true) = false := by
        rw [show (((B.getD k []).length : Int) == (((B.getD i []).length + 1 : Nat) : Int)) = false from by rw [beq_eq_false_iff_ne]; omega]; rfl
      refine hno (fun h => hc1 ?_) fun K => ?_
      · have := congrArg List.length h.2
        rw [List.length_dropLast] at this
        have hpos : 0 < (B.getD k []).length := List.length_pos_iff.2 h.1
        omega
      · rw [T, bt (lti hk), bt (rng hk), bt (rng hi), bf e1]

theorem goA_le : ∀ (B : List (List Int)) (k : Nat) (p : List Int), (goA B k p).length ≤ B.length
  | [], _, _ => by simp [goA]
  | q :: r, k, p => by
    have := goA_le r (k + 1) p
    rw [goA]
    split <;> simp <;> omega

theorem loopRmo (l : List (List Int)) (nl : Option Bool) (B : List (List Int)) (nb : Option Bool) (hl : l.length ≤ 300) (hB : B.length ≤ 10000) (hsl : R.shortB l = true) (hs : R.shortB B = true) : ∀ (d i : Nat) (out : List Sta), B.length - i = d → i ≤ B.length → out = (B.take i).map (staOf2 B l) →
    LoopTo (Crm Ar.real) 100 (loopAt Try.f11 0) 88 [0, 6, 7, 8] [.sl wTy l nl false, .sl wTy B nb false, .sl staT out (some out.isEmpty) true, i64x (i : Int)] []
      (.exit 0, [.dead, .dead, .sl staT (autoN l B) (some (autoN l B).isEmpty) true, .dead], []) := by
  intro d
  induction d with
  | zero =>
    intro i out h1 h2 h3
    have e : out = autoN l B := by rw [h3, List.take_of_length_le (by omega)]; rfl
    rw [← e]
    refine LoopTo.left (by simp) fun K => ?_
    rw [lRmo, bf (nlti (by omega))]
    exact ⟨_, rfl, R.fd (R.fd (R.fk (R.fd (Forget.same _))))⟩
  | succ d ih =>
    intro i out h1 h2 h3
    have hi : i < B.length := by omega
    have hp := short_at2 hs hi
    have hol : out.length = i := by rw [h3, List.length_map, List.length_take]; omega
    have T : ∀ K : Ex → List X → Hp → Option (Ex × List X × Hp), _ := fun K => lRmo Ar.real (Ex × List X × Hp) l nl B nb out out.isEmpty (i : Int) K
    simp only [Int.toNat_natCast, rw_se, show Int.toNat 0 = 0 from rfl, List.take_zero, show ∀ p, goA [] 0 p = [] from fun _ => rfl, R.wi1 (show i ≤ 9000000000000000000 by omega)] at T
    have hout : out ++ [(decide (B.getD i [] ∈ l), goA B 0 (B.getD i []), ())] = (B.take (i + 1)).map (staOf2 B l) := by
      rw [h3, List.take_add_one, List.getElem?_eq_getElem hi, List.map_append, List.getD_eq_getElem?_getD, List.getElem?_eq_getElem hi]; rfl
    have hem : (out.isEmpty && [(decide (B.getD i [] ∈ l), goA B 0 (B.getD i []), ())].isEmpty) = (out ++ [(decide (B.getD i [] ∈ l), goA B 0 (B.getD i []), ())]).isEmpty := by cases out <;> rfl
    refine LoopTo.weak (H1 := [(staT, .agg [boolx (decide (B.getD i [] ∈ l)), .sl arcT (goA B 0 (B.getD i [])) (some (goA B 0 (B.getD i [])).isEmpty) true])]) (fun K => ?_) (Forget.same _) (HWeak.of (H' := []) trivial rfl) (by simp) (.inr rfl) (ih (i + 1) _ (by omega) (by omega) hout)
    · rw [T, bt (lti hi), bt (rng hi), bt (by rw [hsl, Bool.and_true, decide_eq_true_eq]; exact ⟨by omega, by omega⟩), bt (by
        rw [hs, Bool.and_eq_true, decide_eq_true_eq]
        exact ⟨⟨hB, by omega, by omega, by omega, by omega, trivial⟩, rfl⟩), bt (by rw [decide_eq_true_eq, List.length_singleton]; omega), ← hem]

theorem rmake_ok : OrcOk Try.prog 11 (.pure (rmakeF Ar.real)) := by
  refine pureOk (CxF.ok oq3 (Lrm Ar.real) Mrm noJ farRm) mixed 11 Try.f11 (by kernel_rfl) (by kernel_rfl) (by kernel_rfl) 100 2 (by kernel_rfl) (fun i h => ?_) fun args r h => ?_
  · have hi : i = 0 ∨ i = 1 := by omega
    rcases hi with rfl | rfl
    · refine Tells.mk (key := 7) (N := 88) (ks := [0, 6, 7, 8]) (F := LrmoF Ar.real) (by kernel_rfl) rfl fun xs H r h => ?_
      unfold LrmoF at h
      split at h
      · rename_i l nl B nb out x i
        obtain ⟨hg, rfl⟩ := Tr.one h
        simp only [rw_se, Bool.and_eq_true, decide_eq_true_eq, beq_iff_eq] at hg ⊢
        dsimp only [Ty.den] at hg
        obtain ⟨⟨h1, h2, h3, h4, h5⟩, h6, h7, h8⟩ := hg
        obtain ⟨i, rfl⟩ := Int.eq_ofNat_of_zero_le h3
        subst h6
        rw [Int.toNat_natCast] at h5
        exact loopRmo l nl B nb h1 h2 h7 h8 _ i out rfl (by omega) h5
      · cases h
    · refine Tells.mk (key := 11) (N := 88) (ks := [0, 6, 7, 8, 9, 10]) (F := LrmiF Ar.real) (by kernel_rfl) rfl fun xs H r h => ?_
      unfold LrmiF at h
      split at h
      · rename_i l nl B nb out x i k t0 f arcs y
        split at h
        · rename_i ht
          subst ht
          obtain ⟨hg, rfl⟩ := Tr.one h
          simp only [rw_se, Bool.and_eq_true, decide_eq_true_eq, beq_iff_eq] at hg ⊢
          dsimp only [Ty.den] at hg
          obtain ⟨⟨h1, h2, h3, h4, h5, h6⟩, h7, h8⟩ := hg
          obtain ⟨i, rfl⟩ := Int.eq_ofNat_of_zero_le h2
          obtain ⟨k, rfl⟩ := Int.eq_ofNat_of_zero_le h4
          subst h7
          rw [Int.toNat_natCast, Int.toNat_natCast] at h6
          simp only [Int.toNat_natCast]
          have hle := goA_le (B.take k) 0 (B.getD i [])
          rw [List.length_take] at hle
          exact loopRmi l nl B nb out x i f h1 (by omega) h8 _ k arcs rfl (by omega) h6 (by rw [h6]; omega)
        · cases h
      · cases h
  · unfold rmakeF at h
    split at h
    · rename_i l nl
      obtain ⟨hg, rfl⟩ := R.Tr.two h
      simp only [rw_se, Bool.and_eq_true, decide_eq_true_eq] at hg ⊢
      have T := tRm Ar.real l nl
      simp only [rw_se, show Int.toNat 0 = 0 from rfl, List.take_zero, List.map_nil] at T
      have hg1 : ∀ n, 300 ≤ n → (decide (l.length ≤ n) && R.shortB l) = true := fun n hn => by rw [hg.2, Bool.and_true, decide_eq_true_eq]; omega
      by_cases e : (writeW l).2 = 0
      · refine ⟨rfl, by rw [decide_eq_true e]; rfl, [], ?_⟩
        have hf := Fits.of e
        have hbeg : begO l 1 [[]] = kL l := bFrom_eq hf.ris 20 0 [[]] (fun q hq => by rw [List.mem_singleton.1 hq]; simp) (List.pairwise_singleton _ _)
        have hkl := hf.klen
        have hsh : R.shortB (begO l 1 [[]]) = true := by
          rw [hbeg, short_mem]
          intro p hp
          rcases (hf.begs.mem p).1 hp with rfl | ⟨w, hw, hpw⟩
          · simp
          · have := hpw.length_le
            have := (hf.short w hw).2
            omega
        rw [T, bt (hg1 _ (by omega)), bf (by rw [bne_eq_false_iff_eq]; exact e), bt (hg1 _ (by omega)), bt (by
          rw [hg.2, hsh, Bool.and_eq_true, decide_eq_true_eq]
          exact ⟨⟨hg.1, by rw [hbeg]; omega, by omega, by omega, trivial⟩, rfl⟩), decide_eq_true e]
        rfl
      · refine ⟨rfl, by rw [decide_eq_false e]; rfl, [], ?_⟩
        rw [T, bt (hg1 _ (by omega)), bt (by rw [bne_iff_ne]; exact e), decide_eq_false e]
        rfl
    · cases h

/-! ### Where a word leads -/
theorem walkO_L (l : List Sta) : ∀ (w : List Int) (a : Int), walkL l a w = match walkO l a w with | some b => (b, decide (l.length > 0)) | none => (0, false)
  | [], a => rfl
  | c :: w, a => by
    rw [walkL, walkO]
    cases (stepA l a c).2 with
    | true => rw [cond_true, cond_true]; exact walkO_L l w _
    | false => rfl

theorem loopWk (l : List Sta) (nl : Option Bool) (w : List Int) (nw : Option Bool) (z : Int) (z2 : Bool) (hl : l.length ≤ 1000000) (hw : w.length ≤ 1000000) (hs : shortS l = true) : ∀ (d i : Nat) (a : Int), w.length - i = d → i ≤ w.length →
    LoopTo (Cx Ar.real (Oq2 Ar.real) (Lwk Ar.real)) 100 (loopAt Try.f18 0) 33 [0, 1, 4, 5, 6, 7] [.sl staT l nl false, i64s w nw false, i64x z, boolx z2, i64x a, i64x (i : Int)] []
      (bif (walkO l a (w.drop i)).isSome then (.exit 0, [.sl staT l nl false, .dead, .dead, .dead, i64x ((walkO l a (w.drop i)).getD 0), .dead], []) else (.ret, [.dead, .dead, i64x 0, boolx false, .dead, .dead], [])) := by
  intro d
  induction d with
  | zero =>
    intro i a h1 h2
    rw [List.drop_eq_nil_iff.2 (by omega)]
    refine LoopTo.left (by simp) fun K => ?_
    rw [lWk, bf (nlti (by omega))]
    exact ⟨_, rfl, R.fk (R.fd (R.fd (R.fd (R.fk (R.fd (Forget.same _))))))⟩
  | succ d ih =>
    intro i a h1 h2
    have hi : i < w.length := by omega
    have T : ∀ K : Ex → List X → Hp → Option (Ex × List X × Hp), _ := fun K => lWk Ar.real (Ex × List X × Hp) l nl w nw z z2 a (i : Int) K
    simp only [Int.toNat_natCast, rw_se, R.wi1 (show i ≤ 9000000000000000000 by omega)] at T
    have hg : (decide (l.length ≤ 1000000) && shortS l) = true := by rw [hs, Bool.and_true, decide_eq_true_eq]; exact hl
    rw [R.dropG (0 : Int) hi, walkO]
    cases hc : (stepA l a (w.getD i 0)).2 with
    | true =>
      rw [cond_true]
      refine LoopTo.next (fun K => ?_) (ih (i + 1) _ (by omega) (by omega))
      rw [T, bt (lti hi), bt (rng hi), bt hg, bf (by rw [hc]; rfl)]
    | false =>
      rw [cond_false]
      refine LoopTo.left (by simp) fun K => ?_
      rw [T, bt (lti hi), bt (rng hi), bt hg, bt (by rw [hc]; rfl)]
      exact ⟨_, rfl, R.fd (R.fd (R.fk (R.fk (R.fd (R.fd (Forget.same _))))))⟩

theorem walk_ok : OrcOk Try.prog 18 (.pure (walkF Ar.real)) := by
  refine pureOk (Cx.ok oq2 (Lwk Ar.real)) mixed 18 Try.f18 (by kernel_rfl) (by kernel_rfl) (by kernel_rfl) 100 1 (by kernel_rfl) (fun i h => ?_) fun args r h => ?_
  · obtain rfl : i = 0 := by omega
    refine Tells.mk (key := 3) (N := 33) (ks := [0, 1, 4, 5, 6, 7]) (F := LwkF Ar.real) (by kernel_rfl) rfl fun xs H r h => ?_
    unfold LwkF at h
    split at h
    · rename_i x w nw z z2 a i
      split at h
      · rename_i q hq
        cases staOf_eq hq
        obtain ⟨hg, rfl⟩ := R.Tr.two h
        simp only [rw_se, Bool.and_eq_true, decide_eq_true_eq] at hg ⊢
        dsimp only [Ty.den] at hg
        obtain ⟨⟨h1, h2, h3, h4⟩, h5⟩ := hg
        obtain ⟨i, rfl⟩ := Int.eq_ofNat_of_zero_le h3
        simp only [Int.toNat_natCast]
        exact loopWk q.1 q.2 w nw z z2 h1 h2 h5 _ i a rfl (by omega)
      · cases h
    · cases h
  · unfold walkF at h
    split at h
    · rename_i x w nw
      split at h
      · rename_i q hq
        cases staOf_eq hq
        obtain ⟨l, nl⟩ := q
        obtain ⟨hg, rfl⟩ := Tr.one h
        refine ⟨rfl, rfl, [], ?_⟩
        rw [tWk]
        simp only [rw_se, Bool.and_eq_true, decide_eq_true_eq, show Int.toNat 0 = 0 from rfl, List.drop_zero] at hg ⊢
        rw [bt (by rw [hg.2, Bool.and_true, decide_eq_true_eq]; exact ⟨hg.1.1, hg.1.2, by omega, by omega⟩), walkO_L]
        cases hw : walkO l 0 w with
        | none => rfl
        | some b =>
          rw [bt (c := (some b).isSome) rfl]
          have e : decide ((l.length : Int) > 0) = decide (l.length > 0) := by
            by_cases h : l.length > 0
            · rw [decide_eq_true h, decide_eq_true (by omega)]
            · rw [decide_eq_false h, decide_eq_false (by omega)]
          rw [e]; rfl
      · cases h
    · cases h

end Go.Proofs.Ytnbfiifkaddehaa.V

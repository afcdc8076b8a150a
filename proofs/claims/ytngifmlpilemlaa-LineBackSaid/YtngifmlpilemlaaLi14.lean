/-
  Chapter 04, lines: the statements' loops do what they tell: LineFields.
  It speaks of the pinned program alone; no condition.
-/
import Derived.Test.YtngifmlpilemlaaLi13
namespace Go.Proofs.Ytngifmlpilemlaa.V
open Go
set_option linter.unusedVariables false
set_option linter.unusedSimpArgs false

abbrev CFl : Ctx := Cx Ar.real (Ol9 Ar.real) (Llf Ar.real)

theorem loopLfScan {l : List (List Int)} {i : Nat} (hi : i < l.length) (hll : l.length ≤ 100) (hq : (l.getD i []).length ≤ 100) (nl : Option Bool) (b : List Int) (nl2 : Option Bool) (z u : Bool) (al : List Int) (x : Bool) : ∀ (n j : Nat), (l.getD i []).length - j = n → j ≤ (l.getD i []).length →
    LoopTo CFl 100 (loopAt Try.f4 1) 121 [0, 1, 4, 5, 6, 7, 8] [sss l nl false, u8s b nl2 false, boolx z, boolx u, u8s al (some x) true, i64x i, i64x j] []
      (bif noBl ((l.getD i []).drop j) then (.exit 2, [sss l nl false, u8s b nl2 false, boolx z, boolx u, u8s al (some x) true, i64x i, .dead], []) else (.ret, [sss l nl false, u8s b nl2 false, boolx u, boolx u, .dead, .dead, .dead], [])) := by
  intro n
  induction n with
  | zero =>
    intro j h1 h2
    obtain rfl : j = (l.getD i []).length := by omega
    rw [List.drop_length, bt (show noBl [] = true from rfl)]
    refine LoopTo.left (by simp) fun k => ⟨[sss l nl false, u8s b nl2 false, boolx z, boolx u, u8s al (some x) true, i64x i, i64x (l.getD i []).length], ?_, ?_⟩
    · rw [lfScan, bt (decide_eq_true (by omega)), Int.toNat_natCast, zero_sT, bf (decide_eq_false (by omega))]
    · repeat' first | exact Forget.same _ | refine Forget.cons (.inl rfl) ?_ | refine Forget.cons (.inr rfl) ?_
  | succ n ih =>
    intro j h1 h2
    have hj : j < (l.getD i []).length := by omega
    rw [noBl_drop hj]
    have key : ∀ (k : Ex → List X → Hp → Option (Ex × List X × Hp)), stepF CFl 100 (loopAt Try.f4 1) 121 [0, 1, 4, 5, 6, 7, 8] [sss l nl false, u8s b nl2 false, boolx z, boolx u, u8s al (some x) true, i64x i, i64x j] [] k =
        bif isBl ((l.getD i []).getD j 0) then k .ret [sss l nl false, u8s b nl2 false, boolx u, boolx u, u8s al (some x) true, i64x i, i64x j] []
        else k .normal [sss l nl false, u8s b nl2 false, boolx z, boolx u, u8s al (some x) true, i64x i, i64x ((j + 1 : Nat) : Int)] [] := by
      intro k
      rw [lfScan, bt (decide_eq_true (by omega)), Int.toNat_natCast, zero_sT, bt (decide_eq_true (by omega)), bt (decide_eq_true (by omega)), bt (decide_eq_true (by omega)), Int.toNat_natCast, wnext (by omega)]
      unfold isBl
      cases h1 : (l.getD i []).getD j 0 == 32
      · rw [bt (c := false == false) rfl, bt (decide_eq_true (by omega)), bt (decide_eq_true (by omega))]
        rfl
      · rfl
    cases he : isBl ((l.getD i []).getD j 0) with
    | true =>
      rw [bf (by rfl)]
      refine LoopTo.left (by simp) fun k => ⟨_, by rw [key, he]; rfl, ?_⟩
      repeat' first | exact Forget.same _ | refine Forget.cons (.inl rfl) ?_ | refine Forget.cons (.inr rfl) ?_
    | false =>
      rw [Bool.not_false, Bool.true_and]
      exact LoopTo.next (fun k => by rw [key, he]; rfl) (ih (j + 1) (by omega) (by omega))

theorem tabN_le {b : List Int} (hb : bytesB b = true) (i : Nat) : tabN b i ≤ 2 := by
  unfold tabN
  split
  · omega
  · omega

theorem loopLfTabs {b : List Int} (hb : bytesB b = true) {i : Nat} (hi : i ≤ 100) (l : List (List Int)) (nl : Option Bool) (nl2 : Option Bool) (z u : Bool) : ∀ (n j : Nat) (al : List Int) (x : Bool), tabN b i - j = n → j ≤ tabN b i → al.length + (tabN b i - j) ≤ 200000 →
    LoopTo CFl 100 (loopAt Try.f4 2) 121 [0, 1, 4, 5, 6, 7, 9] [sss l nl false, u8s b nl2 false, boolx z, boolx u, u8s al (some x) true, i64x i, i64x j] []
      (.exit 4, [sss l nl false, u8s b nl2 false, boolx z, boolx u, u8s (al ++ List.replicate (tabN b i - j) 9) (some (x && decide (tabN b i ≤ j))) true, i64x i, .dead], []) := by
  have h2 := tabN_le hb i
  intro n
  induction n with
  | zero =>
    intro j al x h1 h3 h4
    obtain rfl : j = tabN b i := by omega
    refine LoopTo.left (by simp) fun k => ⟨[sss l nl false, u8s b nl2 false, boolx z, boolx u, u8s al (some x) true, i64x i, i64x (tabN b i)], ?_, ?_⟩
    · rw [lfTabs]
      by_cases hib : i < b.length
      · rw [bt (by rw [decide_eq_true (by omega)]; rfl), bt (decide_eq_true (by omega)), Int.toNat_natCast]
        have hbi := byte_at hb hib
        have e : tabN b i = (b.getD i 0 % 3).toNat := by unfold tabN; rw [if_pos hib]
        have w : Ar.real.wrap .i64 (Int.tmod (b.getD i 0) 3) = (tabN b i : Int) := by
          rw [Int.tmod_eq_emod_of_nonneg hbi.1, rw_wrap, wi64 (by omega) (by omega), e]
          omega
        rw [w, bf (decide_eq_false (by omega))]
      · rw [bf (by rw [decide_eq_false (by omega)]; rfl)]
    · rw [Nat.sub_self, List.replicate_zero, List.append_nil, decide_eq_true (Nat.le_refl _), Bool.and_true]
      repeat' first | exact Forget.same _ | refine Forget.cons (.inl rfl) ?_ | refine Forget.cons (.inr rfl) ?_
  | succ n ih =>
    intro j al x h1 h3 h4
    have hib : i < b.length := by
      apply Classical.byContradiction
      intro hn
      unfold tabN at h1
      rw [if_neg hn] at h1
      omega
    have hbi := byte_at hb hib
    have e : tabN b i = (b.getD i 0 % 3).toNat := by unfold tabN; rw [if_pos hib]
    have w : Ar.real.wrap .i64 (Int.tmod (b.getD i 0) 3) = (tabN b i : Int) := by
      rw [Int.tmod_eq_emod_of_nonneg hbi.1, rw_wrap, wi64 (by omega) (by omega), e]
      omega
    have := ih (j + 1) (al ++ [9]) (x && false) (by omega) (by omega) (by rw [List.length_append, List.length_singleton]; omega)
    have e1 : al ++ [9] ++ List.replicate (tabN b i - (j + 1)) 9 = al ++ List.replicate (tabN b i - j) 9 := by
      rw [show tabN b i - j = (tabN b i - (j + 1)) + 1 from by omega, List.replicate_succ, List.append_assoc]
      rfl
    have e2 : (x && false && decide (tabN b i ≤ j + 1)) = (x && decide (tabN b i ≤ j)) := by
      rw [decide_eq_false (show ¬ tabN b i ≤ j by omega), Bool.and_false, Bool.false_and]
    rw [e1, e2] at this
    refine LoopTo.next (fun k => ?_) this
    rw [lfTabs, bt (by rw [decide_eq_true (by omega)]; rfl), bt (decide_eq_true (by omega)), Int.toNat_natCast, w, bt (decide_eq_true (by omega)), bt (decide_eq_true (by rw [List.length_singleton]; omega)), wnext (by omega)]
    rfl

theorem loopLfLine {l : List (List Int)} (hll : l.length ≤ 100) (nl : Option Bool) {b : List Int} (hb : bytesB b = true) (nl2 : Option Bool) (z u : Bool) : ∀ (n i : Nat) (al : List Int) (x : Bool), l.length - i = n → i ≤ l.length → al.length ≤ 104 * i →
    LoopTo CFl 100 (loopAt Try.f4 0) 121 [0, 1, 4, 5, 6, 7] [sss l nl false, u8s b nl2 false, boolx z, boolx u, u8s al (some x) true, i64x i] []
      (bif (l.drop i).all goodB then (.exit 0, [sss l nl false, u8s b nl2 false, boolx z, boolx u, u8s (al ++ joinF b i (l.drop i)) (some (x && (l.drop i).isEmpty)) true, .dead], []) else (.ret, [sss l nl false, u8s b nl2 false, boolx u, boolx u, .dead, .dead], [])) := by
  intro n
  induction n with
  | zero =>
    intro i al x h1 h2 h3
    obtain rfl : i = l.length := by omega
    rw [List.drop_length, bt (show List.all [] goodB = true from rfl)]
    refine LoopTo.left (by simp) fun k => ⟨[sss l nl false, u8s b nl2 false, boolx z, boolx u, u8s al (some x) true, i64x l.length], ?_, ?_⟩
    · rw [lfLine, bf (decide_eq_false (by omega))]
    · rw [show al ++ joinF b l.length [] = al from List.append_nil al, show (x && List.isEmpty ([] : List (List Int))) = x from Bool.and_true x]
      repeat' first | exact Forget.same _ | refine Forget.cons (.inl rfl) ?_ | refine Forget.cons (.inr rfl) ?_
  | succ n ih =>
    intro i al x h1 h2 h3
    have hi : i < l.length := by omega
    have ht := tabN_le hb i
    rw [drop_cons' [] hi, List.all_cons]
    cases hq0 : (l.getD i []).isEmpty with
    | true =>
      have hg : goodB (l.getD i []) = false := by
        unfold goodB
        rw [hq0]
        rfl
      rw [hg, Bool.false_and, bf rfl]
      refine LoopTo.left (by simp) fun k => ⟨[sss l nl false, u8s b nl2 false, boolx u, boolx u, u8s al (some x) true, i64x i], ?_, ?_⟩
      · rw [lfLine, bt (decide_eq_true (by omega)), bt (decide_eq_true (by omega)), Int.toNat_natCast, zero_sT, len_zero, hq0]
        rfl
      · repeat' first | exact Forget.same _ | refine Forget.cons (.inl rfl) ?_ | refine Forget.cons (.inr rfl) ?_
    | false =>
      by_cases hq : (l.getD i []).length ≤ 100
      · cases he : noBl (l.getD i []) with
        | true =>
          have hg : goodB (l.getD i []) = true := by
            unfold goodB
            rw [hq0, he, decide_eq_true hq]
            rfl
          rw [hg, Bool.true_and]
          have ex : (x && decide (tabN b i ≤ 0) && (l.getD i []).isEmpty && false) = (x && false) := by
            cases x <;> cases decide (tabN b i ≤ 0) <;> cases (l.getD i []).isEmpty <;> rfl
          refine LoopTo.next (xs' := [sss l nl false, u8s b nl2 false, boolx z, boolx u, u8s (al ++ List.replicate (tabN b i) 9 ++ l.getD i [] ++ [32]) (some (x && decide (tabN b i ≤ 0) && (l.getD i []).isEmpty && false)) true, i64x ((i + 1 : Nat) : Int)]) (H' := []) (fun k => ?_) ?_
          · rw [lfLine, bt (decide_eq_true (by omega)), bt (decide_eq_true (by omega)), Int.toNat_natCast, Int.toNat_zero, List.drop_zero, zero_sT, len_zero, hq0, bt (c := false == false) rfl, bt (decide_eq_true (by omega)),
              bf (decide_eq_false (by omega)), rw_se, bt (decide_eq_true (by omega)), rw_se, he, bt rfl, rw_se, bt (by rw [hb, Bool.true_and]; exact decide_eq_true (by omega)), bt (decide_eq_true (by omega))]
            simp only [rw_se, Nat.sub_zero]
            rw [bt (decide_eq_true (by simp only [List.length_append, List.length_replicate]; omega)), bt (decide_eq_true (by simp only [List.length_append, List.length_replicate, List.length_singleton]; omega)), wnext (by omega)]
            rfl
          · have := ih (i + 1) (al ++ List.replicate (tabN b i) 9 ++ l.getD i [] ++ [32]) (x && decide (tabN b i ≤ 0) && (l.getD i []).isEmpty && false) (by omega) (by omega) (by simp only [List.length_append, List.length_singleton, List.length_replicate]; omega)
            have e1 : al ++ List.replicate (tabN b i) 9 ++ l.getD i [] ++ [32] ++ joinF b (i + 1) (l.drop (i + 1)) = al ++ joinF b i (l.getD i [] :: l.drop (i + 1)) := by simp [joinF]
            have e2 : (x && decide (tabN b i ≤ 0) && (l.getD i []).isEmpty && false && (l.drop (i + 1)).isEmpty) = (x && (l.getD i [] :: l.drop (i + 1)).isEmpty) := by simp
            rw [e1, e2] at this
            exact this
        | false =>
          have hg : goodB (l.getD i []) = false := by
            unfold goodB
            rw [he, Bool.and_false, Bool.and_false]
          rw [hg, Bool.false_and, bf rfl]
          refine LoopTo.left (by simp) fun k => ⟨[sss l nl false, u8s b nl2 false, boolx u, boolx u, .dead, .dead], ?_, Forget.same _⟩
          rw [lfLine, bt (decide_eq_true (by omega)), bt (decide_eq_true (by omega)), Int.toNat_natCast, Int.toNat_zero, List.drop_zero, zero_sT, len_zero, hq0, bt (c := false == false) rfl, bt (decide_eq_true (by omega)),
            bf (decide_eq_false (by omega)), rw_se, bt (decide_eq_true (by omega)), rw_se, he, bf rfl]
      · have hg : goodB (l.getD i []) = false := by
          unfold goodB
          rw [decide_eq_false hq, Bool.false_and, Bool.and_false]
        rw [hg, Bool.false_and, bf rfl]
        refine LoopTo.left (by simp) fun k => ⟨[sss l nl false, u8s b nl2 false, boolx u, boolx u, u8s al (some x) true, i64x i], ?_, ?_⟩
        · rw [lfLine, bt (decide_eq_true (by omega)), bt (decide_eq_true (by omega)), Int.toNat_natCast, zero_sT, len_zero, hq0, bt (c := false == false) rfl, bt (decide_eq_true (by omega)), bt (decide_eq_true (by omega))]
        · repeat' first | exact Forget.same _ | refine Forget.cons (.inl rfl) ?_ | refine Forget.cons (.inr rfl) ?_

theorem tells_fields : ∀ i, i < 3 → Tells CFl 100 (loopAt Try.f4 i) := by
  intro i h
  have hi : i = 0 ∨ i = 1 ∨ i = 2 := by omega
  rcases hi with rfl | rfl | rfl
  · refine Tells.mk (key := 6) (by kernel_rfl) rfl fun xs H r h => ?_
    unfold LfLine at h
    split at h
    · rename_i l nl b nl2 z u al x i
      obtain ⟨hg, h⟩ := Tr.run_test h
      simp only [rw_se, Bool.and_eq_true, decide_eq_true_eq] at hg
      obtain ⟨hb, h1, h2, h3, h4⟩ := hg
      obtain ⟨i, rfl⟩ : ∃ n : Nat, i = (n : Int) := Int.eq_ofNat_of_zero_le h1
      have h2 : (i : Int) ≤ (List.length l : Int) := h2
      have h4 : (List.length al : Int) ≤ 104 * (i : Int) := h4
      simp only [rw_se, Int.toNat_natCast] at h
      rw [tr_two h]
      exact loopLfLine h3 nl hb nl2 z u _ i al x rfl (by omega) (by omega)
    · cases h
  · refine Tells.mk (key := 11) (by kernel_rfl) rfl fun xs H r h => ?_
    unfold LfScan at h
    split at h
    · rename_i l nl b nl2 z u al x i j
      obtain ⟨hg, h⟩ := Tr.run_test h
      simp only [rw_se, decide_eq_true_eq] at hg
      obtain ⟨h1, h2, h3, h4, h5, h6⟩ := hg
      obtain ⟨i, rfl⟩ : ∃ n : Nat, i = (n : Int) := Int.eq_ofNat_of_zero_le h1
      obtain ⟨j, rfl⟩ : ∃ n : Nat, j = (n : Int) := Int.eq_ofNat_of_zero_le h3
      have h2 : (i : Int) < (List.length l : Int) := h2
      rw [Int.toNat_natCast] at h4 h5
      have h4 : (j : Int) ≤ ((List.getD l i []).length : Int) := h4
      simp only [rw_se, Int.toNat_natCast] at h
      rw [tr_two h]
      exact loopLfScan (by omega) h6 h5 nl b nl2 z u al x _ j rfl (by omega)
    · cases h
  · refine Tells.mk (key := 16) (by kernel_rfl) rfl fun xs H r h => ?_
    unfold LfTabs at h
    split at h
    · rename_i l nl b nl2 z u al x i j
      obtain ⟨hg, rfl⟩ := Tr.one h
      simp only [rw_se, Bool.and_eq_true, decide_eq_true_eq] at hg
      obtain ⟨hb, h1, h2, h3, h4, h5⟩ := hg
      obtain ⟨i, rfl⟩ : ∃ n : Nat, i = (n : Int) := Int.eq_ofNat_of_zero_le h1
      obtain ⟨j, rfl⟩ : ∃ n : Nat, j = (n : Int) := Int.eq_ofNat_of_zero_le h3
      have h2 : (i : Int) ≤ 100 := h2
      rw [Int.toNat_natCast] at h4
      have h4 : (j : Int) ≤ (tabN b i : Int) := h4
      simp only [rw_se, Int.toNat_natCast]
      have ht := tabN_le hb i
      exact loopLfTabs hb (by omega) l nl nl2 z u _ j al x rfl (by omega) (by omega)
    · cases h

end Go.Proofs.Ytngifmlpilemlaa.V

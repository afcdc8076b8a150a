/-
  Chapter 04, lines: the statements' loops do what they tell: LineBack.
  It speaks of the pinned program alone; no condition.
-/
import Derived.Test.YtngifmlpilemlaaLi12
namespace Go.Proofs.Ytngifmlpilemlaa.V
open Go
set_option linter.unusedVariables false
set_option linter.unusedSimpArgs false

theorem zero_sT : Ty.zero sT = ([] : List Int) := rfl
theorem noEnd_drop {q : List Int} {j : Nat} (h : j < q.length) : noEnd (q.drop j) = (!isEnd (q.getD j 0) && noEnd (q.drop (j + 1))) := by
  rw [drop_cons h]
  rfl
theorem noBl_drop {q : List Int} {j : Nat} (h : j < q.length) : noBl (q.drop j) = (!isBl (q.getD j 0) && noBl (q.drop (j + 1))) := by
  rw [drop_cons h]
  rfl

theorem getD_in {α : Type} (d : α) {l : List α} {i : Nat} (h : i < l.length) : l.getD i d ∈ l := by
  rw [List.getD_eq_getElem?_getD, List.getElem?_eq_getElem h]
  exact List.getElem_mem h

theorem tr_two {α : Type} {c : Bool} {a b r : α} (h : (Tr.test c (.give a) (.give b)).run some = some r) : r = bif c then a else b := by
  cases c
  · simpa [Tr.run] using h.symm
  · simpa [Tr.run] using h.symm

abbrev CBack : Ctx := Cx Ar.real (Ol9 Ar.real) (Llb Ar.real)

theorem loopLbScan {l : List (List Int)} {i : Nat} (hi : i < l.length) (hll : l.length ≤ 100) (hq : (l.getD i []).length ≤ 100) (nl : Option Bool) (b : List Int) (nl2 : Option Bool) (z u : Bool) (al : List Int) (x : Bool) : ∀ (n j : Nat), (l.getD i []).length - j = n → j ≤ (l.getD i []).length →
    LoopTo CBack 100 (loopAt Try.f3 1) 122 [0, 1, 4, 5, 6, 7, 8] [sss l nl false, u8s b nl2 false, boolx z, boolx u, u8s al (some x) true, i64x i, i64x j] []
      (bif noEnd ((l.getD i []).drop j) then (.exit 2, [sss l nl false, u8s b nl2 false, boolx z, boolx u, u8s al (some x) true, i64x i, .dead], []) else (.ret, [sss l nl false, u8s b nl2 false, boolx u, boolx u, .dead, .dead, .dead], [])) := by
  intro n
  induction n with
  | zero =>
    intro j h1 h2
    obtain rfl : j = (l.getD i []).length := by omega
    rw [List.drop_length, bt (show noEnd [] = true from rfl)]
    refine LoopTo.left (by simp) fun k => ⟨[sss l nl false, u8s b nl2 false, boolx z, boolx u, u8s al (some x) true, i64x i, i64x (l.getD i []).length], ?_, ?_⟩
    · rw [lbScan, bt (decide_eq_true (by omega)), Int.toNat_natCast, zero_sT, bf (decide_eq_false (by omega))]
    · repeat' first | exact Forget.same _ | refine Forget.cons (.inl rfl) ?_ | refine Forget.cons (.inr rfl) ?_
  | succ n ih =>
    intro j h1 h2
    have hj : j < (l.getD i []).length := by omega
    rw [noEnd_drop hj]
    have key : ∀ (k : Ex → List X → Hp → Option (Ex × List X × Hp)), stepF CBack 100 (loopAt Try.f3 1) 122 [0, 1, 4, 5, 6, 7, 8] [sss l nl false, u8s b nl2 false, boolx z, boolx u, u8s al (some x) true, i64x i, i64x j] [] k =
        bif isEnd ((l.getD i []).getD j 0) then k .ret [sss l nl false, u8s b nl2 false, boolx u, boolx u, u8s al (some x) true, i64x i, i64x j] []
        else k .normal [sss l nl false, u8s b nl2 false, boolx z, boolx u, u8s al (some x) true, i64x i, i64x ((j + 1 : Nat) : Int)] [] := by
      intro k
      rw [lbScan, bt (decide_eq_true (by omega)), Int.toNat_natCast, zero_sT, bt (decide_eq_true (by omega)), bt (decide_eq_true (by omega)), bt (decide_eq_true (by omega)), Int.toNat_natCast, wnext (by omega)]
      rfl
    cases he : isEnd ((l.getD i []).getD j 0) with
    | true =>
      rw [bf (by rfl)]
      refine LoopTo.left (by simp) fun k => ⟨_, by rw [key, he]; rfl, ?_⟩
      repeat' first | exact Forget.same _ | refine Forget.cons (.inl rfl) ?_ | refine Forget.cons (.inr rfl) ?_
    | false =>
      rw [Bool.not_false, Bool.true_and]
      exact LoopTo.next (fun k => by rw [key, he]; rfl) (ih (j + 1) (by omega) (by omega))

theorem loopLbLine {l : List (List Int)} (hll : l.length ≤ 100) (nl : Option Bool) (b : List Int) (nl2 : Option Bool) (z u : Bool) : ∀ (n i : Nat) (al : List Int) (x : Bool), l.length - i = n → i ≤ l.length → al.length ≤ 101 * i →
    LoopTo CBack 100 (loopAt Try.f3 0) 122 [0, 1, 4, 5, 6, 7] [sss l nl false, u8s b nl2 false, boolx z, boolx u, u8s al (some x) true, i64x i] []
      (bif (l.drop i).all goodE then (.exit 0, [sss l nl false, u8s b nl2 false, boolx z, boolx u, u8s (al ++ joinE (l.drop i)) (some (x && (l.drop i).isEmpty)) true, .dead], []) else (.ret, [sss l nl false, u8s b nl2 false, boolx u, boolx u, .dead, .dead], [])) := by
  intro n
  induction n with
  | zero =>
    intro i al x h1 h2 h3
    obtain rfl : i = l.length := by omega
    rw [List.drop_length, bt (show List.all [] goodE = true from rfl)]
    refine LoopTo.left (by simp) fun k => ⟨[sss l nl false, u8s b nl2 false, boolx z, boolx u, u8s al (some x) true, i64x l.length], ?_, ?_⟩
    · rw [lbLine, bf (decide_eq_false (by omega))]
    · rw [show al ++ joinE [] = al from List.append_nil al, show (x && List.isEmpty ([] : List (List Int))) = x from Bool.and_true x]
      repeat' first | exact Forget.same _ | refine Forget.cons (.inl rfl) ?_ | refine Forget.cons (.inr rfl) ?_
  | succ n ih =>
    intro i al x h1 h2 h3
    have hi : i < l.length := by omega
    rw [drop_cons' [] hi, List.all_cons]
    by_cases hq : (l.getD i []).length ≤ 100
    · have hq2 : ¬ ((l.getD i []).length : Int) > 100 := by omega
      cases he : noEnd (l.getD i []) with
      | true =>
        have hg : goodE (l.getD i []) = true := by
          unfold goodE
          rw [he, decide_eq_true hq]
          rfl
        rw [hg, Bool.true_and]
        refine LoopTo.next (xs' := [sss l nl false, u8s b nl2 false, boolx z, boolx u, u8s (al ++ l.getD i [] ++ [10]) (some (x && (l.getD i []).isEmpty && false)) true, i64x ((i + 1 : Nat) : Int)]) (H' := []) (fun k => ?_) ?_
        · rw [lbLine, bt (decide_eq_true (by omega)), bt (decide_eq_true (by omega)), Int.toNat_natCast, Int.toNat_zero, List.drop_zero, zero_sT,
            bf (decide_eq_false (by omega)), rw_se, bt (decide_eq_true (by omega)), rw_se, he, bt rfl, bt (decide_eq_true (by omega)), bt (decide_eq_true (by omega)),
            bt (decide_eq_true (by rw [List.length_append, List.length_singleton]; omega)), wnext (by omega)]
          rfl
        · have := ih (i + 1) (al ++ l.getD i [] ++ [10]) (x && (l.getD i []).isEmpty && false) (by omega) (by omega) (by simp only [List.length_append, List.length_singleton]; omega)
          have e1 : al ++ l.getD i [] ++ [10] ++ joinE (l.drop (i + 1)) = al ++ joinE (l.getD i [] :: l.drop (i + 1)) := by simp [joinE]
          have e2 : (x && (l.getD i []).isEmpty && false && (l.drop (i + 1)).isEmpty) = (x && (l.getD i [] :: l.drop (i + 1)).isEmpty) := by simp
          rw [e1, e2] at this
          exact this
      | false =>
        have hg : goodE (l.getD i []) = false := by
          unfold goodE
          rw [he, Bool.and_false]
        rw [hg, Bool.false_and, bf rfl]
        refine LoopTo.left (by simp) fun k => ⟨[sss l nl false, u8s b nl2 false, boolx u, boolx u, .dead, .dead], ?_, Forget.same _⟩
        rw [lbLine, bt (decide_eq_true (by omega)), bt (decide_eq_true (by omega)), Int.toNat_natCast, Int.toNat_zero, List.drop_zero, zero_sT,
          bf (decide_eq_false (by omega)), rw_se, bt (decide_eq_true (by omega)), rw_se, he, bf rfl]
    · have hg : goodE (l.getD i []) = false := by
        unfold goodE
        rw [decide_eq_false hq, Bool.false_and]
      rw [hg, Bool.false_and, bf rfl]
      refine LoopTo.left (by simp) fun k => ⟨[sss l nl false, u8s b nl2 false, boolx u, boolx u, u8s al (some x) true, i64x i], ?_, ?_⟩
      · rw [lbLine, bt (decide_eq_true (by omega)), bt (decide_eq_true (by omega)), Int.toNat_natCast, zero_sT, bt (decide_eq_true (by omega))]
      · repeat' first | exact Forget.same _ | refine Forget.cons (.inl rfl) ?_ | refine Forget.cons (.inr rfl) ?_

theorem loopLcScan {s : List (List Int)} {i : Nat} (hi : i < s.length) (hll : s.length ≤ 2000) (hq : (s.getD i []).length ≤ 1000) (hne : noEnd (s.getD i []) = true) (l : List (List Int)) (nl : Option Bool) (b : List Int) (nl2 : Option Bool) (z u : Bool) (al : List Int) (x : Bool) (nl3 : Option Bool) (m : Int) :
    ∀ (n j : Nat), (s.getD i []).length - j = n → j ≤ (s.getD i []).length →
    LoopTo CBack 100 (loopAt Try.f3 3) 122 [0, 1, 4, 5, 6, 9, 10, 11, 12] [sss l nl false, u8s b nl2 false, boolx z, boolx u, u8s al (some x) true, sss s nl3 false, i64x m, i64x i, i64x j] []
      (.exit 6, [sss l nl false, u8s b nl2 false, boolx z, boolx u, u8s al (some x) true, sss s nl3 false, i64x m, i64x i, .dead], []) := by
  intro n
  induction n with
  | zero =>
    intro j h1 h2
    obtain rfl : j = (s.getD i []).length := by omega
    refine LoopTo.left (by simp) fun k => ⟨[sss l nl false, u8s b nl2 false, boolx z, boolx u, u8s al (some x) true, sss s nl3 false, i64x m, i64x i, i64x (s.getD i []).length], ?_, ?_⟩
    · rw [lcScan, bt (decide_eq_true (by omega)), Int.toNat_natCast, zero_sT, bf (decide_eq_false (by omega))]
    · repeat' first | exact Forget.same _ | refine Forget.cons (.inl rfl) ?_ | refine Forget.cons (.inr rfl) ?_
  | succ n ih =>
    intro j h1 h2
    have hj : j < (s.getD i []).length := by omega
    refine LoopTo.next (fun k => ?_) (ih (j + 1) (by omega) (by omega))
    have he : isEnd ((s.getD i []).getD j 0) = false := by
      have := List.all_eq_true.1 hne _ (getD_in 0 hj)
      simpa only [Bool.not_eq_true'] using this
    rw [lcScan, bt (decide_eq_true (by omega)), Int.toNat_natCast, zero_sT, bt (decide_eq_true (by omega)), bt (decide_eq_true (by omega)), bt (decide_eq_true (by omega)), Int.toNat_natCast, wnext (by omega), bf (show ((s.getD i []).getD j 0 == 10) = false from he)]

theorem loopLcLine {s : List (List Int)} (hll : s.length ≤ 2000) (hs : ∀ q ∈ s, q.length ≤ 1000 ∧ noEnd q = true) (l : List (List Int)) (nl : Option Bool) (b : List Int) (nl2 : Option Bool) (z u : Bool) (al : List Int) (x : Bool) (nl3 : Option Bool) :
    ∀ (n i m : Nat), s.length - i = n → i ≤ s.length → m ≤ 1001 * i →
    LoopTo CBack 100 (loopAt Try.f3 2) 122 [0, 1, 4, 5, 6, 9, 10, 11] [sss l nl false, u8s b nl2 false, boolx z, boolx u, u8s al (some x) true, sss s nl3 false, i64x m, i64x i] []
      (.exit 4, [sss l nl false, u8s b nl2 false, boolx z, boolx u, u8s al (some x) true, sss s nl3 false, i64x ((m : Int) + (sumL (s.drop i) : Int)), .dead], []) := by
  intro n
  induction n with
  | zero =>
    intro i m h1 h2 h3
    obtain rfl : i = s.length := by omega
    refine LoopTo.left (by simp) fun k => ⟨[sss l nl false, u8s b nl2 false, boolx z, boolx u, u8s al (some x) true, sss s nl3 false, i64x m, i64x s.length], ?_, ?_⟩
    · rw [lcLine, bf (decide_eq_false (by omega))]
    · rw [List.drop_length, show ((m : Int) + ((sumL [] : Nat) : Int)) = m from by simp [sumL]]
      repeat' first | exact Forget.same _ | refine Forget.cons (.inl rfl) ?_ | refine Forget.cons (.inr rfl) ?_
  | succ n ih =>
    intro i m h1 h2 h3
    have hi : i < s.length := by omega
    obtain ⟨q1, q2⟩ := hs _ (getD_in [] hi)
    have e : ((m : Int) + (sumL (s.drop i) : Int)) = ((m + (s.getD i []).length + 1 : Nat) : Int) + (sumL (s.drop (i + 1)) : Int) := by
      rw [drop_cons' [] hi]
      simp only [sumL]
      omega
    rw [e]
    refine LoopTo.next (fun k => ?_) (ih (i + 1) (m + (s.getD i []).length + 1) (by omega) (by omega) (by omega))
    have w1 : Ar.real.wrap .i64 ((m : Int) + ((s.getD i []).length : Int)) = ((m + (s.getD i []).length : Nat) : Int) := by rw [rw_wrap, wi64 (by omega) (by omega)]; rfl
    rw [lcLine, bt (decide_eq_true (by omega)), rw_se, Int.toNat_natCast, zero_sT, bt (by rw [Bool.and_eq_true, decide_eq_true_eq]; exact ⟨by omega, q2⟩), bt (decide_eq_true (by omega)), w1, wnext (by omega), wnext (by omega)]

theorem tells_back : ∀ i, i < 4 → Tells CBack 100 (loopAt Try.f3 i) := by
  intro i h
  have hi : i = 0 ∨ i = 1 ∨ i = 2 ∨ i = 3 := by omega
  rcases hi with rfl | rfl | rfl | rfl
  · refine Tells.mk (key := 6) (by kernel_rfl) rfl fun xs H r h => ?_
    unfold LbLine at h
    split at h
    · rename_i l nl b nl2 z u al x i
      obtain ⟨hg, h⟩ := Tr.run_test h
      simp only [rw_se, decide_eq_true_eq] at hg
      obtain ⟨h1, h2, h3, h4⟩ := hg
      obtain ⟨i, rfl⟩ : ∃ n : Nat, i = (n : Int) := Int.eq_ofNat_of_zero_le h1
      have h2 : (i : Int) ≤ (List.length l : Int) := h2
      have h4 : (List.length al : Int) ≤ 101 * (i : Int) := h4
      simp only [rw_se, Int.toNat_natCast] at h
      rw [tr_two h]
      exact loopLbLine h3 nl b nl2 z u _ i al x rfl (by omega) (by omega)
    · cases h
  · refine Tells.mk (key := 11) (by kernel_rfl) rfl fun xs H r h => ?_
    unfold LbScan at h
    split at h
    · rename_i l nl b nl2 z u al x i j
      obtain ⟨hg, h⟩ := Tr.run_test h
      simp only [rw_se, decide_eq_true_eq] at hg
      obtain ⟨h1, h2, h3, h4, h5, h6⟩ := hg
      obtain ⟨i, rfl⟩ : ∃ n : Nat, i = (n : Int) := Int.eq_ofNat_of_zero_le h1
      obtain ⟨j, rfl⟩ : ∃ n : Nat, j = (n : Int) := Int.eq_ofNat_of_zero_le h3
      have h2 : (i : Int) < (List.length l : Int) := h2
      rw [Int.toNat_natCast] at h4 h5
      have h4 : (j : Int) ≤ ((List.getD l i []).length : Int) := h4
      simp only [rw_se, Int.toNat_natCast] at h
      rw [tr_two h]
      exact loopLbScan (by omega) h6 h5 nl b nl2 z u al x _ j rfl (by omega)
    · cases h
  · refine Tells.mk (key := 19) (by kernel_rfl) rfl fun xs H r h => ?_
    unfold LcLine at h
    split at h
    · rename_i l nl b nl2 z u al x s nl3 n i
      obtain ⟨hg, rfl⟩ := Tr.one h
      simp only [rw_se, Bool.and_eq_true, decide_eq_true_eq] at hg
      obtain ⟨⟨h1, h2, h3, h4, h5⟩, h6⟩ := hg
      obtain ⟨i, rfl⟩ : ∃ n : Nat, i = (n : Int) := Int.eq_ofNat_of_zero_le h1
      obtain ⟨m, rfl⟩ : ∃ m : Nat, n = (m : Int) := Int.eq_ofNat_of_zero_le h4
      have h2 : (i : Int) ≤ (List.length s : Int) := h2
      have h5 : (m : Int) ≤ 1001 * (i : Int) := h5
      simp only [rw_se, Int.toNat_natCast]
      refine loopLcLine h3 (fun q hq => ?_) l nl b nl2 z u al x nl3 _ i m rfl (by omega) (by omega)
      have := List.all_eq_true.1 h6 q hq
      simp only [Bool.and_eq_true, decide_eq_true_eq] at this
      exact this
    · cases h
  · refine Tells.mk (key := 22) (by kernel_rfl) rfl fun xs H r h => ?_
    unfold LcScan at h
    split at h
    · rename_i l nl b nl2 z u al x s nl3 n i j
      obtain ⟨hg, rfl⟩ := Tr.one h
      simp only [rw_se, Bool.and_eq_true, decide_eq_true_eq] at hg
      obtain ⟨⟨h1, h2, h3, h4, h5, h7⟩, h6⟩ := hg
      obtain ⟨i, rfl⟩ : ∃ n : Nat, i = (n : Int) := Int.eq_ofNat_of_zero_le h1
      obtain ⟨j, rfl⟩ : ∃ m : Nat, j = (m : Int) := Int.eq_ofNat_of_zero_le h3
      have h2 : (i : Int) < (List.length s : Int) := h2
      rw [Int.toNat_natCast] at h4 h5 h6
      have h4 : (j : Int) ≤ ((List.getD s i []).length : Int) := h4
      exact loopLcScan (by omega) h7 h5 h6 l nl b nl2 z u al x nl3 n _ j rfl (by omega)
    · cases h

theorem bytes_joinE : ∀ {l : List (List Int)}, bytesBB l = true → bytesB (joinE l) = true
  | [], _ => rfl
  | q :: l, h => by
    unfold bytesBB at h
    rw [List.all_cons, Bool.and_eq_true] at h
    have ih := bytes_joinE (l := l) h.2
    rw [bytesB_iff] at ih ⊢
    have h1 := bytesB_iff.1 h.1
    intro x hx
    rw [joinE, List.mem_append, List.mem_cons] at hx
    rcases hx with hx | rfl | hx
    · exact h1 x hx
    · omega
    · exact ih x hx
theorem len_joinE : ∀ {l : List (List Int)}, l.all goodE = true → (joinE l).length ≤ 101 * l.length
  | [], _ => by simp [joinE]
  | q :: l, h => by
    rw [List.all_cons, Bool.and_eq_true] at h
    have ih := len_joinE (l := l) h.2
    have h1 := h.1
    simp only [goodE, Bool.and_eq_true, decide_eq_true_eq] at h1
    rw [joinE]
    simp only [List.length_append, List.length_cons]
    omega
theorem good_end {l : List (List Int)} (h : l.all goodE = true) : ∀ q ∈ l, ∀ x ∈ q, isEnd x = false := by
  intro q hq x hx
  have h1 := List.all_eq_true.1 h q hq
  simp only [goodE, Bool.and_eq_true] at h1
  have := List.all_eq_true.1 h1.2 x hx
  simpa only [Bool.not_eq_true'] using this
theorem bytes_split {b : List Int} (h : bytesB b = true) : bytesBB (splitL b) = true := by
  unfold bytesBB
  rw [List.all_eq_true]
  intro q hq
  rw [bytesB_iff] at h ⊢
  exact fun x hx => h x (split_mem hq x hx).1
theorem split_ok2 {b : List Int} (hb : b.length ≤ 1000) : ((splitL b).all fun q => decide (q.length ≤ 1000) && noEnd q) = true := by
  rw [List.all_eq_true]
  intro q hq
  rw [Bool.and_eq_true, decide_eq_true_eq]
  have := piece_len isEnd b q (dropE_mem hq)
  refine ⟨by omega, ?_⟩
  unfold noEnd
  rw [List.all_eq_true]
  intro x hx
  rw [(split_mem hq x hx).2]
  rfl

theorem back_core (l : List (List Int)) (nl : Option Bool) (b : List Int) (nl2 : Option Bool) (hl : bytesBB l = true) (hb : bytesB b = true) (hn : nlO nl2 b = true) : bodyX CBack 100 Try.f3 [sss l nl false, u8s b nl2 false] [] = some (boolx true, []) := by
  rw [tBack]
  by_cases h1 : l.length ≤ 100
  · rw [bt (by rw [decide_eq_false (by omega)]; rfl)]
    by_cases h2 : b.length ≤ 1000
    · rw [bf (decide_eq_false (by omega)), rw_se, bt (decide_eq_true (by omega)), rw_se, Int.toNat_zero, List.drop_zero]
      cases hg : l.all goodE with
      | true =>
        have hs := split_joinE (good_end hg)
        have hlen := len_joinE hg
        have hsl := split_len b
        have hbj := bytes_joinE hl
        have hok : Ok Ar.real b nl2 = true := by
          unfold Ok
          rw [rw_se, hb, hn]
          simp only [Bool.true_and, decide_eq_true_eq]
          omega
        have hok2 : ∀ x : Bool, (x = true → l = []) → Ok Ar.real (joinE l) (some x) = true := by
          intro x hx
          unfold Ok
          rw [rw_se, hbj, Bool.true_and, Bool.and_eq_true, decide_eq_true_eq]
          refine ⟨?_, by omega⟩
          cases x
          · rfl
          · rw [hx rfl]
            rfl
        have hnx : (l.isEmpty) = true → l = [] := by simp
        rw [bt rfl, bt hok]
        simp only [rw_se, List.nil_append, Bool.true_and, List.drop_zero, hs, beq_self_eq_true, split_ok2 h2, Bool.and_true, Int.zero_add, hl, Bool.true_and]
        have w : Ar.real.wrap .i64 ((b.length : Int) + 1) = ((b.length + 1 : Nat) : Int) := wnext (by omega)
        rw [bt (decide_eq_true (by omega)), hok2 _ hnx, w]
        have hd : decide (l.length ≤ 100000 ∧ l.length ≤ 100000) = true := decide_eq_true (by omega)
        rw [hd]
        rcases split_sum b with hsum | hsum
        · rw [hsum, bf (by simp)]
          rfl
        · have e1 : (((b.length + 1 : Nat) : Int) == (b.length : Int)) = false := by rw [beq_eq_false_iff_ne]; omega
          have e2 : (((b.length + 1 : Nat) : Int) == ((b.length + 1 : Nat) : Int)) = true := beq_self_eq_true _
          rw [hsum, e1, e2]
          rfl
      | false => rw [bf rfl]
    · rw [bt (decide_eq_true (by omega))]
  · rw [bf (by rw [decide_eq_true (by omega)]; rfl)]

end Go.Proofs.Ytngifmlpilemlaa.V

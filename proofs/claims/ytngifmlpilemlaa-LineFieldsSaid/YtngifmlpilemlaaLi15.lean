/-
  Chapter 04, lines: the statements: LineFields, LineBlanks.
  It speaks of the pinned program alone; no condition.
-/
import Derived.Test.YtngifmlpilemlaaLi14
namespace Go.Proofs.Ytngifmlpilemlaa.V
open Go
set_option linter.unusedVariables false
set_option linter.unusedSimpArgs false

theorem bytes_joinF {bl : List Int} : ∀ {l : List (List Int)} (i : Nat), bytesBB l = true → bytesB (joinF bl i l) = true
  | [], _, _ => rfl
  | q :: l, i, h => by
    unfold bytesBB at h
    rw [List.all_cons, Bool.and_eq_true] at h
    have ih := bytes_joinF (bl := bl) (l := l) (i + 1) h.2
    rw [bytesB_iff] at ih ⊢
    have h1 := bytesB_iff.1 h.1
    intro x hx
    rw [joinF, List.mem_append, List.mem_append, List.mem_cons] at hx
    rcases hx with hx | hx | rfl | hx
    · have := List.eq_of_mem_replicate hx
      omega
    · exact h1 x hx
    · omega
    · exact ih x hx
theorem len_joinF {bl : List Int} (hb : bytesB bl = true) : ∀ {l : List (List Int)} (i : Nat), l.all goodB = true → (joinF bl i l).length ≤ 104 * l.length
  | [], _, _ => by simp [joinF]
  | q :: l, i, h => by
    rw [List.all_cons, Bool.and_eq_true] at h
    have ih := len_joinF hb (l := l) (i + 1) h.2
    have h1 := h.1
    have ht := tabN_le hb i
    simp only [goodB, Bool.and_eq_true, decide_eq_true_eq] at h1
    rw [joinF]
    simp only [List.length_append, List.length_cons, List.length_replicate]
    omega
theorem good_bl {l : List (List Int)} (h : l.all goodB = true) : ∀ q ∈ l, q ≠ [] ∧ ∀ x ∈ q, isBl x = false := by
  intro q hq
  have h1 := List.all_eq_true.1 h q hq
  simp only [goodB, Bool.and_eq_true] at h1
  refine ⟨?_, fun x hx => ?_⟩
  · rintro rfl
    simp at h1
  · have := List.all_eq_true.1 h1.2.2 x hx
    simpa only [Bool.not_eq_true'] using this

theorem ok_of {b : List Int} (hb : bytesB b = true) (hl : b.length ≤ 50000) {x : Option Bool} (hx : x = some true → b = []) : Ok Ar.real b x = true := by
  unfold Ok
  rw [rw_se, hb, Bool.true_and, Bool.and_eq_true, decide_eq_true_eq]
  refine ⟨?_, hl⟩
  cases x with
  | none => rfl
  | some x =>
    cases x
    · rfl
    · rw [hx rfl]
      rfl

theorem fields_law (l : List (List Int)) (nl : Option Bool) (b : List Int) (nl2 : Option Bool) (hl : bytesBB l = true) (hb : bytesB b = true) : bodyX CFl 100 Try.f4 [sss l nl false, u8s b nl2 false] [] = some (boolx true, []) := by
  rw [tLFields]
  by_cases h1 : l.length ≤ 100
  · rw [bt (by rw [decide_eq_false (by omega)]; rfl)]
    by_cases h2 : b.length ≤ 300
    · rw [bf (decide_eq_false (by omega)), rw_se, bt (by rw [hb, Bool.true_and]; exact decide_eq_true (by omega)), rw_se, Int.toNat_zero, List.drop_zero]
      cases hg : l.all goodB with
      | true =>
        have hs := fields_joinF b l 0 (good_bl hg)
        have hlen := len_joinF hb 0 hg
        have hbj := bytes_joinF (bl := b) 0 hl
        have hok : Ok Ar.real (joinF b 0 l) (some l.isEmpty) = true := by
          refine ok_of hbj (by omega) fun e => ?_
          have : l = [] := by simpa using e
          subst this
          rfl
        have hbare : bareB (joinF b 0 l) = (l.isEmpty || (l.getD 0 []).getD 0 0 == 35) := by
          unfold bareB
          rw [hs]
        have hd : decide (l.length ≤ 100000 ∧ l.length ≤ 100000) = true := decide_eq_true (by omega)
        rw [bt rfl]
        simp only [rw_se, List.nil_append, Bool.true_and, hs, hok, hl, hbare, beq_self_eq_true, hd, len_zero]
        rw [zero_sT]
        cases l with
        | nil => rfl
        | cons q l =>
          have hq := (good_bl hg q (by simp)).1
          have hql : 0 < q.length := List.length_pos_iff.2 hq
          rw [bt (c := (q :: l).isEmpty == false) rfl, bt (decide_eq_true (by simp only [List.length_cons]; omega)), bt (decide_eq_true (by simp only [List.getD_cons_zero]; omega))]
          simp
      | false => rw [bf rfl]
    · rw [bt (decide_eq_true (by omega))]
  · rw [bf (by rw [decide_eq_true (by omega)]; rfl)]

abbrev CBl : Ctx := Cx Ar.real (Ol9 Ar.real) (Lls Ar.real)

theorem loopLsMap {l : List Int} (hb : bytesB l = true) (hll : l.length ≤ 1000) (nl : Option Bool) (z u : Bool) : ∀ (n i : Nat) (o : List Int) (x : Bool), l.length - i = n → i ≤ l.length → o.length ≤ i →
    LoopTo CBl 100 (loopAt Try.f5 0) 92 [0, 2, 3, 4, 5] [u8s l nl false, boolx z, boolx u, u8s o (some x) true, i64x i] []
      (.exit 0, [u8s l nl false, boolx z, boolx u, u8s (o ++ (l.drop i).map sw) (some (x && (l.drop i).isEmpty)) true, .dead], []) := by
  intro n
  induction n with
  | zero =>
    intro i o x h1 h2 h3
    obtain rfl : i = l.length := by omega
    rw [List.drop_length]
    refine LoopTo.left (by simp) fun k => ⟨[u8s l nl false, boolx z, boolx u, u8s o (some x) true, i64x l.length], ?_, ?_⟩
    · rw [lsMap, bf (decide_eq_false (by omega))]
    · rw [show o ++ List.map sw [] = o from List.append_nil o, show (x && List.isEmpty ([] : List Int)) = x from Bool.and_true x]
      repeat' first | exact Forget.same _ | refine Forget.cons (.inl rfl) ?_ | refine Forget.cons (.inr rfl) ?_
  | succ n ih =>
    intro i o x h1 h2 h3
    have hi : i < l.length := by omega
    have hx := byte_at hb hi
    have := ih (i + 1) (o ++ [sw (l.getD i 0)]) (x && false) (by omega) (by omega) (by rw [List.length_append, List.length_singleton]; omega)
    have e1 : o ++ [sw (l.getD i 0)] ++ (l.drop (i + 1)).map sw = o ++ (l.drop i).map sw := by
      rw [drop_cons hi, List.map_cons, List.append_assoc]
      rfl
    have e2 : (x && false && (l.drop (i + 1)).isEmpty) = (x && (l.drop i).isEmpty) := by
      rw [drop_cons hi]
      simp
    rw [e1, e2] at this
    refine LoopTo.next (fun k => ?_) this
    rw [lsMap, bt (decide_eq_true (by omega)), bt (decide_eq_true (by omega)), Int.toNat_natCast, wnext (by omega)]
    cases h9 : l.getD i 0 == 9
    · rw [bt (c := false == false) rfl]
      cases h32 : l.getD i 0 == 32
      · have es : sw (l.getD i 0) = l.getD i 0 := by
          unfold sw
          rw [h9, h32]
          rfl
        rw [bf rfl, bt (decide_eq_true (by rw [List.length_singleton]; omega)), es]
        rfl
      · have e : l.getD i 0 = 32 := by simpa using h32
        have w : Ar.real.wrap .u8 (41 - l.getD i 0) = sw (l.getD i 0) := by
          rw [e, rw_wrap, wu8 (by omega) (by omega)]
          rfl
        rw [bt rfl, w, bt (decide_eq_true (by rw [List.length_singleton]; omega))]
        rfl
    · have e : l.getD i 0 = 9 := by simpa using h9
      have w : Ar.real.wrap .u8 (41 - l.getD i 0) = sw (l.getD i 0) := by
        rw [e, rw_wrap, wu8 (by omega) (by omega)]
        rfl
      rw [bf (c := true == false) rfl, w, bt (decide_eq_true (by rw [List.length_singleton]; omega))]
      rfl

theorem loopLsScan {f : List (List Int)} {i : Nat} (hi : i < f.length) (hll : f.length ≤ 2000) (hq : (f.getD i []).length ≤ 1000) (hne : noBl (f.getD i []) = true) (l : List Int) (nl : Option Bool) (z u : Bool) (o : List Int) (x : Bool) (nl3 : Option Bool) :
    ∀ (n j : Nat), (f.getD i []).length - j = n → j ≤ (f.getD i []).length →
    LoopTo CBl 100 (loopAt Try.f5 2) 92 [0, 2, 3, 4, 7, 8, 9] [u8s l nl false, boolx z, boolx u, u8s o (some x) true, sss f nl3 false, i64x i, i64x j] []
      (.exit 4, [u8s l nl false, boolx z, boolx u, u8s o (some x) true, sss f nl3 false, i64x i, .dead], []) := by
  intro n
  induction n with
  | zero =>
    intro j h1 h2
    obtain rfl : j = (f.getD i []).length := by omega
    refine LoopTo.left (by simp) fun k => ⟨[u8s l nl false, boolx z, boolx u, u8s o (some x) true, sss f nl3 false, i64x i, i64x (f.getD i []).length], ?_, ?_⟩
    · rw [lsScan, bt (decide_eq_true (by omega)), Int.toNat_natCast, zero_sT, bf (decide_eq_false (by omega))]
    · repeat' first | exact Forget.same _ | refine Forget.cons (.inl rfl) ?_ | refine Forget.cons (.inr rfl) ?_
  | succ n ih =>
    intro j h1 h2
    have hj : j < (f.getD i []).length := by omega
    refine LoopTo.next (fun k => ?_) (ih (j + 1) (by omega) (by omega))
    have he : isBl ((f.getD i []).getD j 0) = false := by
      have := List.all_eq_true.1 hne _ (getD_in 0 hj)
      simpa only [Bool.not_eq_true'] using this
    unfold isBl at he
    rw [Bool.or_eq_false_iff] at he
    rw [lsScan, bt (decide_eq_true (by omega)), Int.toNat_natCast, zero_sT, bt (decide_eq_true (by omega)), bt (decide_eq_true (by omega)), bt (decide_eq_true (by omega)), Int.toNat_natCast, wnext (by omega), he.2,
      bt (c := false == false) rfl, bt (decide_eq_true (by omega)), bt (decide_eq_true (by omega)), he.1]
    rfl

theorem loopLsLine {f : List (List Int)} (hll : f.length ≤ 2000) (hs : ∀ q ∈ f, q.isEmpty = false ∧ q.length ≤ 1000 ∧ noBl q = true) (l : List Int) (nl : Option Bool) (z u : Bool) (o : List Int) (x : Bool) (nl3 : Option Bool) :
    ∀ (n i : Nat), f.length - i = n → i ≤ f.length →
    LoopTo CBl 100 (loopAt Try.f5 1) 92 [0, 2, 3, 4, 7, 8] [u8s l nl false, boolx z, boolx u, u8s o (some x) true, sss f nl3 false, i64x i] []
      (.exit 2, [u8s l nl false, boolx z, boolx u, u8s o (some x) true, sss f nl3 false, .dead], []) := by
  intro n
  induction n with
  | zero =>
    intro i h1 h2
    obtain rfl : i = f.length := by omega
    refine LoopTo.left (by simp) fun k => ⟨[u8s l nl false, boolx z, boolx u, u8s o (some x) true, sss f nl3 false, i64x f.length], ?_, ?_⟩
    · rw [lsLine, bf (decide_eq_false (by omega))]
    · repeat' first | exact Forget.same _ | refine Forget.cons (.inl rfl) ?_ | refine Forget.cons (.inr rfl) ?_
  | succ n ih =>
    intro i h1 h2
    have hi : i < f.length := by omega
    obtain ⟨q0, q1, q2⟩ := hs _ (getD_in [] hi)
    refine LoopTo.next (fun k => ?_) (ih (i + 1) (by omega) (by omega))
    rw [lsLine, bt (decide_eq_true (by omega)), rw_se, Int.toNat_natCast, zero_sT, len_zero, q0, bt (by rw [Bool.and_eq_true, decide_eq_true_eq]; exact ⟨by omega, q2⟩), bt (decide_eq_true (by omega)), bf rfl, wnext (by omega)]

theorem tells_blanks : ∀ i, i < 3 → Tells CBl 100 (loopAt Try.f5 i) := by
  intro i h
  have hi : i = 0 ∨ i = 1 ∨ i = 2 := by omega
  rcases hi with rfl | rfl | rfl
  · refine Tells.mk (key := 6) (by kernel_rfl) rfl fun xs H r h => ?_
    unfold LsMap at h
    split at h
    · rename_i l nl z u o x i
      obtain ⟨hg, rfl⟩ := Tr.one h
      simp only [rw_se, Bool.and_eq_true, decide_eq_true_eq] at hg
      obtain ⟨hb, h1, h2, h3, h4⟩ := hg
      obtain ⟨i, rfl⟩ : ∃ n : Nat, i = (n : Int) := Int.eq_ofNat_of_zero_le h1
      have h2 : (i : Int) ≤ (List.length l : Int) := h2
      have h4 : (List.length o : Int) ≤ (i : Int) := h4
      simp only [rw_se, Int.toNat_natCast]
      exact loopLsMap hb h3 nl z u _ i o x rfl (by omega) (by omega)
    · cases h
  · refine Tells.mk (key := 14) (by kernel_rfl) rfl fun xs H r h => ?_
    unfold LsLine at h
    split at h
    · rename_i l nl z u o x f nl3 i
      obtain ⟨hg, rfl⟩ := Tr.one h
      simp only [rw_se, Bool.and_eq_true, decide_eq_true_eq] at hg
      obtain ⟨⟨h1, h2, h3⟩, h6⟩ := hg
      obtain ⟨i, rfl⟩ : ∃ n : Nat, i = (n : Int) := Int.eq_ofNat_of_zero_le h1
      have h2 : (i : Int) ≤ (List.length f : Int) := h2
      refine loopLsLine h3 (fun q hq => ?_) l nl z u o x nl3 _ i rfl (by omega)
      have := List.all_eq_true.1 h6 q hq
      simp only [Bool.and_eq_true, decide_eq_true_eq, Bool.not_eq_true'] at this
      exact this
    · cases h
  · refine Tells.mk (key := 17) (by kernel_rfl) rfl fun xs H r h => ?_
    unfold LsScan at h
    split at h
    · rename_i l nl z u o x f nl3 i j
      obtain ⟨hg, rfl⟩ := Tr.one h
      simp only [rw_se, Bool.and_eq_true, decide_eq_true_eq] at hg
      obtain ⟨⟨h1, h2, h3, h4, h5, h7⟩, h6⟩ := hg
      obtain ⟨i, rfl⟩ : ∃ n : Nat, i = (n : Int) := Int.eq_ofNat_of_zero_le h1
      obtain ⟨j, rfl⟩ : ∃ m : Nat, j = (m : Int) := Int.eq_ofNat_of_zero_le h3
      have h2 : (i : Int) < (List.length f : Int) := h2
      rw [Int.toNat_natCast] at h4 h5 h6
      have h4 : (j : Int) ≤ ((List.getD f i []).length : Int) := h4
      exact loopLsScan (by omega) h7 h5 h6 l nl z u o x nl3 _ j rfl (by omega)
    · cases h

theorem fields_ok2 {b : List Int} (hb : b.length ≤ 1000) : ((fieldsL b).all fun q => !q.isEmpty && (decide (q.length ≤ 1000) && noBl q)) = true := by
  rw [List.all_eq_true]
  intro q hq
  obtain ⟨h1, h2⟩ := fields_mem hq
  have h3 := piece_len isBl b q (by
    unfold fieldsL full at hq
    exact (List.mem_filter.1 hq).1)
  rw [Bool.and_eq_true, Bool.and_eq_true, decide_eq_true_eq]
  refine ⟨?_, by omega, ?_⟩
  · cases q with
    | nil => exact absurd rfl h1
    | cons => rfl
  · unfold noBl
    rw [List.all_eq_true]
    intro x hx
    rw [(h2 x hx).2]
    rfl
theorem bytes_fields {b : List Int} (h : bytesB b = true) : bytesBB (fieldsL b) = true := by
  unfold bytesBB
  rw [List.all_eq_true]
  intro q hq
  rw [bytesB_iff] at h ⊢
  exact fun x hx => h x ((fields_mem hq).2 x hx).1
theorem bytes_sw {b : List Int} (h : bytesB b = true) : bytesB (b.map sw) = true := by
  rw [bytesB_iff] at h ⊢
  intro x hx
  rw [List.mem_map] at hx
  obtain ⟨y, hy, rfl⟩ := hx
  have := h y hy
  unfold sw
  cases hc : (y == 9 || y == 32)
  · exact this
  · rw [Bool.or_eq_true, beq_iff_eq, beq_iff_eq] at hc
    simp only [cond_true]
    omega

theorem blanks_law (l : List Int) (nl : Option Bool) (hl : bytesB l = true) (hn : nlO nl l = true) : bodyX CBl 100 Try.f5 [u8s l nl false] [] = some (boolx true, []) := by
  rw [tBlanks]
  by_cases h1 : l.length ≤ 1000
  · have hfl := fields_len l
    have hok : Ok Ar.real l nl = true := by
      refine ok_of hl (by omega) fun e => ?_
      subst e
      simpa [nlO] using hn
    have hok2 : Ok Ar.real (l.map sw) (some l.isEmpty) = true := by
      refine ok_of (bytes_sw hl) (by rw [List.length_map]; omega) fun e => ?_
      have : l = [] := by simpa using e
      subst this
      rfl
    rw [bf (decide_eq_false (by omega)), rw_se, bt (by rw [hl, Bool.true_and]; exact decide_eq_true (by omega)), bt hok]
    simp only [rw_se, List.nil_append, Bool.true_and, Int.toNat_zero, List.drop_zero, fields_sw, bare_sw, hok, hok2, fields_ok2 h1, bytes_fields hl, Bool.and_true, beq_self_eq_true, cond_true]
    rw [bt (decide_eq_true (by omega)), bt (decide_eq_true (by omega))]
  · rw [bt (decide_eq_true (by omega))]

theorem nlO_of {nl : Bool} {b : List Int} (h : (!nl || b.isEmpty) = true) : nlO (some nl) b = true := by
  cases nl
  · rfl
  · exact h
theorem bytes_wf2 {l : List (List Int)} (h : wfD ssT l = true) : bytesBB l = true := by
  have h1 : (l.all (wfD sT)) = true := by
    have h' : (decide (l.length ≤ maxLen) && l.all (wfD sT)) = true := h
    rw [Bool.and_eq_true] at h'
    exact h'.2
  unfold bytesBB
  rw [List.all_eq_true] at h1 ⊢
  exact fun q hq => bytes_wf (h1 q hq)

theorem backLaw_ok : OrcOk Try.prog 3 (.pure (LawFc [ssT, sT])) := by
  refine law_pure (Cx.ok o9 (Llb Ar.real)) mixed 3 Try.f3 _ (by kernel_rfl) (by kernel_rfl) (by kernel_rfl) 100 4 (by kernel_rfl) tells_back fun args h => ?_
  obtain ⟨x, _, rfl, h1, h⟩ := h.cons
  obtain ⟨y, _, rfl, h2, h⟩ := h.cons
  obtain rfl := h.nil
  obtain ⟨l, nl, rfl, k1, k2⟩ := h1
  obtain ⟨b, nl2, rfl, k3, k4⟩ := h2
  exact ⟨[], back_core l _ b _ (bytes_wf2 k1) (bytes_wf k3) (nlO_of k4)⟩
theorem fieldsLaw_ok : OrcOk Try.prog 4 (.pure (LawFc [ssT, sT])) := by
  refine law_pure (Cx.ok o9 (Llf Ar.real)) mixed 4 Try.f4 _ (by kernel_rfl) (by kernel_rfl) (by kernel_rfl) 100 3 (by kernel_rfl) tells_fields fun args h => ?_
  obtain ⟨x, _, rfl, h1, h⟩ := h.cons
  obtain ⟨y, _, rfl, h2, h⟩ := h.cons
  obtain rfl := h.nil
  obtain ⟨l, nl, rfl, k1, k2⟩ := h1
  obtain ⟨b, nl2, rfl, k3, k4⟩ := h2
  exact ⟨[], fields_law l _ b _ (bytes_wf2 k1) (bytes_wf k3)⟩
theorem blanksLaw_ok : OrcOk Try.prog 5 (.pure (LawFc [sT])) := by
  refine law_pure (Cx.ok o9 (Lls Ar.real)) mixed 5 Try.f5 _ (by kernel_rfl) (by kernel_rfl) (by kernel_rfl) 100 3 (by kernel_rfl) tells_blanks fun args h => ?_
  obtain ⟨x, _, rfl, h1, h⟩ := h.cons
  obtain rfl := h.nil
  obtain ⟨l, nl, rfl, k1, k2⟩ := h1
  exact ⟨[], blanks_law l _ (bytes_wf k1) (nlO_of k2)⟩

end Go.Proofs.Ytngifmlpilemlaa.V

/-
  Chapter 10, automata: TrieTells and TrieMore answer true, whatever they are given.
  It speaks of the pinned program alone; no condition.
-/
import Derived.Test.YtnbfiifkaddehaaTr13
namespace Go.Proofs.Ytnbfiifkaddehaa.V
open Go
set_option linter.unusedVariables false
set_option linter.unusedSimpArgs false

theorem arg_words {x : X} (h : ArgOf (.slice (.slice (.int .i64))) x) : ∃ (b : List (List Int)) (nl : Bool), x = .sl wTy b (some nl) false := by
  obtain ⟨xs, nl, rfl, _⟩ := h
  exact ⟨xs, nl, rfl⟩
theorem arg_word {x : X} (h : ArgOf (.slice (.int .i64)) x) : ∃ (b : List Int) (nl : Bool), x = i64s b (some nl) false := by
  obtain ⟨xs, nl, rfl, _⟩ := h
  exact ⟨xs, nl, rfl⟩
theorem arg_stas {x : X} (h : ArgOf (.slice staT) x) : ∃ (b : List Sta) (nl : Bool), x = .sl staT b (some nl) false ∧ b.length ≤ 9223372036854775807 := by
  obtain ⟨xs, nl, rfl, hw, _⟩ := h
  refine ⟨xs, nl, rfl, ?_⟩
  unfold wfD at hw
  rw [Bool.and_eq_true, decide_eq_true_eq] at hw
  exact hw.1
theorem arg_int {x : X} (h : ArgOf (.int .i64) x) : ∃ n : Int, x = i64x n := by
  obtain ⟨n, rfl, _⟩ := h
  exact ⟨n, rfl⟩
theorem bd_words {l : List (List Int)} {nl : Option Bool} {o : Bool} (h : BdX (.slice (.slice (.int .i64))) (.sl wTy l nl o)) : l.length ≤ 9000000000000000000 := by
  obtain ⟨xs, nl', o', e, hb⟩ := h
  cases e
  have h1 : ebT (.slice (.int .i64)) = 24 := by decide
  have h2 : reachBytes ≤ 216000000000000000000 := by decide
  rw [h1] at hb
  omega
theorem few60 {l : List (List Int)} (h : R.fewB l 60 = true) : l.length ≤ 60 ∧ R.shortB l = true := by
  unfold R.fewB at h
  rw [Bool.and_eq_true, decide_eq_true_eq] at h
  refine ⟨by omega, ?_⟩
  rw [short_mem]
  intro x hx
  have := List.all_eq_true.1 h.1 x hx
  rw [decide_eq_true_eq] at this
  omega
theorem few500 {l : List Sta} (h : few10B l 500 = true) : l.length ≤ 500 ∧ shortS l = true := by
  unfold few10B at h
  rw [Bool.and_eq_true, decide_eq_true_eq] at h
  refine ⟨by omega, ?_⟩
  unfold shortS
  rw [List.all_eq_true]
  intro x hx
  have := List.all_eq_true.1 h.1 x hx
  rw [decide_eq_true_eq] at this ⊢
  omega
theorem auto_short {l : List (List Int)} (h : Fits l) : (autoL (kL l) l).length ≤ 6001 ∧ shortS (autoL (kL l) l) = true := by
  have hk := h.klen
  refine ⟨by rw [autoL_len]; exact hk, ?_⟩
  unfold shortS
  rw [List.all_eq_true]
  intro s hs
  obtain ⟨p, _, rfl⟩ := List.mem_map.1 hs
  have := goA_le (kL l) 0 p
  rw [decide_eq_true_eq]
  show (goA (kL l) 0 p).length ≤ 1000000
  omega
theorem mkL_auto {l : List (List Int)} (h : Fits l) : mkL l = autoL (kL l) l := (mkL_eq h.short).1
theorem begO_kL {l : List (List Int)} (h : Fits l) : begO l 1 [[]] = kL l := bFrom_eq h.ris 20 0 [[]] (fun q hq => by rw [List.mem_singleton.1 hq]; simp) (List.pairwise_singleton _ _)

theorem ol1 : OOk (Ol1 Ar.real) := ((((OOk.none.add awake_ok).add few10_ok).add small_ok).add make_ok).add rmake_ok
theorem ol2 : OOk (Ol2 Ar.real) := ((((ol1.add stepA_ok).add rstep_ok).add same10_ok).add check_ok).add rcheck_ok

theorem tells_ok : OrcOk Try.prog 3 (.pure (LawFb [.slice staT, .slice (.slice (.int .i64)), .int .i64, .int .i64])) := by
  refine law_pureB (Cx.ok ol2 noL) mixed 3 Try.f3 _ (by kernel_rfl) (by kernel_rfl) (by kernel_rfl) 100 0 (by kernel_rfl) (fun i h => by omega) (fun args h hbd => ?_)
  obtain ⟨x, _, rfl, h1, k1⟩ := h.cons
  obtain ⟨y, _, rfl, h2, k2⟩ := k1.cons
  obtain ⟨z, _, rfl, h3, k3⟩ := k2.cons
  obtain ⟨u, _, rfl, h4, k4⟩ := k3.cons
  obtain rfl := k4.nil
  obtain ⟨l, nl, rfl, hl⟩ := arg_stas h1
  obtain ⟨ws, nw, rfl⟩ := arg_words h2
  obtain ⟨i, rfl⟩ := arg_int h3
  obtain ⟨n, rfl⟩ := arg_int h4
  have hws := bd_words hbd.2.1
  refine ⟨[], ?_⟩
  rw [tTells]
  simp only [rw_se]
  rw [bt (decide_eq_true hl)]
  cases g1 : few10B l 500 with
  | false => rw [bf (c := (!false) == false) rfl]
  | true =>
    rw [bt (c := (!true) == false) rfl, bt (decide_eq_true hws)]
    cases g2 : R.fewB ws 60 with
    | false => rw [bt (c := !false) rfl]
    | true =>
      rw [bf (c := !true) rfl]
      obtain ⟨l1, l2⟩ := few500 g1
      obtain ⟨w1, w2⟩ := few60 g2
      have hL : (decide (l.length ≤ 1000000) && shortS l) = true := by rw [l2, Bool.and_true, decide_eq_true_eq]; omega
      have hW : (decide (ws.length ≤ 300) && R.shortB ws) = true := by rw [w2, Bool.and_true, decide_eq_true_eq]; omega
      by_cases e : (writeW ws).2 = 0
      · have hf := Fits.of e
        obtain ⟨a1, a2⟩ := auto_short hf
        have e2 : autoN ws (begO ws 1 [[]]) = mkL ws := by rw [mkL_auto hf, begO_kL hf]; rfl
        rw [e2, bt (decide_eq_true e), bt hW, bt (decide_eq_true e), bt hL, bt hL, bt (by rw [mkL_auto hf, a2, decide_eq_true (show (autoL (kL ws) ws).length ≤ 1000000 by omega)]; rfl), bt (by simp), bt (by simp), bt (by simp), bt hL, bt hL]
        simp
      · rw [bf (decide_eq_false e), bt hW, bf (decide_eq_false e), bt hL, bt hL, bt (by rfl), bt (by simp), bt (by simp), bt (by simp), bt (by simp), bt hL, bt hL]
        simp

/-! ### TrieMore -/
theorem om2 : OOk (Om2 Ar.real) := (((((OOk.none.add awake_ok).add small_ok).add make_ok).add fit_ok).add R.sort_ok).add com_ok

theorem loopMo (l : List (List Int)) (nl : Option Bool) (w : List Int) (nw : Option Bool) (up : Bool) (a1 a2 : List Sta) (n1 n2 : Option Bool) (f : Int) (hl : l.length ≤ 1000) (hw : w.length ≤ 1000) (hs : R.shortB l = true) : ∀ (d i : Nat) (k : Int), l.length - i = d → i ≤ l.length →
    LoopTo (Cx Ar.real (Om2 Ar.real) (Lmo Ar.real)) 100 (loopAt Try.f6 0) 73 [0, 1, 5, 6, 8, 9, 10, 11] [.sl wTy l nl false, i64s w nw false, boolx up, .sl staT a1 n1 false, .sl staT a2 n2 false, i64x f, i64x k, i64x (i : Int)] []
      (.exit 0, [.dead, i64s w nw false, boolx up, .sl staT a1 n1 false, .sl staT a2 n2 false, i64x f, i64x (kmax w (l.drop i) k), .dead], []) := by
  intro d
  induction d with
  | zero =>
    intro i k h1 h2
    rw [List.drop_eq_nil_iff.2 (by omega)]
    refine LoopTo.left (by simp) fun K => ?_
    rw [lMore, bf (nlti (by omega))]
    exact ⟨_, rfl, R.fd (R.fk (R.fk (R.fk (R.fk (R.fk (R.fk (R.fd (Forget.same _))))))))⟩
  | succ d ih =>
    intro i k h1 h2
    have hi : i < l.length := by omega
    have hx := short_at2 hs hi
    rw [R.dropG [] hi, kmax]
    refine LoopTo.next (fun K => ?_) (ih (i + 1) _ (by omega) (by omega))
    rw [lMore]
    simp only [Int.toNat_natCast, rw_se, R.wi1 (show i ≤ 9000000000000000000 by omega)]
    rw [bt (lti hi), bt (rng hi), bt (by rw [decide_eq_true_eq]; exact ⟨Nat.le_trans hx (by omega), by omega⟩)]

theorem kmax_spec (w : List Int) : ∀ (l : List (List Int)) (k : Nat), ∃ m : Nat, kmax w l k = m ∧ k ≤ m ∧ (∀ u ∈ l, R.comL u w ≤ m) ∧ (m = k ∨ ∃ u ∈ l, R.comL u w = m)
  | [], k => ⟨k, rfl, Nat.le_refl _, fun u hu => by simp at hu, .inl rfl⟩
  | u :: l, k => by
    rw [kmax]
    by_cases h : (R.comL u w : Int) > k
    · rw [if_pos h]
      obtain ⟨m, m1, m2, m3, m4⟩ := kmax_spec w l (R.comL u w)
      refine ⟨m, m1, by omega, fun v hv => ?_, ?_⟩
      · rcases List.mem_cons.1 hv with rfl | hv
        · exact m2
        · exact m3 v hv
      · rcases m4 with m4 | ⟨v, hv, m4⟩
        · exact .inr ⟨u, by simp, m4.symm⟩
        · exact .inr ⟨v, by simp [hv], m4⟩
    · rw [if_neg h]
      obtain ⟨m, m1, m2, m3, m4⟩ := kmax_spec w l k
      refine ⟨m, m1, m2, fun v hv => ?_, ?_⟩
      · rcases List.mem_cons.1 hv with rfl | hv
        · omega
        · exact m3 v hv
      · rcases m4 with m4 | ⟨v, hv, m4⟩
        · exact .inl m4
        · exact .inr ⟨v, by simp [hv], m4⟩

theorem more_ok : OrcOk Try.prog 6 (.pure (LawFb [.slice (.slice (.int .i64)), .slice (.int .i64)])) := by
  refine law_pureB (Cx.ok om2 (Lmo Ar.real)) mixed 6 Try.f6 _ (by kernel_rfl) (by kernel_rfl) (by kernel_rfl) 100 1 (by kernel_rfl) (fun i h => ?_) (fun args h hbd => ?_)
  · obtain rfl : i = 0 := by omega
    refine Tells.mk (key := 8) (N := 73) (ks := [0, 1, 5, 6, 8, 9, 10, 11]) (F := LmoF Ar.real) (by kernel_rfl) rfl fun xs H r h => ?_
    unfold LmoF at h
    split at h
    · rename_i l nl w nw up x y f k i
      split at h
      · rename_i p q hp hq
        cases staOf_eq hp
        cases staOf_eq hq
        obtain ⟨hg, rfl⟩ := Tr.one h
        simp only [rw_se, Bool.and_eq_true, decide_eq_true_eq] at hg ⊢
        dsimp only [Ty.den] at hg
        obtain ⟨⟨h1, h2, h3, h4⟩, h5⟩ := hg
        obtain ⟨i, rfl⟩ := Int.eq_ofNat_of_zero_le h3
        simp only [Int.toNat_natCast]
        exact loopMo l nl w nw up p.1 q.1 p.2 q.2 f h1 h2 h5 _ i k rfl (by omega)
      · cases h
    · cases h
  · obtain ⟨x, _, rfl, h1, k1⟩ := h.cons
    obtain ⟨y, _, rfl, h2, k2⟩ := k1.cons
    obtain rfl := k2.nil
    obtain ⟨l, nl, rfl⟩ := arg_words h1
    obtain ⟨w, nw, rfl⟩ := arg_word h2
    have hl := bd_words hbd.1
    refine ⟨[], ?_⟩
    rw [tMore]
    simp only [rw_se, List.nil_append, show Int.toNat 0 = 0 from rfl, List.drop_zero]
    by_cases e : (writeW l).2 = 0
    · rw [bt (decide_eq_true e), bt (decide_eq_true hl)]
      cases g1 : R.fewB l 60 with
      | false => rw [bf (c := (!false) == false) rfl]
      | true =>
        rw [bt (c := (!true) == false) rfl]
        cases g2 : fitB w with
        | false => rw [bf (c := (!false) == false) rfl]
        | true =>
          obtain ⟨l1, l2⟩ := few60 g1
          have hw := (fitB_good g2).2.2.1
          have hf := Fits.of e
          have hmem : ∀ x, x ∈ R.setL (l ++ [w]) ↔ x ∈ l ∨ x = w := fun x => by rw [R.setL_mem, List.mem_append, List.mem_singleton]
          have hlen : (R.setL (l ++ [w])).length ≤ 300 := by
            have := R.setL_len (l ++ [w])
            rw [List.length_append, List.length_singleton] at this
            omega
          have hall : ∀ x ∈ R.setL (l ++ [w]), fitB x = true := fun x hx => by
            rcases (hmem x).1 hx with hx | rfl
            · exact hf.fit x hx
            · exact g2
          have e' : (writeW (R.setL (l ++ [w]))).2 = 0 := by rw [writeW_of hlen hall (R.setL_rises _)]
          have hf' := Fits.of e'
          have hsh : R.shortB (l ++ [w]) = true := by
            rw [short_mem] at l2 ⊢
            intro x hx
            rcases List.mem_append.1 hx with hx | hx
            · exact l2 x hx
            · rw [List.mem_singleton.1 hx]; omega
          have hlw : (l ++ [w]).length = l.length + 1 := by simp
          rw [bt (c := (!true) == false) rfl, bt (by rw [decide_eq_true_eq]; omega), bt (by rw [decide_eq_true_eq, List.length_singleton]; omega), bt (by rw [hsh, Bool.and_true, decide_eq_true_eq]; omega), bt (decide_eq_true e'), bt (by
            rw [l2, Bool.and_true, decide_eq_true_eq]; exact ⟨by omega, by omega, by omega, by omega⟩)]
          obtain ⟨m, m1, m2, m3, m4⟩ := kmax_spec w l 0
          have hm : m ≤ w.length := by
            rcases m4 with m4 | ⟨u, hu, m4⟩
            · omega
            · have := (R.comL_le u w).2; omega
          have hk := begs_more hf.begs hf'.begs hmem m3 (m4.imp id id) hm
          have hK1 := hf.klen
          rw [mkL_auto hf, mkL_auto hf', autoL_len, autoL_len, show kmax w l 0 = (m : Int) from m1, rw_wrap, rw_wrap, wi64 (n := ((kL l).length : Int) + (w.length : Int)) (by omega) (by omega), wi64 (by omega) (by omega)]
          have : (((kL (R.setL (l ++ [w]))).length : Int) == ((kL l).length : Int) + (w.length : Int) - (m : Int)) = true := by rw [beq_iff_eq]; omega
          rw [this]
    · rw [bf (decide_eq_false e), bt (decide_eq_true hl)]
      cases g1 : R.fewB l 60 with
      | false => rw [bf (c := (!false) == false) rfl]
      | true =>
        rw [bt (c := (!true) == false) rfl]
        cases g2 : fitB w with
        | false => rw [bf (c := (!false) == false) rfl]
        | true => rw [bt (c := (!true) == false) rfl, bt (by rw [bne_iff_ne]; exact e)]

end Go.Proofs.Ytnbfiifkaddehaa.V

/-
  Chapter 03, order: the statements OrderTells, OrderPuts.
  It speaks of the pinned program alone; no condition.
-/
import Derived.Test.YtanbekjefbebaaaOr18
namespace Go.Proofs.Ytanbekjefbebaaa.V
open Go
set_option linter.unusedVariables false
set_option linter.unusedSimpArgs false

theorem few_short {l : List (List Int)} (h : fewB l 200 = true) : l.length ≤ 200 ∧ shortB l = true := by
  unfold fewB at h
  rw [Bool.and_eq_true, decide_eq_true_eq] at h
  refine ⟨by omega, ?_⟩
  unfold shortB
  rw [List.all_eq_true]
  intro x hx
  have := List.all_eq_true.1 h.1 x hx
  rw [decide_eq_true_eq] at this ⊢
  omega
theorem bd_words {l : List (List Int)} {nl : Option Bool} {o : Bool} (h : BdX (.slice (.slice (.int .i64))) (.sl wT l nl o)) : l.length ≤ 9000000000000000000 := by
  obtain ⟨xs, nl', o', e, hb⟩ := h
  cases e
  have h1 : ebT (.slice (.int .i64)) = 24 := by decide
  have h2 : reachBytes ≤ 216000000000000000000 := by decide
  rw [h1] at hb
  omega
theorem rises_set (l : List (List Int)) : risesB (setL l) = true := risesB_iff.2 (setL_rises l)

theorem tells_ok : OrcOk Try.prog 3 (.pure (LawFb [.slice (.slice (.int .i64)), .slice (.int .i64), .slice (.int .i64)])) := by
  refine law_pureB (Cx.ok o8 noL) mixed 3 Try.f3 _ (by kernel_rfl) (by kernel_rfl) (by kernel_rfl) 100 0 (by kernel_rfl) (fun i h => by omega) fun args h hbd => ?_
  obtain ⟨x, _, rfl, h1, k1⟩ := h.cons
  obtain ⟨y, _, rfl, h2, k2⟩ := k1.cons
  obtain ⟨z, _, rfl, h3, k3⟩ := k2.cons
  obtain rfl := k3.nil
  obtain ⟨l, nl, rfl⟩ := arg_words h1
  obtain ⟨a, na, rfl⟩ := arg_word h2
  obtain ⟨b, nb, rfl⟩ := arg_word h3
  have hl := bd_words hbd.cons.1
  refine ⟨[], ?_⟩
  rw [tTells, rw_se, bt (decide_eq_true hl)]
  cases hf : fewB l 200 with
  | false => rfl
  | true =>
    obtain ⟨f1, f2⟩ := few_short hf
    have sl := setL_len l
    rw [rw_se true, bt (c := (!true) == false) rfl]
    by_cases g2 : a.length > 100
    · rw [bf (by rw [decide_eq_true (show (a.length : Int) > 100 by omega)]; rfl)]
    · rw [bt (by rw [decide_eq_false (show ¬ (a.length : Int) > 100 by omega)]; rfl)]
      by_cases g3 : b.length > 100
      · rw [bt (by rw [decide_eq_true_eq]; omega)]
      · rw [bf (by rw [decide_eq_false_iff_not]; omega)]
        simp only [rw_se, dle (show l.length ≤ 1000 by omega), f2, setL_short f2, rises_set, Bool.and_self, Bool.and_true, d2le (show (setL l).length ≤ 1000000 by omega) (show a.length ≤ 1000000 by omega), d2le (show a.length ≤ 1000000 by omega) (show b.length ≤ 1000000 by omega), dle (show (setL l).length ≤ 1000000 by omega), cond_true, beq_self_eq_true, decide_true]

theorem set_snoc (l : List (List Int)) (w : List Int) : setL (l ++ [w]) = insL (setL l) w := by
  simp [setL, List.foldl_append]

theorem puts_ok : OrcOk Try.prog 8 (.pure (LawFb [.slice (.slice (.int .i64)), .slice (.int .i64)])) := by
  refine law_pureB (Cx.ok o8 noL) mixed 8 Try.f8 _ (by kernel_rfl) (by kernel_rfl) (by kernel_rfl) 100 0 (by kernel_rfl) (fun i h => by omega) fun args h hbd => ?_
  obtain ⟨x, _, rfl, h1, k1⟩ := h.cons
  obtain ⟨y, _, rfl, h2, k2⟩ := k1.cons
  obtain rfl := k2.nil
  obtain ⟨l, nl, rfl⟩ := arg_words h1
  obtain ⟨w, nw, rfl⟩ := arg_word h2
  have hl := bd_words hbd.cons.1
  refine ⟨[], ?_⟩
  rw [tPuts, rw_se, bt (decide_eq_true hl)]
  cases hf : fewB l 200 with
  | false => rfl
  | true =>
    obtain ⟨f1, f2⟩ := few_short hf
    have sl := setL_len l
    rw [rw_se true, bt (c := (!true) == false) rfl]
    by_cases g2 : w.length > 100
    · rw [bt (by rw [decide_eq_true_eq]; omega)]
    · rw [bf (by rw [decide_eq_false_iff_not]; omega)]
      have f3 : shortB (l ++ [w]) = true := by
        unfold shortB at f2 ⊢
        rw [List.all_append, f2]
        simp; omega
      have sl2 := setL_len (l ++ [w])
      have ll : (l ++ [w]).length = l.length + 1 := by simp
      have hc := cnt_le (setL l) w
      have t1 : ((setL l).take (cntL (setL l) w)).length = cntL (setL l) w := by rw [List.length_take]; omega
      have t2 : ((setL l).drop (cntL (setL l) w)).length = (setL l).length - cntL (setL l) w := List.length_drop
      have s1 := setL_short f2
      have s2 := setL_short f3
      simp only [rw_se, List.nil_append, dle (show l.length ≤ 1000 by omega), f2, f3, s1, s2, rises_set, Bool.and_self, Bool.and_true, Int.toNat_natCast, d2le (show (setL l).length ≤ 1000000 by omega) (show w.length ≤ 1000000 by omega), dle (show (setL (l ++ [w])).length ≤ 1000000 by omega), dle (show (l ++ [w]).length ≤ 1000 by omega), cond_true, set_snoc]
      have hI : w ∉ setL l → insL (setL l) w = (setL l).take (cntL (setL l) w) ++ [w] ++ (setL l).drop (cntL (setL l) w) := fun h => by
        rw [insL, if_neg h]; simp
      have hI2 : w ∈ setL l → insL (setL l) w = setL l := fun h => by rw [insL, if_pos h]
      rw [bt (by rw [decide_eq_true_eq]; omega), bt (by rw [decide_eq_true_eq]; simp; omega)]
      by_cases hm : w ∈ setL l
      · rw [bt (decide_eq_true hm), hI2 hm, decide_eq_true rfl]
        have s3 : decide ((setL l).length ≤ 1000000) = true := dle (by omega)
        simp only [s3, s1, Bool.and_self, cond_true]
      · rw [bf (decide_eq_false hm), bt (by rw [decide_eq_false (by omega)]; rfl), bf (by rw [decide_eq_false_iff_not]; omega), bt (by rw [decide_eq_true_eq]; omega), bt (by rw [decide_eq_true_eq]; omega), bt (by rw [decide_eq_true_eq, t1]; simp; omega), bt (by rw [decide_eq_true_eq]; omega), bt (by rw [decide_eq_true_eq, List.length_append, t1, t2]; simp; omega), decide_eq_true (hI hm)]
        rw [set_snoc] at sl2 s2
        have s3 : decide ((insL (setL l) w).length ≤ 1000000) = true := dle (by omega)
        simp only [s3, s2, Bool.and_self, cond_true]

end Go.Proofs.Ytanbekjefbebaaa.V

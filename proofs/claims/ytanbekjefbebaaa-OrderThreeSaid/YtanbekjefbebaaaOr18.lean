/-
  Chapter 03, order: the statements hold whatever comes in.
  It speaks of the pinned program alone; no condition.
-/
import Derived.Test.YtanbekjefbebaaaOr17
namespace Go.Proofs.Ytanbekjefbebaaa.V
open Go
set_option linter.unusedVariables false
set_option linter.unusedSimpArgs false

theorem ex_set : setL [[98], [97], [97, 98], [97]] = [[97], [97, 98], [98]] := by decide
theorem awake_ok : OrcOk Try.prog 9 (.pure awakeF) := by
  refine pureOk (Cx.ok o7 noL) mixed 9 Try.f9 (by kernel_rfl) (by kernel_rfl) (by kernel_rfl) 100 0 (by kernel_rfl) (fun i h => by omega) fun args r h => ?_
  unfold awakeF at h
  split at h
  · cases h
    refine ⟨rfl, rfl, ?_⟩
    rw [tAwake]
    simp only [rw_se, ex_set]
    exact ⟨_, rfl⟩
  · cases h
theorem o8 : OOk (Or8 Ar.real) := o7.add awake_ok

theorem dle {n m : Nat} (h : n ≤ m) : decide (n ≤ m) = true := decide_eq_true h
theorem d2le {n m k : Nat} (h1 : n ≤ k) (h2 : m ≤ k) : decide (n ≤ k ∧ m ≤ k) = true := decide_eq_true ⟨h1, h2⟩
theorem arg_word {x : X} (h : ArgOf (.slice (.int .i64)) x) : ∃ (b : List Int) (nl : Bool), x = i64s b (some nl) false := by
  obtain ⟨xs, nl, rfl, _⟩ := h
  exact ⟨xs, nl, rfl⟩
theorem arg_words {x : X} (h : ArgOf (.slice (.slice (.int .i64))) x) : ∃ (b : List (List Int)) (nl : Bool), x = .sl wT b (some nl) false := by
  obtain ⟨xs, nl, rfl, _⟩ := h
  exact ⟨xs, nl, rfl⟩

theorem comL_app (u a b : List Int) : comL (u ++ a) (u ++ b) = u.length + comL a b := by
  induction u with
  | nil => simp
  | cons x u ih => simp only [List.cons_append, comL, if_true, ih, List.length_cons]; omega
theorem ltL_app (u a b : List Int) : ltL (u ++ a) (u ++ b) = ltL a b := by
  induction u with
  | nil => rfl
  | cons x u ih =>
    simp only [ltL, Go.Proofs.ltOf, List.cons_append, cmpL, Int.lt_irrefl, if_false] at ih ⊢
    exact ih
theorem comL_min : ∀ a b c : List Int, comL a c ≥ min (comL a b) (comL b c)
  | [], b, c => by cases b <;> simp [comL]
  | _ :: _, [], _ => by simp [comL]
  | _ :: _, _ :: _, [] => by simp [comL]
  | x :: a, y :: b, z :: c => by
    have := comL_min a b c
    simp only [comL]
    by_cases h1 : x = y
    · subst h1
      by_cases h2 : x = z
      · simp [h2]; omega
      · simp [h2]
    · simp [h1]
theorem comL_comm : ∀ a b : List Int, comL a b = comL b a
  | [], [] => rfl
  | [], _ :: _ => rfl
  | _ :: _, [] => rfl
  | x :: a, y :: b => by
    simp only [comL, comL_comm a b]
    by_cases h : x = y
    · simp [h]
    · have : ¬ y = x := fun e => h e.symm
      simp [h, this]

theorem commons_ok : OrcOk Try.prog 7 (.pure (LawFc [.slice (.int .i64), .slice (.int .i64), .slice (.int .i64)])) := by
  refine law_pure (Cx.ok o8 noL) mixed 7 Try.f7 _ (by kernel_rfl) (by kernel_rfl) (by kernel_rfl) 100 0 (by kernel_rfl) (fun i h => by omega) fun args h => ?_
  obtain ⟨x, _, rfl, h1, k1⟩ := h.cons
  obtain ⟨y, _, rfl, h2, k2⟩ := k1.cons
  obtain ⟨z, _, rfl, h3, k3⟩ := k2.cons
  obtain rfl := k3.nil
  obtain ⟨a, na, rfl⟩ := arg_word h1
  obtain ⟨b, nb, rfl⟩ := arg_word h2
  obtain ⟨c, nc, rfl⟩ := arg_word h3
  refine ⟨[], ?_⟩
  rw [tCommons]
  by_cases g1 : a.length > 100
  · rw [bf (by rw [decide_eq_true (show (a.length : Int) > 100 by omega)]; rfl)]
  · rw [bt (by rw [decide_eq_false (show ¬ (a.length : Int) > 100 by omega)]; rfl)]
    by_cases g2 : b.length > 100
    · rw [bf (by rw [decide_eq_true (show (b.length : Int) > 100 by omega)]; rfl)]
    · rw [bt (by rw [decide_eq_false (show ¬ (b.length : Int) > 100 by omega)]; rfl)]
      by_cases g3 : c.length > 100
      · rw [bt (by rw [decide_eq_true_eq]; omega)]
      · rw [bf (by rw [decide_eq_false_iff_not]; omega)]
        simp only [rw_se, d2le (show a.length ≤ 1000000 by omega) (show b.length ≤ 1000000 by omega), d2le (show b.length ≤ 1000000 by omega) (show c.length ≤ 1000000 by omega), d2le (show a.length ≤ 1000000 by omega) (show c.length ≤ 1000000 by omega), cond_true]
        have m1 := comL_min a b c
        have m2 := comL_min a c b
        have m3 := comL_min b a c
        rw [comL_comm c b] at m2
        rw [comL_comm b a] at m3
        generalize comL a b = p at *
        generalize comL b c = q at *
        generalize comL a c = r at *
        have e1 : (if (q : Int) < (p : Int) then (q : Int) else (p : Int)) ≤ r := by split <;> omega
        have e2 : (if (r : Int) < (q : Int) then (r : Int) else (q : Int)) ≤ p := by split <;> omega
        have e3 : (if (r : Int) < (p : Int) then (r : Int) else (p : Int)) ≤ q := by split <;> omega
        rw [bt (by rw [decide_eq_true e1]; rfl), bt (by rw [decide_eq_true e2]; rfl), decide_eq_true e3]

theorem begins_ok : OrcOk Try.prog 6 (.pure (LawFc [.slice (.int .i64), .slice (.int .i64), .slice (.int .i64)])) := by
  refine law_pure (Cx.ok o8 noL) mixed 6 Try.f6 _ (by kernel_rfl) (by kernel_rfl) (by kernel_rfl) 100 0 (by kernel_rfl) (fun i h => by omega) fun args h => ?_
  obtain ⟨x, _, rfl, h1, k1⟩ := h.cons
  obtain ⟨y, _, rfl, h2, k2⟩ := k1.cons
  obtain ⟨z, _, rfl, h3, k3⟩ := k2.cons
  obtain rfl := k3.nil
  obtain ⟨u, nu, rfl⟩ := arg_word h1
  obtain ⟨a, na, rfl⟩ := arg_word h2
  obtain ⟨b, nb, rfl⟩ := arg_word h3
  refine ⟨[], ?_⟩
  rw [tBegins]
  by_cases g1 : u.length > 100
  · rw [bf (by rw [decide_eq_true (show (u.length : Int) > 100 by omega)]; rfl)]
  · rw [bt (by rw [decide_eq_false (show ¬ (u.length : Int) > 100 by omega)]; rfl)]
    by_cases g2 : a.length > 100
    · rw [bf (by rw [decide_eq_true (show (a.length : Int) > 100 by omega)]; rfl)]
    · rw [bt (by rw [decide_eq_false (show ¬ (a.length : Int) > 100 by omega)]; rfl)]
      by_cases g3 : b.length > 100
      · rw [bt (by rw [decide_eq_true_eq]; omega)]
      · rw [bf (by rw [decide_eq_false_iff_not]; omega)]
        have hc := comL_le a b
        have l1 : (u ++ a).length = u.length + a.length := List.length_append
        have l2 : (u ++ b).length = u.length + b.length := List.length_append
        have hw : Ar.real.wrap .i64 ((u.length : Int) + (comL a b : Int)) = ((u.length + comL a b : Nat) : Int) := by rw [rw_wrap, wi64 (by omega) (by omega)]; omega
        simp only [rw_se, List.nil_append, d2le (show a.length ≤ 1000000 by omega) (show b.length ≤ 1000000 by omega), d2le (show (u ++ a).length ≤ 1000000 by omega) (show (u ++ b).length ≤ 1000000 by omega), cond_true, comL_app, ltL_app, hw, beq_self_eq_true]
        rw [bt (by rw [decide_eq_true_eq]; omega), bt (by rw [decide_eq_true_eq]; omega), bt (by rw [decide_eq_true_eq]; omega), bt (by rw [decide_eq_true_eq]; omega)]

end Go.Proofs.Ytanbekjefbebaaa.V

/-
  Chapter 03, order: OrderThree answers true, whatever it is given.
  It speaks of the pinned program alone; no condition.
-/
import Derived.Test.YtanbekjefbebaaaOr22
namespace Go.Proofs.Ytanbekjefbebaaa.V
open Go
set_option linter.unusedVariables false
set_option linter.unusedSimpArgs false

theorem comL_self : ∀ a : List Int, comL a a = a.length
  | [] => rfl
  | x :: a => by simp [comL, comL_self a]
theorem comL_full : ∀ a b : List Int, comL a b = a.length → comL a b = b.length → a = b
  | [], [], _, _ => rfl
  | [], _ :: _, _, h => by simp [comL] at h
  | _ :: _, [], h, _ => by simp [comL] at h
  | x :: a, y :: b, h1, h2 => by
    by_cases h : x = y
    · subst h
      have h1' : comL a b = a.length := by simpa [comL] using h1
      have h2' : comL a b = b.length := by simpa [comL] using h2
      rw [comL_full a b h1' h2']
    · simp only [comL, if_neg h, List.length_cons] at h1
      omega

theorem rg6 : RgT (CxJ Ar.real (Or8 Ar.real) noL noM (Jthree Ar.real)) (rgAt Try.f4 6) := by
  refine RgT.mk (N := 138) (ks := [0, 1, 2, 7, 8, 9, 10]) (F := JfarF Ar.real) (by kernel_rfl) fun xs H r h k => ?_
  unfold JfarF at h
  split at h
  · rename_i a na b nb c nc up s o
    obtain ⟨hg, rfl⟩ := Tr.one h
    simp only [rw_se, decide_eq_true_eq] at hg
    dsimp only [Ty.den] at hg
    obtain ⟨h1, h2, h3⟩ := hg
    refine ⟨[i64s a na false, i64s b nb false, i64s c nc false, boolx up, boolx s, boolx o, boolx true], (jFar Ar.real _ a na b nb c nc up s o k).trans ?_, ?_⟩
    · simp only [rw_se, d2le (show a.length ≤ 1000000 by omega) (show b.length ≤ 1000000 by omega), d2le (show b.length ≤ 1000000 by omega) (show c.length ≤ 1000000 by omega), d2le (show a.length ≤ 1000000 by omega) (show c.length ≤ 1000000 by omega), cond_true]
      cases e1 : ltL a b with
      | false => rfl
      | true =>
        cases e2 : ltL b c with
        | false => rfl
        | true => rw [ltL_tr e1 e2]; rfl
    · exact fk (fk (fd (fk (fk (fk (fk (Forget.same _)))))))
  · cases h

theorem rg9 : RgT (CxJ Ar.real (Or8 Ar.real) noL noM (Jthree Ar.real)) (rgAt Try.f4 9) := by
  refine RgT.mk (N := 138) (ks := [0, 1, 7, 8, 9, 10, 11, 12, 13]) (F := JalF Ar.real) (by kernel_rfl) fun xs H r h k => ?_
  unfold JalF at h
  split at h
  · rename_i a na b nb up s o f m nm q
    obtain ⟨hg, rfl⟩ := Tr.one h
    simp only [rw_se, decide_eq_true_eq] at hg
    dsimp only [Ty.den] at hg
    obtain ⟨h1, h2, rfl⟩ := hg
    refine ⟨[i64s a na false, i64s b nb false, boolx up, boolx s, boolx o, boolx f, i64s m nm true, i64x (comL a b : Int), boolx true], (jAl Ar.real _ a na b nb up s o f m nm _ k).trans ?_, Forget.same _⟩
    have hle := comL_le a b
    have hc := comL_comm a b
    have hd : comL a b = comL b a := hc
    simp only [rw_se, d2le (show b.length ≤ 1000000 by omega) (show a.length ≤ 1000000 by omega), cond_true, ← hd]
    generalize comL a b = p at *
    rw [bt (by rw [decide_eq_true (show (p : Int) ≤ (a.length : Int) by omega)]; rfl), bt (by rw [decide_eq_true (show (p : Int) ≤ (b.length : Int) by omega)]; rfl), bt (by simp)]
    by_cases e1 : (p : Int) < (a.length : Int)
    · rw [bt (by rw [decide_eq_true e1]; rfl)]
      by_cases e2 : (p : Int) < (b.length : Int)
      · rw [bf (by rw [decide_eq_true e2]; rfl)]
      · rw [bt (by rw [decide_eq_false e2]; rfl)]
        have : ((p : Int) == if (b.length : Int) < (a.length : Int) then (b.length : Int) else (a.length : Int)) = true := by
          rw [beq_iff_eq]; split <;> omega
        rw [this]
    · rw [bf (by rw [decide_eq_false e1]; rfl)]
      have : ((p : Int) == if (b.length : Int) < (a.length : Int) then (b.length : Int) else (a.length : Int)) = true := by
        rw [beq_iff_eq]; split <;> omega
      rw [this]
  · cases h

theorem rgs4 : RgsT (CxJ Ar.real (Or8 Ar.real) noL noM (Jthree Ar.real)) Try.f4 := by
  refine RgsT.mk (n := 11) (by kernel_rfl) fun i hi => ?_
  by_cases h6 : i = 6
  · subst h6; exact rg6
  · by_cases h9 : i = 9
    · subst h9; exact rg9
    · refine RgT.off ?_
      have h : ((List.range 11).all fun i => i == 6 || i == 9 || (Jthree Ar.real (rgAt Try.f4 i).1).isNone) = true := by kernel_rfl
      have := List.all_eq_true.1 h i (by simpa using hi)
      simp only [h6, h9, beq_iff_eq, Bool.or_eq_true, or_false, false_or, Option.isNone_iff_eq_none] at this
      exact this

theorem three_ok : OrcOk Try.prog 4 (.pure (LawFc [.slice (.int .i64), .slice (.int .i64), .slice (.int .i64)])) := by
  refine law_pure (CxJ.ok o8 noL noM (Jthree Ar.real)) mixed 4 Try.f4 _ (by kernel_rfl) (by kernel_rfl) (by kernel_rfl) 100 0 (by kernel_rfl) (fun i h => by omega) (fun args h => ?_) (hJ := rgs4)
  obtain ⟨x, _, rfl, h1, k1⟩ := h.cons
  obtain ⟨y, _, rfl, h2, k2⟩ := k1.cons
  obtain ⟨z, _, rfl, h3, k3⟩ := k2.cons
  obtain rfl := k3.nil
  obtain ⟨a, na, rfl⟩ := arg_word h1
  obtain ⟨b, nb, rfl⟩ := arg_word h2
  obtain ⟨c, nc, rfl⟩ := arg_word h3
  refine ⟨[], ?_⟩
  rw [tThree]
  by_cases g1 : a.length > 100
  · rw [bf (by rw [decide_eq_true (show (a.length : Int) > 100 by omega)]; rfl)]
  · rw [bt (by rw [decide_eq_false (show ¬ (a.length : Int) > 100 by omega)]; rfl)]
    by_cases g2 : b.length > 100
    · rw [bf (by rw [decide_eq_true (show (b.length : Int) > 100 by omega)]; rfl)]
    · rw [bt (by rw [decide_eq_false (show ¬ (b.length : Int) > 100 by omega)]; rfl)]
      by_cases g3 : c.length > 100
      · rw [bt (by rw [decide_eq_true_eq]; omega)]
      · rw [bf (by rw [decide_eq_false_iff_not]; omega)]
        have l1 : (a ++ [(5 : Int)]).length = a.length + 1 := by simp
        have e1 : ltL a (a ++ [(5 : Int)]) = true := by
          have := ltL_app a [] [5]
          rw [List.append_nil] at this
          rw [this]; decide
        have e2 : ((!ltL a b == ltL b a) == !decide (a = b)) = true := by
          by_cases e : a = b
          · subst e; rw [ltL_irr]; simp
          · rcases ltL_or e with h | h
            · rw [h, ltL_asym h]; simp [e]
            · rw [h, ltL_asym h]; simp [e]
        simp only [rw_se, List.nil_append, e1, ltL_irr, e2]
        rw [bt (decide_eq_true (show a.length ≤ 1000000 by omega)), bt (d2le (show a.length ≤ 1000000 by omega) (show b.length ≤ 1000000 by omega)), bt (d2le (show b.length ≤ 1000000 by omega) (show a.length ≤ 1000000 by omega)),
          bt (by rw [decide_eq_true_eq]; omega), bt (by rw [decide_eq_true_eq]; omega), bt (by rw [decide_eq_true_eq]; simp; omega), bt (d2le (show a.length ≤ 1000000 by omega) (show b.length ≤ 1000000 by omega)),
          bt (by rw [decide_eq_true_eq]; simp; omega), bt (c := true == true) rfl, bt (d2le (show a.length ≤ 1000000 by omega) (show (a ++ [(5 : Int)]).length ≤ 1000000 by omega)), bt (c := true == true) rfl, bt (d2le (show a.length ≤ 1000000 by omega) (show a.length ≤ 1000000 by omega)), bt (c := (!false) == true) rfl]
        by_cases e : a = b
        · subst e
          rw [comL_self]
          simp
        · by_cases e3 : comL a b = a.length
          · have : comL a b ≠ b.length := fun e4 => e (comL_full a b e3 e4)
            rw [bt (by rw [e3]; simp)]
            have h5 : ((comL a b : Int) == (b.length : Int)) = false := by rw [beq_eq_false_iff_ne]; omega
            rw [h5, decide_eq_false e]; rfl
          · rw [bf (by rw [beq_eq_false_iff_ne.2 (show (comL a b : Int) ≠ (a.length : Int) by omega)]; rfl), decide_eq_false e]; rfl

end Go.Proofs.Ytanbekjefbebaaa.V

/-
  Chapter 03, order: words in order: the plain law; two words compared wherever they lie.
  It speaks of the pinned program alone; no condition.
-/
import Derived.Test.YtanbekjefbebaaaOr1
import Derived.Test.YtanbekjefbebaaaOrSh
namespace Go.Proofs.Ytanbekjefbebaaa.V
open Go Go.Proofs Go.Shelf Go.RowKit Go.Lib Go.Sort
set_option linter.unusedVariables false
set_option linter.unusedSimpArgs false

theorem cmpL_self : ∀ a : List Int, cmpL a a = 0
  | [] => rfl
  | x :: xs => by simp [cmpL, cmpL_self xs]
theorem cmpL_zero : ∀ {a b : List Int}, cmpL a b = 0 → a = b
  | [], [], _ => rfl
  | [], _ :: _, h => by simp [cmpL] at h
  | _ :: _, [], h => by simp [cmpL] at h
  | x :: xs, y :: ys, h => by
    simp only [cmpL] at h
    split at h
    · cases h
    · split at h
      · cases h
      · have : x = y := by omega
        rw [this, cmpL_zero h]
theorem cmpL_neg : ∀ a b : List Int, cmpL b a = - cmpL a b
  | [], [] => rfl
  | [], _ :: _ => rfl
  | _ :: _, [] => rfl
  | x :: xs, y :: ys => by
    simp only [cmpL]
    by_cases h1 : x < y
    · have h2 : ¬ y < x := by omega
      simp [h1, h2]
    · by_cases h2 : y < x
      · simp [h1, h2]
      · simp [h1, h2, cmpL_neg xs ys]
theorem cmpL_trans : ∀ {a b c : List Int}, cmpL a b < 0 → cmpL b c < 0 → cmpL a c < 0
  | [], _, [], h1, h2 => by
    rename_i b
    cases b <;> simp [cmpL] at h1 h2
  | [], _, _ :: _, h1, h2 => by simp [cmpL]
  | _ :: _, [], _, h1, h2 => by simp [cmpL] at h1
  | _ :: _, _ :: _, [], h1, h2 => by simp [cmpL] at h2
  | x :: xs, y :: ys, z :: zs, h1, h2 => by
    simp only [cmpL] at h1 h2 ⊢
    by_cases p1 : x < z
    · simp [p1]
    · by_cases p2 : z < x
      · exfalso
        by_cases q1 : x < y
        · have q2 : ¬ y < z := by omega
          have q3 : z < y := by omega
          simp [q2, q3] at h2
        · by_cases q2 : y < x
          · simp [q1, q2] at h1
          · have : x = y := by omega
            subst this
            simp [p1, p2] at h2
      · have : x = z := by omega
        subst this
        simp only [Int.lt_irrefl, if_false]
        by_cases q1 : x < y
        · have q3 : ¬ y < x := by omega
          simp [q1, q3] at h2
        · by_cases q2 : y < x
          · simp [q1, q2] at h1
          · simp only [q1, q2, if_false] at h1 h2
            exact cmpL_trans h1 h2

abbrev ltL : List Int → List Int → Bool := ltOf cmpL
theorem ltL_iff {a b : List Int} : ltL a b = true ↔ cmpL a b < 0 := by simp [ltL, ltOf]
theorem ltL_anti {a b : List Int} (h1 : ltL a b = false) (h2 : ltL b a = false) : a = b := by
  simp only [ltL, ltOf, decide_eq_false_iff_not] at h1 h2
  have := cmpL_neg a b
  exact cmpL_zero (by omega)
theorem swoL : SWO ltL where
  irrefl x := by simp [ltL, ltOf, cmpL_self]
  trans x y z h1 h2 := by
    rw [ltL_iff] at h1 h2 ⊢
    exact cmpL_trans h1 h2
  ntrans x y z h1 h2 := by
    rw [Bool.eq_false_iff, Ne, ltL_iff] at h1 h2 ⊢
    intro h3
    by_cases e1 : x = y
    · subst e1; exact h2 h3
    · have : cmpL y x < 0 := by
        have n := cmpL_neg x y
        have : cmpL x y ≠ 0 := fun h => e1 (cmpL_zero h)
        omega
      exact h2 (cmpL_trans this h3)

/-- Words in order, each as often as it came. -/
def srtL (l : List (List Int)) : List (List Int) := l.mergeSort fun x y => !ltL y x

/-- Words that lie somewhere. -/
def WordAt (w : World) (v : Value) (xs : List Int) : Prop := ∃ a c, v = .slice a xs.length c ∧ xs.length ≤ 9223372036854775807 ∧
  ∀ j, j < xs.length → ∃ b o, a = some ⟨b, o, none⟩ ∧ w.cell? ⟨b, o + j, none⟩ = some (.int .i64 (xs.getD j 0))

set_option maxHeartbeats 4000000 in
set_option maxRecDepth 100000 in
theorem k_compare (u v : Value) (xs ys : List Int) (w : World) (hu : WordAt w u xs) (hv : WordAt w v ys) :
    Calls Try.prog 24 #[u, v] w fun e w' => e = .returned (.int .i64 (cmpL xs ys)) ∧ w' = w := by
  obtain ⟨a, c, rfl, hb1, h1⟩ := hu
  obtain ⟨b, d, rfl, hb2, h2⟩ := hv
  by_cases hx : xs = []
  · subst hx
    clear h1 h2
    have hr : cmpL [] ys = if ys.length = 0 then 0 else -1 := by cases ys <;> rfl
    rw [hr]
    generalize ys.length = m at hb2
    simp only [List.length_nil]
    go_enter Try.func24, Try.ntmps24
    go_wp2
    refine wp_loop_rounds 1 ?_
    rw [rounds_succ]
    by_cases hm : m = 0
    · subst hm
      go_wp2
      go_ret
      exact ⟨rfl, rfl⟩
    · have h0 : 0 < m := by omega
      go_wp2
      go_ret
      exact ⟨rfl, rfl⟩
  · have hlx : 0 < xs.length := List.length_pos_iff.2 hx
    obtain ⟨b1, o1, rfl, _⟩ := h1 0 hlx
    have k1 : ∀ j, j < xs.length → w.cell? ⟨b1, o1 + j, none⟩ = some (.int .i64 (xs.getD j 0)) := fun j hj => by
      obtain ⟨b', o', e, h⟩ := h1 j hj
      cases e
      exact h
    by_cases hy : ys = []
    · subst hy
      clear h2 h1
      have g1 := k1 0 hlx
      rw [Nat.add_zero] at g1
      generalize xs.getD 0 0 = x at g1
      have hr : cmpL xs [] = 1 := by cases xs with | nil => exact absurd rfl hx | cons _ _ => rfl
      rw [hr]
      clear k1 hr hx
      generalize xs.length = n at hb1 hlx
      simp only [List.length_nil]
      go_enter Try.func24, Try.ntmps24
      go_wp2
      refine wp_loop_rounds 1 ?_
      rw [rounds_succ]
      go_wp2
      go_ret
      exact ⟨rfl, rfl⟩
    · have hly : 0 < ys.length := List.length_pos_iff.2 hy
      obtain ⟨b2, o2, rfl, _⟩ := h2 0 hly
      have k2 : ∀ j, j < ys.length → w.cell? ⟨b2, o2 + j, none⟩ = some (.int .i64 (ys.getD j 0)) := fun j hj => by
        obtain ⟨b', o', e, h⟩ := h2 j hj
        cases e
        exact h
      exact k_words b1 o1 _ c b2 o2 _ d xs ys w rfl rfl hlx hly hb1 hb2 k1 k2

theorem k_clo (u v : Value) (xs ys : List Int) (w : World) (hu : WordAt w u xs) (hv : WordAt w v ys) :
    Calls Try.prog 23 #[u, v] w fun e w' => e = .returned (.int .i64 (cmpL xs ys)) ∧ w' = w := by
  have hc := k_compare u v xs ys w hu hv
  clear hu hv
  generalize cmpL xs ys = r at hc ⊢
  go_enter Try.func23, Try.ntmps23
  go_wp2_with (go_at_call 24; refine hc.mono ?_; rintro e w' ⟨rfl, hw⟩; rw [hw])
  go_ret
  exact ⟨rfl, rfl⟩

end Go.Proofs.Ytanbekjefbebaaa.V

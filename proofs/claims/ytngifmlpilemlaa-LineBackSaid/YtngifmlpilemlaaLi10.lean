/-
  Chapter 04, lines: the statements' sense, as plain lists.
  It speaks of no program; no condition.
-/
import Derived.Test.YtngifmlpilemlaaLi1
namespace Go.Proofs.Ytngifmlpilemlaa.V
open Go
set_option linter.unusedVariables false
set_option linter.unusedSimpArgs false

def sumL : List (List Int) → Nat
  | [] => 0
  | q :: l => q.length + 1 + sumL l
theorem sumL_append : ∀ (a b : List (List Int)), sumL (a ++ b) = sumL a + sumL b
  | [], b => by simp [sumL]
  | q :: a, b => by simp [sumL, sumL_append a b]; omega
theorem cut_sum (p : Int → Bool) : ∀ b, sumL (cut p b) = b.length + 1
  | [] => rfl
  | x :: l => by
    have ih := cut_sum p l
    simp only [cut]
    cases p x
    · simp only [cond_false]
      split
      · rename_i e
        exact absurd e (cut_ne p l)
      · rename_i q qs e
        rw [e] at ih
        simp only [sumL, List.length_cons] at ih ⊢
        omega
    · simp only [cond_true, sumL, List.length_nil, List.length_cons]
      omega

theorem dropE_cat (l : List (List Int)) (q : List Int) : dropE (l ++ [q]) = bif q.isEmpty then l else l ++ [q] := by
  unfold dropE
  have e1 : (l ++ [q]).length - 1 = l.length := by simp
  rw [e1]
  have e2 : (l ++ [q]).getD l.length [] = q := by simp [List.getD_eq_getElem?_getD]
  rw [e2]
  cases q.isEmpty
  · rfl
  · simp

theorem cut_last (p : Int → Bool) (b : List Int) : ∃ l q, cut p b = l ++ [q] := by
  have h := cut_ne p b
  exact ⟨(cut p b).dropLast, (cut p b).getLast h, (List.dropLast_concat_getLast h).symm⟩

theorem split_sum (b : List Int) : sumL (splitL b) = b.length ∨ sumL (splitL b) = b.length + 1 := by
  obtain ⟨l, q, e⟩ := cut_last isEnd b
  have hs := cut_sum isEnd b
  unfold splitL
  rw [e] at hs ⊢
  rw [sumL_append] at hs
  simp only [sumL] at hs
  rw [dropE_cat]
  cases q with
  | nil =>
    simp only [List.isEmpty_nil, cond_true, List.length_nil] at hs ⊢
    omega
  | cons x q =>
    simp only [List.isEmpty_cons, cond_false, sumL_append, sumL]
    omega

theorem dropE_mem {l : List (List Int)} {q : List Int} (h : q ∈ dropE l) : q ∈ l := by
  unfold dropE at h
  cases hc : (l.getD (l.length - 1) []).isEmpty <;> rw [hc] at h
  · exact h
  · exact List.mem_of_mem_take h

theorem split_mem {b q : List Int} (h : q ∈ splitL b) : ∀ x ∈ q, x ∈ b ∧ isEnd x = false := fun x hx => cut_mem isEnd b q (dropE_mem h) x hx
theorem fields_mem {b q : List Int} (h : q ∈ fieldsL b) : q ≠ [] ∧ ∀ x ∈ q, x ∈ b ∧ isBl x = false := by
  unfold fieldsL full at h
  rw [List.mem_filter] at h
  refine ⟨by rintro rfl; simp at h, fun x hx => cut_mem isBl b q h.1 x hx⟩

theorem cut_app (p : Int → Bool) (c : Int) (hc : p c = true) (r : List Int) : ∀ q : List Int, (∀ x ∈ q, p x = false) → cut p (q ++ c :: r) = q :: cut p r
  | [], _ => by simp [cut, hc]
  | x :: q, h => by
    have ih := cut_app p c hc r q (fun y hy => h y (by simp [hy]))
    simp only [List.cons_append, cut, h x (by simp), cond_false, ih]

/-- Lines, each with its end behind. -/
def joinE : List (List Int) → List Int
  | [] => []
  | q :: l => q ++ 10 :: joinE l
theorem cut_joinE : ∀ l : List (List Int), (∀ q ∈ l, ∀ x ∈ q, isEnd x = false) → cut isEnd (joinE l) = l ++ [[]]
  | [], _ => rfl
  | q :: l, h => by
    rw [joinE, cut_app isEnd 10 rfl _ q (h q (by simp)), cut_joinE l (fun p hp => h p (by simp [hp]))]
    rfl
theorem split_joinE {l : List (List Int)} (h : ∀ q ∈ l, ∀ x ∈ q, isEnd x = false) : splitL (joinE l) = l := by
  unfold splitL
  rw [cut_joinE l h, dropE_cat]
  rfl

/-- How many blanks stand ahead of a field. -/
def tabN (bl : List Int) (i : Nat) : Nat := if i < bl.length then (bl.getD i 0 % 3).toNat else 0
/-- Fields with blanks ahead, and one behind. -/
def joinF (bl : List Int) : Nat → List (List Int) → List Int
  | _, [] => []
  | i, q :: l => List.replicate (tabN bl i) 9 ++ (q ++ 32 :: joinF bl (i + 1) l)
theorem full_tabs (r : List Int) : ∀ n : Nat, full (cut isBl (List.replicate n 9 ++ r)) = full (cut isBl r)
  | 0 => rfl
  | n + 1 => by
    rw [List.replicate_succ, List.cons_append]
    have : cut isBl (9 :: (List.replicate n 9 ++ r)) = [] :: cut isBl (List.replicate n 9 ++ r) := by simp [cut, isBl]
    rw [this]
    exact full_tabs r n
theorem fields_joinF (bl : List Int) : ∀ (l : List (List Int)) (i : Nat), (∀ q ∈ l, q ≠ [] ∧ ∀ x ∈ q, isBl x = false) → fieldsL (joinF bl i l) = l
  | [], i, _ => rfl
  | q :: l, i, h => by
    have ih := fields_joinF bl l (i + 1) (fun p hp => h p (by simp [hp]))
    unfold fieldsL at ih ⊢
    rw [joinF, full_tabs, cut_app isBl 32 rfl _ q (h q (by simp)).2]
    have hq := (h q (by simp)).1
    have : full (q :: cut isBl (joinF bl (i + 1) l)) = q :: full (cut isBl (joinF bl (i + 1) l)) := by
      unfold full
      rw [List.filter_cons_of_pos]
      cases q with
      | nil => exact absurd rfl hq
      | cons => rfl
    rw [this, ih]

/-- The one blank for the other. -/
def sw (c : Int) : Int := bif c == 9 || c == 32 then 41 - c else c
theorem isBl_sw (c : Int) : isBl (sw c) = isBl c := by
  unfold sw isBl
  cases h1 : c == 9
  · cases h2 : c == 32
    · simp [h1, h2]
    · have : c = 32 := by simpa using h2
      subst this
      rfl
  · have : c = 9 := by simpa using h1
    subst this
    rfl
theorem sw_not {c : Int} (h : isBl c = false) : sw c = c := by
  unfold isBl at h
  unfold sw
  rw [Bool.or_comm, h]
  rfl
theorem cut_sw : ∀ b : List Int, cut isBl (b.map sw) = cut isBl b
  | [] => rfl
  | x :: l => by
    simp only [List.map_cons, cut, isBl_sw, cut_sw l]
    cases h : isBl x
    · rw [sw_not h]
    · rfl
theorem fields_sw (b : List Int) : fieldsL (b.map sw) = fieldsL b := by
  unfold fieldsL
  rw [cut_sw]
theorem bare_sw (b : List Int) : bareB (b.map sw) = bareB b := by
  unfold bareB
  rw [fields_sw]

theorem split_len (b : List Int) : (splitL b).length ≤ b.length + 1 := by
  have := cut_len isEnd b
  unfold splitL dropE
  cases ((cut isEnd b).getD ((cut isEnd b).length - 1) []).isEmpty
  · exact this
  · simp only [cond_true, List.length_take]
    omega
theorem fields_len (b : List Int) : (fieldsL b).length ≤ b.length + 1 := by
  have := cut_len isBl b
  have h2 : (fieldsL b).length ≤ (cut isBl b).length := List.length_filter_le _ _
  omega
theorem piece_len (p : Int → Bool) : ∀ (b : List Int) (q : List Int), q ∈ cut p b → q.length ≤ b.length
  | [], q, h => by
    simp [cut] at h
    subst h
    simp
  | x :: l, q, h => by
    simp only [cut] at h
    cases hp : p x <;> rw [hp] at h
    · simp only [cond_false] at h
      split at h
      · rename_i e
        exact absurd e (cut_ne p l)
      · rename_i q0 qs e
        rcases List.mem_cons.1 h with rfl | h
        · have := piece_len p l q0 (by rw [e]; simp)
          simp only [List.length_cons]
          omega
        · have := piece_len p l q (by rw [e]; simp [h])
          simp only [List.length_cons]
          omega
    · simp only [cond_true] at h
      rcases List.mem_cons.1 h with rfl | h
      · simp
      · have := piece_len p l q h
        simp only [List.length_cons]
        omega

end Go.Proofs.Ytngifmlpilemlaa.V

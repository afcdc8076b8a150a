/-
  Chapter 04, lines: what the functions come to, as plain lists.
  It speaks of no program; no condition.
-/
import Derived.Test.YtngifmlpilemlaaB1
namespace Go.Proofs.Ytngifmlpilemlaa.V
open Go
set_option linter.unusedVariables false
set_option linter.unusedSimpArgs false

def isEnd (c : Int) : Bool := c == 10
def isBl (c : Int) : Bool := c == 32 || c == 9

/-- The first place at which it is so; else -1. -/
def idxP (p : Int → Bool) : List Int → Int
  | [] => -1
  | x :: l => bif p x then 0 else bif idxP p l == -1 then -1 else idxP p l + 1

/-- The pieces between. -/
def cut (p : Int → Bool) : List Int → List (List Int)
  | [] => [[]]
  | x :: l => bif p x then [] :: cut p l else match cut p l with
    | [] => [[x]]
    | q :: qs => (x :: q) :: qs

def pcs (p : Int → Bool) (b : List Int) (i : Nat) : List (List Int) := if i ≤ b.length then cut p (b.drop i) else []

def dropE (l : List (List Int)) : List (List Int) := bif (l.getD (l.length - 1) []).isEmpty then l.take (l.length - 1) else l
def splitL (b : List Int) : List (List Int) := dropE (cut isEnd b)
def full (l : List (List Int)) : List (List Int) := l.filter fun x => !x.isEmpty
def fieldsL (b : List Int) : List (List Int) := full (cut isBl b)
def bareB (b : List Int) : Bool := (fieldsL b).isEmpty || ((fieldsL b).getD 0 []).getD 0 0 == 35

theorem idxP_ge (p : Int → Bool) : ∀ l, -1 ≤ idxP p l
  | [] => by simp [idxP]
  | x :: l => by
    have := idxP_ge p l
    simp only [idxP]
    cases p x
    · cases h : idxP p l == -1
      · simp only [cond_false]; omega
      · simp
    · simp

theorem idxP_lt (p : Int → Bool) : ∀ l, idxP p l < l.length
  | [] => by simp [idxP]
  | x :: l => by
    have := idxP_lt p l
    simp only [idxP, List.length_cons]
    cases p x
    · cases h : idxP p l == -1
      · simp only [cond_false]; omega
      · simp only [cond_false, cond_true]; omega
    · simp only [cond_true]; omega

theorem cut_ne (p : Int → Bool) : ∀ l, cut p l ≠ []
  | [] => by simp [cut]
  | x :: l => by
    simp only [cut]
    cases p x
    · simp only [cond_false]
      split <;> simp
    · simp

/-- The first piece, and the others. -/
theorem cut_step (p : Int → Bool) : ∀ r, (idxP p r = -1 → cut p r = [r]) ∧ ∀ n : Nat, idxP p r = n → n < r.length ∧ cut p r = r.take n :: cut p (r.drop (n + 1))
  | [] => ⟨fun _ => rfl, fun n h => by simp [idxP] at h⟩
  | x :: l => by
    obtain ⟨h1, h2⟩ := cut_step p l
    cases hp : p x
    · cases he : idxP p l == -1
      · have hne : idxP p l ≠ -1 := by simpa using he
        have hge := idxP_ge p l
        refine ⟨fun h => ?_, fun n h => ?_⟩
        · simp only [idxP, hp, he, cond_false] at h
          omega
        · simp only [idxP, hp, he, cond_false] at h
          obtain ⟨m, rfl⟩ : ∃ m, n = m + 1 := ⟨n - 1, by omega⟩
          obtain ⟨k1, k2⟩ := h2 m (by omega)
          refine ⟨by simp only [List.length_cons]; omega, ?_⟩
          simp only [cut, hp, cond_false, k2]
          rfl
      · have he' : idxP p l = -1 := by simpa using he
        refine ⟨fun _ => ?_, fun n h => ?_⟩
        · simp only [cut, hp, cond_false, h1 he']
        · simp only [idxP, hp, he, cond_false, cond_true] at h
          omega
    · refine ⟨fun h => ?_, fun n h => ?_⟩
      · simp [idxP, hp] at h
      · simp only [idxP, hp, cond_true] at h
        have : n = 0 := by omega
        subst this
        simp [cut, hp]

theorem pcs_step (p : Int → Bool) (b : List Int) (i : Nat) (hi : i ≤ b.length) : ∃ n : Nat, (n : Int) = (bif decide (idxP p (b.drop i) < 0) then (b.length : Int) - i else idxP p (b.drop i)) ∧ i + n ≤ b.length ∧
    pcs p b i = (b.take (i + n)).drop i :: pcs p b (i + n + 1) := by
  obtain ⟨h1, h2⟩ := cut_step p (b.drop i)
  have hge := idxP_ge p (b.drop i)
  by_cases hn : idxP p (b.drop i) = -1
  · refine ⟨b.length - i, ?_, by omega, ?_⟩
    · rw [hn]
      simp only [decide_true, cond_true, show decide ((-1 : Int) < 0) = true from rfl]
      omega
    · unfold pcs
      rw [if_pos hi, if_neg (by omega), h1 hn]
      congr 1
      rw [show i + (b.length - i) = b.length from by omega, List.take_length]
  · obtain ⟨n, hn'⟩ : ∃ n : Nat, idxP p (b.drop i) = n := ⟨(idxP p (b.drop i)).toNat, by omega⟩
    obtain ⟨k1, k2⟩ := h2 n hn'
    rw [List.length_drop] at k1
    refine ⟨n, ?_, by omega, ?_⟩
    · rw [hn', decide_eq_false (by omega)]
      rfl
    · unfold pcs
      rw [if_pos hi, if_pos (by omega), k2, List.drop_drop, List.take_drop]
      rfl

theorem pcs_done (p : Int → Bool) (b : List Int) (i : Nat) (hi : b.length < i) : pcs p b i = [] := by
  unfold pcs
  rw [if_neg (by omega)]

theorem cut_len (p : Int → Bool) : ∀ l, (cut p l).length ≤ l.length + 1
  | [] => by simp [cut]
  | x :: l => by
    have := cut_len p l
    simp only [cut]
    cases p x
    · simp only [cond_false]
      split
      · simp
      · rename_i q qs e
        rw [e] at this
        simpa using Nat.le_succ_of_le this
    · simpa using this

theorem pcs_len (p : Int → Bool) (b : List Int) (i : Nat) : (pcs p b i).length ≤ b.length + 1 := by
  unfold pcs
  split
  · have := cut_len p (b.drop i)
    simp only [List.length_drop] at this
    omega
  · simp

/-- A piece's elements are the whole's, and none of them parts. -/
theorem cut_mem (p : Int → Bool) : ∀ l q, q ∈ cut p l → ∀ x ∈ q, x ∈ l ∧ p x = false
  | [], q, h, x, hx => by
    simp [cut] at h
    subst h
    cases hx
  | y :: l, q, h, x, hx => by
    simp only [cut] at h
    cases hp : p y
    · rw [hp] at h
      simp only [cond_false] at h
      split at h
      · rename_i e
        exact absurd e (cut_ne p l)
      · rename_i q0 qs e
        rcases List.mem_cons.1 h with rfl | h
        · rcases List.mem_cons.1 hx with rfl | hx
          · exact ⟨by simp, hp⟩
          · obtain ⟨k1, k2⟩ := cut_mem p l q0 (by rw [e]; simp) x hx
            exact ⟨List.mem_cons_of_mem _ k1, k2⟩
        · obtain ⟨k1, k2⟩ := cut_mem p l q (by rw [e]; simp [h]) x hx
          exact ⟨List.mem_cons_of_mem _ k1, k2⟩
    · rw [hp] at h
      simp only [cond_true] at h
      rcases List.mem_cons.1 h with rfl | h
      · cases hx
      · obtain ⟨k1, k2⟩ := cut_mem p l q h x hx
        exact ⟨List.mem_cons_of_mem _ k1, k2⟩

end Go.Proofs.Ytngifmlpilemlaa.V

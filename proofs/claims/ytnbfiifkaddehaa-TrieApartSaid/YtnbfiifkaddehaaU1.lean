/-
  Chapter 01, the plain law: a sign's bytes, and the sign that bytes begin with.
  No program in sight; no condition.
-/

namespace Go.Proofs.Ytnbfiifkaddehaa.V.U

set_option linter.unusedVariables false

set_option linter.unusedSimpArgs false

def goodN (n : Int) : Bool := decide (0 ≤ n ∧ n ≤ 1114111 ∧ (n < 55296 ∨ 57343 < n))

theorem goodN_iff {n : Int} : goodN n = true ↔ 0 ≤ n ∧ n ≤ 1114111 ∧ (n < 55296 ∨ 57343 < n) := by simp [goodN]

/-- A sign's bytes. -/
def ub (n : Int) : List Int :=
  if n < 128 then [n] else if n < 2048 then [192 + n / 64, 128 + n % 64]
  else if n < 65536 then [224 + n / 4096, 128 + n / 64 % 64, 128 + n % 64]
  else [240 + n / 262144, 128 + n / 4096 % 64, 128 + n / 64 % 64, 128 + n % 64]

def con (d : Int) : Prop := 128 ≤ d ∧ d < 192

instance (d : Int) : Decidable (con d) := inferInstanceAs (Decidable (_ ∧ _))

/-- The sign that bytes begin with, and what is behind. -/
def utk2 (c : Int) : List Int → Option (Int × List Int)
  | d :: r => if 194 ≤ c ∧ con d then some ((c - 192) * 64 + (d - 128), r) else none
  | [] => none

def utk3 (c : Int) : List Int → Option (Int × List Int)
  | d :: e :: r => if con d ∧ con e ∧ goodN ((c - 224) * 4096 + (d - 128) * 64 + (e - 128)) = true ∧ 2048 ≤ (c - 224) * 4096 + (d - 128) * 64 + (e - 128) then some ((c - 224) * 4096 + (d - 128) * 64 + (e - 128), r) else none
  | _ => none

def utk4 (c : Int) : List Int → Option (Int × List Int)
  | d :: e :: f :: r => if con d ∧ con e ∧ con f ∧ goodN ((c - 240) * 262144 + (d - 128) * 4096 + (e - 128) * 64 + (f - 128)) = true ∧ 65536 ≤ (c - 240) * 262144 + (d - 128) * 4096 + (e - 128) * 64 + (f - 128) then some ((c - 240) * 262144 + (d - 128) * 4096 + (e - 128) * 64 + (f - 128), r) else none
  | _ => none

def takeU : List Int → Option (Int × List Int)
  | [] => none
  | c :: r => if c < 128 then some (c, r) else if c < 224 then utk2 c r else if c < 240 then utk3 c r else utk4 c r

theorem ub_len (n : Int) : (ub n).length = if n < 128 then 1 else if n < 2048 then 2 else if n < 65536 then 3 else 4 := by
  unfold ub
  split
  · rfl
  · split
    · rfl
    · split <;> rfl

/-- What is taken was put so. -/
theorem takeU_some {b r : List Int} {n : Int} (hb : ∀ x ∈ b, 0 ≤ x ∧ x < 256) (h : takeU b = some (n, r)) : goodN n = true ∧ b = ub n ++ r := by
  cases b with
  | nil => cases h
  | cons c s =>
    have hc := hb c (by simp)
    rw [takeU] at h
    split at h
    · cases h
      rename_i c1
      exact ⟨goodN_iff.2 (by omega), by rw [ub, if_pos c1]; rfl⟩
    · split at h
      · cases s with
        | nil => cases h
        | cons d s =>
          simp only [utk2, utk3, utk4] at h
          split at h
          · rename_i q
            obtain ⟨q1, q2⟩ := q
            unfold con at q2
            cases h
            refine ⟨goodN_iff.2 (by omega), ?_⟩
            rw [ub, if_neg (by omega), if_pos (by omega)]
            simp only [List.cons_append, List.nil_append, List.cons.injEq, and_true]
            omega
          · cases h
      · split at h
        · cases s with
          | nil => cases h
          | cons d s => cases s with
            | nil => cases h
            | cons e s =>
              simp only [utk2, utk3, utk4] at h
              split at h
              · rename_i q
                obtain ⟨q1, q2, q3, q4⟩ := q
                unfold con at q1 q2
                cases h
                refine ⟨q3, ?_⟩
                have q3' := goodN_iff.1 q3
                rw [ub, if_neg (by omega), if_neg (by omega), if_pos (by omega)]
                simp only [List.cons_append, List.nil_append, List.cons.injEq, and_true]
                omega
              · cases h
        · cases s with
          | nil => cases h
          | cons d s => cases s with
            | nil => cases h
            | cons e s => cases s with
              | nil => cases h
              | cons f s =>
                simp only [utk2, utk3, utk4] at h
                split at h
                · rename_i q
                  obtain ⟨q1, q2, q3, q4, q5⟩ := q
                  unfold con at q1 q2 q3
                  cases h
                  refine ⟨q4, ?_⟩
                  rw [ub, if_neg (by omega), if_neg (by omega), if_neg (by omega)]
                  simp only [List.cons_append, List.nil_append, List.cons.injEq, and_true]
                  omega
                · cases h

/-! Many -/

def ups (l : List Int) : List Int := (l.map ub).flatten

theorem ups_cons (n : Int) (l : List Int) : ups (n :: l) = ub n ++ ups l := rfl

theorem ub_pos (n : Int) : 1 ≤ (ub n).length := by
  rw [ub_len]; split <;> (try split) <;> (try split) <;> omega

/-! Order -/

def ltL : List Int → List Int → Bool
  | _, [] => false
  | [], _ :: _ => true
  | a :: as, b :: bs => decide (a < b) || (decide (a = b) && ltL as bs)

end Go.Proofs.Ytnbfiifkaddehaa.V.U

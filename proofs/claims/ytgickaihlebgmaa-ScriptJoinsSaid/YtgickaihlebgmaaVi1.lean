/-
  Chapter 13, the plain law: a number's bytes, and what they are taken as.
  No program in sight; no condition.
-/
import Derived.IntWalk
namespace Go.Proofs.Ytgickaihlebgmaa.V

/-- A number's bytes. -/
def vb (n : Nat) : List Int := if n < 128 then [(n : Int)] else ((n % 128 + 128 : Nat) : Int) :: vb (n / 128)
  termination_by n
  decreasing_by omega

theorem vb_small {n : Nat} (h : n < 128) : vb n = [(n : Int)] := by rw [vb]; simp [h]
theorem vb_big {n : Nat} (h : 128 ≤ n) : vb n = ((n % 128 + 128 : Nat) : Int) :: vb (n / 128) := by rw [vb]; simp [Nat.not_lt.2 h]

/-- How many bits. -/
def blen (n : Nat) : Nat := if n = 0 then 0 else Nat.log2 n + 1

theorem blen_le {n k : Nat} : blen n ≤ k ↔ n < 2 ^ k := by
  unfold blen
  split
  · rename_i h; subst h; simp [Nat.two_pow_pos]
  · rename_i h
    rw [← Nat.log2_lt h]; omega

theorem blen_shift {n k : Nat} (h : 2 ^ k ≤ n) : blen n = k + blen (n / 2 ^ k) := by
  have h1 : ∀ j, blen n ≤ j ↔ k + blen (n / 2 ^ k) ≤ j := by
    intro j
    rw [blen_le]
    by_cases hj : k ≤ j
    · obtain ⟨i, rfl⟩ := Nat.exists_eq_add_of_le hj
      rw [Nat.add_le_add_iff_left, blen_le, Nat.div_lt_iff_lt_mul (Nat.two_pow_pos k), Nat.pow_add, Nat.mul_comm]
    · have h2 : 2 ^ j ≤ 2 ^ k := Nat.pow_le_pow_right (by omega) (by omega)
      constructor
      · intro h3; omega
      · intro h3; omega
  have h2 := (h1 (blen n)).1 (Nat.le_refl _)
  have h3 := (h1 (k + blen (n / 2 ^ k))).2 (Nat.le_refl _)
  omega

theorem blen_mono {a b : Nat} (h : a ≤ b) : blen a ≤ blen b := by
  have : b < 2 ^ blen b := blen_le.1 (Nat.le_refl _)
  exact blen_le.2 (by omega)

theorem vb_length (n : Nat) : (vb n).length = (blen (max n 1) + 6) / 7 := by
  induction n using Nat.strongRecOn with
  | _ n ih =>
    by_cases h : n < 128
    · rw [vb_small h]
      have h1 : blen (max n 1) ≤ 7 := blen_le.2 (by simp; omega)
      have h2 : ¬ blen (max n 1) ≤ 0 := by rw [blen_le]; omega
      simp only [List.length_singleton]; omega
    · rw [vb_big (by omega), List.length_cons, ih (n / 128) (by omega)]
      have h1 : max n 1 = n := by omega
      have h2 : max (n / 128) 1 = n / 128 := by omega
      rw [h1, h2, blen_shift (n := n) (k := 7) (by omega)]
      have : (2 : Nat) ^ 7 = 128 := by decide
      rw [this]; omega

theorem vb_ne (n : Nat) : vb n ≠ [] := by
  rw [vb]; split <;> simp

theorem vb_len_pos (n : Nat) : 1 ≤ (vb n).length := by
  have := vb_ne n
  cases h : vb n with
  | nil => exact absurd h this
  | cons a l => simp

theorem vb_len_le {n : Nat} (h : n < 18446744073709551616) : (vb n).length ≤ 10 := by
  rw [vb_length]
  have : blen (max n 1) ≤ 64 := blen_le.2 (by omega)
  omega

theorem vb_len_mono {a b : Nat} (h : a ≤ b) : (vb a).length ≤ (vb b).length := by
  rw [vb_length, vb_length]
  have : blen (max a 1) ≤ blen (max b 1) := blen_mono (by omega)
  omega

theorem vb_byte : ∀ (n : Nat) (x : Int), x ∈ vb n → 0 ≤ x ∧ x < 256 := by
  intro n
  induction n using Nat.strongRecOn with
  | _ n ih =>
    intro x hx
    by_cases h : n < 128
    · rw [vb_small h] at hx; simp at hx; omega
    · rw [vb_big (by omega)] at hx
      rcases List.mem_cons.1 hx with rfl | hx
      · omega
      · exact ih (n / 128) (by omega) x hx

/-- A number that bytes begin with, be it well written or not, and what is behind. -/
def dec : List Int → Option (Nat × List Int)
  | [] => none
  | c :: r => if c < 128 then some (c.toNat, r) else match dec r with
    | some (v, s) => some ((c - 128).toNat + 128 * v, s)
    | none => none

theorem dec_vb (n : Nat) (r : List Int) : dec (vb n ++ r) = some (n, r) := by
  induction n using Nat.strongRecOn with
  | _ n ih =>
    by_cases h : n < 128
    · rw [vb_small h]
      have : (n : Int) < 128 := by omega
      simp [dec, this]
    · rw [vb_big (by omega), List.cons_append, dec, ih (n / 128) (by omega)]
      have : ¬ ((n % 128 + 128 : Nat) : Int) < 128 := by omega
      rw [if_neg this]
      simp only [Option.some.injEq, Prod.mk.injEq, and_true]
      omega

/-- The number that bytes begin with. -/
def takeV (b : List Int) : Option (Nat × List Int) := match dec b with
  | some (v, r) => if v < 18446744073709551616 ∧ b = vb v ++ r then some (v, r) else none
  | none => none

theorem takeV_some {b : List Int} {v : Nat} {r : List Int} : takeV b = some (v, r) ↔ v < 18446744073709551616 ∧ b = vb v ++ r := by
  constructor
  · intro h
    unfold takeV at h
    split at h
    · split at h
      · cases h; assumption
      · cases h
    · cases h
  · rintro ⟨h1, h2⟩
    unfold takeV
    rw [h2, dec_vb]
    simp [h1]

theorem takeV_vb {v : Nat} (h : v < 18446744073709551616) (r : List Int) : takeV (vb v ++ r) = some (v, r) := takeV_some.2 ⟨h, rfl⟩

theorem dec_len : ∀ (b : List Int) (v : Nat) (r : List Int), dec b = some (v, r) → ∃ p, b = p ++ r ∧ p ≠ [] := by
  intro b
  induction b with
  | nil => intro v r h; cases h
  | cons c b ih =>
    intro v r h
    rw [dec] at h
    split at h
    · cases h; exact ⟨[c], rfl, by simp⟩
    · split at h
      · rename_i v' s hs
        cases h
        obtain ⟨p, rfl, _⟩ := ih _ _ hs
        exact ⟨c :: p, rfl, by simp⟩
      · cases h

/-- Bytes of which one is a number's are as many as it has just if they are its. -/
theorem dec_vb_iff : ∀ (b : List Int) (v : Nat) (r : List Int), (∀ x ∈ b, 0 ≤ x ∧ x < 256) → dec b = some (v, r) → ((vb v).length + r.length = b.length ↔ b = vb v ++ r) := by
  intro b
  induction b with
  | nil => intro v r _ h; cases h
  | cons c b ih =>
    intro v r hb h
    refine ⟨fun hl => ?_, fun e => by rw [e]; simp⟩
    have hc := hb c (by simp)
    rw [dec] at h
    split at h
    · cases h
      rw [vb_small (by omega)]
      simp
      omega
    · split at h
      · rename_i v' s hs
        cases h
        have key := ih v' r (fun x hx => hb x (by simp [hx])) hs
        obtain ⟨p, hp, hne⟩ := dec_len _ _ _ hs
        have hpl : 1 ≤ p.length := by cases p with | nil => exact absurd rfl hne | cons _ _ => simp
        have hlen : b.length = p.length + r.length := by rw [hp]; simp
        simp only [List.length_cons] at hl
        by_cases hbig : 128 ≤ (c - 128).toNat + 128 * v'
        · rw [vb_big hbig] at hl ⊢
          have e1 : ((c - 128).toNat + 128 * v') / 128 = v' := by omega
          have e2 : ((c - 128).toNat + 128 * v') % 128 = (c - 128).toNat := by omega
          rw [e1] at hl ⊢
          rw [e2]
          simp only [List.length_cons] at hl
          have := key.1 (by omega)
          rw [List.cons_append, ← this]
          congr 1
          omega
        · rw [vb_small (by omega)] at hl
          simp at hl
          omega
      · cases h

theorem takeV_dec {b : List Int} {v : Nat} {r : List Int} (hb : ∀ x ∈ b, 0 ≤ x ∧ x < 256) (h : dec b = some (v, r)) : takeV b = if v < 18446744073709551616 ∧ (vb v).length + r.length = b.length then some (v, r) else none := by
  unfold takeV
  rw [h]
  simp only [dec_vb_iff b v r hb h]

end Go.Proofs.Ytgickaihlebgmaa.V

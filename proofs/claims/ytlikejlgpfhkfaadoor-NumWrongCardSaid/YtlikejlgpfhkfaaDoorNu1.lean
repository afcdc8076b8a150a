/-
  Chapter 05, numbers: digits, and the number that digits are.
  It speaks of lists of numbers alone; no condition.
-/
import Derived.Test.YtlikejlgpfhkfaaDoorB1
import Derived.Lib.ItoaNum
import Derived.Lib.ParseIntB
namespace Go.Proofs.YtlikejlgpfhkfaaDoor.V
open Go
set_option linter.unusedVariables false

def digsF : Nat → Nat → List Int
  | 0, _ => []
  | f + 1, n => if n < 10 then [48 + (n : Int)] else digsF f (n / 10) ++ [48 + ((n % 10 : Nat) : Int)]
/-- A cost's digits. -/
def digs (n : Nat) : List Int := digsF 20 n

theorem digsF_more : ∀ (f n : Nat), n < 10 ^ f → 0 < f → digsF f n = digsF (f + 1) n
  | 0, n, _, h => by omega
  | f + 1, n, h, _ => by
    rw [digsF, digsF]
    split
    · rfl
    · rename_i hn
      have hf : 0 < f := by
        rcases Nat.eq_zero_or_pos f with rfl | hf
        · simp at h; omega
        · exact hf
      have hd : n / 10 < 10 ^ f := by
        rw [Nat.pow_succ] at h
        exact Nat.div_lt_of_lt_mul (by omega)
      rw [digsF_more f (n / 10) hd hf]

theorem digs_small {n : Nat} (h : n < 10) : digs n = [48 + (n : Int)] := by
  unfold digs
  rw [digsF, if_pos h]
theorem digs_big {n : Nat} (h : 10 ≤ n) (h2 : n < 100000000000000000000) : digs n = digs (n / 10) ++ [48 + ((n % 10 : Nat) : Int)] := by
  have e : digs n = digsF 19 (n / 10) ++ [48 + ((n % 10 : Nat) : Int)] := by
    unfold digs
    rw [digsF, if_neg (by omega)]
  rw [e, digsF_more 19 (n / 10) (Nat.div_lt_of_lt_mul (by omega)) (by omega)]
  rfl

theorem digs_lib (n : Nat) (h : n < 100000000000000000000) : (Lib.decDigits n).map (fun b => (b.toNat : Int)) = digs n := by
  induction n using Nat.strongRecOn with
  | ind n ih =>
    rw [Lib.decDigits]
    split
    · rename_i hn
      rw [digs_small hn]
      simp only [List.map_cons, List.map_nil, UInt8.toNat_ofNat']
      congr 1
      omega
    · rename_i hn
      rw [digs_big (by omega) h, List.map_append, ih (n / 10) (by omega) (by omega)]
      simp only [List.map_cons, List.map_nil, UInt8.toNat_ofNat']
      congr 2
      omega

/-- Is it a digit? -/
def isDig (x : Int) : Bool := decide (48 ≤ x ∧ x ≤ 57)
theorem isDig_iff {x : Int} : isDig x = true ↔ 48 ≤ x ∧ x ≤ 57 := by simp [isDig]
def allDig (b : List Int) : Bool := b.all isDig
/-- The number that they are. -/
def valF (c : Nat) (b : List Int) : Nat := b.foldl (fun c d => 10 * c + (d - 48).toNat) c
def val (b : List Int) : Nat := valF 0 b

theorem allDig_iff {b : List Int} : allDig b = true ↔ ∀ x ∈ b, 48 ≤ x ∧ x ≤ 57 := by
  simp [allDig, isDig]
theorem allDig_append {a b : List Int} : allDig (a ++ b) = (allDig a && allDig b) := by simp [allDig]
theorem valF_append (c : Nat) (a b : List Int) : valF c (a ++ b) = valF (valF c a) b := by simp [valF]
theorem val_snoc (a : List Int) (d : Int) : val (a ++ [d]) = 10 * val a + (d - 48).toNat := by
  unfold val
  rw [valF_append]
  rfl

theorem digs_ne (n : Nat) : digs n ≠ [] := by
  unfold digs
  rw [digsF]
  split <;> simp
theorem digsF_dig : ∀ (f n : Nat), allDig (digsF f n) = true
  | 0, n => rfl
  | f + 1, n => by
    rw [digsF]
    split
    · simp [allDig, isDig]; omega
    · rw [allDig_append, digsF_dig f (n / 10)]
      simp [allDig, isDig]; omega
theorem digs_dig (n : Nat) : allDig (digs n) = true := digsF_dig 20 n
theorem digs_bytes (n : Nat) : bytesB (digs n) = true := by
  rw [bytesB_iff]
  intro x hx
  have := allDig_iff.1 (digs_dig n) x hx
  omega
theorem digs_val (n : Nat) (h : n < 100000000000000000000) : val (digs n) = n := by
  induction n using Nat.strongRecOn with
  | ind n ih =>
    by_cases hn : n < 10
    · rw [digs_small hn]
      simp only [val, valF, List.foldl_cons, List.foldl_nil]
      omega
    · rw [digs_big (by omega) h, val_snoc, ih (n / 10) (by omega) (by omega)]
      omega

/-- No digit 0 is ahead, unless it is alone. -/
def canon (b : List Int) : Bool := decide (b.length ≤ 1) || decide (b.getD 0 0 ≠ 48)

theorem digs_len (n : Nat) : 1 ≤ (digs n).length := by
  have := digs_ne n
  cases h : digs n with
  | nil => exact absurd h this
  | cons _ _ => simp
theorem digs_head (n : Nat) (h : n < 100000000000000000000) (h1 : 1 ≤ n) : (digs n).getD 0 0 ≠ 48 := by
  induction n using Nat.strongRecOn with
  | ind n ih =>
    by_cases hn : n < 10
    · rw [digs_small hn]
      simp; omega
    · rw [digs_big (by omega) h]
      have h2 := ih (n / 10) (by omega) (by omega) (by omega)
      have hl := digs_len (n / 10)
      rw [List.getD_eq_getElem?_getD] at h2 ⊢
      rw [List.getElem?_append_left (by omega)]
      exact h2
theorem canon_of {b : List Int} (h : b.length ≤ 1 ∨ b.getD 0 0 ≠ 48) : canon b = true := by
  unfold canon
  rw [Bool.or_eq_true, decide_eq_true_eq, decide_eq_true_eq]
  exact h
theorem digs_canon (n : Nat) (h : n < 100000000000000000000) : canon (digs n) = true := by
  by_cases h1 : 1 ≤ n
  · exact canon_of (.inr (digs_head n h h1))
  · have : n = 0 := by omega
    subst this
    rw [digs_small (by omega)]
    rfl

theorem valF_ge (b : List Int) (c : Nat) (h : 1 ≤ c) : 10 ^ b.length ≤ valF c b := by
  induction b generalizing c with
  | nil => simpa [valF] using h
  | cons d b ih =>
    show 10 ^ (b.length + 1) ≤ valF (10 * c + (d - 48).toNat) b
    have key : ∀ (b : List Int) (c : Nat), c * 10 ^ b.length ≤ valF c b := by
      intro b
      induction b with
      | nil => intro c; simp [valF]
      | cons d b ih =>
        intro c
        show c * 10 ^ (b.length + 1) ≤ valF (10 * c + (d - 48).toNat) b
        refine Nat.le_trans ?_ (ih _)
        rw [Nat.pow_succ, Nat.mul_comm (10 ^ b.length) 10, ← Nat.mul_assoc]
        exact Nat.mul_le_mul_right _ (by omega)
    refine Nat.le_trans ?_ (key b _)
    rw [Nat.pow_succ, Nat.mul_comm]
    exact Nat.mul_le_mul_right _ (by omega)
theorem valF_lt (b : List Int) (h : allDig b = true) : ∀ (c : Nat), valF c b < (c + 1) * 10 ^ b.length := by
  induction b with
  | nil => intro c; simp [valF]
  | cons d b ih =>
    intro c
    rw [allDig_iff] at h
    have hd := h d (by simp)
    have := ih (allDig_iff.2 (fun x hx => h x (by simp [hx]))) (10 * c + (d - 48).toNat)
    show valF (10 * c + (d - 48).toNat) b < (c + 1) * 10 ^ (b.length + 1)
    refine Nat.lt_of_lt_of_le this ?_
    rw [Nat.pow_succ, Nat.mul_comm (10 ^ b.length) 10, ← Nat.mul_assoc]
    exact Nat.mul_le_mul_right _ (by omega)

/-- Digits that are written so are the number's. -/
theorem digs_of_val : ∀ (n : Nat) (b : List Int), b.length = n → allDig b = true → canon b = true → b ≠ [] → val b < 100000000000000000000 → digs (val b) = b := by
  intro n
  induction n with
  | zero => intro b h _ _ hb _; exact absurd (List.eq_nil_of_length_eq_zero h) hb
  | succ n ih =>
    intro b hl hd hc hb hv
    obtain ⟨a, d, rfl⟩ : ∃ a d, b = a ++ [d] := ⟨b.dropLast, b.getLast hb, (List.dropLast_concat_getLast hb).symm⟩
    rw [allDig_append, Bool.and_eq_true] at hd
    have hdd := allDig_iff.1 hd.2 d (by simp)
    rw [val_snoc] at hv ⊢
    by_cases ha : a = []
    · subst ha
      have : val ([] : List Int) = 0 := rfl
      rw [this, digs_small (by omega)]
      simp only [List.nil_append, List.cons.injEq, and_true]
      omega
    · have hal : 1 ≤ a.length := List.length_pos_iff.2 ha
      have hh : a.getD 0 0 ≠ 48 := by
        unfold canon at hc
        simp only [Bool.or_eq_true, decide_eq_true_eq, List.length_append, List.length_singleton] at hc
        rcases hc with hc | hc
        · omega
        · rw [List.getD_eq_getElem?_getD] at hc ⊢
          rwa [List.getElem?_append_left (by omega)] at hc
      have hca : canon a = true := canon_of (.inr hh)
      have iha := ih a (by simp at hl; omega) hd.1 hca ha (by omega)
      have h1 : 1 ≤ val a := by
        cases a with
        | nil => exact absurd rfl ha
        | cons x a =>
          have hx := allDig_iff.1 hd.1 x (by simp)
          simp at hh
          have h2 : valF (10 * 0 + (x - 48).toNat) a = val (x :: a) := rfl
          have := valF_ge a (10 * 0 + (x - 48).toNat) (by omega)
          have h3 : 1 ≤ 10 ^ a.length := Nat.one_le_pow _ _ (by omega)
          omega
      rw [digs_big (by omega) (by omega)]
      have e1 : (10 * val a + (d - 48).toNat) / 10 = val a := by omega
      have e2 : (10 * val a + (d - 48).toNat) % 10 = (d - 48).toNat := by omega
      rw [e1, e2, iha]
      congr 2
      omega

theorem digs_le20 {n : Nat} (h : n < 100000000000000000000) : (digs n).length ≤ 20 := by
  have key : ∀ (f n : Nat), (digsF f n).length ≤ f := by
    intro f
    induction f with
    | zero => intro n; simp [digsF]
    | succ f ih =>
      intro n
      rw [digsF]
      split
      · simp
      · simp [ih]
  exact key 20 n

/-- The cost that bytes are, if they are one. -/
def readN (b : List Int) : Option Nat :=
  if allDig b = true ∧ b ≠ [] ∧ canon b = true ∧ val b < 18446744073709551615 then some (val b) else none
def readC (b : List Int) : Int := ((readN b).getD 0 : Nat)
def readE (b : List Int) : Int := if (readN b).isSome then 0 else 50

theorem readN_digs {n : Nat} (h : n < 18446744073709551615) : readN (digs n) = some n := by
  unfold readN
  have hv := digs_val n (by omega)
  rw [if_pos ⟨digs_dig n, digs_ne n, digs_canon n (by omega), by rw [hv]; exact h⟩, hv]
theorem readN_some {b : List Int} {n : Nat} (h : readN b = some n) : n < 18446744073709551615 ∧ digs n = b := by
  unfold readN at h
  split at h
  · rename_i hc
    cases h
    exact ⟨hc.2.2.2, digs_of_val _ b rfl hc.1 hc.2.2.1 hc.2.1 (by omega)⟩
  · cases h
theorem readN_max : readN (digs 18446744073709551615) = none := by
  unfold readN
  rw [if_neg]
  rintro ⟨_, _, _, h⟩
  rw [digs_val _ (by omega)] at h
  omega
theorem readN_wrong {b : List Int} {x : Int} (h : x ∈ b) (hx : isDig x = false) : readN b = none := by
  unfold readN
  rw [if_neg]
  rintro ⟨h1, _⟩
  have := List.all_eq_true.1 h1 x h
  rw [hx] at this
  cases this

end Go.Proofs.YtlikejlgpfhkfaaDoor.V

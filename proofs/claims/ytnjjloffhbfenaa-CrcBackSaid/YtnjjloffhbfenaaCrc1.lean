/-
  Chapter 14, the plain law: sums of bytes, what is sealed, and bits that are changed.
  No program in sight; no condition.
-/
import Derived.IntWalk
namespace Go.Proofs.Ytnjjloffhbfenaa.V
set_option linter.unusedVariables false

/-! ### Numbers, bit by bit -/
theorem tb_mul (i a j : Nat) : (2 ^ i * a).testBit j = if j < i then false else a.testBit (j - i) := by
  have := Nat.testBit_two_pow_mul_add a (b := 0) (i := i) (Nat.two_pow_pos i) j
  simpa using this
theorem mul_xor (i a b : Nat) : 2 ^ i * (a ^^^ b) = 2 ^ i * a ^^^ 2 ^ i * b := by
  refine Nat.eq_of_testBit_eq fun j => ?_
  rw [Nat.testBit_xor, tb_mul, tb_mul, tb_mul]
  split
  · rfl
  · rw [Nat.testBit_xor]
theorem add_xor {i b : Nat} (h : b < 2 ^ i) (a : Nat) : 2 ^ i * a + b = 2 ^ i * a ^^^ b := by
  refine Nat.eq_of_testBit_eq fun j => ?_
  rw [Nat.testBit_xor, Nat.testBit_two_pow_mul_add a h, tb_mul]
  split
  · simp
  · rw [Nat.testBit_lt_two_pow (x := b) (i := j)]
    · simp
    · exact Nat.lt_of_lt_of_le h (Nat.pow_le_pow_right (by omega) (by omega))
theorem xor_cancel (a b : Nat) : a ^^^ b ^^^ b = a := by rw [Nat.xor_assoc, Nat.xor_self, Nat.xor_zero]
theorem xor_eq_zero {a b : Nat} (h : a ^^^ b = 0) : a = b := by
  have := xor_cancel a b
  rw [h, Nat.zero_xor] at this
  exact this.symm
theorem xor_swap (a b c : Nat) : a ^^^ b ^^^ c = a ^^^ c ^^^ b := by rw [Nat.xor_assoc, Nat.xor_comm b c, ← Nat.xor_assoc]

/-! ### One step, and many -/
def stp (s : Nat) : Nat := if s % 2 = 1 then (s / 2) ^^^ 3988292384 else s / 2
def stps : Nat → Nat → Nat
  | 0, s => s
  | n + 1, s => stps n (stp s)

theorem stp_xor (a b : Nat) : stp (a ^^^ b) = stp a ^^^ stp b := by
  unfold stp
  rw [Nat.xor_div_two]
  by_cases ha : a % 2 = 1
  · by_cases hb : b % 2 = 1
    · rw [if_pos ha, if_pos hb, if_neg (by rw [Nat.xor_mod_two_eq_one]; simp [ha, hb])]
      rw [Nat.xor_assoc (a / 2), Nat.xor_comm 3988292384 (b / 2 ^^^ 3988292384), Nat.xor_assoc (b / 2), Nat.xor_self, Nat.xor_zero]
    · rw [if_pos ha, if_neg hb, if_pos (by rw [Nat.xor_mod_two_eq_one]; simp [ha, hb]), xor_swap]
  · by_cases hb : b % 2 = 1
    · rw [if_neg ha, if_pos hb, if_pos (by rw [Nat.xor_mod_two_eq_one]; simp [ha, hb]), Nat.xor_assoc]
    · rw [if_neg ha, if_neg hb, if_neg (by rw [Nat.xor_mod_two_eq_one]; simp [ha, hb])]
theorem stps_xor (n : Nat) : ∀ a b, stps n (a ^^^ b) = stps n a ^^^ stps n b := by
  induction n with
  | zero => intro a b; rfl
  | succ n ih => intro a b; rw [stps, stp_xor, ih]; rfl
theorem stps_add (m n s : Nat) : stps (m + n) s = stps n (stps m s) := by
  induction m generalizing s with
  | zero => rw [Nat.zero_add]; rfl
  | succ m ih => rw [Nat.succ_add, stps, ih]; rfl
theorem stps_mul (k h : Nat) : stps k (2 ^ k * h) = h := by
  induction k generalizing h with
  | zero => simp [stps]
  | succ k ih =>
    have e : 2 ^ (k + 1) * h = 2 * (2 ^ k * h) := by rw [Nat.pow_succ, Nat.mul_comm (2 ^ k) 2, Nat.mul_assoc]
    rw [stps, e, stp, if_neg (by omega), Nat.mul_div_cancel_left _ (by omega), ih]
theorem stp_lt {s : Nat} (h : s < 2 ^ 32) : stp s < 2 ^ 32 := by
  unfold stp
  split
  · exact Nat.xor_lt_two_pow (by omega) (by decide)
  · omega
theorem stps_lt (n : Nat) : ∀ {s : Nat}, s < 2 ^ 32 → stps n s < 2 ^ 32 := by
  induction n with
  | zero => intro s h; exact h
  | succ n ih => intro s h; exact ih (stp_lt h)
theorem stp_ne {s : Nat} (h : s < 2 ^ 32) (h0 : s ≠ 0) : stp s ≠ 0 := by
  unfold stp
  split
  · intro e
    have := xor_eq_zero e
    omega
  · omega
theorem stps_ne (n : Nat) : ∀ {s : Nat}, s < 2 ^ 32 → s ≠ 0 → stps n s ≠ 0 := by
  induction n with
  | zero => intro s _ h; exact h
  | succ n ih => intro s h h0; exact ih (stp_lt h) (stp_ne h h0)
theorem stps_inj {n a b : Nat} (ha : a < 2 ^ 32) (hb : b < 2 ^ 32) (h : stps n a = stps n b) : a = b := by
  have h1 : stps n (a ^^^ b) = 0 := by rw [stps_xor, h, Nat.xor_self]
  by_cases h2 : a ^^^ b = 0
  · exact xor_eq_zero h2
  · exact absurd h1 (stps_ne n (Nat.xor_lt_two_pow ha hb) h2)
theorem stps_zero (n : Nat) : stps n 0 = 0 := by
  have := stps_mul n 0
  simpa using this

/-! ### Bytes -/
abbrev Byt (b : List Int) : Prop := ∀ x ∈ b, 0 ≤ x ∧ x < 256
def crcS (s : Nat) (b : List Int) : Nat := b.foldl (fun s c => stps 8 (s ^^^ c.toNat)) s
/-- Bytes as one number. -/
def num : List Int → Nat
  | [] => 0
  | c :: r => c.toNat + 256 * num r

theorem crcS_cons (s : Nat) (c : Int) (b : List Int) : crcS s (c :: b) = crcS (stps 8 (s ^^^ c.toNat)) b := rfl
theorem crcS_append (s : Nat) (a b : List Int) : crcS s (a ++ b) = crcS (crcS s a) b := List.foldl_append
theorem crcS_lt (b : List Int) (hb : Byt b) : ∀ {s : Nat}, s < 2 ^ 32 → crcS s b < 2 ^ 32 := by
  induction b with
  | nil => intro s h; exact h
  | cons c b ih =>
    intro s h
    have hc := hb c (by simp)
    exact ih (fun x hx => hb x (by simp [hx])) (stps_lt 8 (Nat.xor_lt_two_pow h (by omega)))

theorem num_cons_xor {c : Int} (hc : 0 ≤ c ∧ c < 256) (r : List Int) : num (c :: r) = c.toNat ^^^ 2 ^ 8 * num r := by
  have := add_xor (i := 8) (b := c.toNat) (by omega) (num r)
  rw [Nat.xor_comm, ← this, num]
  omega

theorem crcS_num (b : List Int) (hb : Byt b) : ∀ s, crcS s b = stps (8 * b.length) (s ^^^ num b) := by
  induction b with
  | nil => intro s; simp [crcS, num, stps]
  | cons c b ih =>
    intro s
    rw [crcS_cons, ih (fun x hx => hb x (by simp [hx])), num_cons_xor (hb c (by simp)), List.length_cons, Nat.mul_add, Nat.add_comm (8 * b.length), stps_add, ← Nat.xor_assoc, Nat.mul_one, stps_xor 8 (s ^^^ c.toNat), stps_mul]

theorem num_append (a b : List Int) (ha : Byt a) : num (a ++ b) = num a ^^^ 2 ^ (8 * a.length) * num b := by
  induction a with
  | nil => simp [num]
  | cons c a ih =>
    have hc := ha c (by simp)
    rw [List.cons_append, num_cons_xor hc, num_cons_xor hc, ih (fun x hx => ha x (by simp [hx])), mul_xor, ← Nat.xor_assoc, List.length_cons, Nat.mul_add, Nat.add_comm (8 * a.length), Nat.pow_add, ← Nat.mul_assoc]

theorem num_lt (b : List Int) (hb : Byt b) : num b < 2 ^ (8 * b.length) := by
  induction b with
  | nil => simp [num]
  | cons c b ih =>
    have hc := hb c (by simp)
    have := ih (fun x hx => hb x (by simp [hx]))
    rw [num, List.length_cons, Nat.mul_add, Nat.pow_add]
    have e : (2 : Nat) ^ (8 * 1) = 256 := by decide
    rw [e]
    omega

def le4 (x : Nat) : List Int := [((x % 256 : Nat) : Int), ((x / 256 % 256 : Nat) : Int), ((x / 65536 % 256 : Nat) : Int), ((x / 16777216 % 256 : Nat) : Int)]
theorem le4_byt (x : Nat) : Byt (le4 x) := by
  intro y hy
  simp only [le4, List.mem_cons, List.not_mem_nil, or_false] at hy
  omega
theorem num_le4 {x : Nat} (h : x < 2 ^ 32) : num (le4 x) = x := by
  simp only [le4, num, Int.toNat_natCast]
  omega
theorem le4_num {t : List Int} (ht : Byt t) (hl : t.length = 4) : le4 (num t) = t := by
  match t, hl with
  | [a, b, c, d], _ =>
    have h1 := ht a (by simp)
    have h2 := ht b (by simp)
    have h3 := ht c (by simp)
    have h4 := ht d (by simp)
    simp only [le4, num]
    simp only [List.cons.injEq, and_true]
    omega

def ones : Nat := 4294967295
def sumB (b : List Int) : Nat := crcS ones b ^^^ ones
def sealB (b : List Int) : List Int := b ++ le4 (sumB b)
def openB (b : List Int) : Bool := decide (4 ≤ b.length) && decide (sealB (b.take (b.length - 4)) = b)

theorem sumB_lt {b : List Int} (hb : Byt b) : sumB b < 2 ^ 32 := Nat.xor_lt_two_pow (crcS_lt b hb (by decide)) (by decide)
theorem sealB_byt {b : List Int} (hb : Byt b) : Byt (sealB b) := by
  intro x hx
  rcases List.mem_append.1 hx with hx | hx
  · exact hb x hx
  · exact le4_byt _ x hx
theorem sealB_len (b : List Int) : (sealB b).length = b.length + 4 := by simp [sealB, le4]
theorem sealB_take (b : List Int) : (sealB b).take b.length = b := by simp [sealB]

/-- What is sealed ends in the same state, whatever it is. -/
theorem open_iff {b : List Int} (hb : Byt b) (h4 : 4 ≤ b.length) : openB b = true ↔ crcS ones b = stps 32 ones := by
  have hm : Byt (b.take (b.length - 4)) := fun x hx => hb x (List.mem_of_mem_take hx)
  have ht : Byt (b.drop (b.length - 4)) := fun x hx => hb x (List.mem_of_mem_drop hx)
  have hl : (b.drop (b.length - 4)).length = 4 := by rw [List.length_drop]; omega
  have hS := crcS_lt (b.take (b.length - 4)) hm (s := ones) (by decide)
  have hT := num_lt _ ht
  rw [hl] at hT
  have e : crcS ones b = stps 32 (crcS ones (b.take (b.length - 4)) ^^^ num (b.drop (b.length - 4))) := by
    conv => lhs; rw [← List.take_append_drop (b.length - 4) b]
    rw [crcS_append, crcS_num _ ht, hl]
  have e2 : openB b = true ↔ le4 (sumB (b.take (b.length - 4))) = b.drop (b.length - 4) := by
    unfold openB sealB
    rw [Bool.and_eq_true, decide_eq_true_eq, decide_eq_true_eq]
    constructor
    · rintro ⟨_, h⟩
      have h' := h
      conv at h' => rhs; rw [← List.take_append_drop (b.length - 4) b]
      exact List.append_cancel_left h'
    · intro h
      exact ⟨h4, by rw [h, List.take_append_drop]⟩
  rw [e2, e]
  constructor
  · intro h
    rw [← h, num_le4 (sumB_lt hm), sumB, ← Nat.xor_assoc, Nat.xor_self, Nat.zero_xor]
  · intro h
    have h1 := stps_inj (Nat.xor_lt_two_pow hS hT) (by decide) h
    have h2 : sumB (b.take (b.length - 4)) = num (b.drop (b.length - 4)) := by
      have h3 : ∀ S T : Nat, S ^^^ T = ones → S ^^^ ones = T := fun S T e => by rw [← e, ← Nat.xor_assoc, Nat.xor_self, Nat.zero_xor]
      exact h3 _ _ h1
    rw [h2, le4_num ht hl]

theorem open_seal {b : List Int} : openB (sealB b) = true := by
  unfold openB
  rw [Bool.and_eq_true, decide_eq_true_eq, decide_eq_true_eq, sealB_len, Nat.add_sub_cancel, sealB_take]
  exact ⟨by omega, rfl⟩
theorem seal_state {b : List Int} (hb : Byt b) : crcS ones (sealB b) = stps 32 ones := (open_iff (sealB_byt hb) (by rw [sealB_len]; omega)).1 open_seal
theorem sum_seal {b : List Int} (hb : Byt b) : sumB (sealB b) = stps 32 ones ^^^ ones := by rw [sumB, seal_state hb]

/-! ### Bits that are changed -/
def flip (k : Nat) (c : List Int) : List Int := c.set (k / 8) (((c.getD (k / 8) 0).toNat ^^^ 2 ^ (k % 8) : Nat) : Int)
def flips (burst from_ : Nat) : Nat → Nat → List Int → List Int
  | 0, _, c => c
  | n + 1, i, c => flips burst from_ n (i + 1) (if burst / 2 ^ i % 2 = 1 then flip (from_ + i) c else c)

theorem num_set : ∀ (c : List Int) (j : Nat) (m : Nat), Byt c → j < c.length → m < 256 → num (c.set j (((c.getD j 0).toNat ^^^ m : Nat) : Int)) = num c ^^^ 2 ^ (8 * j) * m := by
  intro c
  induction c with
  | nil => intro j m _ h _; simp at h
  | cons x c ih =>
    intro j m hb hj hm
    have hx := hb x (by simp)
    have hlt : x.toNat ^^^ m < 256 := Nat.xor_lt_two_pow (n := 8) (by omega) hm
    cases j with
    | zero =>
      have e : (x :: c).getD 0 0 = x := rfl
      rw [e, List.set_cons_zero, num_cons_xor ⟨by omega, by omega⟩, num_cons_xor hx, Int.toNat_natCast]
      simp only [Nat.mul_zero, Nat.pow_zero, Nat.one_mul]
      rw [xor_swap]
    | succ j =>
      have e : (x :: c).getD (j + 1) 0 = c.getD j 0 := rfl
      rw [e, List.set_cons_succ, num_cons_xor hx, num_cons_xor hx, ih j m (fun y hy => hb y (by simp [hy])) (by simpa using hj) hm, mul_xor, ← Nat.xor_assoc, ← Nat.mul_assoc, ← Nat.pow_add]
      congr 3
      omega

theorem flip_byt {c : List Int} (hb : Byt c) (k : Nat) : Byt (flip k c) := by
  intro x hx
  rcases List.mem_or_eq_of_mem_set hx with hx | rfl
  · exact hb x hx
  · have h1 : (c.getD (k / 8) 0).toNat < 256 := by
      rw [List.getD_eq_getElem?_getD]
      by_cases h : k / 8 < c.length
      · rw [List.getElem?_eq_getElem h]
        have := hb _ (List.getElem_mem h)
        simp only [Option.getD_some]; omega
      · rw [List.getElem?_eq_none (by omega)]; simp
    have h2 : 2 ^ (k % 8) < 256 := by
      have : k % 8 ≤ 7 := by omega
      calc 2 ^ (k % 8) ≤ 2 ^ 7 := Nat.pow_le_pow_right (by omega) this
        _ < 256 := by decide
    have := Nat.xor_lt_two_pow (n := 8) h1 h2
    omega
theorem flip_len (k : Nat) (c : List Int) : (flip k c).length = c.length := by simp [flip]
theorem num_flip {c : List Int} (hb : Byt c) {k : Nat} (hk : k < 8 * c.length) : num (flip k c) = num c ^^^ 2 ^ k := by
  unfold flip
  have h2 : 2 ^ (k % 8) < 256 := by
    have : k % 8 ≤ 7 := by omega
    calc 2 ^ (k % 8) ≤ 2 ^ 7 := Nat.pow_le_pow_right (by omega) this
      _ < 256 := by decide
  rw [num_set c (k / 8) _ hb (by omega) h2, ← Nat.pow_add, Nat.div_add_mod]

theorem flips_len (burst from_ : Nat) : ∀ (n i : Nat) (c : List Int), (flips burst from_ n i c).length = c.length := by
  intro n
  induction n with
  | zero => intro i c; rfl
  | succ n ih => intro i c; rw [flips, ih]; split <;> simp [flip_len]
theorem flips_byt (burst from_ : Nat) : ∀ (n i : Nat) (c : List Int), Byt c → Byt (flips burst from_ n i c) := by
  intro n
  induction n with
  | zero => intro i c h; exact h
  | succ n ih => intro i c h; rw [flips]; apply ih; split <;> first | exact flip_byt h _ | exact h

theorem num_flips (burst from_ : Nat) : ∀ (n i : Nat) (c : List Int), Byt c → from_ + (i + n) ≤ 8 * c.length → burst < 2 ^ (i + n) → num (flips burst from_ n i c) = num c ^^^ 2 ^ from_ * (2 ^ i * (burst / 2 ^ i)) := by
  intro n
  induction n with
  | zero =>
    intro i c hb _ hlt
    rw [Nat.add_zero] at hlt
    rw [flips, Nat.div_eq_of_lt hlt]
    simp
  | succ n ih =>
    intro i c hb hl hlt
    have e1 : burst / 2 ^ (i + 1) = burst / 2 ^ i / 2 := by rw [Nat.pow_succ, Nat.div_div_eq_div_mul]
    have hhalf : 2 ^ (i + 1) * (burst / 2 ^ (i + 1)) = 2 ^ i * (2 * (burst / 2 ^ i / 2)) := by rw [e1, Nat.pow_succ, Nat.mul_assoc]
    rw [flips]
    by_cases hodd : burst / 2 ^ i % 2 = 1
    · rw [if_pos hodd, ih (i + 1) _ (flip_byt hb _) (by rw [flip_len]; omega) (by rw [show i + 1 + n = i + (n + 1) by omega]; exact hlt), num_flip hb (by omega), hhalf]
      have e2 : burst / 2 ^ i = 2 ^ 1 * (burst / 2 ^ i / 2) ^^^ 1 := by
        rw [← add_xor (by decide)]; omega
      have e3 : 2 ^ from_ * (2 ^ i * (burst / 2 ^ i)) = 2 ^ from_ * (2 ^ i * (2 * (burst / 2 ^ i / 2))) ^^^ 2 ^ (from_ + i) := by
        conv => lhs; rw [e2]
        rw [mul_xor, mul_xor, Nat.mul_one, ← Nat.pow_add]
      rw [e3, xor_swap, Nat.xor_assoc]
    · rw [if_neg hodd, ih (i + 1) _ hb (by omega) (by rw [show i + 1 + n = i + (n + 1) by omega]; exact hlt), hhalf]
      have e2 : burst / 2 ^ i = 2 * (burst / 2 ^ i / 2) := by omega
      rw [← e2]

theorem burst_seen {s : List Int} (hb : Byt s) (h4 : 4 ≤ s.length) (hs : openB s = true) {burst from_ : Nat} (hlt : burst < 2 ^ 32) (hf : from_ + 32 ≤ 8 * s.length) :
    openB (flips burst from_ 32 0 s) = decide (burst = 0) := by
  have hcb := flips_byt burst from_ 32 0 s hb
  have hcl := flips_len burst from_ 32 0 s
  have hn := num_flips burst from_ 32 0 s hb (by simpa using hf) (by simpa using hlt)
  simp only [Nat.pow_zero, Nat.div_one, Nat.one_mul] at hn
  have hst := (open_iff hb h4).1 hs
  have hc : crcS ones (flips burst from_ 32 0 s) = stps 32 ones ^^^ stps (8 * s.length - from_) burst := by
    rw [crcS_num _ hcb, hcl, hn, ← Nat.xor_assoc, stps_xor, ← crcS_num _ hb, hst]
    congr 1
    have e : 8 * s.length = from_ + (8 * s.length - from_) := by omega
    conv => lhs; rw [e]
    rw [stps_add, stps_mul]
  have hi := open_iff hcb (by rw [hcl]; exact h4)
  rw [hc] at hi
  by_cases h0 : burst = 0
  · subst h0
    rw [stps_zero, Nat.xor_zero] at hi
    rw [hi.2 rfl]; rfl
  · rw [decide_eq_false h0]
    cases ho : openB (flips burst from_ 32 0 s) with
    | false => rfl
    | true =>
      have := hi.1 ho
      have h1 : stps (8 * s.length - from_) burst = 0 := by
        have h2 := congrArg (stps 32 ones ^^^ ·) this
        simp only [← Nat.xor_assoc, Nat.xor_self, Nat.zero_xor] at h2
        exact h2
      exact absurd h1 (stps_ne _ hlt h0)

/-! ### Three lists -/
def xor3 : List Int → List Int → List Int → List Int
  | a :: as, b :: bs, c :: cs => ((a.toNat ^^^ b.toNat ^^^ c.toNat : Nat) : Int) :: xor3 as bs cs
  | _, _, _ => []
theorem xor3_len : ∀ (a b c : List Int), b.length = a.length → c.length = a.length → (xor3 a b c).length = a.length := by
  intro a
  induction a with
  | nil => intro b c h1 h2; simp [xor3]
  | cons x a ih =>
    intro b c h1 h2
    cases b with
    | nil => simp at h1
    | cons y b =>
      cases c with
      | nil => simp at h2
      | cons z c => simp [xor3, ih b c (by simpa using h1) (by simpa using h2)]
theorem xor3_num : ∀ (a b c : List Int), Byt a → Byt b → Byt c → b.length = a.length → c.length = a.length → num (xor3 a b c) = num a ^^^ num b ^^^ num c ∧ Byt (xor3 a b c) := by
  intro a
  induction a with
  | nil =>
    intro b c _ _ _ h1 h2
    have e1 : b = [] := by simpa using h1
    have e2 : c = [] := by simpa using h2
    subst e1; subst e2
    exact ⟨rfl, fun x hx => by simp [xor3] at hx⟩
  | cons x a ih =>
    intro b c ha hb hc h1 h2
    cases b with
    | nil => simp at h1
    | cons y b =>
      cases c with
      | nil => simp at h2
      | cons z c =>
        have hx := ha x (by simp)
        have hy := hb y (by simp)
        have hz := hc z (by simp)
        obtain ⟨i1, i2⟩ := ih b c (fun w hw => ha w (by simp [hw])) (fun w hw => hb w (by simp [hw])) (fun w hw => hc w (by simp [hw])) (by simpa using h1) (by simpa using h2)
        have hlt : x.toNat ^^^ y.toNat ^^^ z.toNat < 256 := Nat.xor_lt_two_pow (n := 8) (Nat.xor_lt_two_pow (n := 8) (by omega) (by omega)) (by omega)
        have hxyz : (0 : Int) ≤ ((x.toNat ^^^ y.toNat ^^^ z.toNat : Nat) : Int) ∧ ((x.toNat ^^^ y.toNat ^^^ z.toNat : Nat) : Int) < 256 := ⟨by omega, by omega⟩
        refine ⟨?_, ?_⟩
        · rw [xor3, num_cons_xor hxyz, num_cons_xor hx, num_cons_xor hy, num_cons_xor hz, i1, mul_xor, mul_xor, Int.toNat_natCast]
          ac_rfl
        · intro w hw
          simp only [xor3, List.mem_cons] at hw
          rcases hw with rfl | hw
          · exact hxyz
          · exact i2 w hw
theorem sum3 {a b c : List Int} (ha : Byt a) (hb : Byt b) (hc : Byt c) (h1 : b.length = a.length) (h2 : c.length = a.length) : sumB (xor3 a b c) = sumB a ^^^ sumB b ^^^ sumB c := by
  obtain ⟨h3, h4⟩ := xor3_num a b c ha hb hc h1 h2
  unfold sumB
  rw [crcS_num _ h4, crcS_num _ ha, crcS_num _ hb, crcS_num _ hc, h1, h2, xor3_len a b c h1 h2, h3]
  have e : ones ^^^ (num a ^^^ num b ^^^ num c) = (ones ^^^ num a) ^^^ (ones ^^^ num b) ^^^ (ones ^^^ num c) := by
    have : ones ^^^ ones = 0 := Nat.xor_self _
    calc ones ^^^ (num a ^^^ num b ^^^ num c) = (ones ^^^ ones) ^^^ ones ^^^ (num a ^^^ num b ^^^ num c) := by rw [this, Nat.zero_xor]
      _ = _ := by ac_rfl
  rw [e, stps_xor, stps_xor]
  have e2 : ∀ x y z : Nat, x ^^^ y ^^^ z ^^^ ones = x ^^^ ones ^^^ (y ^^^ ones) ^^^ (z ^^^ ones) := by
    intro x y z
    have : ones ^^^ ones = 0 := Nat.xor_self _
    calc x ^^^ y ^^^ z ^^^ ones = x ^^^ y ^^^ z ^^^ ones ^^^ (ones ^^^ ones) := by rw [this, Nat.xor_zero]
      _ = _ := by ac_rfl
  rw [e2]

/-! ### The table -/
def crcTab : List Int := (List.range 256).map fun i => ((stps 8 i : Nat) : Int)
theorem crcTab_len : crcTab.length = 256 := by simp [crcTab]
theorem crcTab_get (i : Nat) (h : i < 256) : crcTab.getD i 0 = (stps 8 i : Int) := by
  simp [crcTab, List.getD_eq_getElem?_getD, h]
/-- One byte by the table. -/
theorem tab_step (s c : Nat) (hc : c < 256) : stps 8 ((s % 256) ^^^ c) ^^^ (s / 256) = stps 8 (s ^^^ c) := by
  have e : s = 2 ^ 8 * (s / 256) ^^^ (s % 256) := by
    rw [← add_xor (by omega)]; omega
  conv => rhs; rw [e]
  rw [Nat.xor_assoc, stps_xor 8 (2 ^ 8 * (s / 256)), stps_mul, Nat.xor_comm]

end Go.Proofs.Ytnjjloffhbfenaa.V

/-
  Chapter 01, the plain law: a sign's bytes, and the sign that bytes begin with.
  No program in sight; no condition.
-/
namespace Go.Proofs.YtaefpopjlmhmoaaDoor.V.U
set_option linter.unusedVariables false
set_option linter.unusedSimpArgs false

def goodN (n : Int) : Bool := decide (0 ≤ n ∧ n ≤ 1114111 ∧ (n < 55296 ∨ 57343 < n))
theorem goodN_iff {n : Int} : goodN n = true ↔ 0 ≤ n ∧ n ≤ 1114111 ∧ (n < 55296 ∨ 57343 < n) := by simp [goodN]
/-- A sign's bytes. -/
def ub (n : Int) : List Int :=
  if n < 128 then [n] else if n < 2048 then [192 + n / 64, 128 + n % 64]
  else if n < 65536 then [224 + n / 4096, 128 + n / 64 % 64, 128 + n % 64]
  else [240 + n / 262144, 128 + n / 4096 % 64, 128 + n / 64 % 64, 128 + n % 64]
def con (d : Int) : Prop := 128 ≤ d ∧ d < 192
instance (d : Int) : Decidable (con d) := inferInstanceAs (Decidable (_ ∧ _))
/-- The sign that bytes begin with, and what is behind. -/
def utk2 (c : Int) : List Int → Option (Int × List Int)
  | d :: r => if 194 ≤ c ∧ con d then some ((c - 192) * 64 + (d - 128), r) else none
  | [] => none
def utk3 (c : Int) : List Int → Option (Int × List Int)
  | d :: e :: r => if con d ∧ con e ∧ goodN ((c - 224) * 4096 + (d - 128) * 64 + (e - 128)) = true ∧ 2048 ≤ (c - 224) * 4096 + (d - 128) * 64 + (e - 128) then some ((c - 224) * 4096 + (d - 128) * 64 + (e - 128), r) else none
  | _ => none
def utk4 (c : Int) : List Int → Option (Int × List Int)
  | d :: e :: f :: r => if con d ∧ con e ∧ con f ∧ goodN ((c - 240) * 262144 + (d - 128) * 4096 + (e - 128) * 64 + (f - 128)) = true ∧ 65536 ≤ (c - 240) * 262144 + (d - 128) * 4096 + (e - 128) * 64 + (f - 128) then some ((c - 240) * 262144 + (d - 128) * 4096 + (e - 128) * 64 + (f - 128), r) else none
  | _ => none
def takeU : List Int → Option (Int × List Int)
  | [] => none
  | c :: r => if c < 128 then some (c, r) else if c < 224 then utk2 c r else if c < 240 then utk3 c r else utk4 c r

theorem ub_len (n : Int) : (ub n).length = if n < 128 then 1 else if n < 2048 then 2 else if n < 65536 then 3 else 4 := by
  unfold ub
  split
  · rfl
  · split
    · rfl
    · split <;> rfl
theorem ub_byts {n : Int} (h : goodN n = true) : ∀ x ∈ ub n, 0 ≤ x ∧ x < 256 := by
  rw [goodN_iff] at h
  intro x hx
  unfold ub at hx
  split at hx
  · simp only [List.mem_cons, List.not_mem_nil, or_false] at hx; omega
  · split at hx
    · simp only [List.mem_cons, List.not_mem_nil, or_false] at hx; omega
    · split at hx <;> (simp only [List.mem_cons, List.not_mem_nil, or_false] at hx; omega)
/-- What is put is taken. -/
theorem takeU_ub {n : Int} (h : goodN n = true) (r : List Int) : takeU (ub n ++ r) = some (n, r) := by
  have h' := goodN_iff.1 h
  unfold ub
  by_cases c1 : n < 128
  · rw [if_pos c1]
    simp only [List.cons_append, List.nil_append, takeU, utk2, utk3, utk4]
    rw [if_pos c1]
  · rw [if_neg c1]
    by_cases c2 : n < 2048
    · rw [if_pos c2]
      simp only [List.cons_append, List.nil_append, takeU, utk2, utk3, utk4]
      rw [if_neg (by omega), if_pos (by omega), if_pos (by unfold con; omega)]
      have : (192 + n / 64 - 192) * 64 + (128 + n % 64 - 128) = n := by omega
      rw [this]
    · rw [if_neg c2]
      by_cases c3 : n < 65536
      · rw [if_pos c3]
        simp only [List.cons_append, List.nil_append, takeU, utk2, utk3, utk4]
        have e : (224 + n / 4096 - 224) * 4096 + (128 + n / 64 % 64 - 128) * 64 + (128 + n % 64 - 128) = n := by omega
        rw [if_neg (by omega), if_neg (by omega), if_pos (by omega), e, if_pos ⟨by unfold con; omega, by unfold con; omega, h, by omega⟩]
      · rw [if_neg c3]
        simp only [List.cons_append, List.nil_append, takeU, utk2, utk3, utk4]
        have e : (240 + n / 262144 - 240) * 262144 + (128 + n / 4096 % 64 - 128) * 4096 + (128 + n / 64 % 64 - 128) * 64 + (128 + n % 64 - 128) = n := by omega
        rw [if_neg (by omega), if_neg (by omega), if_neg (by omega), e, if_pos ⟨by unfold con; omega, by unfold con; omega, by unfold con; omega, h, by omega⟩]
/-- What is taken was put so. -/
theorem takeU_some {b r : List Int} {n : Int} (hb : ∀ x ∈ b, 0 ≤ x ∧ x < 256) (h : takeU b = some (n, r)) : goodN n = true ∧ b = ub n ++ r := by
  cases b with
  | nil => cases h
  | cons c s =>
    have hc := hb c (by simp)
    rw [takeU] at h
    split at h
    · cases h
      rename_i c1
      exact ⟨goodN_iff.2 (by omega), by rw [ub, if_pos c1]; rfl⟩
    · split at h
      · cases s with
        | nil => cases h
        | cons d s =>
          simp only [utk2, utk3, utk4] at h
          split at h
          · rename_i q
            obtain ⟨q1, q2⟩ := q
            unfold con at q2
            cases h
            refine ⟨goodN_iff.2 (by omega), ?_⟩
            rw [ub, if_neg (by omega), if_pos (by omega)]
            simp only [List.cons_append, List.nil_append, List.cons.injEq, and_true]
            omega
          · cases h
      · split at h
        · cases s with
          | nil => cases h
          | cons d s => cases s with
            | nil => cases h
            | cons e s =>
              simp only [utk2, utk3, utk4] at h
              split at h
              · rename_i q
                obtain ⟨q1, q2, q3, q4⟩ := q
                unfold con at q1 q2
                cases h
                refine ⟨q3, ?_⟩
                have q3' := goodN_iff.1 q3
                rw [ub, if_neg (by omega), if_neg (by omega), if_pos (by omega)]
                simp only [List.cons_append, List.nil_append, List.cons.injEq, and_true]
                omega
              · cases h
        · cases s with
          | nil => cases h
          | cons d s => cases s with
            | nil => cases h
            | cons e s => cases s with
              | nil => cases h
              | cons f s =>
                simp only [utk2, utk3, utk4] at h
                split at h
                · rename_i q
                  obtain ⟨q1, q2, q3, q4, q5⟩ := q
                  unfold con at q1 q2 q3
                  cases h
                  refine ⟨q4, ?_⟩
                  rw [ub, if_neg (by omega), if_neg (by omega), if_neg (by omega)]
                  simp only [List.cons_append, List.nil_append, List.cons.injEq, and_true]
                  omega
                · cases h

theorem ub_con {n : Int} (h : goodN n = true) {k : Nat} (h0 : 0 < k) (hk : k < (ub n).length) : ∃ d s, (ub n).drop k = d :: s ∧ con d := by
  have h' := goodN_iff.1 h
  rw [ub_len] at hk
  unfold ub
  by_cases c1 : n < 128
  · rw [if_pos c1] at hk; omega
  · rw [if_neg c1] at hk ⊢
    by_cases c2 : n < 2048
    · rw [if_pos c2] at hk ⊢
      obtain rfl : k = 1 := by omega
      exact ⟨_, _, rfl, by unfold con; omega⟩
    · rw [if_neg c2] at hk ⊢
      by_cases c3 : n < 65536
      · rw [if_pos c3] at hk ⊢
        have : k = 1 ∨ k = 2 := by omega
        rcases this with rfl | rfl
        · exact ⟨_, _, rfl, by unfold con; omega⟩
        · exact ⟨_, _, rfl, by unfold con; omega⟩
      · rw [if_neg c3] at hk ⊢
        have : k = 1 ∨ k = 2 ∨ k = 3 := by omega
        rcases this with rfl | rfl | rfl
        · exact ⟨_, _, rfl, by unfold con; omega⟩
        · exact ⟨_, _, rfl, by unfold con; omega⟩
        · exact ⟨_, _, rfl, by unfold con; omega⟩
theorem takeU_con {d : Int} (hd : con d) (s : List Int) : takeU (d :: s) = none := by
  unfold con at hd
  rw [takeU, if_neg (by omega), if_pos (by omega)]
  cases s with
  | nil => rfl
  | cons e s => rw [utk2, if_neg (by omega)]
/-- No sign's bytes begin inside another one's. -/
theorem takeU_inside {n : Int} (h : goodN n = true) {k : Nat} (h0 : 0 < k) (hk : k < (ub n).length) (r : List Int) : takeU ((ub n).drop k ++ r) = none := by
  obtain ⟨d, s, e, hd⟩ := ub_con h h0 hk
  rw [e, List.cons_append]
  exact takeU_con hd _
/-- No beginning of a sign's bytes is one. -/
theorem takeU_cut {n : Int} (h : goodN n = true) {k : Nat} (hk : k < (ub n).length) : takeU ((ub n).take k) = none := by
  have hb : ∀ x ∈ (ub n).take k, 0 ≤ x ∧ x < 256 := fun x hx => ub_byts h x (List.mem_of_mem_take hx)
  cases ht : takeU ((ub n).take k) with
  | none => rfl
  | some p =>
    exfalso
    obtain ⟨m, r⟩ := p
    obtain ⟨g, e⟩ := takeU_some hb ht
    have e2 : ub n = ub m ++ (r ++ (ub n).drop k) := by rw [← List.append_assoc, ← e, List.take_append_drop]
    have t1 := takeU_ub h []
    rw [List.append_nil, e2, takeU_ub g] at t1
    simp only [Option.some.injEq, Prod.mk.injEq, List.append_eq_nil_iff, List.drop_eq_nil_iff] at t1
    omega

/-! Many -/
def ups (l : List Int) : List Int := (l.map ub).flatten
theorem ups_cons (n : Int) (l : List Int) : ups (n :: l) = ub n ++ ups l := rfl
theorem ups_app (l m : List Int) : ups (l ++ m) = ups l ++ ups m := by simp [ups]
theorem ub_pos (n : Int) : 1 ≤ (ub n).length := by
  rw [ub_len]; split <;> (try split) <;> (try split) <;> omega
theorem takeU_len {b r : List Int} {n : Int} (hb : ∀ x ∈ b, 0 ≤ x ∧ x < 256) (h : takeU b = some (n, r)) : r.length < b.length := by
  obtain ⟨_, e⟩ := takeU_some hb h
  have := ub_pos n
  rw [e, List.length_append]; omega
def rdN : Nat → List Int → Option (List Int)
  | 0, _ => none
  | n + 1, b => if b = [] then some [] else match takeU b with
    | some (c, r) => (rdN n r).map (c :: ·)
    | none => none
/-- The signs that bytes are. -/
def readU (b : List Int) : Option (List Int) := rdN (b.length + 1) b
theorem rdN_fuel : ∀ (n m : Nat) (b : List Int), (∀ x ∈ b, 0 ≤ x ∧ x < 256) → b.length < n → b.length < m → rdN n b = rdN m b := by
  intro n
  induction n with
  | zero => intro m b _ h; omega
  | succ n ih =>
    intro m b hb h1 h2
    cases m with
    | zero => omega
    | succ m =>
      rw [rdN, rdN]
      split
      · rfl
      · cases ho : takeU b with
        | none => rfl
        | some p =>
          obtain ⟨c, r⟩ := p
          have hlen := takeU_len hb ho
          obtain ⟨_, e⟩ := takeU_some hb ho
          simp only
          rw [ih m r (fun x hx => hb x (by rw [e]; simp [hx])) (by omega) (by omega)]
theorem readU_step {b : List Int} (hb : ∀ x ∈ b, 0 ≤ x ∧ x < 256) (hne : b ≠ []) : readU b = match takeU b with
    | some (c, r) => (readU r).map (c :: ·)
    | none => none := by
  unfold readU
  rw [rdN, if_neg hne]
  cases ho : takeU b with
  | none => rfl
  | some p =>
    obtain ⟨c, r⟩ := p
    have hlen := takeU_len hb ho
    obtain ⟨_, e⟩ := takeU_some hb ho
    simp only
    rw [rdN_fuel b.length (r.length + 1) r (fun x hx => hb x (by rw [e]; simp [hx])) hlen (by omega)]
theorem ups_byts : ∀ {l : List Int}, l.all goodN = true → ∀ x ∈ ups l, 0 ≤ x ∧ x < 256 := by
  intro l
  induction l with
  | nil => intro _ x hx; cases hx
  | cons n l ih =>
    intro h x hx
    rw [List.all_cons, Bool.and_eq_true] at h
    rw [ups_cons, List.mem_append] at hx
    rcases hx with hx | hx
    · exact ub_byts h.1 x hx
    · exact ih h.2 x hx
theorem readU_ups : ∀ {l : List Int}, l.all goodN = true → readU (ups l) = some l := by
  intro l
  induction l with
  | nil => intro _; rfl
  | cons n l ih =>
    intro h
    have hB := ups_byts h
    rw [List.all_cons, Bool.and_eq_true] at h
    have hp := ub_pos n
    have hne : ups (n :: l) ≠ [] := by
      intro e
      have := congrArg List.length e
      rw [ups_cons, List.length_append, List.length_nil] at this
      omega
    rw [readU_step hB hne, ups_cons, takeU_ub h.1]
    simp only
    rw [ih h.2]
    rfl
theorem readU_some : ∀ (n : Nat) {b l : List Int}, b.length = n → (∀ x ∈ b, 0 ≤ x ∧ x < 256) → readU b = some l → b = ups l ∧ l.all goodN = true := by
  intro n
  induction n using Nat.strongRecOn with
  | _ n ih =>
    intro b l hn hb h
    by_cases hne : b = []
    · subst hne
      cases h
      exact ⟨rfl, rfl⟩
    · rw [readU_step hb hne] at h
      split at h
      · rename_i c r ho
        have hlen := takeU_len hb ho
        obtain ⟨e1, e2⟩ := takeU_some hb ho
        rw [Option.map_eq_some_iff] at h
        obtain ⟨l', hl', rfl⟩ := h
        obtain ⟨f1, f2⟩ := ih r.length (by omega) rfl (fun x hx => hb x (by rw [e2]; simp [hx])) hl'
        exact ⟨by rw [ups_cons, ← f1]; exact e2, by rw [List.all_cons, e1, f2]; rfl⟩
      · cases h

/-! Order -/
def ltL : List Int → List Int → Bool
  | _, [] => false
  | [], _ :: _ => true
  | a :: as, b :: bs => decide (a < b) || (decide (a = b) && ltL as bs)
theorem ltL_cons {a b : Int} {as bs : List Int} : ltL (a :: as) (b :: bs) = true ↔ a < b ∨ (a = b ∧ ltL as bs = true) := by
  simp [ltL]
theorem ltL_app (p x y : List Int) : ltL (p ++ x) (p ++ y) = ltL x y := by
  induction p with
  | nil => rfl
  | cons a p ih => simp [ltL, ih]
theorem ub_lt {n m : Int} (h1 : goodN n = true) (h2 : goodN m = true) (h : n < m) (x y : List Int) : ltL (ub n ++ x) (ub m ++ y) = true ∧ ltL (ub m ++ y) (ub n ++ x) = false := by
  have a1 := goodN_iff.1 h1
  have a2 := goodN_iff.1 h2
  rw [← Bool.not_eq_true]
  unfold ub
  (repeat' split) <;> first
    | omega
    | (simp only [List.cons_append, List.nil_append, ltL_cons]; constructor <;> omega)
theorem ups_lt : ∀ {a b : List Int}, a.all goodN = true → b.all goodN = true → ltL (ups a) (ups b) = ltL a b := by
  intro a
  induction a with
  | nil =>
    intro b _ hb
    cases b with
    | nil => rfl
    | cons m b =>
      have := ub_pos m
      rw [ups_cons]
      cases e : ub m with
      | nil => rw [e] at this; simp at this
      | cons c s => rfl
  | cons n a ih =>
    intro b ha hb
    rw [List.all_cons, Bool.and_eq_true] at ha
    cases b with
    | nil => cases e : ups (n :: a) <;> rfl
    | cons m b =>
      rw [List.all_cons, Bool.and_eq_true] at hb
      rw [ups_cons, ups_cons, Bool.eq_iff_iff, ltL_cons]
      rcases Int.lt_trichotomy n m with h | h | h
      · rw [(ub_lt ha.1 hb.1 h _ _).1]; simp [h]
      · subst h
        rw [ltL_app, ih ha.2 hb.2]; simp
      · rw [(ub_lt hb.1 ha.1 h _ _).2]
        simp
        omega

end Go.Proofs.YtaefpopjlmhmoaaDoor.V.U

/-
  Chapter 23, the plain law: a command's bytes, and the commands of bytes.
  No program in sight; no condition.
-/
import Derived.Test.YtgickaihlebgmaaVi1
namespace Go.Proofs.Ytgickaihlebgmaa.V
set_option linter.unusedVariables false
set_option linter.unusedSimpArgs false

/-- A command: kind, two texts, three numbers. -/
abbrev Cm := Int × List Int × List Int × Int × Int × Int × Unit
abbrev cK (c : Cm) : Int := c.1
abbrev cA (c : Cm) : List Int := c.2.1
abbrev cB (c : Cm) : List Int := c.2.2.1
abbrev cN (c : Cm) : Int := c.2.2.2.1
abbrev cM (c : Cm) : Int := c.2.2.2.2.1
abbrev cU (c : Cm) : Int := c.2.2.2.2.2.1

abbrev Byts (b : List Int) : Prop := ∀ x ∈ b, 0 ≤ x ∧ x < 256

/-- How many texts, how many numbers. -/
def tx (k : Int) : Int := if k = 1 then 2 else if k = 2 ∨ k = 4 ∨ k = 5 then 1 else 0
def nm (k : Int) : Int := if k = 5 then 3 else 0
def okK (k : Int) : Bool := decide (1 ≤ k ∧ k ≤ 5)
def checkC (c : Cm) : Bool := okK c.1 && ((decide (0 < tx c.1) || c.2.1.isEmpty) && ((decide (1 < tx c.1) || c.2.2.1.isEmpty) && ((decide (0 < nm c.1) || decide (c.2.2.2.1 = 0 ∧ c.2.2.2.2.1 = 0 ∧ c.2.2.2.2.2.1 = 0)) && decide (0 ≤ c.2.2.2.1 ∧ 0 ≤ c.2.2.2.2.2.1))))
/-- Numbers fit, texts are bytes. -/
def wfC (c : Cm) : Prop := Byts c.2.1 ∧ Byts c.2.2.1 ∧ c.2.2.2.1 < 9223372036854775808 ∧ 0 ≤ c.2.2.2.2.1 ∧ c.2.2.2.2.1 < 18446744073709551616 ∧ c.2.2.2.2.2.1 < 9223372036854775808 ∧ (c.2.1.length : Int) < 9223372036854775808 ∧ (c.2.2.1.length : Int) < 9223372036854775808

def txt (t : List Int) : List Int := vb t.length ++ t
def txts (l : List (List Int)) : List Int := (l.map txt).flatten
def nums (l : List Int) : List Int := (l.map fun n => vb n.toNat).flatten
def encC (c : Cm) : List Int := c.1 :: (txts ([c.2.1, c.2.2.1].take (tx c.1).toNat) ++ nums ([c.2.2.2.1, c.2.2.2.2.1, c.2.2.2.2.2.1].take (nm c.1).toNat))
def encs (l : List Cm) : List Int := (l.map encC).flatten

/-- Taking a text, a number that is no greater than one. -/
def takeT (b : List Int) : Option (List Int × List Int) := match takeV b with
  | some (n, r) => if n ≤ r.length then some (r.take n, r.drop n) else none
  | none => none
def takeM (most : Nat) (b : List Int) : Option (Nat × List Int) := match takeV b with
  | some (n, r) => if n ≤ most then some (n, r) else none
  | none => none

def oneTexts (k : Int) (b : List Int) : Option (List Int × List Int × List Int) :=
  if tx k = 2 then match takeT b with
    | some (x, b) => match takeT b with
      | some (y, b) => some (x, y, b)
      | none => none
    | none => none
  else if tx k = 1 then match takeT b with
    | some (x, b) => some (x, [], b)
    | none => none
  else some ([], [], b)
def oneNums (k : Int) (b : List Int) : Option (Int × Int × Int × List Int) :=
  if nm k = 3 then match takeM 9223372036854775807 b with
    | some (n, b) => match takeM 18446744073709551615 b with
      | some (m, b) => match takeM 9223372036854775807 b with
        | some (u, b) => some ((n : Int), (m : Int), (u : Int), b)
        | none => none
      | none => none
    | none => none
  else some (0, 0, 0, b)
/-- A command that bytes begin with, and what is behind. -/
def oneC : List Int → Option (Cm × List Int)
  | [] => none
  | k :: b => if 1 ≤ k ∧ k ≤ 5 then match oneTexts k b with
      | some (x, y, b) => match oneNums k b with
        | some (n, m, u, b) => some ((k, x, y, n, m, u, ()), b)
        | none => none
      | none => none
    else none

theorem takeT_some {b x r : List Int} (hl : (x.length : Int) < 18446744073709551616) : takeT b = some (x, r) ↔ b = txt x ++ r := by
  constructor
  · intro h
    unfold takeT at h
    split at h
    · rename_i n s hv
      obtain ⟨h1, h2⟩ := takeV_some.1 hv
      split at h
      · rename_i hn
        simp only [Option.some.injEq, Prod.mk.injEq] at h
        obtain ⟨rfl, rfl⟩ := h
        have : (s.take n).length = n := by rw [List.length_take]; omega
        rw [txt, this, h2, List.append_assoc, List.take_append_drop]
      · cases h
    · cases h
  · intro h
    subst h
    have hv : takeV (txt x ++ r) = some (x.length, x ++ r) := by
      rw [txt, List.append_assoc]
      exact takeV_vb (by omega) _
    unfold takeT
    rw [hv]
    simp
theorem takeT_len {b x r : List Int} (h : takeT b = some (x, r)) : (x.length : Int) < 18446744073709551616 := by
  unfold takeT at h
  split at h
  · rename_i n s hv
    obtain ⟨h1, _⟩ := takeV_some.1 hv
    split at h
    · simp only [Option.some.injEq, Prod.mk.injEq] at h
      obtain ⟨rfl, rfl⟩ := h
      rw [List.length_take]; omega
    · cases h
  · cases h
theorem takeM_some {most : Nat} (hm : most < 18446744073709551616) {b r : List Int} {n : Nat} : takeM most b = some (n, r) ↔ n ≤ most ∧ b = vb n ++ r := by
  constructor
  · intro h
    unfold takeM at h
    split at h
    · rename_i n' s hv
      obtain ⟨h1, h2⟩ := takeV_some.1 hv
      split at h
      · rename_i hn
        simp only [Option.some.injEq, Prod.mk.injEq] at h
        obtain ⟨rfl, rfl⟩ := h
        exact ⟨hn, h2⟩
      · cases h
    · cases h
  · rintro ⟨h1, rfl⟩
    unfold takeM
    rw [takeV_vb (by omega)]
    simp [h1]

theorem tx_cases (k : Int) : (k = 1 ∧ tx k = 2) ∨ ((k = 2 ∨ k = 4 ∨ k = 5) ∧ tx k = 1) ∨ (k ≠ 1 ∧ k ≠ 2 ∧ k ≠ 4 ∧ k ≠ 5 ∧ tx k = 0) := by
  unfold tx
  split
  · omega
  · split
    · omega
    · omega
theorem nm_cases (k : Int) : (k = 5 ∧ nm k = 3) ∨ (k ≠ 5 ∧ nm k = 0) := by
  unfold nm
  split <;> omega

/-- What is written is taken. -/
theorem oneC_enc {c : Cm} (hw : wfC c) (hc : checkC c = true) (r : List Int) : oneC (encC c ++ r) = some (c, r) := by
  obtain ⟨k, a, b, n, m, u, ⟨⟩⟩ := c
  obtain ⟨w1, w2, w3, w4, w5, w6, w7, w8⟩ := hw
  simp only [checkC, okK, Bool.and_eq_true, Bool.or_eq_true, decide_eq_true_eq, List.isEmpty_iff] at hc
  obtain ⟨hk, ha, hb, hn, hn0, hu0⟩ := hc
  simp only at w1 w2 w3 w4 w5 w6 w7 w8 hk ha hb hn hn0 hu0
  have ht : ∀ s, oneTexts k (txts ([a, b].take (tx k).toNat) ++ s) = some (a, b, s) := by
    intro s
    unfold oneTexts
    rcases tx_cases k with ⟨_, e⟩ | ⟨_, e⟩ | ⟨_, _, _, _, e⟩
    · rw [e, if_pos rfl]
      have e2 : txts (List.take (Int.toNat 2) [a, b]) ++ s = txt a ++ (txt b ++ s) := by simp [txts]
      rw [e2, (takeT_some (by omega)).2 rfl]
      simp only
      rw [(takeT_some (by omega)).2 rfl]
    · rw [e, if_neg (by decide), if_pos rfl]
      have e2 : txts (List.take (Int.toNat 1) [a, b]) ++ s = txt a ++ s := by simp [txts]
      rw [e2, (takeT_some (by omega)).2 rfl]
      have : b = [] := by rcases hb with hb | hb; · omega
                          · exact hb
      rw [this]
    · rw [e, if_neg (by decide), if_neg (by decide)]
      have h1 : a = [] := by rcases ha with ha | ha; · omega
                             · exact ha
      have h2 : b = [] := by rcases hb with hb | hb; · omega
                             · exact hb
      simp [h1, h2, txts]
  have hnum : oneNums k (nums ([n, m, u].take (nm k).toNat) ++ r) = some (n, m, u, r) := by
    unfold oneNums
    rcases nm_cases k with ⟨_, e⟩ | ⟨_, e⟩
    · rw [e, if_pos rfl]
      have e2 : nums (List.take (Int.toNat 3) [n, m, u]) ++ r = vb n.toNat ++ (vb m.toNat ++ (vb u.toNat ++ r)) := by simp [nums]
      rw [e2, (takeM_some (by decide)).2 ⟨by omega, rfl⟩]
      simp only
      rw [(takeM_some (by decide)).2 ⟨by omega, rfl⟩]
      simp only
      rw [(takeM_some (by decide)).2 ⟨by omega, rfl⟩]
      simp only
      rw [Int.toNat_of_nonneg hn0, Int.toNat_of_nonneg w4, Int.toNat_of_nonneg hu0]
    · rw [e, if_neg (by decide)]
      have h0 : n = 0 ∧ m = 0 ∧ u = 0 := by rcases hn with hn | hn; · omega
                                            · exact hn
      obtain ⟨rfl, rfl, rfl⟩ := h0
      simp [nums]
  unfold encC
  simp only [List.cons_append, oneC]
  rw [if_pos hk, List.append_assoc, ht]
  simp only
  rw [hnum]

theorem bytes_of_app {a b : List Int} (h : Byts (a ++ b)) : Byts a ∧ Byts b := ⟨fun x hx => h x (List.mem_append_left _ hx), fun x hx => h x (List.mem_append_right _ hx)⟩

/-- What is taken was written so. -/
theorem oneC_some {b : List Int} {c : Cm} {r : List Int} (hb : Byts b) (hl : (b.length : Int) < 9223372036854775808) (h : oneC b = some (c, r)) : b = encC c ++ r ∧ checkC c = true ∧ wfC c ∧ Byts r := by
  cases b with
  | nil => cases h
  | cons k b =>
    rw [oneC] at h
    split at h
    · rename_i hk
      split at h
      · rename_i x y b1 ht
        split at h
        · rename_i n m u b2 hn
          simp only [Option.some.injEq, Prod.mk.injEq] at h
          obtain ⟨rfl, rfl⟩ := h
          have hb' : Byts b := fun z hz => hb z (by simp [hz])
          have hlb : (b.length : Int) < 9223372036854775808 := by simp at hl; omega
          have htx : b = txts ([x, y].take (tx k).toNat) ++ b1 ∧ (0 < tx k ∨ x = []) ∧ (1 < tx k ∨ y = []) := by
            unfold oneTexts at ht
            rcases tx_cases k with ⟨_, e⟩ | ⟨_, e⟩ | ⟨_, _, _, _, e⟩
            · rw [e, if_pos rfl] at ht
              split at ht
              · rename_i x' b' h1
                split at ht
                · rename_i y' b'' h2
                  simp only [Option.some.injEq, Prod.mk.injEq] at ht
                  obtain ⟨rfl, rfl, rfl⟩ := ht
                  have e1 := (takeT_some (takeT_len h1)).1 h1
                  have e2 := (takeT_some (takeT_len h2)).1 h2
                  rw [e]
                  refine ⟨?_, .inl (by decide), .inl (by decide)⟩
                  rw [e1, e2]; simp [txts]
                · cases ht
              · cases ht
            · rw [e, if_neg (by decide), if_pos rfl] at ht
              split at ht
              · rename_i x' b' h1
                simp only [Option.some.injEq, Prod.mk.injEq] at ht
                obtain ⟨rfl, rfl, rfl⟩ := ht
                have e1 := (takeT_some (takeT_len h1)).1 h1
                rw [e]
                refine ⟨?_, .inl (by decide), .inr rfl⟩
                rw [e1]; simp [txts]
              · cases ht
            · rw [e, if_neg (by decide), if_neg (by decide)] at ht
              simp only [Option.some.injEq, Prod.mk.injEq] at ht
              obtain ⟨rfl, rfl, rfl⟩ := ht
              rw [e]
              exact ⟨by simp [txts], .inr rfl, .inr rfl⟩
          have hnum : b1 = nums ([n, m, u].take (nm k).toNat) ++ b2 ∧ 0 ≤ n ∧ n < 9223372036854775808 ∧ 0 ≤ m ∧ m < 18446744073709551616 ∧ 0 ≤ u ∧ u < 9223372036854775808 ∧ (0 < nm k ∨ n = 0 ∧ m = 0 ∧ u = 0) := by
            unfold oneNums at hn
            rcases nm_cases k with ⟨_, e⟩ | ⟨_, e⟩
            · rw [e, if_pos rfl] at hn
              split at hn
              · rename_i n' c1 h1
                split at hn
                · rename_i m' c2 h2
                  split at hn
                  · rename_i u' c3 h3
                    simp only [Option.some.injEq, Prod.mk.injEq] at hn
                    obtain ⟨rfl, rfl, rfl, rfl⟩ := hn
                    obtain ⟨l1, e1⟩ := (takeM_some (by decide)).1 h1
                    obtain ⟨l2, e2⟩ := (takeM_some (by decide)).1 h2
                    obtain ⟨l3, e3⟩ := (takeM_some (by decide)).1 h3
                    rw [e]
                    refine ⟨?_, by omega, by omega, by omega, by omega, by omega, by omega, .inl (by decide)⟩
                    rw [e1, e2, e3]; simp [nums]
                  · cases hn
                · cases hn
              · cases hn
            · rw [e, if_neg (by decide)] at hn
              simp only [Option.some.injEq, Prod.mk.injEq] at hn
              obtain ⟨rfl, rfl, rfl, rfl⟩ := hn
              rw [e]
              exact ⟨by simp [nums], by omega, by omega, by omega, by omega, by omega, by omega, .inr ⟨rfl, rfl, rfl⟩⟩
          obtain ⟨e1, t1, t2⟩ := htx
          obtain ⟨e2, n1, n2, n3, n4, n5, n6, n7⟩ := hnum
          have eb : b = txts ([x, y].take (tx k).toNat) ++ (nums ([n, m, u].take (nm k).toNat) ++ b2) := by rw [← e2]; exact e1
          have hB := hb'
          rw [eb] at hB
          obtain ⟨hB1, hB2⟩ := bytes_of_app hB
          obtain ⟨_, hB3⟩ := bytes_of_app hB2
          have hlen : b.length = (txts ([x, y].take (tx k).toNat)).length + ((nums ([n, m, u].take (nm k).toNat)).length + b2.length) := by rw [eb]; simp only [List.length_append]
          have hxy : Byts x ∧ Byts y ∧ (x.length : Int) < 9223372036854775808 ∧ (y.length : Int) < 9223372036854775808 := by
            rcases tx_cases k with ⟨_, e⟩ | ⟨_, e⟩ | ⟨_, _, _, _, e⟩
            · rw [e] at hB1 hlen
              have e3 : txts (List.take (Int.toNat 2) [x, y]) = vb x.length ++ (x ++ (vb y.length ++ y)) := by simp [txts, txt]
              rw [e3] at hB1 hlen
              simp only [List.length_append] at hlen
              obtain ⟨_, q⟩ := bytes_of_app hB1
              obtain ⟨q1, q⟩ := bytes_of_app q
              obtain ⟨_, q2⟩ := bytes_of_app q
              exact ⟨q1, q2, by omega, by omega⟩
            · rw [e] at hB1 hlen t2
              have e3 : txts (List.take (Int.toNat 1) [x, y]) = vb x.length ++ x := by simp [txts, txt]
              rw [e3] at hB1 hlen
              simp only [List.length_append] at hlen
              obtain ⟨_, q⟩ := bytes_of_app hB1
              have hy : y = [] := by rcases t2 with t2 | t2; · omega
                                     · exact t2
              subst hy
              exact ⟨q, fun z hz => by simp at hz, by omega, by simp⟩
            · rw [e] at t1 t2
              have hx : x = [] := by rcases t1 with t1 | t1; · omega
                                     · exact t1
              have hy : y = [] := by rcases t2 with t2 | t2; · omega
                                     · exact t2
              subst hx; subst hy
              exact ⟨fun z hz => by simp at hz, fun z hz => by simp at hz, by simp, by simp⟩
          refine ⟨?_, ?_, ⟨hxy.1, hxy.2.1, n2, n3, n4, n6, hxy.2.2.1, hxy.2.2.2⟩, hB3⟩
          · unfold encC
            simp only [List.cons_append, List.append_assoc]
            rw [← eb]
          · simp only [checkC, okK, Bool.and_eq_true, Bool.or_eq_true, decide_eq_true_eq, List.isEmpty_iff]
            exact ⟨hk, t1, t2, n7, n1, n5⟩
        · cases h
      · cases h
    · cases h

theorem oneC_len {b : List Int} {c : Cm} {r : List Int} (hb : Byts b) (hl : (b.length : Int) < 9223372036854775808) (h : oneC b = some (c, r)) : r.length < b.length := by
  obtain ⟨h1, _⟩ := oneC_some hb hl h
  rw [h1, encC]
  simp
  omega

/-- The commands of bytes. -/
def readN : Nat → List Int → Option (List Cm)
  | 0, _ => none
  | n + 1, b => if b = [] then some [] else match oneC b with
    | some (c, r) => match readN n r with
      | some l => some (c :: l)
      | none => none
    | none => none
def readC (b : List Int) : Option (List Cm) := readN (b.length + 1) b

theorem readN_fuel : ∀ (n m : Nat) (b : List Int), Byts b → (b.length : Int) < 9223372036854775808 → b.length < n → b.length < m → readN n b = readN m b := by
  intro n
  induction n with
  | zero => intro m b _ _ h; omega
  | succ n ih =>
    intro m b hb hl h1 h2
    cases m with
    | zero => omega
    | succ m =>
      rw [readN, readN]
      split
      · rfl
      · cases ho : oneC b with
        | none => rfl
        | some p =>
          obtain ⟨c, r⟩ := p
          have hlen := oneC_len hb hl ho
          obtain ⟨_, _, _, hr⟩ := oneC_some hb hl ho
          simp only
          rw [ih m r hr (by omega) (by omega) (by omega)]

theorem readC_nil : readC [] = some [] := rfl
theorem readC_step {b : List Int} (hb : Byts b) (hl : (b.length : Int) < 9223372036854775808) (hne : b ≠ []) : readC b = match oneC b with
    | some (c, r) => (readC r).map (c :: ·)
    | none => none := by
  unfold readC
  rw [readN, if_neg hne]
  cases ho : oneC b with
  | none => rfl
  | some p =>
    obtain ⟨c, r⟩ := p
    have hlen := oneC_len hb hl ho
    obtain ⟨_, _, _, hr⟩ := oneC_some hb hl ho
    simp only
    rw [readN_fuel b.length (r.length + 1) r hr (by omega) hlen (by omega)]
    cases readN (r.length + 1) r <;> rfl

theorem encs_cons (c : Cm) (l : List Cm) : encs (c :: l) = encC c ++ encs l := rfl
theorem encs_append (l m : List Cm) : encs (l ++ m) = encs l ++ encs m := by simp [encs]
theorem encC_ne (c : Cm) : encC c ≠ [] := by simp [encC]
theorem vb_byts (n : Nat) : Byts (vb n) := vb_byte n
theorem encC_byts {c : Cm} (hw : wfC c) (hc : checkC c = true) : Byts (encC c) := by
  obtain ⟨w1, w2, _⟩ := hw
  have hk : 1 ≤ c.1 ∧ c.1 ≤ 5 := by
    simp only [checkC, okK, Bool.and_eq_true, decide_eq_true_eq] at hc
    exact hc.1
  intro x hx
  unfold encC at hx
  rcases List.mem_cons.1 hx with rfl | hx
  · omega
  · rcases List.mem_append.1 hx with hx | hx
    · simp only [txts, List.mem_flatten, List.mem_map] at hx
      obtain ⟨_, ⟨t, ht, rfl⟩, hx⟩ := hx
      have ht' := List.mem_of_mem_take ht
      unfold txt at hx
      rcases List.mem_append.1 hx with hx | hx
      · exact vb_byte _ _ hx
      · simp only [List.mem_cons, List.not_mem_nil, or_false] at ht'
        rcases ht' with rfl | rfl
        · exact w1 x hx
        · exact w2 x hx
    · simp only [nums, List.mem_flatten, List.mem_map] at hx
      obtain ⟨_, ⟨n, _, rfl⟩, hx⟩ := hx
      exact vb_byte _ _ hx
theorem encs_byts : ∀ {l : List Cm}, (∀ c ∈ l, wfC c) → l.all checkC = true → Byts (encs l) := by
  intro l
  induction l with
  | nil => intro _ _ x hx; simp [encs] at hx
  | cons c l ih =>
    intro hw hc x hx
    simp only [List.all_cons, Bool.and_eq_true] at hc
    rw [encs_cons] at hx
    rcases List.mem_append.1 hx with hx | hx
    · exact encC_byts (hw c (by simp)) hc.1 x hx
    · exact ih (fun d hd => hw d (by simp [hd])) hc.2 x hx

theorem readC_encs : ∀ {l : List Cm}, (∀ c ∈ l, wfC c) → l.all checkC = true → ((encs l).length : Int) < 9223372036854775808 → readC (encs l) = some l := by
  intro l
  induction l with
  | nil => intro _ _ _; rfl
  | cons c l ih =>
    intro hw hc hl
    have hB := encs_byts hw hc
    simp only [List.all_cons, Bool.and_eq_true] at hc
    have hne : encs (c :: l) ≠ [] := by rw [encs_cons]; simp [encC]
    rw [readC_step hB hl hne, encs_cons, oneC_enc (hw c (by simp)) hc.1]
    simp only
    rw [ih (fun d hd => hw d (by simp [hd])) hc.2 (by rw [encs_cons] at hl; simp at hl; omega)]
    rfl

theorem readC_some : ∀ (n : Nat) {b : List Int} {l : List Cm}, b.length = n → Byts b → (b.length : Int) < 9223372036854775808 → readC b = some l → b = encs l ∧ l.all checkC = true ∧ ∀ c ∈ l, wfC c := by
  intro n
  induction n using Nat.strongRecOn with
  | _ n ih =>
    intro b l hn hb hl h
    by_cases hne : b = []
    · subst hne
      rw [readC_nil] at h
      cases h
      exact ⟨rfl, rfl, fun c hc => by cases hc⟩
    · rw [readC_step hb hl hne] at h
      split at h
      · rename_i c r ho
        have hlen := oneC_len hb hl ho
        obtain ⟨e1, e2, e3, e4⟩ := oneC_some hb hl ho
        rw [Option.map_eq_some_iff] at h
        obtain ⟨l', hl', rfl⟩ := h
        obtain ⟨f1, f2, f3⟩ := ih r.length (by omega) rfl e4 (by omega) hl'
        refine ⟨by rw [encs_cons, ← f1]; exact e1, by simp [e2, f2], fun d hd => ?_⟩
        rcases List.mem_cons.1 hd with rfl | hd
        · exact e3
        · exact f3 d hd
      · cases h

theorem encs_inj {l m : List Cm} (h1 : ∀ c ∈ l, wfC c) (h2 : l.all checkC = true) (h3 : ∀ c ∈ m, wfC c) (h4 : m.all checkC = true) (hl : ((encs l).length : Int) < 9223372036854775808) (h : encs l = encs m) : l = m := by
  have e1 := readC_encs h1 h2 hl
  have e2 := readC_encs h3 h4 (by rw [← h]; exact hl)
  rw [h, e2] at e1
  exact (Option.some.inj e1).symm

/-- No beginning of a command's bytes is read, but for nothing. -/
theorem read_cut {c : Cm} (hw : wfC c) (hc : checkC c = true) (hl : ((encC c).length : Int) < 9223372036854775808) {k : Nat} (h0 : 0 < k) (hk : k < (encC c).length) : readC ((encC c).take k) = none := by
  have hB : Byts ((encC c).take k) := fun x hx => encC_byts hw hc x (List.mem_of_mem_take hx)
  have hlk : ((encC c).take k).length = k := by rw [List.length_take]; omega
  cases hr : readC ((encC c).take k) with
  | none => rfl
  | some l =>
    exfalso
    obtain ⟨e1, e2, e3⟩ := readC_some _ rfl hB (by omega) hr
    cases l with
    | nil =>
      have := congrArg List.length e1
      rw [hlk] at this
      simp [encs] at this
      omega
    | cons d l =>
      simp only [List.all_cons, Bool.and_eq_true] at e2
      have e4 : encC c = encC d ++ (encs l ++ (encC c).drop k) := by
        rw [← List.append_assoc, ← encs_cons, ← e1, List.take_append_drop]
      have o1 := oneC_enc (e3 d (by simp)) e2.1 (encs l ++ (encC c).drop k)
      rw [← e4] at o1
      have o2 := oneC_enc hw hc []
      rw [List.append_nil, o1] at o2
      simp only [Option.some.injEq, Prod.mk.injEq, List.append_eq_nil_iff, List.drop_eq_nil_iff] at o2
      exact absurd o2.2.2 (by omega)

end Go.Proofs.Ytgickaihlebgmaa.V

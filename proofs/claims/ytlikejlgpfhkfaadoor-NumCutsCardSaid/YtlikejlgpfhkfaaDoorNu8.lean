/-
  Chapter 05, numbers: the statements: NumTells, NumBack, NumOrder, NumWrong, NumCuts.
  It speaks of the pinned program alone; no condition.
-/
import Derived.Test.YtlikejlgpfhkfaaDoorNu7
namespace Go.Proofs.YtlikejlgpfhkfaaDoor.V
open Go
set_option linter.unusedVariables false
set_option linter.unusedSimpArgs false

theorem o_n7 : OOk (On7 Ar.real) := o_n6.add ref_ok

theorem awake_true : bodyX (Cx Ar.real (On7 Ar.real) noL) 100 Tryd.f8 [] [] = some (boolx true, []) := (tAwake Ar.real).trans (by kernel_rfl)

theorem awake_ok : OrcOk Tryd.prog 8 (.pure awF) := by
  refine pureOk (Cx.ok o_n7 noL) mixed 8 Tryd.f8 (by kernel_rfl) (by kernel_rfl) (by kernel_rfl) 100 0 (by kernel_rfl) (fun i h => by omega) fun args r h => ?_
  unfold awF at h
  split at h
  · cases h
    exact ⟨rfl, rfl, [], awake_true⟩
  · cases h
theorem o_n8 : OOk (On8 Ar.real) := o_n7.add awake_ok

theorem dig_len {c : Int} (hc : isU64 c = true) : 1 ≤ (digs c.toNat).length ∧ (digs c.toNat).length ≤ 20 := by
  rw [isU64_iff] at hc
  exact ⟨digs_len _, digs_le20 (by omega)⟩
theorem readC_u64 (b : List Int) : isU64 (readC b) = true := by
  rw [isU64_iff]
  cases h : readN b with
  | none => rw [(read_none h).1]; omega
  | some n => rw [(read_some h).1]; have := (readN_some h).1; omega

theorem tells_law (c : Int) (b : List Int) (nl : Option Bool) (hc : isU64 c = true) (hb : bytesB b = true) : bodyX (Cx Ar.real (On8 Ar.real) noL) 100 Tryd.f3 [u64x c, u8s b nl false] [] = some (boolx true, []) := by
  rw [tTells]
  by_cases hl : (b.length : Int) > 100
  · rw [bt (decide_eq_true hl)]
  · rw [bf (decide_eq_false hl)]
    have hl2 : b.length ≤ 1000000000 := by omega
    simp only [rw_se, hb, hc, decide_eq_true hl2, seq_self, Bool.and_self, cond_true, beq_self_eq_true]

theorem zero_ahead {c : Int} (hc : isU64 c = true) : readN ([48] ++ digs c.toNat) = none := by
  have := (dig_len hc).1
  unfold readN
  rw [if_neg]
  rintro ⟨_, _, h, _⟩
  unfold canon at h
  rw [Bool.or_eq_true, decide_eq_true_eq, decide_eq_true_eq] at h
  rcases h with h | h
  · rw [List.length_append, List.length_singleton] at h; omega
  · exact h rfl

theorem back_law (c : Int) (b : List Int) (nl : Option Bool) (hc : isU64 c = true) (hb : bytesB b = true) : bodyX (Cx Ar.real (On8 Ar.real) noL) 100 Tryd.f4 [u64x c, u8s b nl false] [] = some (boolx true, []) := by
  rw [tBack]
  by_cases hl : (b.length : Int) > 100
  · rw [bt (decide_eq_true hl)]
  · rw [bf (decide_eq_false hl)]
    have hl2 : b.length ≤ 1000000000 := by omega
    have hd := dig_len hc
    have hcc := isU64_iff.1 hc
    have hw := digs_bytes c.toNat
    have h1 : decide ((digs c.toNat).length ≤ 1000000000) = true := decide_eq_true (by omega)
    have h2 : decide (([(48 : Int)].length + (digs c.toNat).length) * 1 ≤ 140737488355328) = true := decide_eq_true (by rw [List.length_singleton]; omega)
    have h3 : bytesB ([(48 : Int)] ++ digs c.toNat) = true := by
      rw [bytesB_iff] at hw ⊢
      intro x hx
      rcases List.mem_append.1 hx with hx | hx
      · simp at hx; omega
      · exact hw x hx
    have h4 : decide (([(48 : Int)] ++ digs c.toNat).length ≤ 1000000000) = true := decide_eq_true (by rw [List.length_append, List.length_singleton]; omega)
    have h5 := (read_none (zero_ahead hc)).2
    have h6 := readC_u64 b
    simp only [rw_se, hc, hw, h1, hb, decide_eq_true hl2, h2, h3, h4, h5, h6, Bool.and_self, cond_true]
    have hback : (readN b = none ∧ readC b = 0 ∧ readE b = 50) ∨ (readE b = 0 ∧ digs (readC b).toNat = b) := by
      cases h : readN b with
      | none => exact .inl ⟨rfl, (read_none h).1, (read_none h).2⟩
      | some n =>
        refine .inr ⟨(read_some h).2, ?_⟩
        rw [(read_some h).1, Int.toNat_natCast]
        exact (readN_some h).2
    by_cases hmax : c = 18446744073709551615
    · have e1 : readE (digs c.toNat) = 50 := by
        rw [hmax]
        exact (read_none readN_max).2
      have e2 : (c == 18446744073709551615) = true := by rw [beq_iff_eq]; exact hmax
      rcases hback with ⟨_, b1, b2⟩ | ⟨b1, b2⟩
      · simp only [e1, e2, b1, b2]
        rfl
      · simp only [e1, e2, b1, b2, seq_self]
        cases (readC b == 0) <;> rfl
    · have e0 := readN_digs (n := c.toNat) (by omega)
      obtain ⟨e3, e1⟩ := read_some e0
      have e4 : ((c.toNat : Nat) : Int) = c := Int.toNat_of_nonneg hcc.1
      rw [e4] at e3
      have e2 : (c == 18446744073709551615) = false := by rw [beq_eq_false_iff_ne]; exact hmax
      have e5 : decide (c < 18446744073709551615) = true := decide_eq_true (by omega)
      have e6 : (c == c) = true := beq_self_eq_true c
      rcases hback with ⟨_, b1, b2⟩ | ⟨b1, b2⟩
      · simp only [e1, e2, e3, e5, e6, b1, b2]
        rfl
      · simp only [e1, e2, e3, e5, e6, b1, b2, seq_self]
        cases (readC b == 0) <;> rfl

/-! Order. -/
def ltD : List Int → List Int → Bool
  | _, [] => false
  | [], _ :: _ => true
  | a :: r, b :: s => decide (a < b) || (decide (a = b) && ltD r s)
theorem slt_str : ∀ {xs ys : List Int}, (∀ x ∈ xs, 0 ≤ x ∧ x < 256) → (∀ x ∈ ys, 0 ≤ x ∧ x < 256) → Ar.real.slt (strOf xs) (strOf ys) = ltD xs ys := by
  intro xs ys hx hy
  rw [rw_slt, strOf_list, strOf_list]
  induction xs generalizing ys with
  | nil => cases ys <;> rfl
  | cons x xs ih =>
    cases ys with
    | nil => rfl
    | cons y ys =>
      have h1 := hx x (by simp)
      have h2 := hy y (by simp)
      have ih := ih (fun a ha => hx a (by simp [ha])) (ys := ys) (fun a ha => hy a (by simp [ha]))
      simp only [List.map_cons, Op.bytesLess, ltD, ih]
      have e1 : (UInt8.ofNat x.toNat < UInt8.ofNat y.toNat) ↔ x < y := by
        rw [UInt8.lt_iff_toNat_lt, UInt8.toNat_ofNat', UInt8.toNat_ofNat', Nat.mod_eq_of_lt (by omega), Nat.mod_eq_of_lt (by omega)]
        omega
      have e2 : (UInt8.ofNat x.toNat == UInt8.ofNat y.toNat) = decide (x = y) := by
        by_cases h : x = y
        · subst h; simp
        · rw [decide_eq_false h, beq_eq_false_iff_ne]
          intro e
          have e := congrArg UInt8.toNat e
          rw [UInt8.toNat_ofNat', UInt8.toNat_ofNat', Nat.mod_eq_of_lt (by omega), Nat.mod_eq_of_lt (by omega)] at e
          omega
      rw [e2]
      congr 1
      exact decide_eq_decide.2 e1
theorem valF_split (b : List Int) : ∀ c : Nat, valF c b = c * 10 ^ b.length + valF 0 b := by
  induction b with
  | nil => intro c; simp [valF]
  | cons d b ih =>
    intro c
    show valF (10 * c + (d - 48).toNat) b = c * 10 ^ (b.length + 1) + valF (10 * 0 + (d - 48).toNat) b
    rw [ih, ih (10 * 0 + (d - 48).toNat), Nat.mul_zero, Nat.zero_add, Nat.add_mul, Nat.pow_succ, Nat.mul_comm (10 ^ b.length) 10, ← Nat.mul_assoc, Nat.mul_comm 10 c]
    omega
theorem ltD_val : ∀ (x y : List Int), allDig x = true → allDig y = true → x.length = y.length → ltD x y = decide (val x < val y)
  | [], [], _, _, _ => rfl
  | [], _ :: _, _, _, h => by simp at h
  | _ :: _, [], _, _, h => by simp at h
  | d :: x, e :: y, hx, hy, hl => by
    have hd := allDig_iff.1 hx d (by simp)
    have he := allDig_iff.1 hy e (by simp)
    have hx' : allDig x = true := allDig_iff.2 fun z hz => allDig_iff.1 hx z (by simp [hz])
    have hy' : allDig y = true := allDig_iff.2 fun z hz => allDig_iff.1 hy z (by simp [hz])
    have hl' : x.length = y.length := by simpa using hl
    have ih := ltD_val x y hx' hy' hl'
    have v1 : val (d :: x) = (d - 48).toNat * 10 ^ x.length + val x := by
      show valF (10 * 0 + (d - 48).toNat) x = _
      rw [valF_split, Nat.mul_zero, Nat.zero_add]; rfl
    have v2 : val (e :: y) = (e - 48).toNat * 10 ^ x.length + val y := by
      show valF (10 * 0 + (e - 48).toNat) y = _
      rw [valF_split, Nat.mul_zero, Nat.zero_add, hl']; rfl
    have b1 : val x < 10 ^ x.length := by have := valF_lt x hx' 0; simpa [val] using this
    have b2 : val y < 10 ^ x.length := by have := valF_lt y hy' 0; rw [hl']; simpa [val] using this
    rw [ltD, ih, v1, v2]
    by_cases h1 : d < e
    · rw [decide_eq_true h1, Bool.true_or]
      symm
      rw [decide_eq_true_eq]
      have : ((d - 48).toNat + 1) * 10 ^ x.length ≤ (e - 48).toNat * 10 ^ x.length := Nat.mul_le_mul_right _ (by omega)
      rw [Nat.add_mul] at this
      omega
    · rw [decide_eq_false h1, Bool.false_or]
      by_cases h2 : d = e
      · subst h2
        rw [decide_eq_true rfl, Bool.true_and]
        exact decide_eq_decide.2 (by omega)
      · rw [decide_eq_false h2, Bool.false_and]
        symm
        rw [decide_eq_false_iff_not]
        have : ((e - 48).toNat + 1) * 10 ^ x.length ≤ (d - 48).toNat * 10 ^ x.length := Nat.mul_le_mul_right _ (by omega)
        rw [Nat.add_mul] at this
        omega
/-- Fewer digits: a lesser cost. -/
theorem less_len {a b : Nat} (ha : a < 100000000000000000000) (hb : b < 100000000000000000000) (h : (digs a).length < (digs b).length) : a < b := by
  have hal := digs_len a
  have h1 : val (digs a) < 10 ^ (digs a).length := by have := valF_lt (digs a) (digs_dig a) 0; simpa [val] using this
  rw [digs_val a ha] at h1
  have hb1 : 1 ≤ b := by
    rcases Nat.eq_zero_or_pos b with rfl | hb
    · have h0 : (digs 0).length = 1 := rfl
      omega
    · exact hb
  have hh := digs_head b hb hb1
  have hv := digs_val b hb
  cases hd : digs b with
  | nil => exact absurd hd (digs_ne b)
  | cons x y =>
    rw [hd] at hh h hv
    have hx := allDig_iff.1 (digs_dig b) x (by rw [hd]; simp)
    simp only [List.getD_cons_zero] at hh
    have h2 := valF_ge y (10 * 0 + (x - 48).toNat) (by omega)
    have h3 : val (x :: y) = valF (10 * 0 + (x - 48).toNat) y := rfl
    have h4 : 10 ^ (digs a).length ≤ 10 ^ y.length := Nat.pow_le_pow_right (by omega) (by simp at h; omega)
    omega

theorem order_law (a b d : Int) (ha : isU64 a = true) (hb : isU64 b = true) (hd : 0 ≤ d ∧ d < 256) : bodyX (Cx Ar.real (On8 Ar.real) noL) 100 Tryd.f5 [u64x a, u64x b, u8x d] [] = some (boolx true, []) := by
  rw [tOrder]
  have hac := isU64_iff.1 ha
  have hbc := isU64_iff.1 hb
  have la := dig_len ha
  have lb := dig_len hb
  obtain ⟨m, rfl⟩ : ∃ m : Nat, a = (m : Int) := Int.eq_ofNat_of_zero_le hac.1
  obtain ⟨n, rfl⟩ : ∃ n : Nat, b = (n : Int) := Int.eq_ofNat_of_zero_le hbc.1
  obtain ⟨q, rfl⟩ : ∃ q : Nat, d = (q : Int) := Int.eq_ofNat_of_zero_le hd.1
  have e1 : Int.tmod (m : Int) 1000000000000000000 = ((m % 1000000000000000000 : Nat) : Int) := ntmod m 1000000000000000000
  have e2 : Int.tmod (q : Int) 10 = ((q % 10 : Nat) : Int) := ntmod q 10
  generalize hr : m % 1000000000000000000 = r at e1
  generalize hz : q % 10 = z at e2
  have hr2 : r < 1000000000000000000 := by rw [← hr]; exact Nat.mod_lt _ (by omega)
  have hz2 : z < 10 := by rw [← hz]; exact Nat.mod_lt _ (by omega)
  simp only [rw_se, rw_wrap, ha, hb, e1, e2, Int.toNat_natCast, cond_true]
  rw [Int.toNat_natCast] at la lb
  have hs : Ar.real.slt (strOf (digs m)) (strOf (digs n)) = ltD (digs m) (digs n) := slt_str (bytesB_iff.1 (digs_bytes m)) (bytesB_iff.1 (digs_bytes n))
  have w1 : IntKind.u8.wrap (48 + (z : Int)) = 48 + (z : Int) := wu8 (by omega) (by omega)
  have w2 : IntKind.u64.wrap (10 * (r : Int)) = 10 * (r : Int) := wu64 (by omega) (by omega)
  have w3 : IntKind.u64.wrap (z : Int) = (z : Int) := wu64 (by omega) (by omega)
  have w4 : IntKind.u64.wrap (10 * (r : Int) + (z : Int)) = 10 * (r : Int) + (z : Int) := wu64 (by omega) (by omega)
  have lr := digs_le20 (n := r) (by omega)
  have g1 : isU64 (r : Int) = true := by rw [isU64_iff]; omega
  have g2 : decide (((digs r).length + [48 + (z : Int)].length) * 1 ≤ 140737488355328) = true := decide_eq_true (by rw [List.length_singleton]; omega)
  have g3 : bytesB (digs r ++ [48 + (z : Int)]) = true := by
    rw [bytesB_iff]
    intro x hx
    rcases List.mem_append.1 hx with hx | hx
    · exact bytesB_iff.1 (digs_bytes r) x hx
    · simp at hx; omega
  have g4 : decide ((digs r ++ [48 + (z : Int)]).length ≤ 1000000000) = true := decide_eq_true (by rw [List.length_append, List.length_singleton]; omega)
  have hless : (m : Int) < (n : Int) ↔ m < n := by omega
  -- what is told of the cost and a digit more
  have fin : (r : Int) ≠ 0 → readE (digs r ++ [48 + (z : Int)]) = 0 ∧ readC (digs r ++ [48 + (z : Int)]) = 10 * (r : Int) + (z : Int) := by
    intro hr0
    have hk : digs (10 * r + z) = digs r ++ [48 + (z : Int)] := by
      rw [digs_big (by omega) (by omega)]
      have a1 : (10 * r + z) / 10 = r := by omega
      have a2 : (10 * r + z) % 10 = z := by omega
      rw [a1, a2]
    rw [← hk]
    obtain ⟨k1, k2⟩ := read_some (readN_digs (n := 10 * r + z) (by omega))
    exact ⟨k2, by rw [k1]; omega⟩
  by_cases hr0 : (r : Int) = 0
  · have c0 : ((r : Int) == 0) = true := by rw [beq_iff_eq]; exact hr0
    by_cases h1 : (digs m).length < (digs n).length
    · have hl := less_len (by omega) (by omega) h1
      have f1 : decide (((digs m).length : Int) < ((digs n).length : Int)) = true := decide_eq_true (by omega)
      have f2 : decide ((m : Int) < (n : Int)) = true := decide_eq_true (by omega)
      simp only [f1, f2, c0]
      rfl
    · have f1 : decide (((digs m).length : Int) < ((digs n).length : Int)) = false := decide_eq_false (by omega)
      by_cases h2 : (digs m).length = (digs n).length
      · have f3 : (((digs m).length : Int) == ((digs n).length : Int)) = true := by rw [beq_iff_eq]; omega
        have f4 : ltD (digs m) (digs n) = decide ((m : Int) < (n : Int)) := by
          rw [ltD_val _ _ (digs_dig m) (digs_dig n) h2, digs_val m (by omega), digs_val n (by omega)]
          exact decide_eq_decide.2 hless.symm
        simp only [f1, f3, c0, hs, f4, beq_self_eq_true]
        rfl
      · have hl := less_len (a := n) (b := m) (by omega) (by omega) (by omega)
        have f2 : decide ((m : Int) < (n : Int)) = false := decide_eq_false (by omega)
        have f3 : (((digs m).length : Int) == ((digs n).length : Int)) = false := by rw [beq_eq_false_iff_ne]; omega
        simp only [f1, f2, f3, c0]
        rfl
  · have c0 : ((r : Int) == 0) = false := by rw [beq_eq_false_iff_ne]; exact hr0
    obtain ⟨k1, k2⟩ := fin hr0
    by_cases h1 : (digs m).length < (digs n).length
    · have hl := less_len (by omega) (by omega) h1
      have f1 : decide (((digs m).length : Int) < ((digs n).length : Int)) = true := decide_eq_true (by omega)
      have f2 : decide ((m : Int) < (n : Int)) = true := decide_eq_true (by omega)
      simp only [f1, f2, c0, w1, w2, w3, w4, g1, g2, g3, g4, k1, k2, beq_self_eq_true]
      rfl
    · have f1 : decide (((digs m).length : Int) < ((digs n).length : Int)) = false := decide_eq_false (by omega)
      by_cases h2 : (digs m).length = (digs n).length
      · have f3 : (((digs m).length : Int) == ((digs n).length : Int)) = true := by rw [beq_iff_eq]; omega
        have f4 : ltD (digs m) (digs n) = decide ((m : Int) < (n : Int)) := by
          rw [ltD_val _ _ (digs_dig m) (digs_dig n) h2, digs_val m (by omega), digs_val n (by omega)]
          exact decide_eq_decide.2 hless.symm
        simp only [f1, f3, c0, hs, f4, w1, w2, w3, w4, g1, g2, g3, g4, k1, k2, beq_self_eq_true]
        rfl
      · have hl := less_len (a := n) (b := m) (by omega) (by omega) (by omega)
        have f2 : decide ((m : Int) < (n : Int)) = false := decide_eq_false (by omega)
        have f3 : (((digs m).length : Int) == ((digs n).length : Int)) = false := by rw [beq_eq_false_iff_ne]; omega
        simp only [f1, f2, f3, c0, w1, w2, w3, w4, g1, g2, g3, g4, k1, k2, beq_self_eq_true]
        rfl

end Go.Proofs.YtlikejlgpfhkfaaDoor.V

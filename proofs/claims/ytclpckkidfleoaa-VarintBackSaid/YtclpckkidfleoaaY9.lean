/-
  Chapter 13's program: taking does what it tells.
  It speaks of the pinned program alone; no condition.
-/
import Derived.Test.YtclpckkidfleoaaY8
namespace Go.Proofs.Ytclpckkidfleoaa.V
open Go
set_option linter.unusedVariables false
set_option linter.unusedSimpArgs false

theorem and127 : ∀ r, r < 256 → r &&& 127 = r % 128 := by
  intro r hr
  have : (127 : Nat) = 2 ^ 7 - 1 := by decide
  rw [this, Nat.and_two_pow_sub_one_eq_mod]

/-- No more than ten bytes. -/
theorem tkRest_ten (n : Nat) (s : List Int) (hn : n < 18446744073709551616) : tkRest n 10 s = none := by
  unfold tkRest
  cases hd : dec s with
  | none => rfl
  | some p =>
    obtain ⟨v, r⟩ := p
    simp only
    rw [if_neg]
    rintro ⟨h1, h2⟩
    have e : Int.toNat 10 = 10 := rfl
    rw [e] at h1 h2
    have hlen := vb_len_le h1
    obtain ⟨p, rfl, hp⟩ := dec_len _ _ _ hd
    have : 1 ≤ p.length := by cases p with | nil => exact absurd rfl hp | cons _ _ => simp
    simp only [List.length_append] at h2
    omega

theorem tkRest_nil (n i : Int) : tkRest n i [] = none := rfl

/-- A byte whose bits do not fit. -/
theorem tkRest_high (n i : Nat) (c : Int) (s : List Int) (hc : 0 ≤ c ∧ c < 256) (h : 18446744073709551616 ≤ (c % 128).toNat * 2 ^ (7 * i)) : tkRest n i (c :: s) = none := by
  unfold tkRest
  cases hd : dec (c :: s) with
  | none => rfl
  | some p =>
    obtain ⟨v, r⟩ := p
    simp only
    rw [if_neg]
    rintro ⟨h1, h2⟩
    have hv : (c % 128).toNat ≤ v := by
      rw [dec] at hd
      split at hd
      · cases hd; omega
      · split at hd
        · cases hd; omega
        · cases hd
    have : (c % 128).toNat * 2 ^ (7 * i) ≤ v * 2 ^ (7 * i) := Nat.mul_le_mul_right _ hv
    rw [Int.toNat_natCast, Int.toNat_natCast, Nat.mul_comm (2 ^ (7 * i)) v] at h1
    omega

theorem tkRest_last (n i : Nat) (c : Int) (s : List Int) (hc : 0 ≤ c ∧ c < 128) : tkRest n i (c :: s) = if n + 2 ^ (7 * i) * c.toNat < 18446744073709551616 ∧ (vb (n + 2 ^ (7 * i) * c.toNat)).length = i + 1 then some (((n + 2 ^ (7 * i) * c.toNat : Nat) : Int), s) else none := by
  unfold tkRest
  rw [dec, if_pos hc.2]
  simp only [Int.toNat_natCast, List.length_cons, Nat.add_sub_cancel_left]

theorem tkRest_next (n i : Nat) (c : Int) (s : List Int) (hc : 128 ≤ c ∧ c < 256) : tkRest n i (c :: s) = tkRest ((n + 2 ^ (7 * i) * (c % 128).toNat : Nat) : Int) ((i + 1 : Nat) : Int) s := by
  unfold tkRest
  rw [dec, if_neg (by omega)]
  cases hd : dec s with
  | none => rfl
  | some p =>
    obtain ⟨v, r⟩ := p
    obtain ⟨p, rfl, hp⟩ := dec_len _ _ _ hd
    have e : n + 2 ^ (7 * i) * ((c - 128).toNat + 128 * v) = n + 2 ^ (7 * i) * (c % 128).toNat + 2 ^ (7 * (i + 1)) * v := by
      have : (c - 128).toNat = (c % 128).toNat := by omega
      rw [this, Nat.mul_add, Nat.mul_add 7 i 1, Nat.pow_add, ← Nat.add_assoc]
      congr 1
      rw [Nat.mul_assoc]
    simp only [Int.toNat_natCast, e, List.length_cons, List.length_append]
    have e2 : i + (p.length + r.length + 1 - r.length) = i + 1 + (p.length + r.length - r.length) := by omega
    rw [e2]

theorem loop8 (b : List Int) (nl : Bool) (hb : b.length ≤ 100000) (hy : ∀ x ∈ b, 0 ≤ x ∧ x < 256) (hnl : (!nl || b.isEmpty) = true) (z y : Int) : ∀ (k i n : Nat), b.length - i = k → i ≤ b.length → i ≤ 10 → n < 2 ^ (7 * i) → n < 18446744073709551616 →
    ∀ r, (Tr.test (tkRest n i (b.drop i)).isSome
        (.give (Ex.ret, [X.dead, u64x ((tkRest n i (b.drop i)).getD (0, [])).1, u8s ((tkRest n i (b.drop i)).getD (0, [])).2 (some nl) true, i64x 0, .dead, .dead, .dead, .dead], ([] : Hp)))
        (.give (.exit 0, [.dead, .dead, .dead, .dead, .dead, .dead, .dead, .dead], []))).run some = some r →
    LoopTo (Cx Ar.real (O13 Ar.real) (L8 Ar.real)) 100 (loopAt Try.f8 0) 52 [0, 2, 3, 4, 5, 9, 10, 11] [u8s b (some nl) false, u64x z, u8s [] (some true) true, i64x y, u64x n, u8s b (some nl) false, i64x b.length, i64x i] [] r := by
  have fgt : ∀ ys : List X, Forget ys [.dead, .dead, .dead, .dead, .dead, .dead, .dead, .dead] := by
    intro ys i
    refine .inl ?_
    rcases i with _ | _ | _ | _ | _ | _ | _ | _ | i <;> simp
  intro k
  induction k with
  | zero =>
    intro i n h1 h2 h3 h4 h5 r hr
    have hi : b.drop i = [] := by rw [List.drop_eq_nil_iff]; omega
    rw [hi, tkRest_nil] at hr
    cases hr
    refine LoopTo.left (by simp) fun k => ?_
    rw [l8, bf (by rw [decide_eq_false_iff_not]; omega)]
    exact ⟨_, rfl, fgt _⟩
  | succ k ih =>
    intro i n h1 h2 h3 h4 h5 r hr
    have hi : i < b.length := by omega
    have hc := hy (b.getD i 0) (by rw [List.getD_eq_getElem?_getD, List.getElem?_eq_getElem hi]; exact List.getElem_mem _)
    have hnl' : nl = false := by
      cases nl
      · rfl
      · simp at hnl; subst hnl; simp at hi
    subst hnl'
    rw [drop_cons hi] at hr
    generalize hcd : b.getD i 0 = c at hr hc
    by_cases h10 : i = 10
    · subst h10
      have e : (((10 : Nat) : Int)) = 10 := rfl
      rw [e, tkRest_ten n _ h5] at hr
      cases hr
      refine LoopTo.left (by simp) fun k => ?_
      rw [l8, bt (by rw [decide_eq_true_eq]; omega), bt (by rw [decide_eq_true_eq]; omega), bf (by simp)]
      exact ⟨_, rfl, fgt _⟩
    · have w7 : Ar.real.wrap .i64 (7 * (i : Int)) = ((7 * i : Nat) : Int) := by rw [rw_wrap, wi64 (by omega) (by omega)]; omega
      have wi : Ar.real.wrap .i64 ((i : Int) + 1) = ((i + 1 : Nat) : Int) := by rw [rw_wrap, wi64 (by omega) (by omega)]; omega
      have p7 : Ar.real.p2 ((7 * i : Nat) : Int) 64 = ((2 ^ (7 * i) : Nat) : Int) := by
        rw [rw_p2, Int.toNat_natCast, Nat.min_eq_left (by omega)]; simp
      obtain ⟨cn, rfl⟩ := Int.eq_ofNat_of_zero_le hc.1
      have hcn : cn < 256 := by omega
      have low : Ar.real.wrap .u64 (Ar.real.wrap .u8 (Ar.real.band 8 (cn : Int) 127)) = ((cn % 128 : Nat) : Int) := by
        rw [show (127 : Int) = ((127 : Nat) : Int) from rfl, band_nat (n := 8) (by omega) (by decide), and127 _ hcn, rw_wrap, rw_wrap, wu8 (by omega) (by omega), wu64 (by omega) (by omega)]
      have hP : 0 < 2 ^ (7 * i) := Nat.two_pow_pos _
      have shl : Ar.real.wrap .u64 (((cn % 128 : Nat) : Int) * ((2 ^ (7 * i) : Nat) : Int)) = ((cn % 128 * 2 ^ (7 * i) % 18446744073709551616 : Nat) : Int) := by
        rw [rw_wrap, wrapu64]; simp
      have fdv : Int.fdiv ((cn % 128 * 2 ^ (7 * i) % 18446744073709551616 : Nat) : Int) ((2 ^ (7 * i) : Nat) : Int) = ((cn % 128 * 2 ^ (7 * i) % 18446744073709551616 / 2 ^ (7 * i) : Nat) : Int) := (Int.ofNat_fdiv _ _).symm
      have gd : b.getD (Int.toNat (i : Int)) 0 = (cn : Int) := by rw [Int.toNat_natCast, hcd]
      have cmod : ((cn : Int) % 128).toNat = cn % 128 := by omega
      have tree := fun (R : Type) (k : Ex → List X → Hp → Option R) => l8 Ar.real R b false z y n i k
      simp only [gd, low, w7, p7, shl, fdv, wi] at tree
      by_cases hfit : cn % 128 * 2 ^ (7 * i) < 18446744073709551616
      · have hmod : cn % 128 * 2 ^ (7 * i) % 18446744073709551616 = cn % 128 * 2 ^ (7 * i) := Nat.mod_eq_of_lt hfit
        have hdiv : cn % 128 * 2 ^ (7 * i) / 2 ^ (7 * i) = cn % 128 := Nat.mul_div_cancel _ hP
        have hsum : n + 2 ^ (7 * i) * (cn % 128) < 18446744073709551616 := by
          have h64 : (18446744073709551616 : Nat) = 2 ^ (64 - 7 * i) * 2 ^ (7 * i) := by
            rw [← Nat.pow_add, Nat.sub_add_cancel (by omega)]
          rw [h64] at hfit ⊢
          have h6 : cn % 128 < 2 ^ (64 - 7 * i) := Nat.lt_of_mul_lt_mul_right hfit
          have h7 : (cn % 128 + 1) * 2 ^ (7 * i) ≤ 2 ^ (64 - 7 * i) * 2 ^ (7 * i) := Nat.mul_le_mul_right _ h6
          rw [Nat.add_mul, Nat.one_mul] at h7
          rw [Nat.mul_comm (2 ^ (7 * i)) (cn % 128)]
          omega
        have hor : Ar.real.wrap .u64 (Ar.real.bor 64 (n : Int) ((cn % 128 * 2 ^ (7 * i) : Nat) : Int)) = ((n + 2 ^ (7 * i) * (cn % 128) : Nat) : Int) := by
          rw [bor_nat (n := 64) (by simpa using h5) (by simpa using hfit), Nat.or_comm, Nat.mul_comm (cn % 128), ← Nat.two_pow_add_eq_or_of_lt h4, Nat.add_comm, rw_wrap, wu64 (by omega) (by omega)]
        simp only [hmod, hdiv, hor, rw_se] at tree
        have pre : ∀ (R : Type) (a b' : Option R) , (bif ((((cn % 128 : Nat) : Int)) != ((cn % 128 : Nat) : Int)) then a else b') = b' := fun R a b' => bf (by simp)
        by_cases hlt : cn < 128
        · rw [tkRest_last n i _ _ ⟨hc.1, by omega⟩] at hr
          have cl : (cn : Int).toNat = cn % 128 := by omega
          rw [cl] at hr
          by_cases hlen : (vb (n + 2 ^ (7 * i) * (cn % 128))).length = i + 1
          · rw [if_pos ⟨hsum, hlen⟩] at hr
            cases hr
            refine LoopTo.left (by simp) fun k => ?_
            rw [tree, bt (by rw [decide_eq_true_eq]; omega), bt (by rw [decide_eq_true_eq]; omega), bt (by simp; omega), bt (by rw [decide_eq_true_eq]; omega), bt (by rw [decide_eq_true_eq]; omega), pre, bt (by rw [decide_eq_true_eq]; omega), bt (by rw [decide_eq_true_eq]; omega), bt (isU64_iff.2 ⟨by omega, by omega⟩), Int.toNat_natCast, hlen, bf (by simp), bt (by rw [decide_eq_true_eq]; omega), bt (by simp; omega)]
            refine ⟨_, rfl, ?_⟩
            refine Forget.cons (.inl rfl) (Forget.cons (.inr rfl) (Forget.cons (.inr ?_) (Forget.cons (.inr rfl) (Forget.cons (.inl rfl) (Forget.cons (.inl rfl) (Forget.cons (.inl rfl) (Forget.cons (.inl rfl) (Forget.same _))))))))
            rw [Int.toNat_natCast]; rfl
          · rw [if_neg (fun h => hlen h.2)] at hr
            cases hr
            refine LoopTo.left (by simp) fun k => ?_
            rw [tree, bt (by rw [decide_eq_true_eq]; omega), bt (by rw [decide_eq_true_eq]; omega), bt (by simp; omega), bt (by rw [decide_eq_true_eq]; omega), bt (by rw [decide_eq_true_eq]; omega), pre, bt (by rw [decide_eq_true_eq]; omega), bt (by rw [decide_eq_true_eq]; omega), bt (isU64_iff.2 ⟨by omega, by omega⟩), Int.toNat_natCast, bt (by simp; omega)]
            exact ⟨_, rfl, fgt _⟩
        · rw [tkRest_next n i _ _ ⟨by omega, hc.2⟩, cmod] at hr
          have h8 : n + 2 ^ (7 * i) * (cn % 128) < 2 ^ (7 * (i + 1)) := by
            rw [Nat.mul_add 7 i 1, Nat.pow_add]
            have : 2 ^ (7 * i) * (cn % 128 + 1) ≤ 2 ^ (7 * i) * 2 ^ (7 * 1) := Nat.mul_le_mul_left _ (by simp; omega)
            rw [Nat.mul_add, Nat.mul_one] at this
            omega
          refine LoopTo.next (fun k => ?_) (ih (i + 1) (n + 2 ^ (7 * i) * (cn % 128)) (by omega) (by omega) (by omega) h8 hsum r hr)
          rw [tree, bt (by rw [decide_eq_true_eq]; omega), bt (by rw [decide_eq_true_eq]; omega), bt (by simp; omega), bt (by rw [decide_eq_true_eq]; omega), bt (by rw [decide_eq_true_eq]; omega), pre, bt (by rw [decide_eq_true_eq]; omega), bf (by rw [decide_eq_false_iff_not]; omega)]
      · rw [tkRest_high n i _ _ hc (by rw [cmod]; omega)] at hr
        cases hr
        refine LoopTo.left (by simp) fun k => ?_
        have hne : ¬ cn % 128 * 2 ^ (7 * i) % 18446744073709551616 / 2 ^ (7 * i) = cn % 128 := by
          intro e
          have h6 : cn % 128 * 2 ^ (7 * i) ≤ cn % 128 * 2 ^ (7 * i) % 18446744073709551616 := by
            conv => lhs; rw [← e]
            exact Nat.div_mul_le_self _ _
          have := Nat.mod_lt (cn % 128 * 2 ^ (7 * i)) (show 0 < 18446744073709551616 by decide)
          omega
        rw [tree, bt (by rw [decide_eq_true_eq]; omega), bt (by rw [decide_eq_true_eq]; omega), bt (by simp; omega), bt (by rw [decide_eq_true_eq]; omega), bt (by rw [decide_eq_true_eq]; omega), bt (by rw [bne_iff_ne]; exact fun e => hne (by omega))]
        exact ⟨_, rfl, fgt _⟩

theorem tkRest_zero (b : List Int) (hy : ∀ x ∈ b, 0 ≤ x ∧ x < 256) : tkRest 0 0 b = (takeV b).map fun p => ((p.1 : Int), p.2) := by
  unfold tkRest
  cases hd : dec b with
  | none =>
    have : takeV b = none := by unfold takeV; rw [hd]
    rw [this]; rfl
  | some p =>
    obtain ⟨v, r⟩ := p
    obtain ⟨p, hp, _⟩ := dec_len _ _ _ hd
    have hl : b.length = p.length + r.length := by rw [hp]; simp
    rw [takeV_dec hy hd]
    have e : (0 : Int).toNat + 2 ^ (7 * (0 : Int).toNat) * v = v := by simp
    have e0 : (0 : Int).toNat = 0 := rfl
    simp only [e]
    by_cases h1 : v < 18446744073709551616 ∧ (vb v).length + r.length = b.length
    · rw [if_pos h1, if_pos ⟨h1.1, by omega⟩]; rfl
    · rw [if_neg h1, if_neg]
      · rfl
      · rintro ⟨h2, h3⟩
        exact h1 ⟨h2, by omega⟩

theorem take_ok : OrcOk Try.prog 8 (.pure (takeF Ar.real)) := by
  refine pureOk (Cx.ok o13 (L8 Ar.real)) mixed 8 Try.f8 (by kernel_rfl) (by kernel_rfl) (by kernel_rfl) 100 1 (by kernel_rfl) (fun i h => ?_) fun args r h => ?_
  · obtain rfl : i = 0 := by omega
    refine Tells.mk (key := 3) (N := 52) (ks := [0, 2, 3, 4, 5, 9, 10, 11]) (F := L8F Ar.real) (by kernel_rfl) rfl fun xs H r h => ?_
    unfold L8F at h
    split at h
    · rename_i b nl z y n b2 nl2 l i
      by_cases hg : gTake b b2 nl nl2 n l i = true
      · have h' := h
        simp only [rw_se] at h'
        rw [show ∀ (x y : Tr (Ex × List X × Hp)), (Tr.test (gTake b b2 nl nl2 n l i) x y).run some = x.run some from fun x y => by rw [hg]; rfl] at h'
        clear h
        unfold gTake at hg
        simp only [Bool.and_eq_true, decide_eq_true_eq, bytesB_iff] at hg
        obtain ⟨h1, h2, h3, ⟨h4, h5⟩, h6, h7, h8, h9, h10, h11, h12⟩ := hg
        subst h4; subst h5; subst h6
        obtain ⟨i, rfl⟩ := Int.eq_ofNat_of_zero_le h7
        obtain ⟨n, rfl⟩ := Int.eq_ofNat_of_zero_le h10
        simp only [Int.toNat_natCast] at h' h11
        refine loop8 _ _ h2 h1 h3 z y _ i n rfl (by omega) (by omega) ?_ (by omega) r h'
        have e : ((2 : Int) ^ (7 * i)) = ((2 ^ (7 * i) : Nat) : Int) := by simp
        rw [e] at h11
        omega
      · rw [show gTake b b2 nl nl2 n l i = false by simpa using hg] at h
        cases h
    · cases h
  · unfold takeF at h
    split at h
    · rename_i b nl
      obtain ⟨hg, rfl⟩ := Tr.one h
      refine ⟨rfl, rfl, [], ?_⟩
      rw [t8]
      simp only [rw_se, Bool.and_eq_true, decide_eq_true_eq] at hg ⊢
      obtain ⟨hb, hy, hn⟩ := hg
      have hz : Int.toNat 0 = 0 := rfl
      rw [hz, List.drop_zero, bt, tkRest_zero b (bytesB_iff.1 hy)]
      · cases hv : takeV b with
        | none => simp [tkN, tkR, tkB, tkE, hv]
        | some p =>
          obtain ⟨v, r⟩ := p
          have hne : nl = false := by
            cases nl
            · rfl
            · simp at hn; subst hn; simp [takeV, dec] at hv
          subst hne
          simp [tkN, tkR, tkB, tkE, hv]
      · unfold gTake
        simp only [Bool.and_eq_true, decide_eq_true_eq]
        exact ⟨hy, hb, hn, by simp, by simp, by simp, by simp, by simp⟩
    · cases h

theorem o9 : OOk (O9 Ar.real) := (o13.add take_ok).add refTake_ok

end Go.Proofs.Ytclpckkidfleoaa.V

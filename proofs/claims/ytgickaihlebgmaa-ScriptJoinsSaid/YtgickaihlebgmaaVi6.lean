/-
  Chapter 13, varint: takes do what they tell.
  It speaks of the pinned program alone; no condition.
-/
import Derived.Test.YtgickaihlebgmaaVi5
namespace Go.Proofs.Ytgickaihlebgmaa.V
open Go
set_option linter.unusedVariables false
set_option linter.unusedSimpArgs false

theorem kOf_cons (c : Int) (s : List Int) : kOf (c :: s) = if 128 ≤ c then kOf s + 1 else 0 := by
  unfold kOf
  rw [List.takeWhile_cons]
  by_cases h : 128 ≤ c <;> simp [h]
theorem kOf_le (s : List Int) : kOf s ≤ s.length := by
  unfold kOf
  exact (List.takeWhile_sublist _).length_le

theorem kOf_vb (v : Nat) (r : List Int) : kOf (vb v ++ r) + 1 = (vb v).length := by
  induction v using Nat.strongRecOn with
  | _ v ih =>
    by_cases h : v < 128
    · rw [vb_small h, List.singleton_append, kOf_cons, if_neg (by omega)]
      rfl
    · rw [vb_big (by omega), List.cons_append, kOf_cons, if_pos (by omega), ih _ (by omega)]
      rfl

theorem digs_cons (n : Int) (c : Int) (s : List Int) : digs n (c :: s) = (digs n s * 128 + c % 128) % 18446744073709551616 := rfl
theorem digs_range {n : Int} (h : 0 ≤ n ∧ n < 18446744073709551616) (s : List Int) : 0 ≤ digs n s ∧ digs n s < 18446744073709551616 := by
  cases s with
  | nil => exact h
  | cons c s => rw [digs_cons]; omega

theorem digs_vb (v : Nat) (h : v < 18446744073709551616) : digs 0 (vb v) = v := by
  induction v using Nat.strongRecOn with
  | _ v ih =>
    by_cases hs : v < 128
    · rw [vb_small hs, digs_cons]
      simp only [digs, List.foldr_nil]
      omega
    · rw [vb_big (by omega), digs_cons, ih _ (by omega) (by omega)]
      omega

theorem take_link (b : List Int) : takeV b = if kOf b < b.length ∧ kOf b ≤ 9 ∧ vb (digs 0 (b.take (kOf b + 1))).toNat = b.take (kOf b + 1) then some ((digs 0 (b.take (kOf b + 1))).toNat, b.drop (kOf b + 1)) else none := by
  split
  · rename_i h
    obtain ⟨h1, h2, h3⟩ := h
    refine takeV_some.2 ⟨?_, ?_⟩
    · have := digs_range (n := 0) (by omega) (b.take (kOf b + 1))
      omega
    · rw [h3, List.take_append_drop]
  · rename_i h
    cases hv : takeV b with
    | none => rfl
    | some p =>
      obtain ⟨v, r⟩ := p
      obtain ⟨h1, h2⟩ := takeV_some.1 hv
      exfalso
      apply h
      have hk := kOf_vb v r
      rw [← h2] at hk
      have ht : b.take (kOf b + 1) = vb v := by rw [hk]; conv => lhs; rw [h2]; simp
      have hl := vb_len_le h1
      have hbl : b.length = (vb v).length + r.length := by rw [h2]; simp
      refine ⟨by omega, by omega, ?_⟩
      rw [ht, digs_vb v h1, Int.toNat_natCast]

theorem loop9a (b : List Int) (nl : Bool) (hb : b.length ≤ 100000000) : ∀ (n i : Nat), b.length - i = n → i ≤ b.length →
    LoopTo (Cx Ar.real (Ovi4 Ar.real) (L9 Ar.real)) 100 (loopAt Try.f37 0) 57 [0, 5] [u8s b (some nl) false, i64x i] [] (.exit 0, [u8s b (some nl) false, i64x (i + kOf (b.drop i))], []) := by
  intro n
  induction n with
  | zero =>
    intro i h1 h2
    have hi : b.drop i = [] := by rw [List.drop_eq_nil_iff]; omega
    have hk : kOf ([] : List Int) = 0 := rfl
    refine LoopTo.done (by simp) fun k => ?_
    rw [lRefTakeA, bf (by simp; omega), hi, hk]
    simp
  | succ n ih =>
    intro i h1 h2
    have hi : i < b.length := by omega
    rw [drop_cons hi, kOf_cons]
    by_cases hc : 128 ≤ b.getD i 0
    · rw [if_pos hc]
      have e : (i : Int) + ((kOf (b.drop (i + 1)) + 1 : Nat) : Int) = ((i + 1 : Nat) : Int) + (kOf (b.drop (i + 1)) : Int) := by omega
      rw [e]
      refine LoopTo.next (fun k => ?_) (ih (i + 1) (by omega) (by omega))
      rw [lRefTakeA, bt (by simp; omega), bt (by simp; omega), bt (by rw [decide_eq_true_eq]; simpa using hc), rw_wrap, wi64 (by omega) (by omega)]
      rfl
    · rw [if_neg hc]
      refine LoopTo.done (by simp) fun k => ?_
      rw [lRefTakeA, bt (by simp; omega), bt (by simp; omega), bf (by rw [decide_eq_false_iff_not]; simpa using hc)]
      simp

theorem loop9b (b : List Int) (nl : Bool) (k : Int) (hb : b.length ≤ 100000000) (hy : ∀ x ∈ b, 0 ≤ x ∧ x < 256) : ∀ (j : Nat) (n : Int), j ≤ b.length → 0 ≤ n ∧ n < 18446744073709551616 →
    LoopTo (Cx Ar.real (Ovi4 Ar.real) (L9 Ar.real)) 100 (loopAt Try.f37 1) 57 [0, 5, 6, 7] [u8s b (some nl) false, i64x k, u64x n, i64x ((j : Int) - 1)] [] (.exit 2, [u8s b (some nl) false, i64x k, u64x (digs n (b.take j)), i64x (-1)], []) := by
  intro j
  induction j with
  | zero =>
    intro n _ hn
    refine LoopTo.done (by simp) fun k => ?_
    rw [lRefTakeB, bf (by simp)]
    simp [digs]
  | succ j ih =>
    intro n hj hn
    have hx := hy (b.getD j 0) (by rw [List.getD_eq_getElem?_getD, List.getElem?_eq_getElem (by omega)]; exact List.getElem_mem _)
    have e1 : digs n (b.take (j + 1)) = digs ((n * 128 + b.getD j 0 % 128) % 18446744073709551616) (b.take j) := by
      rw [take_succ (by omega)]
      simp [digs, List.foldr_append]
    rw [e1]
    refine LoopTo.next (fun k => ?_) (ih ((n * 128 + b.getD j 0 % 128) % 18446744073709551616) (by omega) (by omega))
    have e2 : (((j + 1 : Nat) : Int) - 1) = (j : Int) := by omega
    rw [e2, lRefTakeB, bt (by simp), bt (by simp; omega)]
    have e3 : Ar.real.wrap .u64 (Ar.real.wrap .u64 (n * 128) + Ar.real.wrap .u64 (Int.tmod (b.getD (Int.toNat (j : Int)) 0) 128)) = (n * 128 + b.getD j 0 % 128) % 18446744073709551616 := by
      rw [Int.toNat_natCast]
      have : Int.tmod (b.getD j 0) 128 = b.getD j 0 % 128 := Int.tmod_eq_emod_of_nonneg hx.1
      rw [this]
      simp only [rw_wrap, wrapu64]
      omega
    have e4 : Ar.real.wrap .i64 ((j : Int) - 1) = (j : Int) - 1 := by rw [rw_wrap, wi64 (by omega) (by omega)]
    rw [e3, e4]

theorem refTake_ok : OrcOk Try.prog 37 (.pure (takeF Ar.real)) := by
  refine pureOk (Cx.ok o_vi4 (L9 Ar.real)) mixed 37 Try.f37 (by kernel_rfl) (by kernel_rfl) (by kernel_rfl) 100 2 (by kernel_rfl) (fun i h => ?_) fun args r h => ?_
  · have hi : i = 0 ∨ i = 1 := by omega
    rcases hi with rfl | rfl
    · refine Tells.mk (key := 2) (N := 57) (ks := [0, 5]) (F := L9aF Ar.real) (by kernel_rfl) rfl fun xs H r h => ?_
      unfold L9aF at h
      split at h
      · rename_i b nl i
        obtain ⟨hg, rfl⟩ := Tr.one h
        simp only [rw_se, Bool.and_eq_true, decide_eq_true_eq] at hg ⊢
        dsimp only [Ty.den] at hg
        obtain ⟨h1, h2, h3⟩ := hg
        obtain ⟨m, rfl⟩ := Int.eq_ofNat_of_zero_le h2
        simp only [Int.toNat_natCast]
        exact loop9a b nl h1 _ m rfl (by omega)
      · cases h
    · refine Tells.mk (key := 8) (N := 57) (ks := [0, 5, 6, 7]) (F := L9bF Ar.real) (by kernel_rfl) rfl fun xs H r h => ?_
      unfold L9bF at h
      split at h
      · rename_i b nl j n i
        obtain ⟨hg, rfl⟩ := Tr.one h
        simp only [rw_se, Bool.and_eq_true, decide_eq_true_eq, isU64_iff, bytesB_iff] at hg ⊢
        dsimp only [Ty.den] at hg
        obtain ⟨h1, h2, h3, h4, h5⟩ := hg
        have := loop9b b nl j h2 h1 (i + 1).toNat n (by omega) h3
        have e : (((i + 1).toNat : Nat) : Int) - 1 = i := by omega
        rw [e] at this
        exact this
      · cases h
  · unfold takeF at h
    split at h
    · rename_i b nl
      obtain ⟨hg, rfl⟩ := Tr.one h
      refine ⟨rfl, rfl, [], ?_⟩
      rw [tRefTake]
      have z : Int.toNat 0 = 0 := rfl
      simp only [rw_se, Bool.and_eq_true, decide_eq_true_eq, z, List.drop_zero, Int.zero_add] at hg ⊢
      obtain ⟨hb, hy, hn⟩ := hg
      have hy' := bytesB_iff.1 hy
      have hk := kOf_le b
      have link := take_link b
      have hd := digs_range (n := 0) (by omega) (b.take (kOf b + 1))
      have tn : (((kOf b : Nat) : Int) + 1).toNat = kOf b + 1 := by omega
      have w1 : Ar.real.wrap .i64 (((kOf b : Nat) : Int) + 1) = ((kOf b : Nat) : Int) + 1 := by rw [rw_wrap, wi64 (by omega) (by omega)]
      rw [bt (by simp only [Bool.and_eq_true, decide_eq_true_eq]; exact ⟨hb, by simp⟩)]
      have errs : takeV b = none → some (X.tup [X.d (Ty.int IntKind.u64) (0 : Int), X.sl (Ty.int IntKind.u8) [] (some true) false, X.d (Ty.int IntKind.i64) (130 : Int)], ([] : Hp)) = some (X.tup [u64x (tkN b), u8s (tkR b) (some (!tkB b)) false, i64x (tkE b)], []) := by
        intro e
        simp [tkN, tkR, tkB, tkE, e]
      by_cases c1 : kOf b < b.length
      · rw [bt (by simp; omega)]
        by_cases c2 : kOf b ≤ 9
        · rw [bf (by rw [decide_eq_false_iff_not]; omega)]
          simp only [w1, tn]
          rw [bt (by simp only [Bool.and_eq_true, decide_eq_true_eq]; exact ⟨hy, hb, by decide, by simp, by omega⟩), bt (isU64_iff.2 hd), bt (by rw [decide_eq_true_eq]; omega)]
          rw [seq_str (vb_byte _) (fun x hx => hy' x (List.mem_of_mem_take hx))]
          by_cases c3 : vb (digs 0 (b.take (kOf b + 1))).toNat = b.take (kOf b + 1)
          · rw [if_pos ⟨c1, c2, c3⟩] at link
            rw [bf (by simp [c3]), bt (by rw [decide_eq_true_eq]; omega)]
            have hne : nl = false := by
              cases nl
              · rfl
              · have := nlB_nil hn rfl; subst this; simp at c1
            subst hne
            simp [tkN, tkR, tkB, tkE, link, Int.toNat_of_nonneg hd.1]
          · rw [if_neg (fun h => c3 h.2.2)] at link
            rw [bt (by simp [c3])]
            exact errs link
        · rw [if_neg (fun h => c2 h.2.1)] at link
          rw [bt (by rw [decide_eq_true_eq]; omega)]
          exact errs link
      · rw [if_neg (fun h => c1 h.1)] at link
        rw [bf (by simp; omega)]
        exact errs link
    · cases h

theorem and127 : ∀ r, r < 256 → r &&& 127 = r % 128 := by
  intro r hr
  have : (127 : Nat) = 2 ^ 7 - 1 := by decide
  rw [this, Nat.and_two_pow_sub_one_eq_mod]

/-- No more than ten bytes. -/
theorem tkRest_ten (n : Nat) (s : List Int) (hn : n < 18446744073709551616) : tkRest n 10 s = none := by
  unfold tkRest
  cases hd : dec s with
  | none => rfl
  | some p =>
    obtain ⟨v, r⟩ := p
    simp only
    rw [if_neg]
    rintro ⟨h1, h2⟩
    have e : Int.toNat 10 = 10 := rfl
    rw [e] at h1 h2
    have hlen := vb_len_le h1
    obtain ⟨p, rfl, hp⟩ := dec_len _ _ _ hd
    have : 1 ≤ p.length := by cases p with | nil => exact absurd rfl hp | cons _ _ => simp
    simp only [List.length_append] at h2
    omega

theorem tkRest_nil (n i : Int) : tkRest n i [] = none := rfl

/-- A byte whose bits do not fit. -/
theorem tkRest_high (n i : Nat) (c : Int) (s : List Int) (hc : 0 ≤ c ∧ c < 256) (h : 18446744073709551616 ≤ (c % 128).toNat * 2 ^ (7 * i)) : tkRest n i (c :: s) = none := by
  unfold tkRest
  cases hd : dec (c :: s) with
  | none => rfl
  | some p =>
    obtain ⟨v, r⟩ := p
    simp only
    rw [if_neg]
    rintro ⟨h1, h2⟩
    have hv : (c % 128).toNat ≤ v := by
      rw [dec] at hd
      split at hd
      · cases hd; omega
      · split at hd
        · cases hd; omega
        · cases hd
    have : (c % 128).toNat * 2 ^ (7 * i) ≤ v * 2 ^ (7 * i) := Nat.mul_le_mul_right _ hv
    rw [Int.toNat_natCast, Int.toNat_natCast, Nat.mul_comm (2 ^ (7 * i)) v] at h1
    omega

theorem tkRest_last (n i : Nat) (c : Int) (s : List Int) (hc : 0 ≤ c ∧ c < 128) : tkRest n i (c :: s) = if n + 2 ^ (7 * i) * c.toNat < 18446744073709551616 ∧ (vb (n + 2 ^ (7 * i) * c.toNat)).length = i + 1 then some (((n + 2 ^ (7 * i) * c.toNat : Nat) : Int), s) else none := by
  unfold tkRest
  rw [dec, if_pos hc.2]
  simp only [Int.toNat_natCast, List.length_cons, Nat.add_sub_cancel_left]

theorem tkRest_next (n i : Nat) (c : Int) (s : List Int) (hc : 128 ≤ c ∧ c < 256) : tkRest n i (c :: s) = tkRest ((n + 2 ^ (7 * i) * (c % 128).toNat : Nat) : Int) ((i + 1 : Nat) : Int) s := by
  unfold tkRest
  rw [dec, if_neg (by omega)]
  cases hd : dec s with
  | none => rfl
  | some p =>
    obtain ⟨v, r⟩ := p
    obtain ⟨p, rfl, hp⟩ := dec_len _ _ _ hd
    have e : n + 2 ^ (7 * i) * ((c - 128).toNat + 128 * v) = n + 2 ^ (7 * i) * (c % 128).toNat + 2 ^ (7 * (i + 1)) * v := by
      have : (c - 128).toNat = (c % 128).toNat := by omega
      rw [this, Nat.mul_add, Nat.mul_add 7 i 1, Nat.pow_add, ← Nat.add_assoc]
      congr 1
      rw [Nat.mul_assoc]
    simp only [Int.toNat_natCast, e, List.length_cons, List.length_append]
    have e2 : i + (p.length + r.length + 1 - r.length) = i + 1 + (p.length + r.length - r.length) := by omega
    rw [e2]

theorem loop8 (b : List Int) (nl : Bool) (hb : b.length ≤ 100000000) (hy : ∀ x ∈ b, 0 ≤ x ∧ x < 256) (hnl : nlB nl b = true) (z y : Int) : ∀ (k i n : Nat), b.length - i = k → i ≤ b.length → i ≤ 10 → n < 2 ^ (7 * i) → n < 18446744073709551616 →
    ∀ r, (Tr.test (tkRest n i (b.drop i)).isSome
        (.give (Ex.ret, [X.dead, u64x ((tkRest n i (b.drop i)).getD (0, [])).1, u8s ((tkRest n i (b.drop i)).getD (0, [])).2 (some nl) true, i64x 0, .dead, .dead, .dead, .dead], ([] : Hp)))
        (.give (.exit 0, [.dead, .dead, .dead, .dead, .dead, .dead, .dead, .dead], []))).run some = some r →
    LoopTo (Cx Ar.real (Ovi4 Ar.real) (L8 Ar.real)) 100 (loopAt Try.f36 0) 52 [0, 2, 3, 4, 5, 9, 10, 11] [u8s b (some nl) false, u64x z, u8s [] (some true) true, i64x y, u64x n, u8s b (some nl) false, i64x b.length, i64x i] [] r := by
  have fgt : ∀ ys : List X, Forget ys [.dead, .dead, .dead, .dead, .dead, .dead, .dead, .dead] := by
    intro ys i
    refine .inl ?_
    rcases i with _ | _ | _ | _ | _ | _ | _ | _ | i <;> simp
  intro k
  induction k with
  | zero =>
    intro i n h1 h2 h3 h4 h5 r hr
    have hi : b.drop i = [] := by rw [List.drop_eq_nil_iff]; omega
    rw [hi, tkRest_nil] at hr
    cases hr
    refine LoopTo.left (by simp) fun k => ?_
    rw [lTake, bf (by rw [decide_eq_false_iff_not]; omega)]
    exact ⟨_, rfl, fgt _⟩
  | succ k ih =>
    intro i n h1 h2 h3 h4 h5 r hr
    have hi : i < b.length := by omega
    have hc := hy (b.getD i 0) (by rw [List.getD_eq_getElem?_getD, List.getElem?_eq_getElem hi]; exact List.getElem_mem _)
    have hnl' : nl = false := by
      cases nl
      · rfl
      · have := nlB_nil hnl rfl; subst this; simp at hi
    subst hnl'
    rw [drop_cons hi] at hr
    generalize hcd : b.getD i 0 = c at hr hc
    by_cases h10 : i = 10
    · subst h10
      have e : (((10 : Nat) : Int)) = 10 := rfl
      rw [e, tkRest_ten n _ h5] at hr
      cases hr
      refine LoopTo.left (by simp) fun k => ?_
      rw [lTake, bt (by rw [decide_eq_true_eq]; omega), bt (by rw [decide_eq_true_eq]; omega), bf (by simp)]
      exact ⟨_, rfl, fgt _⟩
    · have w7 : Ar.real.wrap .i64 (7 * (i : Int)) = ((7 * i : Nat) : Int) := by rw [rw_wrap, wi64 (by omega) (by omega)]; omega
      have wi : Ar.real.wrap .i64 ((i : Int) + 1) = ((i + 1 : Nat) : Int) := by rw [rw_wrap, wi64 (by omega) (by omega)]; omega
      have p7 : Ar.real.p2 ((7 * i : Nat) : Int) 64 = ((2 ^ (7 * i) : Nat) : Int) := by
        rw [rw_p2, Int.toNat_natCast, Nat.min_eq_left (by omega)]; simp
      obtain ⟨cn, rfl⟩ := Int.eq_ofNat_of_zero_le hc.1
      have hcn : cn < 256 := by omega
      have low : Ar.real.wrap .u64 (Ar.real.wrap .u8 (Ar.real.band 8 (cn : Int) 127)) = ((cn % 128 : Nat) : Int) := by
        rw [show (127 : Int) = ((127 : Nat) : Int) from rfl, band_nat (n := 8) (by omega) (by decide), and127 _ hcn, rw_wrap, rw_wrap, wu8 (by omega) (by omega), wu64 (by omega) (by omega)]
      have hP : 0 < 2 ^ (7 * i) := Nat.two_pow_pos _
      have shl : Ar.real.wrap .u64 (((cn % 128 : Nat) : Int) * ((2 ^ (7 * i) : Nat) : Int)) = ((cn % 128 * 2 ^ (7 * i) % 18446744073709551616 : Nat) : Int) := by
        rw [rw_wrap, wrapu64]; simp
      have fdv : Int.fdiv ((cn % 128 * 2 ^ (7 * i) % 18446744073709551616 : Nat) : Int) ((2 ^ (7 * i) : Nat) : Int) = ((cn % 128 * 2 ^ (7 * i) % 18446744073709551616 / 2 ^ (7 * i) : Nat) : Int) := (Int.ofNat_fdiv _ _).symm
      have gd : b.getD (Int.toNat (i : Int)) 0 = (cn : Int) := by rw [Int.toNat_natCast, hcd]
      have cmod : ((cn : Int) % 128).toNat = cn % 128 := by omega
      have tree := fun (R : Type) (k : Ex → List X → Hp → Option R) => lTake Ar.real R b false z y n i k
      simp only [gd, low, w7, p7, shl, fdv, wi] at tree
      by_cases hfit : cn % 128 * 2 ^ (7 * i) < 18446744073709551616
      · have hmod : cn % 128 * 2 ^ (7 * i) % 18446744073709551616 = cn % 128 * 2 ^ (7 * i) := Nat.mod_eq_of_lt hfit
        have hdiv : cn % 128 * 2 ^ (7 * i) / 2 ^ (7 * i) = cn % 128 := Nat.mul_div_cancel _ hP
        have hsum : n + 2 ^ (7 * i) * (cn % 128) < 18446744073709551616 := by
          have h64 : (18446744073709551616 : Nat) = 2 ^ (64 - 7 * i) * 2 ^ (7 * i) := by
            rw [← Nat.pow_add, Nat.sub_add_cancel (by omega)]
          rw [h64] at hfit ⊢
          have h6 : cn % 128 < 2 ^ (64 - 7 * i) := Nat.lt_of_mul_lt_mul_right hfit
          have h7 : (cn % 128 + 1) * 2 ^ (7 * i) ≤ 2 ^ (64 - 7 * i) * 2 ^ (7 * i) := Nat.mul_le_mul_right _ h6
          rw [Nat.add_mul, Nat.one_mul] at h7
          rw [Nat.mul_comm (2 ^ (7 * i)) (cn % 128)]
          omega
        have hor : Ar.real.wrap .u64 (Ar.real.bor 64 (n : Int) ((cn % 128 * 2 ^ (7 * i) : Nat) : Int)) = ((n + 2 ^ (7 * i) * (cn % 128) : Nat) : Int) := by
          rw [bor_nat (n := 64) (by simpa using h5) (by simpa using hfit), Nat.or_comm, Nat.mul_comm (cn % 128), ← Nat.two_pow_add_eq_or_of_lt h4, Nat.add_comm, rw_wrap, wu64 (by omega) (by omega)]
        simp only [hmod, hdiv, hor, rw_se] at tree
        have pre : ∀ (R : Type) (a b' : Option R) , (bif ((((cn % 128 : Nat) : Int)) != ((cn % 128 : Nat) : Int)) then a else b') = b' := fun R a b' => bf (by simp)
        by_cases hlt : cn < 128
        · rw [tkRest_last n i _ _ ⟨hc.1, by omega⟩] at hr
          have cl : (cn : Int).toNat = cn % 128 := by omega
          rw [cl] at hr
          by_cases hlen : (vb (n + 2 ^ (7 * i) * (cn % 128))).length = i + 1
          · rw [if_pos ⟨hsum, hlen⟩] at hr
            cases hr
            refine LoopTo.left (by simp) fun k => ?_
            rw [tree, bt (by rw [decide_eq_true_eq]; omega), bt (by rw [decide_eq_true_eq]; omega), bt (by simp; omega), bt (by rw [decide_eq_true_eq]; omega), bt (by rw [decide_eq_true_eq]; omega), pre, bt (by rw [decide_eq_true_eq]; omega), bt (by rw [decide_eq_true_eq]; omega), bt (isU64_iff.2 ⟨by omega, by omega⟩), Int.toNat_natCast, hlen, bf (by simp), bt (by rw [decide_eq_true_eq]; omega), bt (by rw [Bool.and_eq_true, decide_eq_true_eq]; exact ⟨by simp; omega, nlB_false _⟩)]
            refine ⟨_, rfl, ?_⟩
            refine Forget.cons (.inl rfl) (Forget.cons (.inr rfl) (Forget.cons (.inr ?_) (Forget.cons (.inr rfl) (Forget.cons (.inl rfl) (Forget.cons (.inl rfl) (Forget.cons (.inl rfl) (Forget.cons (.inl rfl) (Forget.same _))))))))
            rw [Int.toNat_natCast]; rfl
          · rw [if_neg (fun h => hlen h.2)] at hr
            cases hr
            refine LoopTo.left (by simp) fun k => ?_
            rw [tree, bt (by rw [decide_eq_true_eq]; omega), bt (by rw [decide_eq_true_eq]; omega), bt (by simp; omega), bt (by rw [decide_eq_true_eq]; omega), bt (by rw [decide_eq_true_eq]; omega), pre, bt (by rw [decide_eq_true_eq]; omega), bt (by rw [decide_eq_true_eq]; omega), bt (isU64_iff.2 ⟨by omega, by omega⟩), Int.toNat_natCast, bt (by simp; omega)]
            exact ⟨_, rfl, fgt _⟩
        · rw [tkRest_next n i _ _ ⟨by omega, hc.2⟩, cmod] at hr
          have h8 : n + 2 ^ (7 * i) * (cn % 128) < 2 ^ (7 * (i + 1)) := by
            rw [Nat.mul_add 7 i 1, Nat.pow_add]
            have : 2 ^ (7 * i) * (cn % 128 + 1) ≤ 2 ^ (7 * i) * 2 ^ (7 * 1) := Nat.mul_le_mul_left _ (by simp; omega)
            rw [Nat.mul_add, Nat.mul_one] at this
            omega
          refine LoopTo.next (fun k => ?_) (ih (i + 1) (n + 2 ^ (7 * i) * (cn % 128)) (by omega) (by omega) (by omega) h8 hsum r hr)
          rw [tree, bt (by rw [decide_eq_true_eq]; omega), bt (by rw [decide_eq_true_eq]; omega), bt (by simp; omega), bt (by rw [decide_eq_true_eq]; omega), bt (by rw [decide_eq_true_eq]; omega), pre, bt (by rw [decide_eq_true_eq]; omega), bf (by rw [decide_eq_false_iff_not]; omega)]
      · rw [tkRest_high n i _ _ hc (by rw [cmod]; omega)] at hr
        cases hr
        refine LoopTo.left (by simp) fun k => ?_
        have hne : ¬ cn % 128 * 2 ^ (7 * i) % 18446744073709551616 / 2 ^ (7 * i) = cn % 128 := by
          intro e
          have h6 : cn % 128 * 2 ^ (7 * i) ≤ cn % 128 * 2 ^ (7 * i) % 18446744073709551616 := by
            conv => lhs; rw [← e]
            exact Nat.div_mul_le_self _ _
          have := Nat.mod_lt (cn % 128 * 2 ^ (7 * i)) (show 0 < 18446744073709551616 by decide)
          omega
        rw [tree, bt (by rw [decide_eq_true_eq]; omega), bt (by rw [decide_eq_true_eq]; omega), bt (by simp; omega), bt (by rw [decide_eq_true_eq]; omega), bt (by rw [decide_eq_true_eq]; omega), bt (by rw [bne_iff_ne]; exact fun e => hne (by omega))]
        exact ⟨_, rfl, fgt _⟩

theorem tkRest_zero (b : List Int) (hy : ∀ x ∈ b, 0 ≤ x ∧ x < 256) : tkRest 0 0 b = (takeV b).map fun p => ((p.1 : Int), p.2) := by
  unfold tkRest
  cases hd : dec b with
  | none =>
    have : takeV b = none := by unfold takeV; rw [hd]
    rw [this]; rfl
  | some p =>
    obtain ⟨v, r⟩ := p
    obtain ⟨p, hp, _⟩ := dec_len _ _ _ hd
    have hl : b.length = p.length + r.length := by rw [hp]; simp
    rw [takeV_dec hy hd]
    have e : (0 : Int).toNat + 2 ^ (7 * (0 : Int).toNat) * v = v := by simp
    have e0 : (0 : Int).toNat = 0 := rfl
    simp only [e]
    by_cases h1 : v < 18446744073709551616 ∧ (vb v).length + r.length = b.length
    · rw [if_pos h1, if_pos ⟨h1.1, by omega⟩]; rfl
    · rw [if_neg h1, if_neg]
      · rfl
      · rintro ⟨h2, h3⟩
        exact h1 ⟨h2, by omega⟩

theorem take_ok : OrcOk Try.prog 36 (.pure (takeF Ar.real)) := by
  refine pureOk (Cx.ok o_vi4 (L8 Ar.real)) mixed 36 Try.f36 (by kernel_rfl) (by kernel_rfl) (by kernel_rfl) 100 1 (by kernel_rfl) (fun i h => ?_) fun args r h => ?_
  · obtain rfl : i = 0 := by omega
    refine Tells.mk (key := 3) (N := 52) (ks := [0, 2, 3, 4, 5, 9, 10, 11]) (F := L8F Ar.real) (by kernel_rfl) rfl fun xs H r h => ?_
    unfold L8F at h
    split at h
    · rename_i b nl z y n b2 nl2 l i
      by_cases hg : gTake b b2 nl nl2 n l i = true
      · have h' := h
        simp only [rw_se] at h'
        rw [show ∀ (x y : Tr (Ex × List X × Hp)), (Tr.test (gTake b b2 nl nl2 n l i) x y).run some = x.run some from fun x y => by rw [hg]; rfl] at h'
        clear h
        unfold gTake at hg
        simp only [Bool.and_eq_true, decide_eq_true_eq, bytesB_iff] at hg
        obtain ⟨h1, h2, h3, ⟨h4, h5⟩, h6, h7, h8, h9, h10, h11, h12⟩ := hg
        subst h4; subst h5; subst h6
        obtain ⟨i, rfl⟩ := Int.eq_ofNat_of_zero_le h7
        obtain ⟨n, rfl⟩ := Int.eq_ofNat_of_zero_le h10
        simp only [Int.toNat_natCast] at h' h11
        refine loop8 _ _ h2 h1 h3 z y _ i n rfl (by omega) (by omega) ?_ (by omega) r h'
        have e : ((2 : Int) ^ (7 * i)) = ((2 ^ (7 * i) : Nat) : Int) := by simp
        rw [e] at h11
        omega
      · rw [show gTake b b2 nl nl2 n l i = false by simpa using hg] at h
        cases h
    · cases h
  · unfold takeF at h
    split at h
    · rename_i b nl
      obtain ⟨hg, rfl⟩ := Tr.one h
      refine ⟨rfl, rfl, [], ?_⟩
      rw [tTake]
      simp only [rw_se, Bool.and_eq_true, decide_eq_true_eq] at hg ⊢
      obtain ⟨hb, hy, hn⟩ := hg
      have hz : Int.toNat 0 = 0 := rfl
      rw [hz, List.drop_zero, bt, tkRest_zero b (bytesB_iff.1 hy)]
      · cases hv : takeV b with
        | none => simp [tkN, tkR, tkB, tkE, hv]
        | some p =>
          obtain ⟨v, r⟩ := p
          have hne : nl = false := by
            cases nl
            · rfl
            · have := nlB_nil hn rfl; subst this; simp [takeV, dec] at hv
          subst hne
          simp [tkN, tkR, tkB, tkE, hv]
      · unfold gTake
        simp only [Bool.and_eq_true, decide_eq_true_eq]
        exact ⟨hy, hb, hn, by simp, by simp, by simp, by simp, by simp⟩
    · cases h

theorem o_vi : OOk (Ovi Ar.real) := (o_vi4.add take_ok).add refTake_ok


end Go.Proofs.Ytgickaihlebgmaa.V

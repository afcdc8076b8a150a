/-
  Chapter 01, utf: statements hold of whatever data: order, sizes, cuts.
  It speaks of the pinned program alone; no condition.
-/
import Derived.Test.YtnjlfeigcappjaaDoorUt19
namespace Go.Proofs.YtnjlfeigcappjaaDoor.V
open Go
set_option linter.unusedVariables false
set_option linter.unusedSimpArgs false

/-! Order. -/
theorem slt_str : ∀ {xs ys : List Int}, (∀ x ∈ xs, 0 ≤ x ∧ x < 256) → (∀ x ∈ ys, 0 ≤ x ∧ x < 256) → Ar.real.slt (strOf xs) (strOf ys) = ltL xs ys := by
  intro xs ys hx hy
  rw [rw_slt, strOf_list, strOf_list]
  induction xs generalizing ys with
  | nil => cases ys <;> rfl
  | cons x xs ih =>
    cases ys with
    | nil => rfl
    | cons y ys =>
      have h1 := hx x (by simp)
      have h2 := hy y (by simp)
      have ih := ih (fun a ha => hx a (by simp [ha])) (ys := ys) (fun a ha => hy a (by simp [ha]))
      simp only [List.map_cons, Op.bytesLess, ltL, ih]
      have e1 : (UInt8.ofNat x.toNat < UInt8.ofNat y.toNat) ↔ x < y := by
        rw [UInt8.lt_iff_toNat_lt, UInt8.toNat_ofNat', UInt8.toNat_ofNat', Nat.mod_eq_of_lt (by omega), Nat.mod_eq_of_lt (by omega)]
        omega
      have e2 : (UInt8.ofNat x.toNat == UInt8.ofNat y.toNat) = decide (x = y) := by
        by_cases h : x = y
        · subst h; simp
        · rw [decide_eq_false h, beq_eq_false_iff_ne]
          intro e
          have e := congrArg UInt8.toNat e
          rw [UInt8.toNat_ofNat', UInt8.toNat_ofNat', Nat.mod_eq_of_lt (by omega), Nat.mod_eq_of_lt (by omega)] at e
          omega
      rw [e2]
      congr 1
      exact decide_eq_decide.2 e1

theorem cpl_le : ∀ (a b : List Int), cpl a b ≤ a.length ∧ cpl a b ≤ b.length
  | [], b => by simp [cpl]
  | _ :: _, [] => by simp [cpl]
  | a :: r, b :: s => by
    unfold cpl
    have := cpl_le r s
    split
    · simp only [List.length_cons]; omega
    · simp
theorem ltL_cpl : ∀ (a b : List Int), ltL a b = (decide (cpl a b < b.length) && (decide (cpl a b = a.length) || decide (a.getD (cpl a b) 0 < b.getD (cpl a b) 0)))
  | [], [] => rfl
  | [], b :: s => by simp [ltL, cpl]
  | a :: r, [] => by simp [ltL, cpl]
  | a :: r, b :: s => by
    have ih := ltL_cpl r s
    unfold cpl ltL
    by_cases h : a = b
    · subst h
      simp only [if_true, List.length_cons, List.getD_cons_succ]
      rw [ih]
      have e1 : decide (cpl r s + 1 < s.length + 1) = decide (cpl r s < s.length) := decide_eq_decide.2 (by omega)
      have e2 : decide (cpl r s + 1 = r.length + 1) = decide (cpl r s = r.length) := decide_eq_decide.2 (by omega)
      rw [e1, e2]
      simp
    · rw [if_neg h]
      simp [h]

theorem loopOrd (a : List Int) (nl : Option Bool) (b : List Int) (nl2 : Option Bool) (up : Bool) (x : List Int) (nx : Option Bool) (y : List Int) (ny : Option Bool) (hl : a.length ≤ 1000000) : ∀ (q i : Nat), a.length - i = q → i ≤ a.length → i ≤ b.length →
    LoopTo (Cx Ar.real (Out Ar.real) (Lord Ar.real)) 100 (loopAt Tryd.f5 0) 93 [0, 1, 5, 6, 8, 10] [i64s a nl false, i64s b nl2 false, boolx up, u8s x nx false, u8s y ny false, i64x i] []
      (.exit 0, [i64s a nl false, i64s b nl2 false, boolx up, u8s x nx false, u8s y ny false, i64x ((i : Int) + (cpl (a.drop i) (b.drop i) : Nat))], []) := by
  intro q
  induction q with
  | zero =>
    intro i h1 h2 h3
    have e1 : a.drop i = [] := by rw [List.drop_eq_nil_iff]; omega
    rw [e1]
    refine LoopTo.done (by simp) fun k => ?_
    rw [lOrd, bf (by rw [decide_eq_false (by omega)]; rfl)]
    simp [cpl]
  | succ q ih =>
    intro i h1 h2 h3
    have hi : i < a.length := by omega
    have a1 : (decide ((i : Int) < (a.length : Int)) == true) = true := by rw [decide_eq_true (by omega)]; rfl
    have a2 : decide ((0 : Int) ≤ (i : Int) ∧ (i : Int) < (a.length : Int)) = true := by rw [decide_eq_true_eq]; omega
    by_cases hb : i < b.length
    · have a3 : (decide ((i : Int) < (b.length : Int)) == true) = true := by rw [decide_eq_true (by omega)]; rfl
      have a4 : decide ((0 : Int) ≤ (i : Int) ∧ (i : Int) < (b.length : Int)) = true := by rw [decide_eq_true_eq]; omega
      have a5 : decide ((i : Int) < (b.length : Int)) = true := by rw [decide_eq_true_eq]; omega
      rw [drop_cons hi, drop_cons hb]
      unfold cpl
      by_cases he : a.getD i 0 = b.getD i 0
      · rw [if_pos he]
        have w2 : Ar.real.wrap .i64 ((i : Int) + 1) = ((i + 1 : Nat) : Int) := by rw [rw_wrap, wi64 (by omega) (by omega)]; omega
        have e : (i : Int) + ((cpl (a.drop (i + 1)) (b.drop (i + 1)) + 1 : Nat) : Int) = ((i + 1 : Nat) : Int) + (cpl (a.drop (i + 1)) (b.drop (i + 1)) : Nat) := by omega
        rw [e]
        refine LoopTo.next (fun k => ?_) (ih (i + 1) (by omega) (by omega) (by omega))
        rw [lOrd, bt a1, bt a3, bt a2, bt a4]
        simp only [Int.toNat_natCast, w2]
        rw [bt (by rw [he]; simp)]
      · rw [if_neg he]
        refine LoopTo.done (by simp) fun k => ?_
        rw [lOrd, bt a1, bt a3, bt a2, bt a4]
        simp only [Int.toNat_natCast]
        rw [bf (by rw [beq_eq_false_iff_ne]; exact he)]
        simp
    · have e1 : b.drop i = [] := by rw [List.drop_eq_nil_iff]; omega
      have e2 : cpl (a.drop i) [] = 0 := by cases a.drop i <;> rfl
      rw [e1, e2]
      refine LoopTo.done (by simp) fun k => ?_
      rw [lOrd, bt a1, bf (by rw [decide_eq_false (by omega)]; rfl)]
      simp

theorem order_core (a : List Int) (nl : Bool) (b : List Int) (nl2 : Bool) :
    bodyX (Cx Ar.real (Out Ar.real) (Lord Ar.real)) 100 Tryd.f5 [i64s a (some nl) false, i64s b (some nl2) false] [] = some (boolx true, []) := by
  rw [tOrder]
  by_cases h1 : (a.length : Int) > 1000
  · rw [bf (by rw [decide_eq_true h1]; rfl)]
  · rw [bt (by rw [decide_eq_false h1]; rfl)]
    by_cases h2 : (b.length : Int) > 1000
    · rw [bt (decide_eq_true h2)]
    · rw [bf (decide_eq_false h2)]
      have c1 : decide (a.length ≤ 17592186044416) = true := by rw [decide_eq_true_eq]; omega
      have c2 : decide (b.length ≤ 17592186044416) = true := by rw [decide_eq_true_eq]; omega
      have c3 : decide (a.length ≤ 1000000 ∧ (0 : Int) ≤ 0 ∧ (0 : Int) ≤ (a.length : Int) ∧ (0 : Int) ≤ (b.length : Int)) = true := by rw [decide_eq_true_eq]; omega
      simp only [rw_se, c1, c2, c3, show Int.toNat 0 = 0 from rfl, List.drop_zero, Int.zero_add, Int.toNat_natCast]
      cases ha : a.all goodN with
      | false => rw [putE_bad ha]; rfl
      | true =>
        cases hb : b.all goodN with
        | false => rw [putE_good ha, putE_bad hb]; rfl
        | true =>
          rw [putE_good ha, putE_good hb, putL_good ha, putL_good hb, slt_str (ups_byts ha) (ups_byts hb), ups_lt ha hb, ltL_cpl]
          obtain ⟨l1, l2⟩ := cpl_le a b
          by_cases g1 : cpl a b < b.length
          · have d1 : decide (((cpl a b : Nat) : Int) < (b.length : Int)) = true := by rw [decide_eq_true_eq]; omega
            rw [d1, decide_eq_true g1]
            by_cases g2 : cpl a b = a.length
            · have d2 : (((cpl a b : Nat) : Int) == (a.length : Int)) = true := by rw [beq_iff_eq]; omega
              rw [d2, decide_eq_true g2]
              rfl
            · have d2 : (((cpl a b : Nat) : Int) == (a.length : Int)) = false := by rw [beq_eq_false_iff_ne]; omega
              have d3 : decide ((0 : Int) ≤ ((cpl a b : Nat) : Int) ∧ ((cpl a b : Nat) : Int) < (a.length : Int)) = true := by rw [decide_eq_true_eq]; omega
              have d4 : decide ((0 : Int) ≤ ((cpl a b : Nat) : Int) ∧ ((cpl a b : Nat) : Int) < (b.length : Int)) = true := by rw [decide_eq_true_eq]; omega
              rw [d2, d3, d4, decide_eq_false g2, Bool.true_and, Bool.false_or]
              simp
          · have d1 : decide (((cpl a b : Nat) : Int) < (b.length : Int)) = false := by rw [decide_eq_false_iff_not]; omega
            rw [d1, decide_eq_false g1]
            rfl

/-! Sizes. -/
theorem szN_ub {n : Int} (h : goodN n = true) : szN n = (ub n).length := by
  rw [ub_len]
  unfold szN
  repeat' split
  all_goals omega
theorem szN_range (n : Int) : 1 ≤ szN n ∧ szN n ≤ 4 := by
  unfold szN
  repeat' split
  all_goals omega
theorem szs_cons (c : Int) (l : List Int) : szs (c :: l) = szN c + szs l := by simp [szs]
theorem szs_ups : ∀ {l : List Int}, l.all goodN = true → szs l = (ups l).length
  | [], _ => rfl
  | c :: l, h => by
    rw [List.all_cons, Bool.and_eq_true] at h
    rw [szs_cons, szs_ups h.2, szN_ub h.1, ups_cons, List.length_append]
    omega

theorem loopSiz (l : List Int) (nl : Option Bool) (up : Bool) (b : List Int) (nb : Option Bool) (e : Int) (hl : l.length ≤ 1000000) : ∀ (q i : Nat) (n : Int) (good : Bool), l.length - i = q → i ≤ l.length → 0 ≤ n → n ≤ 4 * (i : Int) →
    LoopTo (Cx Ar.real (Out Ar.real) (Lsiz Ar.real)) 100 (loopAt Tryd.f7 0) 81 [0, 3, 4, 5, 6, 7, 8] [i64s l nl false, boolx up, u8s b nb false, i64x e, i64x n, boolx good, i64x i] []
      (.exit 0, [.dead, boolx up, u8s b nb false, i64x e, i64x (n + szs (l.drop i)), boolx (good && (l.drop i).all goodN), .dead], []) := by
  intro q
  induction q with
  | zero =>
    intro i n good h1 h2 h3 h4
    have e1 : l.drop i = [] := by rw [List.drop_eq_nil_iff]; omega
    have e2 : szs ([] : List Int) = 0 := rfl
    rw [e1, e2, Int.add_zero, List.all_nil, Bool.and_true]
    refine LoopTo.left (by simp) fun k => ?_
    rw [lSiz, bf (by rw [decide_eq_false_iff_not]; omega)]
    refine ⟨_, rfl, ?_⟩
    repeat' first | exact Forget.same _ | refine Forget.cons (.inl rfl) ?_ | refine Forget.cons (.inr rfl) ?_
  | succ q ih =>
    intro i n good h1 h2 h3 h4
    have hi : i < l.length := by omega
    have a1 : decide ((i : Int) < (l.length : Int)) = true := by rw [decide_eq_true_eq]; omega
    have a2 : decide ((0 : Int) ≤ (i : Int) ∧ (i : Int) < (l.length : Int)) = true := by rw [decide_eq_true_eq]; omega
    rw [drop_cons hi, szs_cons, List.all_cons]
    have hr := szN_range (l.getD i 0)
    have e1 : n + (szN (l.getD i 0) + szs (l.drop (i + 1))) = (n + szN (l.getD i 0)) + szs (l.drop (i + 1)) := by omega
    have e2 : (good && (goodN (l.getD i 0) && (l.drop (i + 1)).all goodN)) = ((good && goodN (l.getD i 0)) && (l.drop (i + 1)).all goodN) := by rw [Bool.and_assoc]
    rw [e1, e2]
    have w2 : Ar.real.wrap .i64 ((i : Int) + 1) = ((i + 1 : Nat) : Int) := by rw [rw_wrap, wi64 (by omega) (by omega)]; omega
    have v1 : Ar.real.wrap .i64 (n + 1) = n + 1 := by rw [rw_wrap, wi64 (by omega) (by omega)]
    have v2 : Ar.real.wrap .i64 (n + 1 + 1) = n + 1 + 1 := by rw [rw_wrap, wi64 (by omega) (by omega)]
    have v3 : Ar.real.wrap .i64 (n + 1 + 1 + 1) = n + 1 + 1 + 1 := by rw [rw_wrap, wi64 (by omega) (by omega)]
    have v4 : Ar.real.wrap .i64 (n + 1 + 1 + 1 + 1) = n + 1 + 1 + 1 + 1 := by rw [rw_wrap, wi64 (by omega) (by omega)]
    refine LoopTo.next (fun k => ?_) (ih (i + 1) (n + szN (l.getD i 0)) (good && goodN (l.getD i 0)) (by omega) (by omega) (by omega) (by omega))
    rw [lSiz]
    simp only [Int.toNat_natCast, w2, v1, v2, v3, v4, rw_se, a1, a2, cond_true]
    have fin : ∀ m : Int, m = n + szN (l.getD i 0) → k Ex.normal [i64s l nl false, boolx up, u8s b nb false, i64x e, i64x m, boolx (good && goodN (l.getD i 0)), i64x ((i + 1 : Nat) : Int)] [] = k Ex.normal [i64s l nl false, boolx up, u8s b nb false, i64x e, i64x (n + szN (l.getD i 0)), boolx (good && goodN (l.getD i 0)), i64x ((i + 1 : Nat) : Int)] [] := by
      rintro m rfl; rfl
    have s0 : szN (l.getD i 0) = (if l.getD i 0 ≥ 65536 then 1 else 0) + ((if l.getD i 0 ≥ 2048 then 1 else 0) + ((if l.getD i 0 ≥ 128 then 1 else 0) + 1)) := rfl
    by_cases g1 : l.getD i 0 ≥ 128
    · by_cases g2 : l.getD i 0 ≥ 2048
      · by_cases g3 : l.getD i 0 ≥ 65536
        · rw [if_pos g1, if_pos g2, if_pos g3] at s0
          cases good <;> simp only [decide_eq_true g1, decide_eq_true g2, decide_eq_true g3] <;> exact fin _ (by omega)
        · rw [if_pos g1, if_pos g2, if_neg g3] at s0
          cases good <;> simp only [decide_eq_true g1, decide_eq_true g2, decide_eq_false g3] <;> exact fin _ (by omega)
      · have g3 : ¬ l.getD i 0 ≥ 65536 := by omega
        rw [if_pos g1, if_neg g2, if_neg g3] at s0
        cases good <;> simp only [decide_eq_true g1, decide_eq_false g2, decide_eq_false g3] <;> exact fin _ (by omega)
    · have g2 : ¬ l.getD i 0 ≥ 2048 := by omega
      have g3 : ¬ l.getD i 0 ≥ 65536 := by omega
      rw [if_neg g1, if_neg g2, if_neg g3] at s0
      cases good <;> simp only [decide_eq_false g1, decide_eq_false g2, decide_eq_false g3] <;> exact fin _ (by omega)

theorem sizes_core (l : List Int) (nl : Bool) :
    bodyX (Cx Ar.real (Out Ar.real) (Lsiz Ar.real)) 100 Tryd.f7 [i64s l (some nl) false] [] = some (boolx true, []) := by
  rw [tSizes]
  by_cases h1 : (l.length : Int) > 1000
  · rw [bt (decide_eq_true h1)]
  · rw [bf (decide_eq_false h1)]
    have c1 : decide (l.length ≤ 17592186044416) = true := by rw [decide_eq_true_eq]; omega
    have c3 : decide (l.length ≤ 1000000 ∧ (0 : Int) ≤ 0 ∧ (0 : Int) ≤ (l.length : Int) ∧ (0 : Int) ≤ 0 ∧ (0 : Int) ≤ 4 * 0) = true := by rw [decide_eq_true_eq]; omega
    simp only [rw_se, c1, c3, show Int.toNat 0 = 0 from rfl, List.drop_zero, Int.zero_add, Bool.true_and]
    cases ha : l.all goodN with
    | false => rw [putE_bad ha, putL_bad ha]; rfl
    | true =>
      rw [putE_good ha, putL_good ha, szs_ups ha]
      simp only [beq_self_eq_true]
      rfl

/-! Cuts. -/
theorem cutN_spec (k : Int) : ∀ (l : List Int) (n : Int), n ≤ k → l.all goodN = true → k ≤ n + (ups l).length →
    (cutN k l n).2 ≤ l.length ∧ (cutN k l n).1 = n + (ups (l.take (cutN k l n).2)).length ∧ k ≤ (cutN k l n).1 ∧ ((cutN k l n).2 ≠ 0 → n + (ups (l.take ((cutN k l n).2 - 1))).length < k)
  | [], n, h, _, h2 => by
    have h2 : k ≤ n := by simpa [ups_nil] using h2
    simp only [cutN]
    refine ⟨by simp, by simp [ups_nil], h2, by simp⟩
  | c :: l, n, h, hg, h2 => by
    rw [List.all_cons, Bool.and_eq_true] at hg
    rw [ups_cons, List.length_append] at h2
    unfold cutN
    by_cases hn : n < k
    · rw [if_pos hn]
      by_cases hk : n + (ub c).length ≤ k
      · obtain ⟨i1, i2, i3, i4⟩ := cutN_spec k l (n + (ub c).length) hk hg.2 (by omega)
        refine ⟨by simp only [List.length_cons]; omega, ?_, i3, ?_⟩
        · simp only [List.take_succ_cons, ups_cons, List.length_append]
          omega
        · intro _
          simp only [Nat.add_sub_cancel]
          by_cases hz : (cutN k l (n + (ub c).length)).2 = 0
          · rw [hz]; simpa [ups_nil] using hn
          · have := i4 hz
            obtain ⟨j, hj⟩ := Nat.exists_eq_succ_of_ne_zero hz
            rw [hj] at this ⊢
            simp only [Nat.succ_eq_add_one, Nat.add_sub_cancel] at this
            simp only [Nat.succ_eq_add_one, List.take_succ_cons, ups_cons, List.length_append]
            omega
      · have e : cutN k l (n + (ub c).length) = (n + (ub c).length, 0) := by
          cases l with
          | nil => rfl
          | cons d r => unfold cutN; rw [if_neg (by omega)]
        rw [e]
        refine ⟨by simp, ?_, by simp only; omega, fun _ => by simpa [ups_nil] using hn⟩
        simp [ups_cons, ups_nil]
    · rw [if_neg hn]
      refine ⟨by simp, by simp [ups_nil], by simp only; omega, by simp⟩

theorem loopCut (l : List Int) (nl : Option Bool) (up : Bool) (c : Int) (x : List Int) (nx : Option Bool) (f : Int) (hl : l.length ≤ 1000000) (hg : l.all goodN = true) : ∀ (q i : Nat) (n : Int), l.length - i = q → i ≤ l.length → 0 ≤ n → n ≤ 4 * (i : Int) →
    LoopTo (Cx Ar.real (Out Ar.real) (Lcut Ar.real)) 100 (loopAt Tryd.f9 0) 86 [0, 5, 8, 9, 10, 11, 12] [i64s l nl false, boolx up, i64x c, i64s x nx false, i64x f, i64x n, i64x i] []
      (.exit 0, [i64s l nl false, boolx up, i64x c, i64s x nx false, i64x f, i64x (cutN c (l.drop i) n).1, i64x ((i : Int) + ((cutN c (l.drop i) n).2 : Nat))], []) := by
  intro q
  induction q with
  | zero =>
    intro i n h1 h2 h3 h4
    have e1 : l.drop i = [] := by rw [List.drop_eq_nil_iff]; omega
    rw [e1]
    refine LoopTo.done (by simp) fun k => ?_
    rw [lCut, bf (by rw [decide_eq_false (by omega)]; rfl)]
    simp [cutN]
  | succ q ih =>
    intro i n h1 h2 h3 h4
    have hi : i < l.length := by omega
    have a1 : (decide ((i : Int) < (l.length : Int)) == true) = true := by rw [decide_eq_true (by omega)]; rfl
    have hgi : goodN (l.getD i 0) = true := List.all_eq_true.1 hg _ (getD_mem hi)
    rw [drop_cons hi]
    unfold cutN
    by_cases hn : n < c
    · rw [if_pos hn]
      have w2 : Ar.real.wrap .i64 ((i : Int) + 1) = ((i + 1 : Nat) : Int) := by rw [rw_wrap, wi64 (by omega) (by omega)]; omega
      have hb := ub_le4 (l.getD i 0)
      have e1 : (l.take (i + 1)).drop i = [l.getD i 0] := by
        rw [take_succ hi, List.drop_append_of_le_length (by rw [List.length_take]; omega)]
        have : (l.take i).drop i = [] := by rw [List.drop_eq_nil_iff, List.length_take]; omega
        rw [this]; rfl
      have e2 : putL [l.getD i 0] = ub (l.getD i 0) := by rw [putL_good (by rw [all_one]; exact hgi), ups_one]
      have w3 : Ar.real.wrap .i64 (n + ((ub (l.getD i 0)).length : Int)) = n + ((ub (l.getD i 0)).length : Int) := by rw [rw_wrap, wi64 (by omega) (by omega)]
      have e3 : (i : Int) + (((cutN c (l.drop (i + 1)) (n + ((ub (l.getD i 0)).length : Int))).2 + 1 : Nat) : Int) = ((i + 1 : Nat) : Int) + ((cutN c (l.drop (i + 1)) (n + ((ub (l.getD i 0)).length : Int))).2 : Nat) := by omega
      rw [e3]
      refine LoopTo.next (fun k => ?_) (ih (i + 1) (n + ((ub (l.getD i 0)).length : Int)) (by omega) (by omega) (by omega) (by omega))
      rw [lCut, bt a1, bt (decide_eq_true hn)]
      simp only [Int.toNat_natCast, w2, rw_se, e1, e2, w3]
      rw [bt (by rw [decide_eq_true_eq]; omega), bt (by rw [decide_eq_true_eq]; omega), bt (by rw [decide_eq_true_eq]; simp)]
    · rw [if_neg hn]
      refine LoopTo.done (by simp) fun k => ?_
      rw [lCut, bt a1, bf (decide_eq_false hn)]
      simp

theorem ups_take_le (l : List Int) (j : Nat) : (ups (l.take j)).length ≤ (ups l).length := by
  have : ups l = ups (l.take j) ++ ups (l.drop j) := by rw [← ups_app, List.take_append_drop]
  rw [this, List.length_append]
  omega

/-- Bytes of signs, cut inside a sign, are not valid. -/
theorem cut_bad {l : List Int} (hg : l.all goodN = true) : ∀ (j : Nat), j < l.length → ∀ (k : Nat), (ups (l.take j)).length < k → k < (ups (l.take (j + 1))).length → validU ((ups l).take k) = false := by
  intro j
  induction j generalizing l with
  | zero =>
    intro hj k h1 h2
    cases l with
    | nil => simp at hj
    | cons c r =>
      rw [List.all_cons, Bool.and_eq_true] at hg
      simp only [List.take_zero, ups_nil, List.length_nil] at h1
      simp only [Nat.zero_add, List.take_succ_cons, List.take_zero, ups_one] at h2
      have e : (ups (c :: r)).take k = (ub c).take k := by
        rw [ups_cons, List.take_append_of_le_length (by omega)]
      have hb := ub_byts hg.1
      rw [e, valid_step (fun x hx => hb x (List.mem_of_mem_take hx)) (by
        intro e
        have := congrArg List.length e
        rw [List.length_take, List.length_nil] at this
        omega), takeU_cut hg.1 h2]
  | succ j ih =>
    intro hj k h1 h2
    cases l with
    | nil => simp at hj
    | cons c r =>
      rw [List.all_cons, Bool.and_eq_true] at hg
      simp only [List.length_cons] at hj
      simp only [List.take_succ_cons, ups_cons, List.length_append] at h1 h2
      have hp := ub_pos c
      have e : (ups (c :: r)).take k = ub c ++ (ups r).take (k - (ub c).length) := by
        rw [ups_cons, List.take_append]
        rw [List.take_of_length_le (by omega)]
      have hall : (c :: r).all goodN = true := by rw [List.all_cons, hg.1, hg.2]; rfl
      rw [e, valid_step (fun x hx => ups_byts hall x (by
        rw [ups_cons]
        rcases List.mem_append.1 hx with hx | hx
        · exact List.mem_append_left _ hx
        · exact List.mem_append_right _ (List.mem_of_mem_take hx))) (by
        intro e
        have := congrArg List.length e
        rw [List.length_append, List.length_nil] at this
        omega), takeU_ub hg.1]
      exact ih hg.2 (by omega) (k - (ub c).length) (by omega) (by omega)

theorem cuts_core (l : List Int) (nl : Bool) (cut : Int) (hc : 0 ≤ cut ∧ cut < 65536) (hl : l.length ≤ 17592186044416) :
    bodyX (Cx Ar.real (Out Ar.real) (Lcut Ar.real)) 100 Tryd.f9 [i64s l (some nl) false, u16x cut] [] = some (boolx true, []) := by
  rw [tCuts]
  have c1 : decide (l.length ≤ 17592186044416) = true := decide_eq_true hl
  simp only [rw_se, c1]
  cases hg : l.all goodN with
  | false => simp only [putE_bad hg]; rfl
  | true =>
    simp only [putE_good hg, putL_good hg]
    by_cases h1 : (l.length : Int) > 1000
    · rw [decide_eq_true h1]; rfl
    · rw [decide_eq_false h1]
      obtain ⟨m, rfl⟩ := Int.eq_ofNat_of_zero_le hc.1
      have la := (ups_len l).2
      have w1 : Ar.real.wrap .i64 (m : Int) = (m : Int) := by rw [rw_wrap, wi64 (by omega) (by omega)]
      have w2 : Ar.real.wrap .i64 (((ups l).length : Int) + 1) = (((ups l).length + 1 : Nat) : Int) := by rw [rw_wrap, wi64 (by omega) (by omega)]; omega
      have t : Int.tmod (m : Int) (((ups l).length + 1 : Nat) : Int) = ((m % ((ups l).length + 1) : Nat) : Int) := ntmod _ _
      have hlt : m % ((ups l).length + 1) < (ups l).length + 1 := Nat.mod_lt _ (by omega)
      simp only [w1, w2, t, Int.toNat_natCast]
      obtain ⟨k, hk⟩ : ∃ k, k = m % ((ups l).length + 1) := ⟨_, rfl⟩
      rw [← hk] at hlt ⊢
      have d1 : decide ((((ups l).length + 1 : Nat) : Int) = 0) = false := by rw [decide_eq_false_iff_not]; omega
      have d2 : decide ((0 : Int) ≤ (k : Int) ∧ (k : Int) ≤ ((ups l).length : Int)) = true := by rw [decide_eq_true_eq]; omega
      have hby : ∀ x ∈ (ups l).take k, 0 ≤ x ∧ x < 256 := fun x hx => ups_byts hg x (List.mem_of_mem_take hx)
      have d3 := bytesB_iff.2 hby
      have d4 : decide (((ups l).take k).length ≤ 1000000) = true := by rw [decide_eq_true_eq, List.length_take]; omega
      have d5 : decide (l.length ≤ 1000000 ∧ (0 : Int) ≤ 0 ∧ (0 : Int) ≤ (l.length : Int) ∧ (0 : Int) ≤ 0 ∧ (0 : Int) ≤ 4 * 0) = true := by rw [decide_eq_true_eq]; omega
      simp only [d1, d2, d3, d4, d5, show Int.toNat 0 = 0 from rfl, List.drop_zero, Int.zero_add, Int.toNat_natCast]
      obtain ⟨s1, s2, s3, s4⟩ := cutN_spec (k : Int) l 0 (by omega) hg (by omega)
      obtain ⟨j, hj⟩ : ∃ j, j = (cutN (k : Int) l 0).2 := ⟨_, rfl⟩
      obtain ⟨n, hn⟩ : ∃ n, n = (cutN (k : Int) l 0).1 := ⟨_, rfl⟩
      rw [← hj, ← hn] at s2
      rw [← hj] at s1 s4
      rw [← hn] at s3
      rw [← hj, ← hn]
      rw [Int.zero_add] at s2
      have d6 : decide ((0 : Int) ≤ (j : Int) ∧ (j : Int) ≤ (l.length : Int)) = true := by rw [decide_eq_true_eq]; omega
      have hr := rdL_len hby
      rw [List.length_take] at hr
      have d7 : decide ((rdL ((ups l).take k)).length ≤ 9223372036854775806) = true := by rw [decide_eq_true_eq]; omega
      simp only [d6, d7]
      by_cases he : n = (k : Int)
      · have e1 : (ups l).take k = ups (l.take j) := by
          have h : ups l = ups (l.take j) ++ ups (l.drop j) := by rw [← ups_app, List.take_append_drop]
          have hk2 : (ups (l.take j)).length = k := by omega
          rw [h, List.take_append_of_le_length (by omega), List.take_of_length_le (by omega)]
        have hgj : (l.take j).all goodN = true := List.all_eq_true.2 fun x hx => List.all_eq_true.1 hg x (List.mem_of_mem_take hx)
        have v : validU ((ups l).take k) = true := by rw [e1]; exact valid_ups hgj
        have r : rdL ((ups l).take k) = l.take j := by rw [e1]; exact rdL_ups hgj
        have q1 : (n == (k : Int)) = true := by rw [he]; simp
        have q2 : decide (l.take j = l.take j) = true := by simp
        simp only [rdE_good v, q1, r, q2]
        rfl
      · have hj0 : j ≠ 0 := by
          intro e
          rw [e] at s2
          simp [ups_nil] at s2
          omega
        obtain ⟨j', rfl⟩ := Nat.exists_eq_succ_of_ne_zero hj0
        have s4 := s4 hj0
        simp only [Nat.succ_eq_add_one, Nat.add_sub_cancel, Int.zero_add] at s4 s2
        have v : validU ((ups l).take k) = false := cut_bad hg j' (by omega) k (by omega) (by omega)
        have q1 : (n == (k : Int)) = false := by rw [beq_eq_false_iff_ne]; exact he
        simp only [rdE_bad v, q1]
        rfl

end Go.Proofs.YtnjlfeigcappjaaDoor.V

/-
  Chapter 01, utf: a sign's bytes: the functions that put do what they tell.
  It speaks of the pinned program alone; no condition.
-/
import Derived.Test.YtnjlfeigcappjaaDoorUt4
namespace Go.Proofs.YtnjlfeigcappjaaDoor.V
open Go
set_option linter.unusedVariables false
set_option linter.unusedSimpArgs false

theorem o_no : OOk noO := fun _ _ h => by cases h

theorem good_cond (n : Int) : goodN n = decide (0 ≤ n ∧ n ≤ 1114111 ∧ (n < 55296 ∨ 57343 < n)) := rfl

theorem good_core (n : Int) : bodyX (Cx Ar.real noO noL) 100 Tryd.f18 [.d (.int .i64) n] [] = some (boolx (Ar.real.se (goodN n)), []) := by
  rw [tGood, rw_se, good_cond]
  by_cases h1 : n < 0
  · rw [bt (decide_eq_true h1), decide_eq_false (by omega)]
  · rw [bf (decide_eq_false h1)]
    by_cases h2 : n > 1114111
    · rw [bt (decide_eq_true h2), decide_eq_false (by omega)]
    · rw [bf (decide_eq_false h2)]
      by_cases h3 : n ≥ 55296
      · rw [bt (decide_eq_true h3)]
        by_cases h4 : n > 57343
        · rw [decide_eq_true h4, decide_eq_true (by omega)]
        · rw [decide_eq_false h4, decide_eq_false (by omega)]
      · rw [bf (decide_eq_false h3), decide_eq_true (by omega)]
theorem rgood_core (n : Int) : bodyX (Cx Ar.real noO noL) 100 Tryd.f19 [.d (.int .i64) n] [] = some (boolx (Ar.real.se (goodN n)), []) := by
  rw [tRGood, rw_se, good_cond]
  by_cases h1 : n ≥ 0
  · rw [bt (by rw [decide_eq_true h1]; rfl)]
    by_cases h2 : n ≤ 1114111
    · rw [bt (by rw [decide_eq_true h2]; rfl)]
      by_cases h3 : n < 55296
      · rw [bf (by rw [decide_eq_true h3]; rfl), decide_eq_true (by omega)]
      · rw [bt (by rw [decide_eq_false h3]; rfl)]
        by_cases h4 : n > 57343
        · rw [decide_eq_true h4, decide_eq_true (by omega)]
        · rw [decide_eq_false h4, decide_eq_false (by omega)]
    · rw [bf (by rw [decide_eq_false h2]; rfl), decide_eq_false (by omega)]
  · rw [bf (by rw [decide_eq_false h1]; rfl), decide_eq_false (by omega)]

theorem good_ok : OrcOk Tryd.prog 18 (.pure (goodF Ar.real)) := by
  refine pureOk (Cx.ok o_no noL) mixed 18 Tryd.f18 (by kernel_rfl) (by kernel_rfl) (by kernel_rfl) 100 0 (by kernel_rfl) (fun i h => by omega) fun args r h => ?_
  unfold goodF at h
  split at h
  · rename_i n
    cases h
    exact ⟨rfl, rfl, [], good_core n⟩
  · cases h
theorem rgood_ok : OrcOk Tryd.prog 19 (.pure (goodF Ar.real)) := by
  refine pureOk (Cx.ok o_no noL) mixed 19 Tryd.f19 (by kernel_rfl) (by kernel_rfl) (by kernel_rfl) 100 0 (by kernel_rfl) (fun i h => by omega) fun args r h => ?_
  unfold goodF at h
  split at h
  · rename_i n
    cases h
    exact ⟨rfl, rfl, [], rgood_core n⟩
  · cases h

theorem one_core (n : Int) (h : goodN n = true) : bodyX (Cx Ar.real noO noL) 100 Tryd.f21 [.d (.int .i64) n] [] = some (u8s (ub n) (some false) true, []) := by
  rw [tROne]
  rw [goodN_iff] at h
  have t : ∀ k : Int, 0 ≤ k → Int.tdiv n k = n / k := fun k _ => Int.tdiv_eq_ediv_of_nonneg (by omega)
  have m : ∀ a k : Int, 0 ≤ a → Int.tmod a k = a % k := fun a k ha => Int.tmod_eq_emod_of_nonneg ha
  simp only [rw_wrap, t 64 (by omega), t 4096 (by omega), t 262144 (by omega)]
  have w1 : IntKind.i64.wrap (n / 64) = n / 64 := wi64 (by omega) (by omega)
  have w2 : IntKind.i64.wrap (n / 4096) = n / 4096 := wi64 (by omega) (by omega)
  have w3 : IntKind.i64.wrap (n / 262144) = n / 262144 := wi64 (by omega) (by omega)
  simp only [w1, w2, w3]
  rw [m n 64 (by omega), m (n / 64) 64 (by omega), m (n / 4096) 64 (by omega)]
  unfold ub
  by_cases h1 : n < 128
  · rw [bt (decide_eq_true h1), if_pos h1, wu8 (by omega) (by omega)]
  · rw [bf (decide_eq_false h1), if_neg h1]
    by_cases h2 : n < 2048
    · rw [bt (decide_eq_true h2), if_pos h2]
      rw [wi64 (n := 192 + n / 64) (by omega) (by omega), wi64 (n := 128 + n % 64) (by omega) (by omega), wu8 (n := 192 + n / 64) (by omega) (by omega), wu8 (n := 128 + n % 64) (by omega) (by omega)]
    · rw [bf (decide_eq_false h2), if_neg h2]
      rw [wi64 (n := 128 + n % 64) (by omega) (by omega), wu8 (n := 128 + n % 64) (by omega) (by omega), wi64 (n := 128 + n / 64 % 64) (by omega) (by omega), wu8 (n := 128 + n / 64 % 64) (by omega) (by omega)]
      by_cases h3 : n < 65536
      · rw [bt (decide_eq_true h3), if_pos h3]
        rw [wi64 (n := 224 + n / 4096) (by omega) (by omega), wu8 (n := 224 + n / 4096) (by omega) (by omega)]
      · rw [bf (decide_eq_false h3), if_neg h3]
        rw [wi64 (n := 240 + n / 262144) (by omega) (by omega), wu8 (n := 240 + n / 262144) (by omega) (by omega), wi64 (n := 128 + n / 4096 % 64) (by omega) (by omega), wu8 (n := 128 + n / 4096 % 64) (by omega) (by omega)]

theorem uone_ok : OrcOk Tryd.prog 21 (.pure (uoneF Ar.real)) := by
  refine pureOk (Cx.ok o_no noL) mixed 21 Tryd.f21 (by kernel_rfl) (by kernel_rfl) (by kernel_rfl) 100 0 (by kernel_rfl) (fun i h => by omega) fun args r h => ?_
  unfold uoneF at h
  split at h
  · rename_i n
    obtain ⟨hg, rfl⟩ := Tr.one h
    exact ⟨rfl, rfl, [], one_core n hg⟩
  · cases h

theorem o_ut1 : OOk (Out1 Ar.real) := ((o_no.add good_ok).add rgood_ok).add uone_ok

/-- Bits that do not meet are added. -/
theorem or_add {n k : Nat} {a b : Int} (hk : k < n) (ha : 0 ≤ a) (hb : 0 ≤ b) (hb2 : b < 2 ^ k) (hd : a % 2 ^ k = 0) (hn : a + 2 ^ k ≤ 2 ^ n) : Ar.real.bor n a b = a + b := by
  obtain ⟨x, rfl⟩ := Int.eq_ofNat_of_zero_le ha
  obtain ⟨y, rfl⟩ := Int.eq_ofNat_of_zero_le hb
  have hy : y < 2 ^ k := by exact_mod_cast hb2
  have hx : x % 2 ^ k = 0 := by exact_mod_cast hd
  have hxn : x + 2 ^ k ≤ 2 ^ n := by exact_mod_cast hn
  have hkn : 2 ^ k ≤ 2 ^ n := Nat.pow_le_pow_right (by omega) (by omega)
  have hpos : 0 < 2 ^ k := Nat.pow_pos (by omega)
  rw [bor_nat (by omega) (by omega)]
  have hdiv : x = 2 ^ k * (x / 2 ^ k) := by
    have := Nat.div_add_mod x (2 ^ k)
    omega
  have := Nat.two_pow_add_eq_or_of_lt hy (x / 2 ^ k)
  rw [← hdiv] at this
  rw [← this]
  rfl
theorem and_low {n k : Nat} {a : Int} (m : Int) (ha : 0 ≤ a) (han : a < 2 ^ n) (hk : k ≤ n) (hm : m = 2 ^ k - 1) : Ar.real.band n a m = a % 2 ^ k := by
  obtain ⟨x, rfl⟩ := Int.eq_ofNat_of_zero_le ha
  have hx : x < 2 ^ n := by exact_mod_cast han
  have hkn : 2 ^ k ≤ 2 ^ n := Nat.pow_le_pow_right (by omega) hk
  have hpos : 0 < 2 ^ k := Nat.pow_pos (by omega)
  have hm' : m = ((2 ^ k - 1 : Nat) : Int) := by
    rw [hm]
    have : (((2 ^ k : Nat)) : Int) = (2 : Int) ^ k := by simp
    omega
  rw [hm', band_nat hx (by omega), Nat.and_two_pow_sub_one_eq_mod]
  simp

theorem fdiv2 {a : Int} (k : Nat) : Int.fdiv a (2 ^ k) = a / 2 ^ k := by
  rw [Int.fdiv_eq_ediv_of_nonneg]
  exact Int.le_of_lt (Int.pow_pos (by omega))

theorem lowB {x : Int} (hx : 0 ≤ x) : Ar.real.wrap .u8 (Ar.real.bor 8 128 (Ar.real.wrap .u8 (Ar.real.band 8 (Ar.real.wrap .u8 x) 63))) = 128 + x % 64 := by
  have e1 : Ar.real.wrap .u8 x = x % 256 := by rw [rw_wrap, wrapu8]
  rw [e1, and_low (k := 6) 63 (by omega) (by omega) (by decide) (by decide)]
  have e2 : x % 256 % 2 ^ 6 = x % 64 := by
    have : (2 : Int) ^ 6 = 64 := by decide
    rw [this]; omega
  have p6 : (2 : Int) ^ 6 = 64 := by decide
  rw [e2, rw_wrap .u8 (x % 64), wu8 (n := x % 64) (by omega) (by omega), or_add (k := 6) (by decide) (by decide) (by omega) (by omega) (by decide) (by decide), rw_wrap, wu8 (by omega) (by omega)]
theorem hiB (c : Int) (k : Nat) {x : Int} (hk : k < 8) (hx : 0 ≤ x) (hx2 : x < 2 ^ k) (hc : 0 ≤ c) (hd : c % 2 ^ k = 0) (hn : c + 2 ^ k ≤ 256) : Ar.real.wrap .u8 (Ar.real.bor 8 c (Ar.real.wrap .u8 x)) = c + x := by
  have p8 : (2 : Int) ^ 8 = 256 := by decide
  rw [rw_wrap .u8 x, wu8 hx (by omega), or_add (k := k) hk hc hx hx2 hd (by omega), rw_wrap, wu8 (by omega) (by omega)]

theorem nonAsc_core (b : List Int) (nl : Bool) (n : Int) (h : goodN n = true) (h0 : 128 ≤ n) (hl : b.length ≤ 70368744177664) :
    bodyX (Cx Ar.real (Out1 Ar.real) noL) 100 Tryd.f25 [.sl (.int .u8) b (some nl) true, .d (.int .i32) n] [] = some (u8s (b ++ ub n) (some false) true, []) := by
  rw [tNonAsc]
  rw [goodN_iff] at h
  have p3 : (2 : Int) ^ 3 = 8 := by decide
  have p4 : (2 : Int) ^ 4 = 16 := by decide
  have p5 : (2 : Int) ^ 5 = 32 := by decide
  have w : Ar.real.wrap .u32 n = n := by rw [rw_wrap, wu32 (by omega) (by omega)]
  have d6 : Int.fdiv n (Ar.real.p2 6 32) = n / 64 := by rw [show Ar.real.p2 6 32 = (2 : Int) ^ 6 from rfl, fdiv2]; rfl
  have d12 : Int.fdiv n (Ar.real.p2 12 32) = n / 4096 := by rw [show Ar.real.p2 12 32 = (2 : Int) ^ 12 from rfl, fdiv2]; rfl
  have d18 : Int.fdiv n (Ar.real.p2 18 32) = n / 262144 := by rw [show Ar.real.p2 18 32 = (2 : Int) ^ 18 from rfl, fdiv2]; rfl
  have n6 : 0 ≤ n / 64 := by omega
  have n12 : 0 ≤ n / 4096 := by omega
  simp only [w, d6, d12, d18, lowB (show 0 ≤ n by omega), lowB n6, lowB n12]
  have len : ∀ l : List Int, l.length ≤ 4 → decide ((b.length + l.length) * 1 ≤ 140737488355328) = true := fun l hl' => by rw [decide_eq_true_eq]; omega
  have emp : ∀ (x : Int) (l : List Int), (nl && List.isEmpty (x :: l)) = false := fun x l => by simp
  unfold ub
  rw [if_neg (show ¬ n < 128 by omega)]
  by_cases h1 : n ≤ 2047
  · rw [bt (decide_eq_true h1), if_pos (show n < 2048 by omega), hiB 192 5 (by decide) (by omega) (by omega) (by decide) (by decide) (by decide), bt (len _ (by simp)), emp]
  · rw [bf (decide_eq_false h1), if_neg (show ¬ n < 2048 by omega)]
    have three : n < 65536 → Ar.real.wrap .u8 (Ar.real.bor 8 224 (Ar.real.wrap .u8 (n / 4096))) = 224 + n / 4096 := fun h2 =>
      hiB 224 4 (by decide) (by omega) (by omega) (by decide) (by decide) (by decide)
    by_cases h2 : n < 55296
    · rw [bt (decide_eq_true h2), if_pos (show n < 65536 by omega), three (by omega), bt (len _ (by simp)), emp]
    · rw [bf (decide_eq_false h2)]
      rw [bt (by rw [decide_eq_true (show (57343 : Int) < n by omega)]; rfl)]
      by_cases h3 : n ≤ 65535
      · rw [bt (decide_eq_true h3), if_pos (show n < 65536 by omega), three (by omega), bt (len _ (by simp)), emp]
      · rw [bf (decide_eq_false h3), if_neg (show ¬ n < 65536 by omega)]
        rw [bt (by rw [decide_eq_true (show n > 65535 by omega)]; rfl), bt (decide_eq_true (show n ≤ 1114111 by omega))]
        rw [hiB 240 3 (by decide) (by omega) (by omega) (by decide) (by decide) (by decide), bt (len _ (by simp)), emp]

theorem nonAsc_ok : OrcOk Tryd.prog 25 (.own (nonAscF Ar.real)) := by
  show OwnOk Tryd.prog 25 (fun args => (nonAscF Ar.real args).run some)
  refine ownOk (Cx.ok o_ut1 noL) mixed 25 Tryd.f25 (by kernel_rfl) (by kernel_rfl) (by kernel_rfl) 100 0 (by kernel_rfl) (fun i h => by omega) fun e xs nl rest r h => ?_
  replace h : (nonAscF Ar.real (.sl e xs nl true :: rest)).run some = some r := h
  unfold nonAscF at h
  split at h
  · rename_i b nl' n heq
    simp only [List.cons.injEq, X.sl.injEq, and_true] at heq
    obtain ⟨⟨rfl, hb, rfl⟩, rfl⟩ := heq
    cases hb
    obtain ⟨hg, rfl⟩ := Tr.one h
    rw [rw_se, Bool.and_eq_true, decide_eq_true_eq] at hg
    refine ⟨rfl, rfl, [], ?_⟩
    exact nonAsc_core _ _ _ hg.1 hg.2.1 hg.2.2
  · cases h

theorem o_ut2 : OOk (Out2 Ar.real) := o_ut1.add nonAsc_ok

theorem appRune_core (b : List Int) (nl : Bool) (n : Int) (h : goodN n = true) (hl : b.length ≤ 70368744177664) :
    bodyX (Cx Ar.real (Out2 Ar.real) noL) 100 Tryd.f20 [.sl (.int .u8) b (some nl) true, .d (.int .i32) n] [] = some (u8s (b ++ ub n) (some false) true, []) := by
  rw [tAppRune]
  have hg := h
  rw [goodN_iff] at h
  have w : Ar.real.wrap .u32 n = n := by rw [rw_wrap, wu32 (by omega) (by omega)]
  rw [w]
  by_cases h1 : n ≤ 127
  · have w8 : Ar.real.wrap .u8 n = n := by rw [rw_wrap, wu8 (by omega) (by omega)]
    rw [bt (decide_eq_true h1), w8, bt (by rw [decide_eq_true_eq]; simp; omega)]
    unfold ub
    rw [if_pos (show n < 128 by omega)]
    simp
  · rw [bf (decide_eq_false h1), bt (by rw [rw_se, hg, Bool.true_and, decide_eq_true_eq]; omega)]
    rfl

theorem appRune_ok : OrcOk Tryd.prog 20 (.own (appRuneF Ar.real)) := by
  show OwnOk Tryd.prog 20 (fun args => (appRuneF Ar.real args).run some)
  refine ownOk (Cx.ok o_ut2 noL) mixed 20 Tryd.f20 (by kernel_rfl) (by kernel_rfl) (by kernel_rfl) 100 0 (by kernel_rfl) (fun i h => by omega) fun e xs nl rest r h => ?_
  replace h : (appRuneF Ar.real (.sl e xs nl true :: rest)).run some = some r := h
  unfold appRuneF at h
  split at h
  · rename_i b nl' n heq
    simp only [List.cons.injEq, X.sl.injEq, and_true] at heq
    obtain ⟨⟨rfl, hb, rfl⟩, rfl⟩ := heq
    cases hb
    obtain ⟨hg, rfl⟩ := Tr.one h
    rw [rw_se, Bool.and_eq_true, decide_eq_true_eq] at hg
    refine ⟨rfl, rfl, [], ?_⟩
    exact appRune_core _ _ _ hg.1 hg.2
  · cases h

theorem o_ut3 : OOk (Out3 Ar.real) := o_ut2.add appRune_ok

end Go.Proofs.YtnjlfeigcappjaaDoor.V

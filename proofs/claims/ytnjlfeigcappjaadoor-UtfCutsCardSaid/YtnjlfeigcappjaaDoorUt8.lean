/-
  Chapter 01, utf: one sign is taken as they tell.
  It speaks of the pinned program alone; no condition.
-/
import Derived.Test.YtnjlfeigcappjaaDoorUt7
namespace Go.Proofs.YtnjlfeigcappjaaDoor.V
open Go
set_option linter.unusedVariables false
set_option linter.unusedSimpArgs false

/-- The table of first bytes. -/
def fx (n : Nat) : Int := if n < 128 then 240 else if n < 194 then 241 else if n < 224 then 2 else if n = 224 then 19 else if n = 237 then 35 else if n < 240 then 3 else if n = 240 then 52 else if n < 244 then 4 else if n = 244 then 68 else 241
theorem first_at {c : Int} (h0 : 0 ≤ c) (h1 : c < 256) : List.getD firstT c.toNat 0 = fx c.toNat := by
  have h : ((List.range 256).all fun n => decide (List.getD firstT n 0 = fx n)) = true := by kernel_rfl
  rw [List.all_eq_true] at h
  have := h c.toNat (by rw [List.mem_range]; omega)
  simpa using this

/-- What the slow way comes to. -/
def slowV (c : Int) (s : List Int) (lo hi sz : Int) : Option (Int × Int) :=
  match s with
  | [] => none
  | d :: s1 => if d < lo ∨ hi < d then none else if sz ≤ 2 then some (c % 32 * 64 + d % 64, 2) else match s1 with
    | [] => none
    | e :: s2 => if e < 128 ∨ 191 < e then none else if sz ≤ 3 then some (c % 16 * 4096 + d % 64 * 64 + e % 64, 3) else match s2 with
      | [] => none
      | f :: _ => if f < 128 ∨ 191 < f then none else some (c % 8 * 262144 + d % 64 * 4096 + e % 64 * 64 + f % 64, 4)
def slowX (v : Option (Int × Int)) : X := match v with
  | some (n, k) => .tup [i32x n, i64x k]
  | none => .tup [i32x 65533, i64x 1]

theorem low6 {d : Int} (h : 0 ≤ d ∧ d < 256) : Ar.real.wrap .i32 (Ar.real.wrap .u8 (Ar.real.band 8 d 63)) = d % 64 := by
  have p6 : (2 : Int) ^ 6 = 64 := by decide
  rw [and_low (k := 6) 63 h.1 (by simpa using h.2) (by decide) (by decide), p6, rw_wrap, rw_wrap, wu8 (by omega) (by omega), wi32 (by omega) (by omega)]
theorem lowK {c m : Int} (k : Nat) (h : 0 ≤ c ∧ c < 256) (hk : k ≤ 8) (hm : m = 2 ^ k - 1) (q : Int) (hq : q = 2 ^ k) (h1 : 0 < q) (h2 : q ≤ 256) : Ar.real.wrap .i32 (Ar.real.wrap .u8 (Ar.real.band 8 c m)) = c % q := by
  have e1 := Int.emod_nonneg c (show q ≠ 0 by omega)
  have e2 := Int.emod_lt_of_pos c h1
  rw [and_low (k := k) m h.1 (by simpa using h.2) hk hm, ← hq, rw_wrap, rw_wrap, wu8 (by omega) (by omega), wi32 (by omega) (by omega)]

theorem p2_32 (k : Nat) (b : Int) (hb : b = (k : Int)) (hk : k ≤ 32) : Ar.real.p2 b 32 = 2 ^ k := by
  rw [rw_p2, hb, Int.toNat_natCast, Nat.min_eq_left hk]

theorem slow_go (c : Int) (s : List Int) (nl : Option Bool) (v lo hi sz idx : Int) (hc : 0 ≤ c ∧ c < 256) (hs : ∀ x ∈ s, 0 ≤ x ∧ x < 256) (hv : List.getD firstT c.toNat 0 = v) (h240 : v < 240)
    (hsz : Ar.real.wrap .i64 (Ar.real.wrap .u8 (Ar.real.band 8 v 7)) = sz) (hsz2 : 2 ≤ sz ∧ sz ≤ 4) (hidx : Int.fdiv v (Ar.real.p2 4 8) = idx) (hidx2 : 0 ≤ idx ∧ idx < 16)
    (hacc : List.getD acceptT idx.toNat (Ty.zero (.struct (.prod (.int .u8) (.prod (.int .u8) .unit)))) = (lo, hi, ())) :
    ∃ H', bodyX (Cx Ar.real (Out4 Ar.real) noL) 100 Tryd.f26 [u8s (c :: s) nl false] [] = some (slowX (bif decide ((s.length : Int) + 1 < sz) then none else slowV c s lo hi sz), H') := by
  rw [tSlow]
  have hl : (((c :: s).length : Nat) : Int) = (s.length : Int) + 1 := by simp
  simp only [show Int.toNat 0 = 0 from rfl, List.getD_cons_zero, hv, hsz, hidx, hacc, hl]
  rw [bf (by rw [decide_eq_false_iff_not]; omega), bt (by rw [decide_eq_true_eq]; omega), bt (by rw [decide_eq_true_eq]; exact ⟨hc.1, by simpa using hc.2⟩), bf (by rw [decide_eq_false_iff_not]; omega), bt (by rw [decide_eq_true_eq]; exact ⟨hidx2.1, by simpa using hidx2.2⟩)]
  by_cases h1 : (s.length : Int) + 1 < sz
  · rw [bt (decide_eq_true h1), bt (decide_eq_true h1)]
    exact ⟨_, rfl⟩
  · rw [bf (decide_eq_false h1), bf (decide_eq_false h1)]
    rw [bt (by rw [decide_eq_true_eq]; omega)]
    cases s with
    | nil => simp at h1; omega
    | cons d s1 =>
      have hd := hs d (by simp)
      simp only [show Int.toNat 1 = 1 from rfl, List.getD_cons_succ, List.getD_cons_zero]
      simp only [slowV]
      by_cases g1 : d < lo
      · rw [bf (by rw [decide_eq_true g1]; rfl), if_pos (.inl g1)]
        exact ⟨_, rfl⟩
      · rw [bt (by rw [decide_eq_false g1]; rfl)]
        by_cases g2 : hi < d
        · rw [bt (decide_eq_true g2), if_pos (.inr g2)]
          exact ⟨_, rfl⟩
        · rw [bf (decide_eq_false g2), if_neg (by omega)]
          have p6 : (2 : Int) ^ 6 = 64 := by decide
          have p12 : (2 : Int) ^ 12 = 4096 := by decide
          have p18 : (2 : Int) ^ 18 = 262144 := by decide
          have p32 : (2 : Int) ^ 32 = 4294967296 := by decide
          have q6 : Ar.real.p2 6 32 = 64 := by rw [p2_32 6 6 rfl (by decide), p6]
          have q12 : Ar.real.p2 12 32 = 4096 := by rw [p2_32 12 12 rfl (by decide), p12]
          have q18 : Ar.real.p2 18 32 = 262144 := by rw [p2_32 18 18 rfl (by decide), p18]
          by_cases g3 : sz ≤ 2
          · rw [bt (decide_eq_true g3), if_pos g3]
            rw [low6 hd, lowK 5 hc (by decide) (by decide) 32 (by decide) (by decide) (by decide), q6]
            have w1 : Ar.real.wrap .i32 (c % 32 * 64) = c % 32 * 64 := by rw [rw_wrap, wi32 (by omega) (by omega)]
            have w2 : Ar.real.wrap .i32 (c % 32 * 64 + d % 64) = c % 32 * 64 + d % 64 := by rw [rw_wrap, wi32 (by omega) (by omega)]
            rw [w1, or_add (k := 6) (by decide) (by omega) (by omega) (by omega) (by omega) (by omega), w2]
            exact ⟨_, rfl⟩
          · rw [bf (decide_eq_false g3), if_neg g3]
            cases s1 with
            | nil => simp at h1; omega
            | cons e s2 =>
              have he := hs e (by simp)
              rw [bt (by rw [decide_eq_true_eq]; simp only [List.length_cons]; omega)]
              dsimp only
              simp only [show Int.toNat 2 = 2 from rfl, List.getD_cons_succ, List.getD_cons_zero]
              by_cases g4 : e < 128
              · rw [bf (by rw [decide_eq_true g4]; rfl), if_pos (.inl g4)]
                exact ⟨_, rfl⟩
              · rw [bt (by rw [decide_eq_false g4]; rfl)]
                by_cases g5 : 191 < e
                · rw [bt (decide_eq_true g5), if_pos (.inr g5)]
                  exact ⟨_, rfl⟩
                · rw [bf (decide_eq_false g5), if_neg (by omega)]
                  by_cases g6 : sz ≤ 3
                  · rw [bt (decide_eq_true g6), if_pos g6]
                    rw [low6 hd, low6 he, lowK 4 hc (by decide) (by decide) 16 (by decide) (by decide) (by decide), q6, q12]
                    have w1 : Ar.real.wrap .i32 (c % 16 * 4096) = c % 16 * 4096 := by rw [rw_wrap, wi32 (by omega) (by omega)]
                    have w2 : Ar.real.wrap .i32 (d % 64 * 64) = d % 64 * 64 := by rw [rw_wrap, wi32 (by omega) (by omega)]
                    have w3 : Ar.real.wrap .i32 (c % 16 * 4096 + d % 64 * 64) = c % 16 * 4096 + d % 64 * 64 := by rw [rw_wrap, wi32 (by omega) (by omega)]
                    have w4 : Ar.real.wrap .i32 (c % 16 * 4096 + d % 64 * 64 + e % 64) = c % 16 * 4096 + d % 64 * 64 + e % 64 := by rw [rw_wrap, wi32 (by omega) (by omega)]
                    rw [w1, w2, or_add (k := 12) (a := c % 16 * 4096) (b := d % 64 * 64) (by decide) (by omega) (by omega) (by omega) (by omega) (by omega), w3, or_add (k := 6) (by decide) (by omega) (by omega) (by omega) (by omega) (by omega), w4]
                    exact ⟨_, rfl⟩
                  · rw [bf (decide_eq_false g6), if_neg g6]
                    cases s2 with
                    | nil => simp at h1; omega
                    | cons f s3 =>
                      have hf := hs f (by simp)
                      rw [bt (by rw [decide_eq_true_eq]; simp only [List.length_cons]; omega)]
                      dsimp only
                      simp only [show Int.toNat 3 = 3 from rfl, List.getD_cons_succ, List.getD_cons_zero]
                      by_cases g7 : f < 128
                      · rw [bf (by rw [decide_eq_true g7]; rfl), if_pos (.inl g7)]
                        exact ⟨_, rfl⟩
                      · rw [bt (by rw [decide_eq_false g7]; rfl)]
                        by_cases g8 : 191 < f
                        · rw [bt (decide_eq_true g8), if_pos (.inr g8)]
                          exact ⟨_, rfl⟩
                        · rw [bf (decide_eq_false g8), if_neg (by omega)]
                          rw [low6 hd, low6 he, low6 hf, lowK 3 hc (by decide) (by decide) 8 (by decide) (by decide) (by decide), q6, q12, q18]
                          have w1 : Ar.real.wrap .i32 (c % 8 * 262144) = c % 8 * 262144 := by rw [rw_wrap, wi32 (by omega) (by omega)]
                          have w2 : Ar.real.wrap .i32 (d % 64 * 4096) = d % 64 * 4096 := by rw [rw_wrap, wi32 (by omega) (by omega)]
                          have w3 : Ar.real.wrap .i32 (e % 64 * 64) = e % 64 * 64 := by rw [rw_wrap, wi32 (by omega) (by omega)]
                          have w4 : Ar.real.wrap .i32 (c % 8 * 262144 + d % 64 * 4096) = c % 8 * 262144 + d % 64 * 4096 := by rw [rw_wrap, wi32 (by omega) (by omega)]
                          have w5 : Ar.real.wrap .i32 (c % 8 * 262144 + d % 64 * 4096 + e % 64 * 64) = c % 8 * 262144 + d % 64 * 4096 + e % 64 * 64 := by rw [rw_wrap, wi32 (by omega) (by omega)]
                          have w6 : Ar.real.wrap .i32 (c % 8 * 262144 + d % 64 * 4096 + e % 64 * 64 + f % 64) = c % 8 * 262144 + d % 64 * 4096 + e % 64 * 64 + f % 64 := by rw [rw_wrap, wi32 (by omega) (by omega)]
                          rw [w1, w2, w3, or_add (k := 18) (a := c % 8 * 262144) (b := d % 64 * 4096) (by decide) (by omega) (by omega) (by omega) (by omega) (by omega), w4, or_add (k := 12) (a := c % 8 * 262144 + d % 64 * 4096) (b := e % 64 * 64) (by decide) (by omega) (by omega) (by omega) (by omega) (by omega), w5,
                            or_add (k := 6) (by decide) (by omega) (by omega) (by omega) (by omega) (by omega), w6]
                          exact ⟨_, rfl⟩

theorem slow_bad (c : Int) (s : List Int) (nl : Option Bool) (hc : 0 ≤ c ∧ c < 256) (hv : List.getD firstT c.toNat 0 = 241) :
    ∃ H', bodyX (Cx Ar.real (Out4 Ar.real) noL) 100 Tryd.f26 [u8s (c :: s) nl false] [] = some (slowX none, H') := by
  rw [tSlow]
  have hl : (((c :: s).length : Nat) : Int) = (s.length : Int) + 1 := by simp
  simp only [show Int.toNat 0 = 0 from rfl, List.getD_cons_zero, hv, hl]
  rw [bf (by rw [decide_eq_false_iff_not]; omega), bt (by rw [decide_eq_true_eq]; omega), bt (by rw [decide_eq_true_eq]; exact ⟨hc.1, by simpa using hc.2⟩), bt (by decide), bt (by rw [decide_eq_true_eq]; omega)]
  have m : Int.fdiv (Ar.real.wrap .i32 (Ar.real.wrap .i32 241 * Ar.real.p2 31 32)) (Ar.real.p2 31 32) = -1 := by decide
  rw [m]
  have b1 : Ar.real.bclr 32 (Ar.real.wrap .i32 c) (-1) = 0 := by
    show (((BitVec.ofInt 32 (Ar.real.wrap .i32 c) &&& ~~~ BitVec.ofInt 32 (-1)).toNat : Nat) : Int) = 0
    have : ~~~ BitVec.ofInt 32 (-1) = 0#32 := by decide
    rw [this]
    simp
  have b2 : Ar.real.band 32 65533 (-1) = 65533 := by decide
  have b3 : Ar.real.wrap .i32 (Ar.real.bor 32 (Ar.real.wrap .i32 0) (Ar.real.wrap .i32 65533)) = 65533 := by decide
  rw [b1, b2, b3]
  exact ⟨_, rfl⟩

end Go.Proofs.YtnjlfeigcappjaaDoor.V

/-
  Chapter 01, utf: whether bytes are valid is told as they tell.
  It speaks of the pinned program alone; no condition.
-/
import Derived.Test.YtnjlfeigcappjaaDoorUt10
namespace Go.Proofs.YtnjlfeigcappjaaDoor.V
open Go
set_option linter.unusedVariables false
set_option linter.unusedSimpArgs false

theorem valid_nil : validU [] = true := rfl
theorem valid_step {b : List Int} (hy : ∀ x ∈ b, 0 ≤ x ∧ x < 256) (hne : b ≠ []) : validU b = match takeU b with
    | some (_, r) => validU r
    | none => false := by
  unfold validU
  rw [readU_step hy hne]
  cases takeU b with
  | none => rfl
  | some p => simp
theorem valid_asc1 {c : Int} {s : List Int} (hy : ∀ x ∈ (c :: s), 0 ≤ x ∧ x < 256) (h : c < 128) : validU (c :: s) = validU s := by
  rw [valid_step hy (by simp)]
  simp [takeU, h]
theorem valid_asc : ∀ (k : Nat) (b : List Int), (∀ x ∈ b, 0 ≤ x ∧ x < 256) → asc (b.take k) = true → validU b = validU (b.drop k)
  | 0, b, _, _ => by simp
  | k + 1, [], _, _ => by simp
  | k + 1, c :: s, hy, h => by
    simp only [asc, List.take_succ_cons, List.all_cons, Bool.and_eq_true, decide_eq_true_eq] at h
    rw [valid_asc1 hy h.1, List.drop_succ_cons]
    exact valid_asc k s (fun x hx => hy x (by simp [hx])) h.2

theorem sk32_props : ∀ (n : Nat) (b : List Int), (∀ x ∈ b, 0 ≤ x ∧ x < 256) → (∀ x ∈ sk32 n b, 0 ≤ x ∧ x < 256) ∧ validU (sk32 n b) = validU b ∧ (sk32 n b).length ≤ b.length
  | 0, b, hy => ⟨hy, rfl, Nat.le_refl _⟩
  | n + 1, b, hy => by
    unfold sk32
    cases hc : (decide (32 < b.length) && (b.take 32).all fun c => decide (c < 128)) with
    | false => exact ⟨hy, rfl, Nat.le_refl _⟩
    | true =>
      rw [Bool.and_eq_true] at hc
      have hy' : ∀ x ∈ b.drop 32, 0 ≤ x ∧ x < 256 := fun x hx => hy x (List.mem_of_mem_drop hx)
      obtain ⟨h1, h2, h3⟩ := sk32_props n (b.drop 32) hy'
      refine ⟨h1, h2.trans (valid_asc 32 b hy hc.2).symm, ?_⟩
      rw [List.length_drop] at h3
      exact Nat.le_trans h3 (by omega)

theorem take_bytes {b : List Int} (hy : ∀ x ∈ b, 0 ≤ x ∧ x < 256) (k n : Nat) : ∀ x ∈ (b.drop k).take n, 0 ≤ x ∧ x < 256 :=
  fun x hx => hy x (List.mem_of_mem_drop (List.mem_of_mem_take hx))
theorem take_len {b : List Int} (k : Nat) (h : k + 8 ≤ b.length) : ((b.drop k).take 8).length = 8 := by
  rw [List.length_take, List.length_drop]; omega
theorem asc_take32 (b : List Int) : asc (b.take 32) = (asc ((b.drop 0).take 8) && asc ((b.drop 8).take 8) && (asc ((b.drop 16).take 8) && asc ((b.drop 24).take 8))) := by
  have e : b.take 32 = (b.drop 0).take 8 ++ ((b.drop 8).take 8 ++ ((b.drop 16).take 8 ++ (b.drop 24).take 8)) := by
    rw [List.drop_zero]
    conv => lhs; rw [show (32 : Nat) = 8 + (8 + (8 + 8)) by rfl]
    rw [List.take_add, List.take_add, List.take_add, List.drop_drop, List.drop_drop]
  rw [e]
  simp [asc, List.all_append, Bool.and_assoc]

theorem loopValB (nl : Option Bool) (x : Bool) : ∀ (n : Nat) (b : List Int), b.length ≤ n → (∀ x ∈ b, 0 ≤ x ∧ x < 256) →
    LoopTo (Cx Ar.real (Out7 Ar.real) (Lval Ar.real)) 100 (loopAt Tryd.f24 1) 188 [0, 2] [u8s b nl false, boolx x] [] (.exit 2, [u8s (sk32 n b) nl false, boolx x], []) := by
  intro n
  induction n with
  | zero =>
    intro b hl hy
    have : b = [] := by cases b with | nil => rfl | cons _ _ => simp at hl
    subst this
    refine LoopTo.done (by simp) fun k => ?_
    rw [lValB, bf (by decide)]
    rfl
  | succ n ih =>
    intro b hl hy
    unfold sk32
    by_cases h32 : 32 < b.length
    · rw [decide_eq_true h32, Bool.true_and]
      have g : ∀ m : Nat, m + 8 ≤ b.length → (bytesB (b.drop m) && decide (8 ≤ (b.drop m).length)) = true := by
        intro m hm
        rw [bytesB_iff.2 (fun x hx => hy x (List.mem_of_mem_drop hx)), Bool.true_and, decide_eq_true_eq, List.length_drop]
        omega
      have g0 : (bytesB b && decide (8 ≤ b.length)) = true := by
        rw [bytesB_iff.2 hy, Bool.true_and, decide_eq_true_eq]; omega
      have t := word4_test (take_bytes hy 0 8) (take_len 0 (by omega)) (take_bytes hy 8 8) (take_len 8 (by omega)) (take_bytes hy 16 8) (take_len 16 (by omega)) (take_bytes hy 24 8) (take_len 24 (by omega))
      rw [← asc_take32, List.drop_zero] at t
      have hA : ∀ q : Int, q ≤ 32 → decide ((0 : Int) ≤ q ∧ q ≤ (b.length : Int)) = decide ((0 : Int) ≤ q) := by
        intro q hq
        by_cases h0 : (0 : Int) ≤ q
        · rw [decide_eq_true h0, decide_eq_true (by omega)]
        · rw [decide_eq_false h0, decide_eq_false (by omega)]
      have step : ∀ (R : Type) (k : Ex → List X → Hp → Option R), stepF (Cx Ar.real (Out7 Ar.real) (Lval Ar.real)) 100 (loopAt Tryd.f24 1) 188 [0, 2] [u8s b nl false, boolx x] [] k =
          bif asc (b.take 32) then k .normal [u8s (b.drop 32) nl false, boolx x] [] else k (.exit 2) [u8s b nl false, boolx x] [] := by
        intro R k
        rw [lValB]
        simp only [rw_se, show Int.toNat 8 = 8 from rfl, show Int.toNat 16 = 16 from rfl, show Int.toNat 24 = 24 from rfl, show Int.toNat 32 = 32 from rfl]
        rw [bt (by rw [decide_eq_true (by omega)]; rfl), bt g0, bt (by rw [hA 8 (by decide)]; decide), bt (g 8 (by omega)), bt (by rw [hA 16 (by decide)]; decide), bt (g 16 (by omega)), bt (by rw [hA 24 (by decide)]; decide), bt (g 24 (by omega)), t]
        rw [bt (a := k .normal _ _) (by rw [hA 32 (by decide)]; decide)]
      have ha : ((b.take 32).all fun c => decide (c < 128)) = asc (b.take 32) := rfl
      rw [ha]
      cases hc : asc (b.take 32) with
      | true =>
        rw [cond_true]
        refine LoopTo.next (fun k => ?_) (ih (b.drop 32) (by rw [List.length_drop]; omega) (fun x hx => hy x (List.mem_of_mem_drop hx)))
        rw [step, hc]
        rfl
      | false =>
        rw [cond_false]
        refine LoopTo.done (by simp) fun k => ?_
        rw [step, hc]
        rfl
    · rw [decide_eq_false h32, Bool.false_and, cond_false]
      refine LoopTo.done (by simp) fun k => ?_
      rw [lValB, bf (by rw [decide_eq_false (by omega)]; rfl)]

/-! A byte from 128 on. -/
def SS : Ty := .struct (.prod (.int .u8) (.prod (.int .u8) .unit))
def HS (lo hi : Int) : Hp := [(SS, X.d SS (lo, hi, ()))]

theorem valA_hi (R : Type) (k : Ex → List X → Hp → Option R) (c : Int) (s : List Int) (nl : Option Bool) (x : Bool) (v lo hi sz idx : Int) (hc : 0 ≤ c ∧ c < 256) (h128 : 128 ≤ c) (hv : List.getD firstT c.toNat 0 = v)
    (hsz : Ar.real.wrap .i64 (Ar.real.wrap .u8 (Ar.real.band 8 v 7)) = sz) (hsz2 : sz = 2 ∨ sz = 3 ∨ sz = 4) (hidx : Int.fdiv v (Ar.real.p2 4 8) = idx) (hidx2 : 0 ≤ idx ∧ idx < 16)
    (hacc : List.getD acceptT idx.toNat (Ty.zero (.struct (.prod (.int .u8) (.prod (.int .u8) .unit)))) = (lo, hi, ())) :
    stepF (Cx Ar.real (Out7 Ar.real) (Lval Ar.real)) 100 (loopAt Tryd.f24 0) 188 [0, 2] [u8s (c :: s) nl false, boolx x] [] k =
      match (bif decide ((s.length : Int) + 1 < sz) then none else slowV c s lo hi sz) with
      | some (_, n) => k .normal [u8s ((c :: s).drop n.toNat) nl false, boolx x] (HS lo hi)
      | none => k .ret [u8s (c :: s) nl false, boolx false] (HS lo hi) := by
  rw [lValA]
  have hl : (((c :: s).length : Nat) : Int) = (s.length : Int) + 1 := by simp
  simp only [show Int.toNat 0 = 0 from rfl, List.getD_cons_zero, hv, hsz, hidx, hacc, hl]
  rw [bt (by rw [decide_eq_true_eq]; omega), bt (by rw [decide_eq_true_eq]; omega), bf (by rw [decide_eq_false_iff_not]; omega), bt (by rw [decide_eq_true_eq]; exact ⟨hc.1, by simpa using hc.2⟩), bt (by rw [decide_eq_true_eq]; exact ⟨hidx2.1, by simpa using hidx2.2⟩)]
  have short : ∀ n : Int, (s.length : Int) + 1 < n → (bif decide ((s.length : Int) + 1 < n) then (none : Option (Int × Int)) else slowV c s lo hi n) = none := fun n h => by rw [decide_eq_true h]; rfl
  have long : ∀ n : Int, ¬ (s.length : Int) + 1 < n → (bif decide ((s.length : Int) + 1 < n) then (none : Option (Int × Int)) else slowV c s lo hi n) = slowV c s lo hi n := fun n h => by rw [decide_eq_false h]; rfl
  rcases hsz2 with e | e | e <;> subst e
  · rw [bt (c := (2 : Int) == 2) (by decide)]
    by_cases h1 : (s.length : Int) + 1 < 2
    · rw [bf (by rw [decide_eq_true h1]; rfl), short _ h1]
      rfl
    · rw [bt (by rw [decide_eq_false h1]; rfl), long _ h1]
      cases s with
      | nil => simp at h1
      | cons d r =>
        rw [List.length_cons]
        simp only [show Int.toNat 1 = 1 from rfl, List.getD_cons_succ, List.getD_cons_zero, slowV]
        have a : decide ((0 : Int) ≤ 1 ∧ (1 : Int) < ((r.length + 1 : Nat) : Int) + 1) = true := by rw [decide_eq_true_eq]; omega
        rw [bt a]
        by_cases g1 : d < lo
        · rw [bf (by rw [decide_eq_true g1]; rfl), if_pos (.inl g1)]
          rfl
        · rw [bt (by rw [decide_eq_false g1]; rfl), bt a]
          by_cases g2 : hi < d
          · rw [bt (decide_eq_true g2), if_pos (.inr g2)]
            rfl
          · rw [bf (decide_eq_false g2), if_neg (by omega), if_pos (by decide), bt (by rw [decide_eq_true_eq]; omega)]
            rfl
  · rw [bf (c := (3 : Int) == 2) (by decide), bt (c := (3 : Int) == 3) (by decide)]
    by_cases h1 : (s.length : Int) + 1 < 3
    · rw [bf (by rw [decide_eq_true h1]; rfl), short _ h1]
      rfl
    · rw [bt (by rw [decide_eq_false h1]; rfl), long _ h1]
      match s, h1 with
      | [], h1 => simp at h1
      | [d], h1 => simp at h1
      | d :: f :: r, h1 =>
        rw [List.length_cons, List.length_cons]
        simp only [show Int.toNat 1 = 1 from rfl, show Int.toNat 2 = 2 from rfl, List.getD_cons_succ, List.getD_cons_zero, slowV]
        have a : decide ((0 : Int) ≤ 1 ∧ (1 : Int) < ((r.length + 1 + 1 : Nat) : Int) + 1) = true := by rw [decide_eq_true_eq]; omega
        have a2 : decide ((0 : Int) ≤ 2 ∧ (2 : Int) < ((r.length + 1 + 1 : Nat) : Int) + 1) = true := by rw [decide_eq_true_eq]; omega
        rw [bt a]
        by_cases g1 : d < lo
        · rw [bf (by rw [decide_eq_true g1]; rfl), if_pos (.inl g1)]
          rfl
        · rw [bt (by rw [decide_eq_false g1]; rfl), bt a]
          by_cases g2 : hi < d
          · rw [bf (by rw [decide_eq_true g2]; rfl), if_pos (.inr g2)]
            rfl
          · rw [bt (by rw [decide_eq_false g2]; rfl), bt a2, if_neg (by omega), if_neg (by decide)]
            by_cases g4 : f < 128
            · rw [bf (by rw [decide_eq_true g4]; rfl), if_pos (.inl g4)]
              rfl
            · rw [bt (by rw [decide_eq_false g4]; rfl), bt a2]
              by_cases g5 : 191 < f
              · rw [bt (decide_eq_true g5), if_pos (.inr g5)]
                rfl
              · rw [bf (decide_eq_false g5), if_neg (by omega), if_pos (by decide), bt (by rw [decide_eq_true_eq]; omega)]
                rfl
  · rw [bf (c := (4 : Int) == 2) (by decide), bf (c := (4 : Int) == 3) (by decide), bt (c := (4 : Int) == 4) (by decide)]
    by_cases h1 : (s.length : Int) + 1 < 4
    · rw [bf (by rw [decide_eq_true h1]; rfl), short _ h1]
      rfl
    · rw [bt (by rw [decide_eq_false h1]; rfl), long _ h1]
      match s, h1 with
      | [], h1 => simp at h1
      | [d], h1 => simp at h1
      | [d, f], h1 => simp at h1
      | d :: f :: g :: r, h1 =>
        rw [List.length_cons, List.length_cons, List.length_cons]
        simp only [show Int.toNat 1 = 1 from rfl, show Int.toNat 2 = 2 from rfl, show Int.toNat 3 = 3 from rfl, List.getD_cons_succ, List.getD_cons_zero, slowV]
        have a : decide ((0 : Int) ≤ 1 ∧ (1 : Int) < ((r.length + 1 + 1 + 1 : Nat) : Int) + 1) = true := by rw [decide_eq_true_eq]; omega
        have a2 : decide ((0 : Int) ≤ 2 ∧ (2 : Int) < ((r.length + 1 + 1 + 1 : Nat) : Int) + 1) = true := by rw [decide_eq_true_eq]; omega
        have a3 : decide ((0 : Int) ≤ 3 ∧ (3 : Int) < ((r.length + 1 + 1 + 1 : Nat) : Int) + 1) = true := by rw [decide_eq_true_eq]; omega
        rw [bt a]
        by_cases g1 : d < lo
        · rw [bf (by rw [decide_eq_true g1]; rfl), if_pos (.inl g1)]
          rfl
        · rw [bt (by rw [decide_eq_false g1]; rfl), bt a]
          by_cases g2 : hi < d
          · rw [bf (by rw [decide_eq_true g2]; rfl), if_pos (.inr g2)]
            rfl
          · rw [bt (by rw [decide_eq_false g2]; rfl), bt a2, if_neg (by omega), if_neg (by decide)]
            by_cases g4 : f < 128
            · rw [bf (by rw [decide_eq_true g4]; rfl), if_pos (.inl g4)]
              rfl
            · rw [bt (by rw [decide_eq_false g4]; rfl), bt a2]
              by_cases g5 : 191 < f
              · rw [bf (by rw [decide_eq_true g5]; rfl), if_pos (.inr g5)]
                rfl
              · rw [bt (by rw [decide_eq_false g5]; rfl), bt a3, if_neg (by omega), if_neg (by decide)]
                by_cases g7 : g < 128
                · rw [bf (by rw [decide_eq_true g7]; rfl), if_pos (.inl g7)]
                  rfl
                · rw [bt (by rw [decide_eq_false g7]; rfl), bt a3]
                  by_cases g8 : 191 < g
                  · rw [bt (decide_eq_true g8), if_pos (.inr g8)]
                    rfl
                  · rw [bf (decide_eq_false g8), if_neg (by omega), bt (by rw [decide_eq_true_eq]; omega)]
                    rfl

theorem valA_bad (R : Type) (k : Ex → List X → Hp → Option R) (c : Int) (s : List Int) (nl : Option Bool) (x : Bool) (hc : 0 ≤ c ∧ c < 256) (h128 : 128 ≤ c) (hv : List.getD firstT c.toNat 0 = 241) :
    stepF (Cx Ar.real (Out7 Ar.real) (Lval Ar.real)) 100 (loopAt Tryd.f24 0) 188 [0, 2] [u8s (c :: s) nl false, boolx x] [] k = k .ret [u8s (c :: s) nl false, boolx false] (HS 0 0) := by
  rw [lValA]
  have hl : (((c :: s).length : Nat) : Int) = (s.length : Int) + 1 := by simp
  have hsz : Ar.real.wrap .i64 (Ar.real.wrap .u8 (Ar.real.band 8 241 7)) = 1 := by decide
  have hidx : Int.fdiv 241 (Ar.real.p2 4 8) = 15 := by decide
  have hacc : List.getD acceptT (Int.toNat 15) (Ty.zero (.struct (.prod (.int .u8) (.prod (.int .u8) .unit)))) = (0, 0, ()) := rfl
  simp only [show Int.toNat 0 = 0 from rfl, List.getD_cons_zero, hv, hsz, hidx, hacc, hl]
  rw [bt (by rw [decide_eq_true_eq]; omega), bt (by rw [decide_eq_true_eq]; omega), bf (by rw [decide_eq_false_iff_not]; omega), bt (by rw [decide_eq_true_eq]; exact ⟨hc.1, by simpa using hc.2⟩), bt (by decide), bf (by decide), bf (by decide), bf (by decide)]
  rfl

end Go.Proofs.YtnjlfeigcappjaaDoor.V

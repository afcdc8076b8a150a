/-
  Chapter 01, utf: statements hold of whatever data: tells, back, parts, inside.
  It speaks of the pinned program alone; no condition.
-/
import Derived.Test.YtnjlfeigcappjaaDoorUt17b
import Derived.Test.YtnjlfeigcappjaaDoorUt17c
import Derived.Test.YtnjlfeigcappjaaDoorUt17d
import Derived.Test.YtnjlfeigcappjaaDoorUt17a
namespace Go.Proofs.YtnjlfeigcappjaaDoor.V
open Go
set_option linter.unusedVariables false
set_option linter.unusedSimpArgs false

theorem tells_core (l : List Int) (nl : Bool) (b : List Int) (nl2 : Bool) (n : Int) (hy : ∀ x ∈ b, 0 ≤ x ∧ x < 256) :
    bodyX (Cx Ar.real (Out Ar.real) noL) 100 Tryd.f3 [i64s l (some nl) false, u8s b (some nl2) false, i64x n] [] = some (boolx true, []) := by
  rw [tTells]
  by_cases h1 : (l.length : Int) > 1000
  · rw [bf (by rw [decide_eq_true h1]; rfl)]
  · rw [bt (by rw [decide_eq_false h1]; rfl)]
    by_cases h2 : (b.length : Int) > 1000
    · rw [bt (decide_eq_true h2)]
    · rw [bf (decide_eq_false h2)]
      have hb := bytesB_iff.2 hy
      have hr := rdL_len hy
      have c1 : decide (l.length ≤ 17592186044416) = true := by rw [decide_eq_true_eq]; omega
      have c2 : decide (b.length ≤ 1000000) = true := by rw [decide_eq_true_eq]; omega
      have c3 : decide ((rdL b).length ≤ 9223372036854775806) = true := by rw [decide_eq_true_eq]; omega
      have c4 : ∀ x : Int, (x == x) = true := fun x => by simp
      have c5 : decide (rdL b = rdL b) = true := by simp
      have c6 : (goodN n == goodN n) = true := by simp
      simp only [rw_se, c1, hb, c2, c3, c4, c5, c6, seq_self]
      rfl

theorem back_core (l : List Int) (nl : Bool) (b : List Int) (nl2 : Bool) (hy : ∀ x ∈ b, 0 ≤ x ∧ x < 256) :
    bodyX (Cx Ar.real (Out Ar.real) noL) 100 Tryd.f4 [i64s l (some nl) false, u8s b (some nl2) false] [] = some (boolx true, []) := by
  rw [tBack]
  by_cases h1 : (l.length : Int) > 1000
  · rw [bf (by rw [decide_eq_true h1]; rfl)]
  · rw [bt (by rw [decide_eq_false h1]; rfl)]
    by_cases h2 : (b.length : Int) > 1000
    · rw [bt (decide_eq_true h2)]
    · rw [bf (decide_eq_false h2)]
      have hb := bytesB_iff.2 hy
      have hr := rdL_len hy
      have hpl := putL_len l
      have c1 : decide (l.length ≤ 17592186044416) = true := by rw [decide_eq_true_eq]; omega
      have c2 : decide (b.length ≤ 1000000) = true := by rw [decide_eq_true_eq]; omega
      have c3 : decide ((putL l).length ≤ 1000000) = true := by rw [decide_eq_true_eq]; omega
      have c4 : decide ((rdL b).length ≤ 17592186044416) = true := by rw [decide_eq_true_eq]; omega
      have c5 := putL_bytes l
      simp only [rw_se, c1, hb, c2, c3, c4, c5]
      -- the second part, whatever the first
      have e2 : (rdE b = 10 ∧ rdL b = []) ∨ (rdE b = 0 ∧ putE (rdL b) = 0 ∧ Ar.real.seq (strOf (putL (rdL b))) (strOf b) = true) := by
        cases hv : validU b with
        | false => exact .inl ⟨rdE_bad hv, rdL_bad hv⟩
        | true =>
          obtain ⟨q1, q2⟩ := rdL_good hy hv
          refine .inr ⟨rdE_good hv, putE_good q2, ?_⟩
          rw [putL_good q2, ← q1]
          exact seq_self _
      cases ha : l.all goodN with
      | false =>
        have d1 := putE_bad ha
        have d2 := putL_bad ha
        simp only [d1, d2]
        rcases e2 with ⟨f1, f2⟩ | ⟨f1, f2, f3⟩
        · simp only [f1, f2]
          rfl
        · simp only [f1, f2, f3]
          rfl
      | true =>
        have d1 := putE_good ha
        have d2 := putL_good ha
        have d3 := valid_ups ha
        have d4 := rdL_ups ha
        have d5 : decide (l.length ≤ 9223372036854775806) = true := by rw [decide_eq_true_eq]; omega
        have d6 : decide (l = l) = true := by simp
        simp only [d1, d2, rdE_good d3, d4, d5, d6]
        rcases e2 with ⟨f1, f2⟩ | ⟨f1, f2, f3⟩
        · simp only [f1, f2]
          rfl
        · simp only [f1, f2, f3]
          rfl

theorem ups_one (n : Int) : ups [n] = ub n := by simp [ups]
theorem all_one (n : Int) : [n].all goodN = goodN n := by simp

theorem uE_ub {n : Int} (h : goodN n = true) : uE (ub n) = 0 ∧ uN (ub n) = n ∧ uL (ub n) = (ub n).length := by
  have := takeU_ub h []
  rw [List.append_nil] at this
  simp [uE, uN, uL, this]
theorem uE_cut {n : Int} (h : goodN n = true) {k : Nat} (hk : k < (ub n).length) : uE ((ub n).take k) = 10 := by
  simp [uE, takeU_cut h hk]

theorem parts_core (a : List Int) (nl : Bool) (b : List Int) (nl2 : Bool) (n cut : Int) (hc : 0 ≤ cut ∧ cut < 256) :
    bodyX (Cx Ar.real (OutT Ar.real) noL) 100 Tryd.f6 [i64s a (some nl) false, i64s b (some nl2) false, i64x n, u8x cut] [] = some (boolx true, []) := by
  rw [tParts]
  by_cases h1 : (a.length : Int) > 1000
  · rw [bf (by rw [decide_eq_true h1]; rfl)]
  · rw [bt (by rw [decide_eq_false h1]; rfl)]
    by_cases h2 : (b.length : Int) > 1000
    · rw [bt (decide_eq_true h2)]
    · rw [bf (decide_eq_false h2)]
      have w : Ar.real.wrap .i64 cut = cut := by rw [rw_wrap, wi64 (by omega) (by omega)]
      have hp := ub_pos n
      have h4 := ub_le4 n
      obtain ⟨m, rfl⟩ := Int.eq_ofNat_of_zero_le hc.1
      have t : Int.tmod (m : Int) ((ub n).length : Int) = ((m % (ub n).length : Nat) : Int) := ntmod m (ub n).length
      have hlt : m % (ub n).length < (ub n).length := Nat.mod_lt _ (by omega)
      have la := (ups_len a).2
      have lb := (ups_len b).2
      simp only [rw_se, ups_one, all_one, w, t, Int.toNat_natCast, List.nil_append, List.length_append, List.all_append, List.length_cons, List.length_nil, strOf_size]
      have c1 : decide (a.length ≤ 17592186044416) = true := by rw [decide_eq_true_eq]; omega
      have c2 : decide (b.length ≤ 17592186044416) = true := by rw [decide_eq_true_eq]; omega
      have c3 : decide ((0 + a.length) * 8 ≤ 140737488355328) = true := by rw [decide_eq_true_eq]; omega
      have c4 : decide ((a.length + b.length) * 8 ≤ 140737488355328) = true := by rw [decide_eq_true_eq]; omega
      have c5 : decide (a.length + b.length ≤ 17592186044416) = true := by rw [decide_eq_true_eq]; omega
      have c6 : decide ((ups a).length + (ups b).length ≤ 9223372036854775807) = true := by rw [decide_eq_true_eq]; omega
      have c7 : decide (((ub n).length : Int) < 1) = false := by rw [decide_eq_false_iff_not]; omega
      have c8 : decide (((ub n).length : Int) > 4) = false := by rw [decide_eq_false_iff_not]; omega
      have c9 : decide (((ub n).length : Int) = 0) = false := by rw [decide_eq_false_iff_not]; omega
      have c10 : decide ((0 : Int) ≤ ((m % (ub n).length : Nat) : Int) ∧ ((m % (ub n).length : Nat) : Int) ≤ ((ub n).length : Int)) = true := by rw [decide_eq_true_eq]; omega
      simp only [c1, c2, c3, c4, c5, c6, c7, c8, c9, c10]
      have gn : goodN n = true → bytesB (ub n) = true ∧ bytesB ((ub n).take (m % (ub n).length)) = true ∧ uE ((ub n).take (m % (ub n).length)) = 10 ∧ uE (ub n) = 0 ∧ uN (ub n) = n ∧ uL (ub n) = (ub n).length := by
        intro hg
        have hb := ub_byts hg
        refine ⟨bytesB_iff.2 hb, bytesB_iff.2 (fun x hx => hb x (List.mem_of_mem_take hx)), uE_cut hg hlt, uE_ub hg⟩
      have eqn : ∀ x : Int, (x == x) = true := fun x => by simp
      cases ha : a.all goodN <;> cases hb : b.all goodN <;> cases hn : goodN n
      case true.true.true =>
        obtain ⟨g1, g2, g3, g4, g5, g6⟩ := gn hn
        have s : Ar.real.seq (strOf (ups (a ++ b))) (strOf (ups a) ++ strOf (ups b)) = true := by
          rw [strOf_append, ← ups_app]; exact seq_self _
        simp only [g1, g2, g3, g4, g5, g6, s, eqn]
        rfl
      case true.true.false =>
        have s : Ar.real.seq (strOf (ups (a ++ b))) (strOf (ups a) ++ strOf (ups b)) = true := by
          rw [strOf_append, ← ups_app]; exact seq_self _
        simp only [s]
        rfl
      case true.false.true =>
        obtain ⟨g1, g2, g3, g4, g5, g6⟩ := gn hn
        simp only [g1, g2, g3, g4, g5, g6, eqn]
        rfl
      case false.true.true =>
        obtain ⟨g1, g2, g3, g4, g5, g6⟩ := gn hn
        simp only [g1, g2, g3, g4, g5, g6, eqn]
        rfl
      case false.false.true =>
        obtain ⟨g1, g2, g3, g4, g5, g6⟩ := gn hn
        simp only [g1, g2, g3, g4, g5, g6, eqn]
        rfl
      all_goals rfl

theorem inside_core (n k : Int) (hk : 0 ≤ k ∧ k < 256) :
    bodyX (Cx Ar.real (Out Ar.real) noL) 100 Tryd.f8 [i64x n, u8x k] [] = some (boolx true, []) := by
  rw [tInside]
  have hp := ub_pos n
  have h4 := ub_le4 n
  have c1 : decide ([n].length ≤ 17592186044416) = true := by rw [decide_eq_true_eq]; simp
  cases hn : goodN n with
  | false =>
    have ha : [n].all goodN = false := by rw [all_one]; exact hn
    simp only [rw_se, putE_bad ha, putL_bad ha, hn]
    rfl
  | true =>
    have ha : [n].all goodN = true := by rw [all_one]; exact hn
    simp only [rw_se, putE_good ha, putL_good ha, ups_one, hn, c1]
    by_cases h2 : ((ub n).length : Int) < 2
    · have e : ((ub n).length : Int) = 1 := by omega
      have hl := ub_len n
      have hlt : n < 128 := by
        by_cases hc : n < 128
        · exact hc
        · rw [if_neg hc] at hl
          split at hl
          · omega
          · split at hl <;> omega
      have d1 : decide (n < 128) = true := decide_eq_true hlt
      simp only [e, d1]
      rfl
    · have d2 : decide (((ub n).length : Int) < 2) = false := decide_eq_false h2
      have w1 : Ar.real.wrap .i64 (((ub n).length : Int) - 1) = (((ub n).length - 1 : Nat) : Int) := by rw [rw_wrap, wi64 (by omega) (by omega)]; omega
      have w2 : Ar.real.wrap .i64 k = k := by rw [rw_wrap, wi64 (by omega) (by omega)]
      obtain ⟨m, rfl⟩ := Int.eq_ofNat_of_zero_le hk.1
      have t : Int.tmod (m : Int) (((ub n).length - 1 : Nat) : Int) = ((m % ((ub n).length - 1) : Nat) : Int) := ntmod m ((ub n).length - 1)
      have hlt : m % ((ub n).length - 1) < (ub n).length - 1 := Nat.mod_lt _ (by omega)
      have w3 : Ar.real.wrap .i64 (1 + ((m % ((ub n).length - 1) : Nat) : Int)) = ((1 + m % ((ub n).length - 1) : Nat) : Int) := by rw [rw_wrap, wi64 (by omega) (by omega)]; omega
      have d3 : decide ((((ub n).length - 1 : Nat) : Int) = 0) = false := by rw [decide_eq_false_iff_not]; omega
      have d4 : decide ((0 : Int) ≤ ((1 + m % ((ub n).length - 1) : Nat) : Int) ∧ ((1 + m % ((ub n).length - 1) : Nat) : Int) ≤ ((ub n).length : Int)) = true := by rw [decide_eq_true_eq]; omega
      simp only [d2, w1, w2, t, w3, d3, d4, Int.toNat_natCast]
      have hb := ub_byts hn
      have hbd : ∀ x ∈ (ub n).drop (1 + m % ((ub n).length - 1)), 0 ≤ x ∧ x < 256 := fun x hx => hb x (List.mem_of_mem_drop hx)
      have d5 := bytesB_iff.2 hbd
      have d6 : decide (((ub n).drop (1 + m % ((ub n).length - 1))).length ≤ 1000000) = true := by rw [decide_eq_true_eq, List.length_drop]; omega
      have ti := takeU_inside hn (k := 1 + m % ((ub n).length - 1)) (by omega) (by omega) []
      rw [List.append_nil] at ti
      have d7 : uE ((ub n).drop (1 + m % ((ub n).length - 1))) = 10 := by simp [uE, ti]
      have hne : (ub n).drop (1 + m % ((ub n).length - 1)) ≠ [] := by
        intro e
        have := congrArg List.length e
        rw [List.length_drop] at this
        simp at this
        omega
      have d8 : rdE ((ub n).drop (1 + m % ((ub n).length - 1))) = 10 := rdE_bad (by rw [valid_step hbd hne, ti])
      simp only [d5, d6, d7, d8]
      rfl

end Go.Proofs.YtnjlfeigcappjaaDoor.V

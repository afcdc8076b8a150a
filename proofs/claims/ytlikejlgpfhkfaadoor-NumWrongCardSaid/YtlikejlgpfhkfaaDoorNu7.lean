/-
  Chapter 05, numbers: the reference, and the calls at the head of all statements.
  It speaks of the pinned program alone; no condition.
-/
import Derived.Test.YtlikejlgpfhkfaaDoorNu6
namespace Go.Proofs.YtlikejlgpfhkfaaDoor.V
open Go
set_option linter.unusedVariables false
set_option linter.unusedSimpArgs false

theorem o_n6 : OOk (On6 Ar.real) := o_n5.add read_ok

theorem accR_val : ∀ (b : List Int) (c : Nat), allDig b = true → accR (c % 18446744073709551616 : Nat) b = ((valF c b % 18446744073709551616 : Nat) : Int)
  | [], c, _ => rfl
  | d :: b, c, h => by
    have hd := allDig_iff.1 h d (by simp)
    have hb : allDig b = true := allDig_iff.2 fun x hx => allDig_iff.1 h x (by simp [hx])
    have ih := accR_val b (10 * c + (d - 48).toNat) hb
    show accR ((10 * ((c % 18446744073709551616 : Nat) : Int) + (d - 48)) % 18446744073709551616) b = _
    rw [show (10 * ((c % 18446744073709551616 : Nat) : Int) + (d - 48)) % 18446744073709551616 = (((10 * c + (d - 48).toNat) % 18446744073709551616 : Nat) : Int) by omega]
    exact ih

theorem accR_step {c : Int} {d : Int} (hc : 0 ≤ c ∧ c < 18446744073709551616) (hd : 48 ≤ d ∧ d ≤ 57) (b : List Int) :
    accR (IntKind.u64.wrap (IntKind.u64.wrap (c * 10) + IntKind.u64.wrap (IntKind.u8.wrap (d - 48)))) b = accR c (d :: b) := by
  rw [wu8 (by omega) (by omega), wu64 (n := d - 48) (by omega) (by omega), wrapu64, wrapu64]
  show _ = accR ((10 * c + (d - 48)) % 18446744073709551616) b
  congr 1
  omega

theorem accR_range (b : List Int) : ∀ c : Int, 0 ≤ c ∧ c < 18446744073709551616 → 0 ≤ accR c b ∧ accR c b < 18446744073709551616 := by
  induction b with
  | nil => intro c h; exact h
  | cons d b ih => intro c h; exact ih ((10 * c + (d - 48)) % 18446744073709551616) (by omega)

theorem ref_loop {b : List Int} {nl : Option Bool} (hb : bytesB b = true) (hl : b.length ≤ 20) : ∀ (m i : Nat) (c : Int), b.length - i = m → i ≤ b.length → 0 ≤ c ∧ c < 18446744073709551616 →
    LoopTo (Cx Ar.real (On6 Ar.real) (Lref Ar.real)) 100 (loopAt Tryd.f10 0) 52 [0, 2, 3, 4, 5] [u8s b nl false, u64x 0, i64x 0, u64x c, i64x i] []
      (bif allDig (b.drop i) then (.exit 0, [u8s b nl false, .dead, .dead, u64x (accR c (b.drop i)), .dead], []) else (.ret, [.dead, u64x 0, i64x 50, .dead, .dead], [])) := by
  intro m
  induction m with
  | zero =>
    intro i c h1 h2 h3
    obtain rfl : i = b.length := by omega
    rw [List.drop_length]
    refine LoopTo.left (by simp) fun k => ⟨_, by rw [lRef, bf (by rw [decide_eq_false_iff_not]; omega)], ?_⟩
    repeat' first | exact Forget.same _ | refine Forget.cons (.inl rfl) ?_ | refine Forget.cons (.inr rfl) ?_
  | succ m ih =>
    intro i c h1 h2 h3
    have hi : i < b.length := by omega
    have g1 : decide ((i : Int) < (b.length : Int)) = true := by rw [decide_eq_true_eq]; omega
    have g2 : decide (0 ≤ (i : Int) ∧ (i : Int) < (b.length : Int)) = true := by rw [decide_eq_true_eq]; omega
    rw [drop_cons hi]
    have ha : allDig (b.getD i 0 :: b.drop (i + 1)) = (isDig (b.getD i 0) && allDig (b.drop (i + 1))) := rfl
    rw [ha]
    by_cases hd : 48 ≤ b.getD i 0 ∧ b.getD i 0 ≤ 57
    · rw [isDig_iff.2 hd, Bool.true_and, ← accR_step h3 hd]
      refine LoopTo.next (fun k => ?_) (ih (i + 1) _ (by omega) (by omega) ?_)
      · rw [lRef, bt g1, bt g2, Int.toNat_natCast, bt (by rw [beq_iff_eq, decide_eq_false_iff_not]; omega), bt g2, bf (by rw [decide_eq_false_iff_not]; omega), bt g2]
        simp only [rw_wrap]
        rw [wi64 (by omega) (by omega)]
        rfl
      · rw [wrapu64]; omega
    · have : isDig (b.getD i 0) = false := by
        rw [Bool.eq_false_iff, Ne, isDig_iff]; exact hd
      rw [this, Bool.false_and, cond_false]
      refine LoopTo.left (by simp) fun k => ?_
      have hf : ∀ (x0 x1 x2 x3 x4 : X), Forget [x0, x1, x2, x3, x4] [.dead, x1, x2, .dead, .dead] := fun x0 x1 x2 x3 x4 => by
        repeat' first | exact Forget.same _ | refine Forget.cons (.inl rfl) ?_ | refine Forget.cons (.inr rfl) ?_
      refine ⟨[u8s b nl false, u64x 0, i64x 50, u64x c, i64x i], ?_, hf _ _ _ _ _⟩
      rw [lRef, bt g1, bt g2, Int.toNat_natCast]
      by_cases h48 : b.getD i 0 < 48
      · rw [bf (by rw [decide_eq_true h48]; rfl)]
      · rw [bt (by rw [beq_iff_eq, decide_eq_false_iff_not]; omega), bt g2, bt (by rw [decide_eq_true_eq]; omega)]

theorem long_none {b : List Int} (h : 20 < b.length) : readN b = none := by
  unfold readN
  rw [if_neg]
  rintro ⟨h1, h2, h3, h4⟩
  unfold canon at h3
  rw [Bool.or_eq_true, decide_eq_true_eq, decide_eq_true_eq] at h3
  rcases h3 with h3 | h3
  · omega
  · cases b with
    | nil => exact h2 rfl
    | cons x b =>
      have hx := allDig_iff.1 h1 x (by simp)
      simp only [List.getD_cons_zero] at h3
      simp only [List.length_cons] at h
      have := valF_ge b (10 * 0 + (x - 48).toNat) (by omega)
      have h5 : val (x :: b) = valF (10 * 0 + (x - 48).toNat) b := rfl
      have h6 : 10 ^ 20 ≤ 10 ^ b.length := Nat.pow_le_pow_right (by omega) (by omega)
      rw [h5] at h4
      omega

theorem ref_ok : OrcOk Tryd.prog 10 (.pure (rdN Ar.real)) := by
  refine pureOk (Cx.ok o_n6 (Lref Ar.real)) mixed 10 Tryd.f10 (by kernel_rfl) (by kernel_rfl) (by kernel_rfl) 100 1 (by kernel_rfl) (fun i h => ?_) fun args r h => ?_
  · obtain rfl : i = 0 := by omega
    refine Tells.mk (key := 5) (by kernel_rfl) rfl fun xs H r h => ?_
    unfold LrefF at h
    split at h
    · rename_i b nl y0 z0 c0 i0
      obtain ⟨y, rfl⟩ : ∃ p : Int, p = y0 := ⟨y0, rfl⟩
      obtain ⟨z, rfl⟩ : ∃ p : Int, p = z0 := ⟨z0, rfl⟩
      obtain ⟨c, rfl⟩ : ∃ p : Int, p = c0 := ⟨c0, rfl⟩
      obtain ⟨i, rfl⟩ : ∃ p : Int, p = i0 := ⟨i0, rfl⟩
      cases hg : Ar.real.se (bytesB b && decide (b.length ≤ 20 ∧ 0 ≤ i ∧ i ≤ b.length ∧ y = 0 ∧ z = 0) && isU64 c) with
      | false => rw [hg] at h; cases h
      | true =>
        rw [hg] at h
        simp only [rw_se, Bool.and_eq_true, decide_eq_true_eq] at hg
        obtain ⟨⟨hb, hl, h1, h2, rfl, rfl⟩, hc⟩ := hg
        obtain ⟨q, rfl⟩ : ∃ q : Nat, i = (q : Int) := Int.eq_ofNat_of_zero_le h1
        have key := ref_loop (nl := nl) hb hl _ q c rfl (by omega) (isU64_iff.1 hc)
        simp only [rw_se, Int.toNat_natCast] at h
        cases hs : allDig (b.drop q) with
        | true =>
          rw [hs, cond_true] at key
          rw [hs] at h
          obtain rfl := (Option.some.inj h).symm
          exact key
        | false =>
          rw [hs, cond_false] at key
          rw [hs] at h
          obtain rfl := (Option.some.inj h).symm
          exact key
    · cases h
  · unfold rdN at h
    split at h
    · rename_i b nl
      obtain ⟨hg, rfl⟩ := Tr.one h
      simp only [rw_se, Bool.and_eq_true, decide_eq_true_eq] at hg
      obtain ⟨hb, hl⟩ := hg
      refine ⟨rfl, rfl, [], ?_⟩
      rw [tRef]
      simp only [rw_se]
      by_cases h0 : b.length = 0
      · rw [bf (by rw [h0]; rfl)]
        obtain rfl := List.eq_nil_of_length_eq_zero h0
        rfl
      · rw [bt (by rw [beq_iff_eq, beq_eq_false_iff_ne]; omega)]
        by_cases h20 : 20 < b.length
        · rw [bt (by rw [decide_eq_true_eq]; omega)]
          obtain ⟨h3, h4⟩ := read_none (long_none h20)
          rw [h3, h4]
        · rw [bf (by rw [decide_eq_false_iff_not]; omega), bt (by rw [hb, Bool.true_and, Bool.and_eq_true, decide_eq_true_eq]; exact ⟨⟨by omega, by omega, by omega, trivial, trivial⟩, rfl⟩)]
          rw [show b.drop (Int.toNat 0) = b from rfl]
          cases hd : allDig b with
          | false =>
            obtain ⟨h3, h4⟩ := read_none (b := b) (by unfold readN; rw [if_neg (fun h => by rw [hd] at h; cases h.1)])
            rw [h3, h4]
            rfl
          | true =>
            have ha := accR_val b 0 hd
            rw [show ((0 % 18446744073709551616 : Nat) : Int) = 0 from rfl] at ha
            have hm : valF 0 b % 18446744073709551616 < 18446744073709551616 := Nat.mod_lt _ (by omega)
            generalize hmm : valF 0 b % 18446744073709551616 = m at ha hm
            rw [cond_true, ha, Int.toNat_natCast, bt (by rw [isU64_iff]; omega), seq_str (bytesB_iff.1 (digs_bytes m)) (bytesB_iff.1 hb)]
            have hbne : b ≠ [] := fun e => h0 (by rw [e]; rfl)
            by_cases he : digs m = b
            · rw [bt (by simp [he])]
              have hv : val b = m := by rw [← he, digs_val m (by omega)]
              by_cases hmax : m = 18446744073709551615
              · rw [bt (by rw [beq_iff_eq]; omega)]
                obtain ⟨h3, h4⟩ := read_none (b := b) (by unfold readN; rw [if_neg (fun h => by omega)])
                rw [h3, h4]
              · rw [bf (by rw [beq_eq_false_iff_ne]; omega)]
                obtain ⟨h3, h4⟩ := read_some (b := b) (n := m) (by rw [← he]; exact readN_digs (by omega))
                rw [h3, h4]
            · rw [bf (by simp [he])]
              obtain ⟨h3, h4⟩ := read_none (b := b) (by
                cases hr : readN b with
                | none => rfl
                | some n =>
                  exfalso
                  obtain ⟨k1, k2⟩ := readN_some hr
                  apply he
                  have hv : val b = n := by rw [← k2, digs_val n (by omega)]
                  have : n = m := by
                    have h5 : valF 0 b = n := hv
                    omega
                  rw [← this, k2])
              rw [h3, h4]
    · cases h

end Go.Proofs.YtlikejlgpfhkfaaDoor.V

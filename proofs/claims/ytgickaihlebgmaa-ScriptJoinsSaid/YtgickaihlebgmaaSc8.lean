/-
  Chapter 23: texts, numbers and commands are taken.
  It speaks of the pinned program alone; no condition.
-/
import Derived.Test.YtgickaihlebgmaaSc7
namespace Go.Proofs.Ytgickaihlebgmaa.V
open Go
set_option linter.unusedVariables false
set_option linter.unusedSimpArgs false

theorem tkS_facts {m : Nat} {b : List Int} {ok : Bool} (hb : Byts b) : Byts (tkS m b ok).2.1 ∧ (tkS m b ok).2.1.length ≤ b.length ∧ (tkS m b ok).1 ≤ m := by
  unfold tkS
  cases hv : takeV b with
  | none => exact ⟨hb, Nat.le_refl _, Nat.zero_le _⟩
  | some p =>
    obtain ⟨n, s⟩ := p
    obtain ⟨f1, f2, f3⟩ := takeV_byts hb hv
    simp only
    cases hc : (ok && decide (n ≤ m))
    · exact ⟨hb, Nat.le_refl _, Nat.zero_le _⟩
    · rw [Bool.and_eq_true, decide_eq_true_eq] at hc
      exact ⟨f1, by simp only [cond_true]; omega, hc.2⟩
theorem ttS_facts {b : List Int} {ok : Bool} (hb : Byts b) : Byts (ttS b ok).2.1 ∧ (ttS b ok).2.1.length ≤ b.length := by
  obtain ⟨f1, f2, f3⟩ := tkS_facts (m := b.length) (ok := ok) hb
  unfold ttS
  cases hc : ((tkS b.length b ok).2.2 && decide ((tkS b.length b ok).1 ≤ (tkS b.length b ok).2.1.length))
  · exact ⟨f1, f2⟩
  · refine ⟨fun x hx => f1 x (List.mem_of_mem_drop hx), ?_⟩
    simp only [cond_true, List.length_drop]
    omega

theorem tk_none {b : List Int} (h : takeV b = none) : tkE b = 130 ∧ tkR b = [] ∧ tkB b = false ∧ tkN b = 0 := by simp [tkE, tkR, tkB, tkN, h]
theorem tk_some {b s : List Int} {n : Nat} (h : takeV b = some (n, s)) : tkE b = 0 ∧ tkR b = s ∧ tkB b = true ∧ tkN b = n := by simp [tkE, tkR, tkB, tkN, h]
theorem gT {b : List Int} {nl : Option Bool} (h1 : b.length ≤ 10000000) (h2 : Byts b) (h3 : nlO nl b = true) : (decide (b.length ≤ 100000000) && (bytesB b && nlO nl b)) = true := by
  rw [decide_eq_true (by omega), bytesB_iff.2 h2, h3]; rfl
theorem byts_nil : Byts [] := fun x hx => by cases hx

theorem numbers_ok : OrcOk Try.prog 34 (.pure (rnumbersF Ar.real)) := by
  refine pureOk (Cx.ok o_sc3 noL) mixed 34 Try.f34 (by kernel_rfl) (by kernel_rfl) (by kernel_rfl) 100 0 (by kernel_rfl) (fun i h => by omega) fun args r h => ?_
  unfold rnumbersF at h
  split at h
  · rename_i c b nl
    rw [run_test] at h
    simp only [rw_se] at h
    by_cases hg : (decide (b.length ≤ 10000000) && (bytesB b && nlO nl b)) = true
    · rw [bt hg, run_test, run_give, run_give] at h
      simp only [Bool.and_eq_true, decide_eq_true_eq] at hg
      obtain ⟨h1, h2, h3⟩ := hg
      have hB := bytesB_iff.1 h2
      have tree := tNumbers Ar.real c b nl
      simp only [rw_se, rw_wrap] at tree
      have n0 : takeV [] = none := rfl
      obtain ⟨z1, z2, z3, z4⟩ := tk_none n0
      rw [bt (gT h1 hB h3)] at tree
      have fin : ∀ r0 H0, bodyX (Cx Ar.real (Osc3 Ar.real) noL) 100 Try.f34 [cmx c, .sl (.int .u8) b nl false] [] = some (r0, H0) → (resB r0 = true) → r0 = r → argsB [cmx c, X.sl (.int .u8) b nl false] = true ∧ resB r = true ∧ ∃ H', bodyX (Cx Ar.real (Osc3 Ar.real) noL) 100 Try.f34 [cmx c, .sl (.int .u8) b nl false] [] = some (r, H') := by
        rintro r0 H0 q1 q2 rfl
        exact ⟨rfl, q2, H0, q1⟩
      cases hv : takeV b with
      | none =>
        obtain ⟨e1, e2, e3, e4⟩ := tk_none hv
        have en : numT b = none := by simp [numT, oneNums, show nm 5 = 3 from rfl, takeM, hv]
        rw [en] at h
        cases h
        rw [e1, e2, e3, e4, z2, z3, bt (by rfl), bt (by rfl), bf (by rfl)] at tree
        exact fin _ _ tree rfl rfl
      | some p =>
        obtain ⟨n1, s1⟩ := p
        obtain ⟨e1, e2, e3, e4⟩ := tk_some hv
        obtain ⟨f1, f2, f3⟩ := takeV_byts hB hv
        rw [e1, e2, e3, e4, bt (gT (by omega) f1 rfl)] at tree
        cases hv2 : takeV s1 with
        | none =>
          obtain ⟨e1, e2, e3, e4⟩ := tk_none hv2
          have m2 : takeM 18446744073709551615 s1 = none := by simp [takeM, hv2]
          have en : numT b = none := by
            by_cases q : n1 ≤ 9223372036854775807
            · have m1 : takeM 9223372036854775807 b = some (n1, s1) := by simp [takeM, hv, q]
              simp only [numT, oneNums, show nm 5 = 3 from rfl, if_true, m1, m2]
            · have m1 : takeM 9223372036854775807 b = none := by simp [takeM, hv]; omega
              simp only [numT, oneNums, show nm 5 = 3 from rfl, if_true, m1]
          rw [en] at h
          cases h
          rw [e1, e2, e3, e4, bt (by rfl), bt (by rfl), bf (by rfl)] at tree
          exact fin _ _ tree rfl rfl
        | some p =>
          obtain ⟨n2, s2⟩ := p
          obtain ⟨e1, e2, e3, e4⟩ := tk_some hv2
          obtain ⟨g1, g2, g3⟩ := takeV_byts f1 hv2
          rw [e1, e2, e3, e4, bt (gT (by omega) g1 rfl)] at tree
          have m2 : takeM 18446744073709551615 s1 = some (n2, s2) := by simp [takeM, hv2]; omega
          cases hv3 : takeV s2 with
          | none =>
            obtain ⟨e1, e2, e3, e4⟩ := tk_none hv3
            have m3 : takeM 9223372036854775807 s2 = none := by simp [takeM, hv3]
            have en : numT b = none := by
              by_cases q : n1 ≤ 9223372036854775807
              · have m1 : takeM 9223372036854775807 b = some (n1, s1) := by simp [takeM, hv, q]
                simp only [numT, oneNums, show nm 5 = 3 from rfl, if_true, m1, m2, m3]
              · have m1 : takeM 9223372036854775807 b = none := by simp [takeM, hv]; omega
                simp only [numT, oneNums, show nm 5 = 3 from rfl, if_true, m1]
            rw [en] at h
            cases h
            rw [e1, e2, e3, e4, bt (by rfl), bt (by rfl), bf (by rfl)] at tree
            exact fin _ _ tree rfl rfl
          | some p =>
            obtain ⟨n3, s3⟩ := p
            obtain ⟨e1, e2, e3, e4⟩ := tk_some hv3
            obtain ⟨k1, k2, k3⟩ := takeV_byts g1 hv3
            rw [e1, e2, e3, e4, bt (by rfl), bt (by rfl), bt (by rfl)] at tree
            by_cases q : n1 ≤ 9223372036854775807
            · have m1 : takeM 9223372036854775807 b = some (n1, s1) := by simp [takeM, hv, q]
              rw [bt (by rw [beq_iff_eq, decide_eq_false_iff_not]; omega)] at tree
              by_cases q3 : n3 ≤ 9223372036854775807
              · have m3 : takeM 9223372036854775807 s2 = some (n3, s3) := by simp [takeM, hv3, q3]
                have en : numT b = some ((n1 : Int), (n2 : Int), (n3 : Int), s3) := by
                  simp only [numT, oneNums, show nm 5 = 3 from rfl, if_true, m1, m2, m3]
                rw [en] at h
                cases h
                rw [bnd (by omega), wi64 (n := (n1 : Int)) (by omega) (by omega), wi64 (n := (n3 : Int)) (by omega) (by omega)] at tree
                exact fin _ _ tree rfl rfl
              · have m3 : takeM 9223372036854775807 s2 = none := by simp [takeM, hv3]; omega
                have en : numT b = none := by
                  simp only [numT, oneNums, show nm 5 = 3 from rfl, if_true, m1, m2, m3]
                rw [en] at h
                cases h
                rw [bd (by omega)] at tree
                exact fin _ _ tree rfl rfl
            · have m1 : takeM 9223372036854775807 b = none := by simp [takeM, hv]; omega
              have en : numT b = none := by simp only [numT, oneNums, show nm 5 = 3 from rfl, if_true, m1]
              rw [en] at h
              cases h
              rw [bf (by rw [decide_eq_true (by omega)]; rfl)] at tree
              exact fin _ _ tree rfl rfl
    · rw [bf (by simpa using hg)] at h
      cases h
  · cases h

theorem o_sc4 : OOk (Osc4 Ar.real) := ((((o_sc3.add write_ok).add rwrite_ok).add take23_ok).add rtakeText_ok).add numbers_ok

theorem takeText0_ok : OrcOk Try.prog 31 (.eff (takeTextE0 Ar.real)) := by
  refine effWk (Cx.ok o_sc4 noL) mixed 31 Try.f31 (by kernel_rfl) (by kernel_rfl) (by kernel_rfl) 100 0 (by kernel_rfl) (fun i h => by omega) fun args H r H' h => ?_
  unfold takeTextE0 at h
  split at h
  · rename_i b ok c H
    obtain ⟨hg, e⟩ := Tr.one h
    cases e
    simp only [rw_se, Bool.and_eq_true, decide_eq_true_eq] at hg
    obtain ⟨h1, h2⟩ := hg
    refine ⟨own_ptr (by simp), ?_⟩
    have hB := bytesB_iff.1 h2
    obtain ⟨f1, f2, f3⟩ := tkS_facts (m := b.length) (ok := ok) hB
    have tree := tTakeText Ar.real b ok c H
    simp only [rw_se, rw_wrap] at tree ⊢
    rw [wu64 (n := (b.length : Int)) (by omega) (by omega), Int.toNat_natCast] at tree
    unfold ttS
    generalize hT : tkS b.length b ok = T at tree f1 f2 f3 ⊢
    obtain ⟨n, s, v⟩ := T
    dsimp only at tree f1 f2 f3 ⊢
    rw [bt (by rw [Bool.and_eq_true, Bool.and_eq_true, decide_eq_true_eq, isU64_iff]; exact ⟨by omega, h2, by omega, by omega⟩), wu64 (n := (s.length : Int)) (by omega) (by omega), Int.toNat_natCast] at tree
    cases v
    · rw [bf (by rfl)] at tree
      exact ⟨_, _, tree, .inl (.sl (.inl rfl) id), HWeak.head rfl, by simp, .inl rfl⟩
    · rw [bt (by rfl)] at tree
      by_cases hn : n ≤ s.length
      · have e5 : decide ((n : Int) ≤ (s.length : Int)) = true := by rw [decide_eq_true_eq]; omega
        rw [e5, bf (by rfl), bd (by omega), bt (by rw [Bool.and_eq_true, decide_eq_true_eq, List.length_take]; exact ⟨by omega, rfl⟩), bd (by omega)] at tree
        have e6 : decide (n ≤ s.length) = true := decide_eq_true hn
        rw [e6]
        exact ⟨_, _, tree, .inl (.same _), HWeak.head rfl, by simp, .inl rfl⟩
      · have e5 : decide ((n : Int) ≤ (s.length : Int)) = false := by rw [decide_eq_false_iff_not]; omega
        rw [e5, bt (by rfl)] at tree
        have e6 : decide (n ≤ s.length) = false := decide_eq_false hn
        rw [e6]
        exact ⟨_, _, tree, .inl (.sl (.inl rfl) id), HWeak.head rfl, by simp, .inl rfl⟩
  · cases h
theorem takeText_ok : OrcOk Try.prog 31 (.eff (takeTextE Ar.real)) := canonR_ok takeText0_ok


end Go.Proofs.Ytgickaihlebgmaa.V

/-
  Chapter 01, utf: bytes are read as signs as they tell.
  It speaks of the pinned program alone; no condition.
-/
import Derived.Test.YtnjlfeigcappjaaDoorUt11
namespace Go.Proofs.YtnjlfeigcappjaaDoor.V
open Go
set_option linter.unusedVariables false
set_option linter.unusedSimpArgs false

def resV (b : List Int) : Ex × List X × Hp := bif validU b then (.exit 0, [.dead, .dead], []) else (.ret, [.dead, boolx false], [])

theorem hs_weak (lo hi : Int) : HWeak (HS lo hi) [] := HWeak.of trivial rfl

theorem valid_tk {c : Int} {s : List Int} (hy : ∀ x ∈ (c :: s), 0 ≤ x ∧ x < 256) : validU (c :: s) = match tk (c :: s) with
    | some (_, k) => validU ((c :: s).drop k.toNat)
    | none => false := by
  rw [valid_step hy (by simp)]
  unfold tk
  cases ht : takeU (c :: s) with
  | none => rfl
  | some p =>
    obtain ⟨n, r⟩ := p
    obtain ⟨_, h2, _⟩ := try_of hy ht
    obtain ⟨_, h3⟩ := takeU_some hy ht
    have e : (((c :: s).length : Int) - (r.length : Int)).toNat = (ub n).length := by omega
    simp only [e]
    congr 1
    conv => rhs; rw [h3]
    simp

theorem tk_pos {c : Int} {s : List Int} (hy : ∀ x ∈ (c :: s), 0 ≤ x ∧ x < 256) {n k : Int} (h : tk (c :: s) = some (n, k)) : 1 ≤ k.toNat := by
  unfold tk at h
  cases ht : takeU (c :: s) with
  | none => rw [ht] at h; cases h
  | some p =>
    obtain ⟨n', r⟩ := p
    rw [ht] at h
    obtain ⟨_, h2, _⟩ := try_of hy ht
    have := ub_pos n'
    simp only [Option.some.injEq, Prod.mk.injEq] at h
    omega

theorem loopValA (nl : Option Bool) : ∀ (n : Nat) (b : List Int) (x : Bool), b.length ≤ n → b.length ≤ 1000000 → (∀ x ∈ b, 0 ≤ x ∧ x < 256) →
    LoopTo (Cx Ar.real (Out7 Ar.real) (Lval Ar.real)) 100 (loopAt Tryd.f24 0) 188 [0, 2] [u8s b nl false, boolx x] [] (resV b) := by
  intro n
  induction n with
  | zero =>
    intro b x hl h6 hy
    have : b = [] := by cases b with | nil => rfl | cons _ _ => simp at hl
    subst this
    refine LoopTo.left (by simp [resV, valid_nil]) fun k => ?_
    rw [lValA, bf (by decide)]
    exact ⟨_, rfl, forget_dead _ 2⟩
  | succ n ih =>
    intro b x hl h6 hy
    cases b with
    | nil =>
      refine LoopTo.left (by simp [resV, valid_nil]) fun k => ?_
      rw [lValA, bf (by decide)]
      exact ⟨_, rfl, forget_dead _ 2⟩
    | cons c s =>
      have hc := hy c (by simp)
      have hs : ∀ x ∈ s, 0 ≤ x ∧ x < 256 := fun x hx => hy x (by simp [hx])
      simp only [List.length_cons] at hl h6
      by_cases h128 : c < 128
      · -- below 128
        have hv := valid_asc1 hy h128
        have rv : ∀ b', validU b' = validU s → resV b' = resV (c :: s) := fun b' h => by unfold resV; rw [hv, h]
        have hl1 : (((c :: s).length : Nat) : Int) = (s.length : Int) + 1 := by simp
        have hds : ∀ m : Nat, ∀ x ∈ s.drop m, 0 ≤ x ∧ x < 256 := fun m x hx => hs x (List.mem_of_mem_drop hx)
        have gw : ∀ m : Nat, m + 8 ≤ s.length → (bytesB (s.drop m) && decide (8 ≤ (s.drop m).length)) = true := by
          intro m hm
          rw [bytesB_iff.2 (hds m), Bool.true_and, decide_eq_true_eq, List.length_drop]
          omega
        have step : ∀ (R : Type) (k : Ex → List X → Hp → Option R), stepF (Cx Ar.real (Out7 Ar.real) (Lval Ar.real)) 100 (loopAt Tryd.f24 0) 188 [0, 2] [u8s (c :: s) nl false, boolx x] [] k =
            bif decide (8 < s.length) && asc (s.take 8) then
              (bif decide (24 < s.length) && (asc ((s.drop 8).take 8) && asc ((s.drop 16).take 8)) then k .normal [u8s (sk32 (s.drop 24).length (s.drop 24)) nl false, boolx x] []
               else k .normal [u8s (s.drop 8) nl false, boolx x] [])
            else k .normal [u8s s nl false, boolx x] [] := by
          intro R k
          rw [lValA]
          simp only [rw_se, show Int.toNat 0 = 0 from rfl, show Int.toNat 1 = 1 from rfl, show Int.toNat 8 = 8 from rfl, show Int.toNat 16 = 16 from rfl, List.getD_cons_zero, List.drop_succ_cons, List.drop_zero, hl1, List.drop_drop]
          rw [bt (by rw [decide_eq_true_eq]; omega), bt (by rw [decide_eq_true_eq]; omega), bt (decide_eq_true h128), bt (by rw [decide_eq_true_eq]; omega)]
          by_cases h8 : 8 < s.length
          · rw [decide_eq_true h8, Bool.true_and]
            rw [bt (by rw [decide_eq_true (by omega)]; rfl)]
            have g0 := gw 0 (by omega)
            rw [List.drop_zero] at g0
            have t1 := word_test (take_bytes hs 0 8) (take_len 0 (by omega))
            rw [List.drop_zero] at t1
            rw [bt g0, t1]
            cases ha : asc (s.take 8) with
            | false => rfl
            | true =>
              simp only [cond_true]
              have hl8 : (((s.drop 8).length : Nat) : Int) = (s.length : Int) - 8 := by rw [List.length_drop]; omega
              simp only [hl8]
              rw [bt (by rw [decide_eq_true_eq]; omega)]
              by_cases h24 : 24 < s.length
              · rw [decide_eq_true h24, Bool.true_and]
                rw [bt (by rw [decide_eq_true (by omega)]; rfl), bt (gw 8 (by omega)), bt (by rw [decide_eq_true_eq]; omega), bt (gw 16 (by omega))]
                have t2 := word2_test (take_bytes hs 8 8) (take_len 8 (by omega)) (take_bytes hs 16 8) (take_len 16 (by omega))
                rw [t2]
                cases hb : (asc ((s.drop 8).take 8) && asc ((s.drop 16).take 8)) with
                | false => rfl
                | true =>
                  simp only [cond_true]
                  rw [bt (by rw [decide_eq_true_eq]; omega), bt (by rw [bytesB_iff.2 (hds _), Bool.true_and, decide_eq_true_eq, List.length_drop]; omega)]
              · rw [decide_eq_false h24, Bool.false_and, cond_false]
                rw [bf (by rw [decide_eq_false (by omega)]; rfl)]
          · rw [decide_eq_false h8, Bool.false_and, cond_false]
            rw [bf (by rw [decide_eq_false (by omega)]; rfl)]
        cases c1 : (decide (8 < s.length) && asc (s.take 8)) with
        | false =>
          rw [← rv s rfl]
          refine LoopTo.next (fun k => ?_) (ih s x (by omega) (by omega) hs)
          rw [step, c1]
          rfl
        | true =>
          rw [Bool.and_eq_true] at c1
          have v8 := valid_asc 8 s hs c1.2
          cases c2 : (decide (24 < s.length) && (asc ((s.drop 8).take 8) && asc ((s.drop 16).take 8))) with
          | false =>
            rw [← rv (s.drop 8) v8.symm]
            refine LoopTo.next (fun k => ?_) (ih (s.drop 8) x (by rw [List.length_drop]; omega) (by rw [List.length_drop]; omega) (hds 8))
            rw [step, c1.1, c1.2, c2]
            rfl
          | true =>
            rw [Bool.and_eq_true, Bool.and_eq_true] at c2
            have v16 := valid_asc 8 (s.drop 8) (hds 8) c2.2.1
            rw [List.drop_drop] at v16
            have v24 := valid_asc 8 (s.drop 16) (hds 16) c2.2.2
            rw [List.drop_drop] at v24
            obtain ⟨p1, p2, p3⟩ := sk32_props (s.drop 24).length (s.drop 24) (hds 24)
            have hld : (s.drop 24).length = s.length - 24 := List.length_drop
            rw [← rv (sk32 (s.drop 24).length (s.drop 24)) (p2.trans (v24.symm.trans (v16.symm.trans v8.symm)))]
            refine LoopTo.next (fun k => ?_) (ih (sk32 (s.drop 24).length (s.drop 24)) x (by omega) (by omega) p1)
            rw [step, c1.1, c1.2, c2.1, c2.2.1, c2.2.2]
            rfl
      · -- from 128 on
        obtain ⟨m, rfl⟩ := Int.eq_ofNat_of_zero_le hc.1
        have hf := first_at hc.1 hc.2
        rw [Int.toNat_natCast] at hf
        have fin : ∀ (lo hi : Int), (∀ (R : Type) (k : Ex → List X → Hp → Option R), stepF (Cx Ar.real (Out7 Ar.real) (Lval Ar.real)) 100 (loopAt Tryd.f24 0) 188 [0, 2] [u8s ((m : Int) :: s) nl false, boolx x] [] k =
            match tk ((m : Int) :: s) with
            | some (_, n) => k .normal [u8s (((m : Int) :: s).drop n.toNat) nl false, boolx x] (HS lo hi)
            | none => k .ret [u8s ((m : Int) :: s) nl false, boolx false] (HS lo hi)) →
            LoopTo (Cx Ar.real (Out7 Ar.real) (Lval Ar.real)) 100 (loopAt Tryd.f24 0) 188 [0, 2] [u8s ((m : Int) :: s) nl false, boolx x] [] (resV ((m : Int) :: s)) := by
          intro lo hi step
          have hv := valid_tk hy
          cases ht : tk ((m : Int) :: s) with
          | none =>
            rw [ht] at hv
            have : resV ((m : Int) :: s) = (.ret, [.dead, boolx false], []) := by unfold resV; rw [hv]; rfl
            rw [this]
            refine LoopTo.end (ys := [u8s ((m : Int) :: s) nl false, boolx false]) (by simp) (fun k => ?_) (Forget.cons (.inl rfl) (Forget.same _)) (hs_weak lo hi) (by simp) (.inr rfl)
            rw [step, ht]
          | some p =>
            obtain ⟨v, n'⟩ := p
            rw [ht] at hv
            have hp := tk_pos hy ht
            have : resV ((m : Int) :: s) = resV (((m : Int) :: s).drop n'.toNat) := by unfold resV; rw [hv]
            rw [this]
            refine LoopTo.weak (ys := [u8s (((m : Int) :: s).drop n'.toNat) nl false, boolx x]) (fun k => ?_) (Forget.same _) (hs_weak lo hi) (by simp) (.inr rfl) (ih (((m : Int) :: s).drop n'.toNat) x (by rw [List.length_drop, List.length_cons]; omega) (by rw [List.length_drop, List.length_cons]; omega) (fun x hx => hy x (List.mem_of_mem_drop hx)))
            rw [step, ht]
        have go : ∀ (v lo hi sz idx : Int), fx m = v → Ar.real.wrap .i64 (Ar.real.wrap .u8 (Ar.real.band 8 v 7)) = sz → (sz = 2 ∨ sz = 3 ∨ sz = 4) → Int.fdiv v (Ar.real.p2 4 8) = idx → (0 ≤ idx ∧ idx < 16) →
            List.getD acceptT idx.toNat (Ty.zero (.struct (.prod (.int .u8) (.prod (.int .u8) .unit)))) = (lo, hi, ()) → (bif decide ((s.length : Int) + 1 < sz) then none else slowV m s lo hi sz) = tk ((m : Int) :: s) →
            LoopTo (Cx Ar.real (Out7 Ar.real) (Lval Ar.real)) 100 (loopAt Tryd.f24 0) 188 [0, 2] [u8s ((m : Int) :: s) nl false, boolx x] [] (resV ((m : Int) :: s)) := by
          intro v lo hi sz idx e1 e3 e4 e5 e6 e7 e8
          refine fin lo hi fun R k => ?_
          rw [valA_hi R k m s nl x v lo hi sz idx hc (by omega) (by rw [Int.toNat_natCast, hf, e1]) e3 e4 e5 e6 e7, e8]
          cases tk ((m : Int) :: s) <;> rfl
        have bad : fx m = 241 → none = tk ((m : Int) :: s) → LoopTo (Cx Ar.real (Out7 Ar.real) (Lval Ar.real)) 100 (loopAt Tryd.f24 0) 188 [0, 2] [u8s ((m : Int) :: s) nl false, boolx x] [] (resV ((m : Int) :: s)) := by
          intro e1 e2
          refine fin 0 0 fun R k => ?_
          rw [valA_bad R k m s nl x hc (by omega) (by rw [Int.toNat_natCast, hf, e1]), ← e2]
        have n1 : ¬ m < 128 := by omega
        by_cases c1 : m < 194
        · exact bad (by simp [fx, n1, c1]) (clsBad _ _ (.inl (by omega)) hs)
        by_cases c2 : m < 224
        · exact go 2 128 191 2 0 (by simp [fx, n1, c1, c2]) (by decide) (by decide) (by decide) (by decide) rfl (cls2 _ _ (by omega) hs)
        by_cases c3 : m = 224
        · exact go 19 160 191 3 1 (by simp [fx, n1, c1, c2, c3]) (by decide) (by decide) (by decide) (by decide) rfl (cls3 _ _ _ _ (by omega) hs)
        by_cases c4 : m = 237
        · exact go 35 128 159 3 2 (by simp [fx, n1, c1, c2, c3, c4]) (by decide) (by decide) (by decide) (by decide) rfl (cls3 _ _ _ _ (by omega) hs)
        by_cases c5 : m < 240
        · exact go 3 128 191 3 0 (by simp [fx, n1, c1, c2, c3, c4, c5]) (by decide) (by decide) (by decide) (by decide) rfl (cls3 _ _ _ _ (by omega) hs)
        by_cases c6 : m = 240
        · exact go 52 144 191 4 3 (by simp [fx, n1, c1, c2, c3, c4, c5, c6]) (by decide) (by decide) (by decide) (by decide) rfl (cls4 _ _ _ _ (by omega) hs)
        by_cases c7 : m < 244
        · exact go 4 128 191 4 0 (by simp [fx, n1, c1, c2, c3, c4, c5, c6, c7]) (by decide) (by decide) (by decide) (by decide) rfl (cls4 _ _ _ _ (by omega) hs)
        by_cases c8 : m = 244
        · exact go 68 128 143 4 4 (by simp [fx, n1, c1, c2, c3, c4, c5, c6, c7, c8]) (by decide) (by decide) (by decide) (by decide) rfl (cls4 _ _ _ _ (by omega) hs)
        exact bad (by simp [fx, n1, c1, c2, c3, c4, c5, c6, c7, c8]) (clsBad _ _ (.inr (by omega)) hs)

theorem valid_ok : OrcOk Tryd.prog 24 (.pure (validF Ar.real)) := by
  refine pureOk (Cx.ok o_ut7 (Lval Ar.real)) mixed 24 Tryd.f24 (by kernel_rfl) (by kernel_rfl) (by kernel_rfl) 100 2 (by kernel_rfl) (fun i h => ?_) fun args r h => ?_
  · have hi : i = 0 ∨ i = 1 := by omega
    rcases hi with rfl | rfl
    · refine Tells.mk (key := 2) (N := 188) (ks := [0, 2]) (F := LvalAF Ar.real) (by kernel_rfl) rfl fun xs H r h => ?_
      unfold LvalAF at h
      split at h
      · rename_i b nl x
        replace h : (Tr.test (bytesB b && decide (b.length ≤ 1000000)) (.test (validU b) _ _) .no).run some = some r := h
        have hg : (bytesB b && decide (b.length ≤ 1000000)) = true := by
          cases hc : (bytesB b && decide (b.length ≤ 1000000))
          · rw [hc] at h; cases h
          · rfl
        rw [hg] at h
        simp only [Bool.and_eq_true, decide_eq_true_eq, bytesB_iff] at hg
        have key := loopValA nl b.length b x (Nat.le_refl _) hg.2 hg.1
        unfold resV at key
        cases ha : validU b <;> rw [ha] at h key
        · cases h; exact key
        · cases h; exact key
      · cases h
    · refine Tells.mk (key := 10) (N := 188) (ks := [0, 2]) (F := LvalBF Ar.real) (by kernel_rfl) rfl fun xs H r h => ?_
      unfold LvalBF at h
      split at h
      · rename_i b nl x
        obtain ⟨hg, rfl⟩ := Tr.one h
        rw [rw_se, Bool.and_eq_true, decide_eq_true_eq, bytesB_iff] at hg
        exact loopValB nl x b.length b (Nat.le_refl _) hg.1
      · cases h
  · unfold validF at h
    split at h
    · rename_i b nl
      obtain ⟨hg, rfl⟩ := Tr.one h
      rw [rw_se] at hg
      refine ⟨rfl, rfl, [], ?_⟩
      rw [tValid]
      simp only [rw_se, Int.toNat_natCast, List.take_length]
      rw [bt (by rw [decide_eq_true_eq]; omega), bt (by rw [decide_eq_true_eq]; omega), bt hg]
      cases validU b <;> rfl
    · cases h

end Go.Proofs.YtnjlfeigcappjaaDoor.V

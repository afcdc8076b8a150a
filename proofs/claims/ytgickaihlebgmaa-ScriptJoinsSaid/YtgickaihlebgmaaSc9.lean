/-
  Chapter 23: commands are taken, one and many.
  It speaks of the pinned program alone; no condition.
-/
import Derived.Test.YtgickaihlebgmaaSc8
namespace Go.Proofs.Ytgickaihlebgmaa.V
open Go
set_option linter.unusedVariables false
set_option linter.unusedSimpArgs false

theorem gR {b : List Int} {nl : Option Bool} (h1 : b.length ≤ 10000000) (h2 : Byts b) (h3 : nlO nl b = true) : (decide (b.length ≤ 10000000) && (bytesB b && nlO nl b)) = true := by
  rw [decide_eq_true h1, bytesB_iff.2 h2, h3]; rfl
theorem tt_some {b x r : List Int} (h : takeT b = some (x, r)) : ttA b = x ∧ ttR b = r := by simp [ttA, ttR, h]

theorem one23_ok : OrcOk Try.prog 26 (.pure (roneF Ar.real)) := by
  refine pureWk (Cx.ok o_sc4 noL) mixed 26 Try.f26 (by kernel_rfl) (by kernel_rfl) (by kernel_rfl) 100 0 (by kernel_rfl) (fun i h => by omega) fun args r h => ?_
  unfold roneF at h
  split at h
  · rename_i b nl
    rw [run_test] at h
    simp only [rw_se] at h
    by_cases hg : (decide (b.length ≤ 10000000 ∧ b ≠ []) && (bytesB b && nlO nl b)) = true
    · rw [bt hg, run_test, run_give, run_give] at h
      simp only [Bool.and_eq_true, decide_eq_true_eq] at hg
      obtain ⟨⟨h1, h0⟩, h2, h3⟩ := hg
      refine ⟨rfl, ?_⟩
      have hB := bytesB_iff.1 h2
      have tree := tOneC Ar.real b nl
      have go : ∀ x H', bodyX (Cx Ar.real (Osc4 Ar.real) noL) 100 Try.f26 [.sl (.int .u8) b nl false] [] = some (x, H') → resB x = true → Wk x r → ∃ x H', bodyX (Cx Ar.real (Osc4 Ar.real) noL) 100 Try.f26 [.sl (.int .u8) b nl false] [] = some (x, H') ∧ resB x = true ∧ Wk x r := fun x H' q1 q2 q3 => ⟨x, H', q1, q2, q3⟩
      cases b with
      | nil => exact absurd rfl h0
      | cons k0 s =>
        obtain ⟨k, ek⟩ : ∃ k : Int, k = k0 := ⟨k0, rfl⟩
        subst ek
        have hk := hB k (by simp)
        have hs : Byts s := fun x hx => hB x (by simp [hx])
        have hl : s.length + 1 ≤ 10000000 := by simpa using h1
        have e1 : List.getD (k :: s) (Int.toNat 0) (0 : Int) = k := rfl
        have e2 : List.drop (Int.toNat 1) (k :: s) = s := rfl
        have e3 : ((k :: s).length : Int) = (s.length : Int) + 1 := by rw [List.length_cons]; omega
        have hn : nlO nl s = true := by
          cases nl with
          | none => rfl
          | some q =>
            cases q
            · rfl
            · have := nlB_nil (show nlB true (k :: s) = true from h3) rfl
              simp at this
        rw [e1, e2, e3] at tree
        simp only [rw_se, rw_wrap] at tree
        rw [wi64 (n := k) (by omega) (by omega), bd (by omega), bd (by omega)] at tree
        have dd : ∀ (c : Cm) (y : X), c = failC (k :: s) → Wk (.tup [cmx c, y, boolx false]) (.tup [cmx (failC (k :: s)), .dead, boolx false]) := fun c y e => .inr ⟨_, _, rfl, rfl, .inr (.inl (by rw [e])), .inl rfl, .same _, trivial⟩
        have fl1 : k ≠ 1 → k ≠ 5 → failC (k :: s) = (k, [], [], 0, 0, 0, ()) := fun q1 q2 => by simp [failC, q1, q2]
        have fl2 : takeT s = none → failC (k :: s) = (k, [], [], 0, 0, 0, ()) := fun q => by simp [failC, ttA, q]
        by_cases ok : 1 ≤ k ∧ k ≤ 5
        · have ho : oneC (k :: s) = match oneTexts k s with
              | some (x, y, b) => match oneNums k b with
                | some (n, m, u, b) => some ((k, x, y, n, m, u, ()), b)
                | none => none
              | none => none := by rw [oneC, if_pos ok]; rfl
          by_cases c3 : k = 3
          · subst c3
            have ho' : oneC (3 :: s) = some ((3, [], [], 0, 0, 0, ()), s) := by rw [ho]; rfl
            rw [ho'] at h
            cases h
            repeat (first | rw [bt (by gd)] at tree | rw [bf (by gd)] at tree)
            exact go _ _ tree rfl (.inr ⟨_, _, rfl, rfl, .same _, .sl (.inl rfl) id, .same _, trivial⟩)
          · have n3 : oneTexts k s = if k = 1 then (match takeT s with
                | some (x, b) => match takeT b with
                  | some (y, b) => some (x, y, b)
                  | none => none
                | none => none) else (match takeT s with
                | some (x, b) => some (x, [], b)
                | none => none) := by
              unfold oneTexts
              rcases tx_cases k with ⟨q, e⟩ | ⟨q, e⟩ | ⟨q1, q2, q3, q4, e⟩
              · rw [e, if_pos rfl, if_pos q]; rfl
              · rw [e, if_neg (by decide), if_pos rfl, if_neg (by omega)]; rfl
              · omega
            have gs := gR (nl := nl) (by omega) hs hn
            cases ht : takeT s with
            | none =>
              have ho' : oneC (k :: s) = none := by
                rw [ho, n3, ht]
                by_cases q : k = 1
                · rw [if_pos q]
                · rw [if_neg q]
              rw [ho'] at h
              cases h
              have a5 : ttA s = [] := by simp [ttA, ht]
              rw [ht, a5] at tree
              by_cases q : k = 1
              · subst q
                rw [bt (by rfl), bt (by rfl), bt (by rfl), bt gs, bf (by rfl)] at tree
                repeat (first | rw [bt (by gd)] at tree | rw [bf (by gd)] at tree)
                exact go _ _ tree rfl (dd _ _ (fl2 ht).symm)
              · rw [bt (by gd), bt (by gd), bt (by gd), bt gs, bf (by rfl)] at tree
                repeat (first | rw [bt (by gd)] at tree | rw [bf (by gd)] at tree)
                exact go _ _ tree rfl (dd _ _ (fl2 ht).symm)
            | some p =>
              obtain ⟨x, s1⟩ := p
              obtain ⟨f1, f2, f3, f4⟩ := takeT_byts hs ht
              obtain ⟨a1, a2⟩ := tt_some ht
              rw [ht, a1, a2] at tree
              have g1 : (decide (s1.length ≤ 10000000) && (bytesB s1 && nlO (some (!(some (x, s1)).isSome)) s1)) = true := gR (by omega) f1 rfl
              by_cases q : k = 1
              · subst q
                rw [bt (by rfl), bt (by rfl), bt (by rfl), bt gs, bt (by rfl), bt (by rfl), bt g1] at tree
                cases ht2 : takeT s1 with
                | none =>
                  have ho' : oneC (1 :: s) = none := by rw [ho, n3, ht, if_pos rfl]; simp only [ht2]
                  rw [ho'] at h
                  cases h
                  have fl3 : failC (1 :: s) = (1, x, [], 0, 0, 0, ()) := by simp [failC, ttA, ht]
                  have a5 : ttA s1 = [] := by simp [ttA, ht2]
                  rw [ht2, a5, bf (by rfl)] at tree
                  exact go _ _ tree rfl (dd _ _ fl3.symm)
                | some p =>
                  obtain ⟨y, s2⟩ := p
                  obtain ⟨a3, a4⟩ := tt_some ht2
                  have ho' : oneC (1 :: s) = some ((1, x, y, 0, 0, 0, ()), s2) := by rw [ho, n3, ht, if_pos rfl]; simp only [ht2]; rfl
                  rw [ho'] at h
                  cases h
                  rw [ht2, a3, a4, bt (by rfl), bf (by rfl)] at tree
                  exact go _ _ tree rfl (.inr ⟨_, _, rfl, rfl, .same _, .sl (.inl rfl) id, .same _, trivial⟩)
              · rw [bt (by gd), bt (by gd), bt (by gd), bt gs, bt (by rfl), bf (by gd), bt (by rfl)] at tree
                by_cases c5 : k = 5
                · subst c5
                  have hnum : oneNums 5 s1 = numT s1 := rfl
                  rw [bt (by rfl), bt g1] at tree
                  cases hn : numT s1 with
                  | none =>
                    have ho' : oneC (5 :: s) = none := by rw [ho, n3, ht, if_neg (by decide)]; simp only [hnum, hn]
                    rw [ho'] at h
                    cases h
                    have fl3 : failC (5 :: s) = (0, [], [], 0, 0, 0, ()) := by simp [failC, ht]
                    rw [hn, bf (by rfl)] at tree
                    exact go _ _ tree rfl (dd _ _ fl3.symm)
                  | some p =>
                    obtain ⟨n, m, u, s2⟩ := p
                    have ho' : oneC (5 :: s) = some ((5, x, [], n, m, u, ()), s2) := by rw [ho, n3, ht, if_neg (by decide)]; simp only [hnum, hn]
                    rw [ho'] at h
                    cases h
                    rw [hn, bt (by rfl)] at tree
                    exact go _ _ tree rfl (.inr ⟨_, _, rfl, rfl, .same _, .sl (.inl rfl) id, .same _, trivial⟩)
                · have ho' : oneC (k :: s) = some ((k, x, [], 0, 0, 0, ()), s1) := by
                    rw [ho, n3, ht, if_neg q]
                    have : oneNums k s1 = some (0, 0, 0, s1) := by
                      unfold oneNums
                      rcases nm_cases k with ⟨_, _⟩ | ⟨_, e⟩
                      · omega
                      · rw [e, if_neg (by decide)]
                    simp only [this]
                  rw [ho'] at h
                  cases h
                  rw [bf (by gd)] at tree
                  exact go _ _ tree rfl (.inr ⟨_, _, rfl, rfl, .same _, .sl (.inl rfl) id, .same _, trivial⟩)
        · have ho' : oneC (k :: s) = none := by rw [oneC, if_neg ok]
          rw [ho'] at h
          cases h
          by_cases k0 : k = 0
          · subst k0
            repeat (first | rw [bt (by gd)] at tree | rw [bf (by gd)] at tree)
            exact go _ _ tree rfl (dd _ _ (fl1 (by omega) (by omega)).symm)
          · repeat (first | rw [bt (by gd)] at tree | rw [bf (by gd)] at tree)
            have e6 : decide (k ≤ 5) = false := by rw [decide_eq_false_iff_not]; omega
            rw [e6] at tree
            exact go _ _ tree rfl (dd _ _ (fl1 (by omega) (by omega)).symm)
    · rw [bf (by simpa using hg)] at h
      cases h
  · cases h

theorem o_sc5 : OOk (Osc5 Ar.real) := (o_sc4.add takeText_ok).add one23_ok

/-! A command, as the program takes it -/
theorem gB {b : List Int} (h1 : b.length ≤ 10000000) (h2 : Byts b) : (decide (b.length ≤ 10000000) && bytesB b) = true := by
  rw [decide_eq_true h1, bytesB_iff.2 h2]; rfl
theorem gM {b : List Int} {m : Int} (h1 : b.length ≤ 10000000) (h2 : Byts b) (h3 : isU64 m = true) : (decide (b.length ≤ 10000000) && (bytesB b && isU64 m)) = true := by
  rw [decide_eq_true h1, bytesB_iff.2 h2, h3]; rfl

theorem nxFg (ys : List X) (a b c : X) : Forget (.ptr 0 [] :: .ptr 1 [] :: a :: b :: c :: ys) (.ptr 0 [] :: .ptr 1 [] :: .dead :: .dead :: .dead :: ys) :=
  Forget.cons (.inr rfl) (Forget.cons (.inr rfl) (Forget.cons (.inl rfl) (Forget.cons (.inl rfl) (Forget.cons (.inl rfl) (Forget.same _)))))

theorem next_tells : Tells (Cx Ar.real (Osc5 Ar.real) (Lnx Ar.real)) 100 (loopAt Try.f25 0) := by
  refine Tells.mk (key := 4) (N := 85) (ks := [0, 3, 51, 52, 53]) (F := LnxF Ar.real) (by kernel_rfl) rfl fun xs H r h => ?_
  unfold LnxF at h
  split at h
  · rename_i b nl o ok c e
    cases h
    exact LoopTo.end (by simp) (fun k => lNext0 Ar.real _ b nl o ok c e k) (nxFg _ _ _ _) (HWeak.head rfl) (by simp) (.inl rfl)
  · rename_i b nl o ok c e
    obtain ⟨hg, rfl⟩ := Tr.one h
    simp only [rw_se] at hg ⊢
    refine LoopTo.weak (fun k => (lNext1 Ar.real _ b nl o ok c e k).trans (bt hg)) (xs' := [.ptr 0 [], .ptr 1 [], .lst [.ptr 0 [1, 1]], i64x 1, i64x 1]) ?_ (HWeak.head rfl) (by simp) (.inl rfl) ?_
    · exact Forget.cons (.inr rfl) (Forget.cons (.inr rfl) (Forget.cons (.inr rfl) (Forget.cons (.inr rfl) (Forget.cons (.inr rfl) (Forget.same _)))))
    · exact LoopTo.end (by simp) (fun k => lNext1b Ar.real _ _ _ _ e k) (nxFg _ _ _ _) (HWeak.refl _) (by simp) (.inl rfl)
  · rename_i b nl o ok c e
    obtain ⟨hg, rfl⟩ := Tr.one h
    simp only [rw_se] at hg ⊢
    have hg2 := hg
    rw [Bool.and_eq_true, decide_eq_true_eq, bytesB_iff] at hg2
    obtain ⟨f1, f2⟩ := ttS_facts (ok := ok) hg2.2
    refine LoopTo.weak (fun k => (lNext2 Ar.real _ b nl o ok c e k).trans (bt hg)) (xs' := [.ptr 0 [], .ptr 1 [], .lst [.ptr 0 [1, 1], .ptr 0 [1, 2]], i64x 2, i64x 1]) ?_ (HWeak.head rfl) (by simp) (.inl rfl) ?_
    · exact Forget.cons (.inr rfl) (Forget.cons (.inr rfl) (Forget.cons (.inr rfl) (Forget.cons (.inr rfl) (Forget.cons (.inr rfl) (Forget.same _)))))
    · refine LoopTo.weak (fun k => (lNext2b Ar.real _ _ _ _ e k).trans (bt (gB (by simp only [rw_se]; omega) f1))) (xs' := [.ptr 0 [], .ptr 1 [], .lst [.ptr 0 [1, 1], .ptr 0 [1, 2]], i64x 2, i64x 2]) ?_ (HWeak.head rfl) (by simp) (.inl rfl) ?_
      · exact Forget.cons (.inr rfl) (Forget.cons (.inr rfl) (Forget.cons (.inr rfl) (Forget.cons (.inr rfl) (Forget.cons (.inr rfl) (Forget.same _)))))
      · exact LoopTo.end (by simp) (fun k => lNext2c Ar.real _ _ _ _ e k) (nxFg _ _ _ _) (HWeak.refl _) (by simp) (.inl rfl)
  · cases h

theorem next_ok : OrcOk Try.prog 25 (.eff (nextE Ar.real)) := by
  refine effOk (Cx.ok o_sc5 (Lnx Ar.real)) mixed 25 Try.f25 (by kernel_rfl) (by kernel_rfl) (by kernel_rfl) 100 1 (by kernel_rfl) (fun i h => ?_) fun args H r H' h => ?_
  · obtain rfl : i = 0 := by omega
    exact next_tells
  · unfold nextE at h
    split at h
    · rename_i b ok c
      obtain ⟨hg, e⟩ := Tr.one h
      cases e
      simp only [rw_se, Bool.and_eq_true, decide_eq_true_eq] at hg
      obtain ⟨⟨h1, h0⟩, h2⟩ := hg
      refine ⟨own_ptr (by simp), ?_⟩
      have hB := bytesB_iff.1 h2
      have tree := tNext Ar.real b ok c
      cases b with
      | nil => exact absurd rfl h0
      | cons k0 s =>
        obtain ⟨k, ek⟩ : ∃ k : Int, k = k0 := ⟨k0, rfl⟩
        subst ek
        have hk := hB k (by simp)
        have hs : Byts s := fun x hx => hB x (by simp [hx])
        have hl : s.length + 1 ≤ 10000000 := by simpa using h1
        have e1 : List.getD (k :: s) (Int.toNat 0) (0 : Int) = k := rfl
        have e2 : List.drop (Int.toNat 1) (k :: s) = s := rfl
        have e3 : ((k :: s).length : Int) = (s.length : Int) + 1 := by rw [List.length_cons]; omega
        rw [e1, e2, e3] at tree
        simp only [rw_se, rw_wrap] at tree ⊢
        rw [wi64 (n := k) (by omega) (by omega), bd (by omega)] at tree
        have gs := gB (by omega) hs
        by_cases c1 : k = 1
        · subst c1
          rw [bt (by rfl), bd (by omega), bt gs] at tree
          exact ⟨_, _, rfl, tree, HWeak.of ⟨rfl, .inl rfl, frontB_nil _⟩ rfl, by simp, .inr rfl⟩
        by_cases c5 : k = 5
        · subst c5
          obtain ⟨f1, f2⟩ := ttS_facts (ok := true) hs
          rw [bf (by rfl), bt (by rfl), bd (by omega), bt gs] at tree
          have t1 : Int.toNat 9223372036854775807 = 9223372036854775807 := rfl
          have t2 : Int.toNat 18446744073709551615 = 18446744073709551615 := rfl
          rw [t1, t2] at tree
          obtain ⟨g1, g2, g3⟩ := tkS_facts (m := 9223372036854775807) (ok := (ttS s true).2.2) f1
          obtain ⟨g4, g5, g6⟩ := tkS_facts (m := 18446744073709551615) (ok := (tkS 9223372036854775807 (ttS s true).2.1 (ttS s true).2.2).2.2) g1
          obtain ⟨g7, g8, g9⟩ := tkS_facts (m := 9223372036854775807) (ok := (tkS 18446744073709551615 (tkS 9223372036854775807 (ttS s true).2.1 (ttS s true).2.2).2.1 (tkS 9223372036854775807 (ttS s true).2.1 (ttS s true).2.2).2.2).2.2) g4
          rw [bt (gM (by omega) f1 rfl), bt (gM (by omega) g1 rfl), bt (gM (by omega) g4 rfl), wi64 (by omega) (by omega), wi64 (by omega) (by omega)] at tree
          exact ⟨_, _, rfl, tree, HWeak.of ⟨rfl, .inr ⟨_, rfl, rfl⟩, frontB_nil _⟩ rfl, by simp, .inr rfl⟩
        by_cases c2 : k = 2
        · subst c2
          rw [bf (by rfl), bf (by rfl), bt (by rfl), bd (by omega), bt gs] at tree
          exact ⟨_, _, rfl, tree, HWeak.of ⟨rfl, .inl rfl, frontB_nil _⟩ rfl, by simp, .inr rfl⟩
        by_cases c4 : k = 4
        · subst c4
          rw [bf (by rfl), bf (by rfl), bt (by rfl), bd (by omega), bt gs] at tree
          exact ⟨_, _, rfl, tree, HWeak.of ⟨rfl, .inl rfl, frontB_nil _⟩ rfl, by simp, .inr rfl⟩
        by_cases c3 : k = 3
        · subst c3
          rw [bf (by rfl), bf (by rfl), bf (by rfl), bt (by rfl), bd (by omega)] at tree
          exact ⟨_, _, rfl, tree, HWeak.of ⟨rfl, .inl rfl, frontB_nil _⟩ rfl, by simp, .inr rfl⟩
        · rw [bnd c1, bnd c5, bnd (by omega), bnd c3, bd (by omega)] at tree
          have en : nxS (k :: s) = ((s, false, ()), (k, [], [], 0, 0, 0, ()), ()) := by
            have hok : okK k = false := by simp only [okK, decide_eq_false_iff_not]; omega
            have ht : ∀ o, nxT k s o = ([], [], s, o) := fun o => by rw [nxT, if_neg c1, if_neg (by omega)]
            have hn : ∀ s o, nxN k s o = (0, 0, 0, s, o) := fun s o => by rw [nxN, if_neg c5]
            simp only [nxS, hok, ht, hn]
          rw [en]
          exact ⟨_, _, rfl, tree, HWeak.of ⟨rfl, .inl rfl, frontB_nil _⟩ rfl, by simp, .inr rfl⟩
    · cases h

theorem o_sc6 : OOk (Osc6 Ar.real) := o_sc5.add next_ok

end Go.Proofs.Ytgickaihlebgmaa.V

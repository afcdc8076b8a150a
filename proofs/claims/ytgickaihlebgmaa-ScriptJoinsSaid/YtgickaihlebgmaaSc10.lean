/-
  Chapter 23: many commands are taken; the checks are awake.
  It speaks of the pinned program alone; no condition.
-/
import Derived.Test.YtgickaihlebgmaaSc9
namespace Go.Proofs.Ytgickaihlebgmaa.V
open Go
set_option linter.unusedVariables false
set_option linter.unusedSimpArgs false

theorem tkS_some {m n : Nat} {b r : List Int} (h : takeM m b = some (n, r)) : tkS m b true = (n, r, true) := by
  unfold takeM at h
  cases hv : takeV b with
  | none => rw [hv] at h; cases h
  | some p =>
    obtain ⟨n', s⟩ := p
    rw [hv] at h
    simp only at h
    split at h
    · rename_i q
      cases h
      simp [tkS, hv, q]
    · cases h
theorem tkS_none {m : Nat} {b : List Int} (h : takeM m b = none) : (tkS m b true).2.2 = false := by
  unfold takeM at h
  cases hv : takeV b with
  | none => simp [tkS, hv]
  | some p =>
    obtain ⟨n', s⟩ := p
    rw [hv] at h
    simp only at h
    split at h
    · cases h
    · rename_i q
      simp [tkS, hv, q]
theorem tkS_false {m : Nat} {b : List Int} : (tkS m b false).2.2 = false := by
  unfold tkS
  split <;> rfl
theorem ttS_some {b x r : List Int} (hb : Byts b) (h : takeT b = some (x, r)) : ttS b true = (x, r, true) := by
  unfold takeT at h
  cases hv : takeV b with
  | none => rw [hv] at h; cases h
  | some p =>
    obtain ⟨n, s⟩ := p
    obtain ⟨f1, f2, f3⟩ := takeV_byts hb hv
    rw [hv] at h
    simp only at h
    split at h
    · rename_i q
      cases h
      have e : tkS b.length b true = (n, s, true) := tkS_some (by unfold takeM; rw [hv]; simp only; rw [if_pos (by omega)])
      unfold ttS
      rw [e]
      simp [q]
    · cases h
theorem ttS_none {b : List Int} (hb : Byts b) (h : takeT b = none) : (ttS b true).2.2 = false := by
  unfold takeT at h
  cases hv : takeV b with
  | none =>
    have e : (tkS b.length b true).2.2 = false := tkS_none (by unfold takeM; rw [hv])
    unfold ttS
    rw [e]; rfl
  | some p =>
    obtain ⟨n, s⟩ := p
    obtain ⟨f1, f2, f3⟩ := takeV_byts hb hv
    rw [hv] at h
    simp only at h
    split at h
    · cases h
    · rename_i q
      by_cases q2 : n ≤ b.length
      · have e : tkS b.length b true = (n, s, true) := tkS_some (by unfold takeM; rw [hv]; simp only; rw [if_pos q2])
        unfold ttS
        rw [e]
        simp [q]
      · have e : (tkS b.length b true).2.2 = false := tkS_none (by unfold takeM; rw [hv]; simp only; rw [if_neg q2])
        unfold ttS
        rw [e]; rfl
theorem ttS_false {b : List Int} : (ttS b false).2.2 = false := by
  unfold ttS
  rw [tkS_false]; rfl

theorem nxN_5 {b r : List Int} {n m u : Int} (h : oneNums 5 b = some (n, m, u, r)) : nxN 5 b true = (n, m, u, r, true) := by
  simp only [oneNums, show nm 5 = 3 from rfl, if_true] at h
  split at h
  · rename_i n' b1 q1
    split at h
    · rename_i m' b2 q2
      split at h
      · rename_i u' b3 q3
        cases h
        simp only [nxN, if_true, tkS_some q1, tkS_some q2, tkS_some q3]
      · cases h
    · cases h
  · cases h
theorem nxN_5none {b : List Int} (h : oneNums 5 b = none) : (nxN 5 b true).2.2.2.2 = false := by
  simp only [oneNums, show nm 5 = 3 from rfl, if_true] at h
  simp only [nxN, if_true]
  split at h
  · rename_i n' b1 q1
    rw [tkS_some q1]
    simp only
    split at h
    · rename_i m' b2 q2
      rw [tkS_some q2]
      simp only
      split at h
      · cases h
      · rename_i q3
        exact tkS_none q3
    · rename_i q2
      rw [tkS_none q2]
      exact tkS_false
  · rename_i q1
    rw [tkS_none q1, tkS_false]
    exact tkS_false
theorem nxN_5false {b : List Int} : (nxN 5 b false).2.2.2.2 = false := by
  simp only [nxN, if_true]
  rw [tkS_false, tkS_false]
  exact tkS_false

theorem nxS_one {b : List Int} (hb : Byts b) (h0 : b ≠ []) : (∀ c r, oneC b = some (c, r) → nxS b = ((r, true, ()), c, ())) ∧ (oneC b = none → (nxS b).1.2.1 = false) := by
  cases b with
  | nil => exact absurd rfl h0
  | cons k s =>
    have hs : Byts s := fun x hx => hb x (by simp [hx])
    by_cases c1 : k = 1
    · subst c1
      have ho : oneC (1 :: s) = match takeT s with
          | some (x, b) => match takeT b with
            | some (y, b) => some ((1, x, y, 0, 0, 0, ()), b)
            | none => none
          | none => none := by
        rw [oneC, if_pos (by decide)]
        unfold oneTexts
        cases takeT s with
        | none => rfl
        | some p =>
          obtain ⟨x, s1⟩ := p
          show (match (match takeT s1 with | some (y, b) => some (x, y, b) | none => none) with | some (x, y, b) => _ | none => _) = _
          cases ht : takeT s1 with
          | none => simp only [ht]
          | some p => simp only [ht]; rfl
      have hx : nxS (1 :: s) = (((ttS (ttS s true).2.1 (ttS s true).2.2).2.1, (ttS (ttS s true).2.1 (ttS s true).2.2).2.2, ()), (1, (ttS s true).1, (ttS (ttS s true).2.1 (ttS s true).2.2).1, 0, 0, 0, ()), ()) := rfl
      rw [hx, ho]
      cases ht : takeT s with
      | none => exact ⟨fun c r h => (by cases h), fun _ => by rw [ttS_none hs ht]; exact ttS_false⟩
      | some p =>
        obtain ⟨x, s1⟩ := p
        obtain ⟨f1, _⟩ := takeT_byts hs ht
        rw [ttS_some hs ht]
        cases ht2 : takeT s1 with
        | none => exact ⟨fun c r h => (by simp only [ht2] at h; cases h), fun _ => ttS_none f1 ht2⟩
        | some p =>
          obtain ⟨y, s2⟩ := p
          simp only [ht2, ttS_some f1 ht2]
          exact ⟨fun c r h => (by cases h; rfl), fun h => (by cases h)⟩
    by_cases c5 : k = 5
    · subst c5
      have ho : oneC (5 :: s) = match takeT s with
          | some (x, b) => match oneNums 5 b with
            | some (n, m, u, b) => some ((5, x, [], n, m, u, ()), b)
            | none => none
          | none => none := by
        rw [oneC, if_pos (by decide)]
        unfold oneTexts
        cases takeT s with
        | none => rfl
        | some p => rfl
      have hx : nxS (5 :: s) = (((nxN 5 (ttS s true).2.1 (ttS s true).2.2).2.2.2.1, (nxN 5 (ttS s true).2.1 (ttS s true).2.2).2.2.2.2, ()), (5, (ttS s true).1, [], (nxN 5 (ttS s true).2.1 (ttS s true).2.2).1, (nxN 5 (ttS s true).2.1 (ttS s true).2.2).2.1, (nxN 5 (ttS s true).2.1 (ttS s true).2.2).2.2.1, ()), ()) := rfl
      rw [hx, ho]
      cases ht : takeT s with
      | none => exact ⟨fun c r h => (by cases h), fun _ => by rw [ttS_none hs ht]; exact nxN_5false⟩
      | some p =>
        obtain ⟨x, s1⟩ := p
        rw [ttS_some hs ht]
        cases hn : oneNums 5 s1 with
        | none => exact ⟨fun c r h => (by simp only [hn] at h; cases h), fun _ => nxN_5none hn⟩
        | some p =>
          obtain ⟨n, m, u, s2⟩ := p
          simp only [hn, nxN_5 hn]
          exact ⟨fun c r h => (by cases h; rfl), fun h => (by cases h)⟩
    by_cases c24 : k = 2 ∨ k = 4
    · have ho : oneC (k :: s) = match takeT s with
          | some (x, b) => some ((k, x, [], 0, 0, 0, ()), b)
          | none => none := by
        rcases c24 with rfl | rfl
        · rw [oneC, if_pos (by decide)]
          unfold oneTexts
          cases takeT s with
          | none => rfl
          | some p => rfl
        · rw [oneC, if_pos (by decide)]
          unfold oneTexts
          cases takeT s with
          | none => rfl
          | some p => rfl
      have hx : nxS (k :: s) = (((ttS s true).2.1, (ttS s true).2.2, ()), (k, (ttS s true).1, [], 0, 0, 0, ()), ()) := by
        rcases c24 with rfl | rfl <;> rfl
      rw [hx, ho]
      cases ht : takeT s with
      | none => exact ⟨fun c r h => (by cases h), fun _ => ttS_none hs ht⟩
      | some p =>
        obtain ⟨x, s1⟩ := p
        rw [ttS_some hs ht]
        exact ⟨fun c r h => (by cases h; rfl), fun h => (by cases h)⟩
    by_cases c3 : k = 3
    · subst c3
      have ho : oneC (3 :: s) = some ((3, [], [], 0, 0, 0, ()), s) := rfl
      rw [ho]
      exact ⟨fun c r h => (by cases h; rfl), fun h => (by cases h)⟩
    · have ho : oneC (k :: s) = none := by rw [oneC, if_neg (by omega)]
      have en : nxS (k :: s) = ((s, false, ()), (k, [], [], 0, 0, 0, ()), ()) := by
        have hok : okK k = false := by simp only [okK, decide_eq_false_iff_not]; omega
        have ht : ∀ o, nxT k s o = ([], [], s, o) := fun o => by rw [nxT, if_neg c1, if_neg (by omega)]
        have hn : ∀ s o, nxN k s o = (0, 0, 0, s, o) := fun s o => by rw [nxN, if_neg c5]
        simp only [nxS, hok, ht, hn]
      rw [ho, en]
      exact ⟨fun c r h => (by cases h), fun _ => rfl⟩

theorem endS_fuel : ∀ (n m : Nat) (s : Rd), Byts s.1.1 → s.1.1.length ≤ 10000000 → s.1.1.length < n → s.1.1.length < m → endS n s = endS m s := by
  intro n
  induction n with
  | zero => intro m s _ _ h; omega
  | succ n ih =>
    intro m s hb hl h1 h2
    cases m with
    | zero => omega
    | succ m =>
      rw [endS, endS]
      split
      · rfl
      · rename_i hne
        split
        · rename_i hok
          obtain ⟨q1, q2⟩ := nxS_one hb hne
          cases ho : oneC s.1.1 with
          | none => rw [q2 ho] at hok; cases hok
          | some p =>
            obtain ⟨c, r⟩ := p
            have hlen := oneC_len hb (by omega) ho
            obtain ⟨_, _, _, hr⟩ := oneC_some hb (by omega) ho
            rw [q1 c r ho]
            exact ih m _ hr (by show r.length ≤ _; omega) (by show r.length < _; omega) (by show r.length < _; omega)
        · rfl

theorem loopRd : ∀ (n : Nat) (b : List Int) (l : List Cm) (nl ok : Bool) (c : Cm), b.length = n → Byts b → b.length + l.length ≤ 10000000 →
    ∀ r, (Tr.test (readC b).isSome
        (.give (Ex.exit 0, [cms (l ++ readR b) (some (nl && (readR b).isEmpty)) true, i64x 0, X.ptr 0 []], [(rdT, X.d rdT (endS (b.length + 1) ((b, ok, ()), c, ())))]))
        (.give (.ret, [cms [] (some true) true, i64x 230, .ptr 0 []], [(rdT, .d rdT (endS (b.length + 1) ((b, ok, ()), c, ())))]))).run some = some r →
    LoopTo (Cx Ar.real (Osc6 Ar.real) (Lrd Ar.real)) 100 (loopAt Try.f12 0) 24 [2, 3, 4] [cms l (some nl) true, i64x 0, .ptr 0 []] [(rdT, .d rdT ((b, ok, ()), c, ()))] r := by
  intro n
  induction n using Nat.strongRecOn with
  | _ n ih =>
    intro b l nl ok c hn hB hl r hr
    have tree := fun (R : Type) (k : Ex → List X → Hp → Option R) => lRead Ar.real R l nl b ok c k
    simp only [rw_se] at tree
    by_cases h0 : b = []
    · subst h0
      have e1 : readC [] = some [] := rfl
      have e2 : readR [] = [] := rfl
      rw [e1, e2, List.append_nil] at hr
      simp only [List.isEmpty_nil, Bool.and_true] at hr
      cases hr
      refine LoopTo.done (by simp) fun k => ?_
      rw [tree, bf (by rfl)]
      rfl
    · have hpos : 0 < b.length := by
        cases b with
        | nil => exact absurd rfl h0
        | cons _ _ => simp
      have gd1 : (decide (b.length ≤ 10000000 ∧ b ≠ []) && bytesB b) = true := by
        rw [decide_eq_true ⟨by omega, h0⟩, bytesB_iff.2 hB]; rfl
      obtain ⟨q1, q2⟩ := nxS_one hB h0
      have st := readC_step hB (by omega) h0
      have hE : endS (b.length + 1) ((b, ok, ()), c, ()) = if (nxS b).1.2.1 then endS b.length (nxS b) else nxS b := by
        rw [endS]
        exact if_neg h0
      cases ho : oneC b with
      | none =>
        rw [ho] at st
        rw [st, hE, q2 ho] at hr
        cases hr
        refine LoopTo.done (by simp) fun k => ?_
        rw [tree, bd (by omega), bt gd1, q2 ho, bt (by rfl)]
        rfl
      | some p =>
        obtain ⟨c', r'⟩ := p
        have hlen := oneC_len hB (by omega) ho
        obtain ⟨_, _, _, hr'⟩ := oneC_some hB (by omega) ho
        have hx := q1 c' r' ho
        rw [ho] at st
        simp only at st
        rw [hx] at hE
        simp only [if_true] at hE
        have hE2 : endS b.length ((r', true, ()), c', ()) = endS (r'.length + 1) ((r', true, ()), c', ()) := endS_fuel _ _ _ hr' (by show r'.length ≤ _; omega) hlen (by show r'.length < _; omega)
        rw [hE2] at hE
        refine LoopTo.next (fun k => ?_) (ih r'.length (by omega) r' (l ++ [c']) false true c' rfl hr' (by rw [List.length_append, List.length_singleton]; omega) r ?_)
        · rw [tree, bd (by omega), bt gd1, hx, bf (by rfl), bd (by rw [List.length_singleton]; omega)]
          simp only [List.isEmpty_cons, Bool.and_false]
        · rw [st, hE] at hr
          have hR : readR b = ((readC r').map (c' :: ·)).getD [] := by rw [readR, st]
          rw [hR] at hr
          unfold readR
          cases hq : readC r' with
          | none => rw [hq] at hr; exact hr
          | some l' =>
            rw [hq] at hr
            simp only [Option.map_some, Option.getD_some, List.isEmpty_cons, Bool.and_false, Bool.false_and, List.append_assoc, List.singleton_append] at hr ⊢
            exact hr

theorem read_ok : OrcOk Try.prog 12 (.pure (readF Ar.real)) := by
  refine pureOk (Cx.ok o_sc6 (Lrd Ar.real)) mixed 12 Try.f12 (by kernel_rfl) (by kernel_rfl) (by kernel_rfl) 100 1 (by kernel_rfl) (fun i h => ?_) fun args r h => ?_
  · obtain rfl : i = 0 := by omega
    refine Tells.mk (key := 2) (N := 24) (ks := [2, 3, 4]) (F := LrdF Ar.real) (by kernel_rfl) rfl fun xs H r h => ?_
    unfold LrdF at h
    split at h
    · rename_i l nl b ok c
      rw [run_test] at h
      simp only [rw_se] at h
      by_cases hg : (decide (b.length + l.length ≤ 10000000) && bytesB b) = true
      · rw [bt hg] at h
        simp only [Bool.and_eq_true, decide_eq_true_eq, bytesB_iff] at hg
        exact loopRd _ b l nl ok c rfl hg.2 hg.1 r h
      · rw [bf (by simpa using hg)] at h
        cases h
    · cases h
  · unfold readF at h
    split at h
    · rename_i b nl
      obtain ⟨hg, rfl⟩ := Tr.one h
      refine ⟨rfl, rfl, ?_⟩
      show Ends _ _
      simp only [rw_se, Bool.and_eq_true, decide_eq_true_eq] at hg
      obtain ⟨h1, h2, h3⟩ := hg
      rw [tRead]
      simp only [rw_se, List.nil_append, Bool.true_and, Nat.add_zero]
      rw [bt (by rw [decide_eq_true h1, h2]; rfl)]
      cases hc : readC b with
      | none =>
        simp only [readE, readR, hc]
        exact Ends_some.2 rfl
      | some l =>
        simp only [readE, readR, hc]
        exact Ends_some.2 rfl
    · cases h

theorem loopRrd : ∀ (n : Nat) (b : List Int) (nl : Option Bool) (l : List Cm) (no : Bool), b.length = n → Byts b → nlO nl b = true → b.length + l.length ≤ 10000000 →
    ∀ r, (Tr.test (readC b).isSome
        (.give (Ex.exit 0, [X.dead, .sl cmdT [] (some true) true, i64x 0, cms (l ++ readR b) (some (no && (readR b).isEmpty)) true], ([] : Hp)))
        (.give (.ret, [.dead, .sl cmdT [] (some true) true, i64x 230, .dead], []))).run some = some r →
    LoopTo (Cx Ar.real (Osc6 Ar.real) (Lrrd Ar.real)) 100 (loopAt Try.f13 0) 25 [0, 2, 3, 4] [.sl (.int .u8) b nl false, cms [] (some true) true, i64x 0, cms l (some no) true] [] r := by
  intro n
  induction n using Nat.strongRecOn with
  | _ n ih =>
    intro b nl l no hn hB hnl hl r hr
    have tree := fun (R : Type) (k : Ex → List X → Hp → Option R) => lRread Ar.real R b nl l no k
    simp only [rw_se] at tree
    by_cases h0 : b = []
    · subst h0
      have e1 : readC [] = some [] := rfl
      have e2 : readR [] = [] := rfl
      rw [e1, e2, List.append_nil] at hr
      simp only [List.isEmpty_nil, Bool.and_true] at hr
      cases hr
      refine LoopTo.left (by simp) fun k => ?_
      rw [tree, bf (by rfl)]
      exact ⟨_, rfl, Forget.cons (.inl rfl) (Forget.same _)⟩
    · have hpos : 0 < b.length := by
        cases b with
        | nil => exact absurd rfl h0
        | cons _ _ => simp
      have gd1 : (decide (b.length ≤ 10000000 ∧ b ≠ []) && (bytesB b && nlO nl b)) = true := by
        rw [decide_eq_true ⟨by omega, h0⟩, bytesB_iff.2 hB, hnl]; rfl
      have st := readC_step hB (by omega) h0
      cases ho : oneC b with
      | none =>
        rw [ho] at st
        rw [st] at hr
        cases hr
        have hs := fun (k : Ex → List X → Hp → Option (Ex × List X × Hp)) => (tree _ k).trans ((bd (by omega)).trans ((bt gd1).trans (bf (by rw [ho]; rfl))))
        exact LoopTo.end (by simp) hs (Forget.cons (.inl rfl) (Forget.cons (.inr rfl) (Forget.cons (.inr rfl) (Forget.cons (.inl rfl) (Forget.same _))))) (HWeak.of (H' := []) (frontB_nil _) rfl) (by simp) (.inr rfl)
      | some p =>
        obtain ⟨c', r'⟩ := p
        have hlen := oneC_len hB (by omega) ho
        obtain ⟨_, _, _, hr'⟩ := oneC_some hB (by omega) ho
        rw [ho] at st
        simp only at st
        have hs := fun (k : Ex → List X → Hp → Option (Ex × List X × Hp)) => (tree _ k).trans ((bd (by omega)).trans ((bt gd1).trans ((bt (by rw [ho]; rfl)).trans (bd (by rw [List.length_singleton]; omega)))))
        rw [ho] at hs
        refine LoopTo.weak hs (xs' := [.sl (.int .u8) r' none false, cms [] (some true) true, i64x 0, cms (l ++ [c']) (some false) true]) ?_ (HWeak.of (H' := []) (frontB_nil _) rfl) (by simp) (.inr rfl) (ih r'.length (by omega) r' none (l ++ [c']) false rfl hr' rfl (by rw [List.length_append, List.length_singleton]; omega) r ?_)
        · simp only [List.isEmpty_cons, Bool.and_false, Option.getD_some]
          exact Forget.same _
        · rw [st] at hr
          have hR : readR b = ((readC r').map (c' :: ·)).getD [] := by rw [readR, st]
          rw [hR] at hr
          unfold readR
          cases hq : readC r' with
          | none => rw [hq] at hr; exact hr
          | some l' =>
            rw [hq] at hr
            simp only [Option.map_some, Option.getD_some, List.isEmpty_cons, Bool.and_false, Bool.false_and, List.append_assoc, List.singleton_append] at hr ⊢
            exact hr

theorem rread_ok : OrcOk Try.prog 13 (.pure (readF Ar.real)) := by
  refine pureOk (Cx.ok o_sc6 (Lrrd Ar.real)) mixed 13 Try.f13 (by kernel_rfl) (by kernel_rfl) (by kernel_rfl) 100 1 (by kernel_rfl) (fun i h => ?_) fun args r h => ?_
  · obtain rfl : i = 0 := by omega
    refine Tells.mk (key := 2) (N := 25) (ks := [0, 2, 3, 4]) (F := LrrdF Ar.real) (by kernel_rfl) rfl fun xs H r h => ?_
    unfold LrrdF at h
    split at h
    · rename_i b nl l no
      rw [run_test] at h
      simp only [rw_se] at h
      by_cases hg : (decide (b.length + l.length ≤ 10000000) && (bytesB b && nlO nl b)) = true
      · rw [bt hg] at h
        simp only [Bool.and_eq_true, decide_eq_true_eq, bytesB_iff] at hg
        exact loopRrd _ b nl l no rfl hg.2.1 hg.2.2 hg.1 r h
      · rw [bf (by simpa using hg)] at h
        cases h
    · cases h
  · unfold readF at h
    split at h
    · rename_i b nl
      obtain ⟨hg, rfl⟩ := Tr.one h
      refine ⟨rfl, rfl, ?_⟩
      show Ends _ _
      simp only [rw_se, Bool.and_eq_true, decide_eq_true_eq] at hg
      obtain ⟨h1, h2, h3⟩ := hg
      rw [tRread]
      simp only [rw_se, List.nil_append, Bool.true_and, Nat.add_zero]
      rw [bt (by rw [decide_eq_true h1, h2, nlO_some, h3]; rfl)]
      cases hc : readC b with
      | none =>
        simp only [readE, readR, hc]
        exact Ends_some.2 rfl
      | some l =>
        simp only [readE, readR, hc]
        exact Ends_some.2 rfl
    · cases h

theorem o_sc7 : OOk (Osc7 Ar.real) := (o_sc6.add read_ok).add rread_ok

end Go.Proofs.Ytgickaihlebgmaa.V

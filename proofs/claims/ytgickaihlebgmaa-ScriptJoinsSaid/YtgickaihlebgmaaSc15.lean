/-
  Chapter 23: the statement on joined commands.
  It speaks of the pinned program alone; no condition.
-/
import Derived.Test.YtgickaihlebgmaaSc13
import Derived.Test.YtgickaihlebgmaaSc14b
namespace Go.Proofs.Ytgickaihlebgmaa.V
open Go
set_option linter.unusedVariables false
set_option linter.unusedSimpArgs false

theorem writeF2_ok : OrcOk Try.prog 10 (.pure (writeF2 Ar.real)) := by
  refine PureOk.wk write_ok fun args r h => ?_
  replace h : (writeF2 Ar.real args).run some = some r := h
  unfold writeF2 at h
  split at h
  · rename_i l nl
    rw [run_test] at h
    simp only [rw_se] at h
    cases hg : wl l
    · rw [hg] at h; cases h
    · rw [hg] at h
      have e : (writeF Ar.real [.sl cmdT l nl false]).run some = some (.tup [u8s (writeB l) (some (writeB l).isEmpty) false, i64x (writeE l)]) := by
        show (bif wl l then _ else _) = _
        rw [hg]; rfl
      refine ⟨_, e, ?_⟩
      rw [cond_true, run_test, run_give, run_give] at h
      cases hc : l.all checkC
      · rw [hc] at h
        cases h
        obtain ⟨g1, g2⟩ := bad_write hc
        rw [g1, g2]
        exact .same _
      · rw [hc] at h
        cases h
        have g1 : writeB l = encs l := by simp [writeB, hc]
        have g2 : writeE l = 0 := by simp [writeE, hc]
        rw [g1, g2]
        exact .same _
  · cases h
theorem writeG_ok : OrcOk Try.prog 10 (.pure (writeG Ar.real)) := by
  refine PureOk.wk writeF2_ok fun args r h => ?_
  replace h : (writeG Ar.real args).run some = some r := h
  unfold writeG at h
  split at h
  · rename_i l nl
    obtain ⟨hg, rfl⟩ := Tr.one h
    simp only [rw_se, Bool.and_eq_true] at hg
    refine ⟨_, ?_, .same _⟩
    show (bif wl l then (bif l.all checkC then _ else _) else _) = _
    rw [hg.1, hg.2]
    rfl
  · cases h
theorem readF2_ok : OrcOk Try.prog 12 (.pure (readF2 Ar.real)) := by
  refine PureOk.wk read_ok fun args r h => ?_
  replace h : (readF2 Ar.real args).run some = some r := h
  unfold readF2 at h
  split at h
  · rename_i b nl
    rw [run_test] at h
    simp only [rw_se] at h
    cases hg : (decide (b.length ≤ 10000000) && (bytesB b && nlB nl b))
    · rw [hg] at h; cases h
    · rw [hg] at h
      have e : (readF Ar.real [.sl (.int .u8) b (some nl) false]).run some = some (.tup [cms (readR b) (some (readR b).isEmpty) false, i64x (readE b)]) := by
        show (bif (decide (b.length ≤ 10000000) && (bytesB b && nlB nl b)) then _ else _) = _
        rw [hg]; rfl
      refine ⟨_, e, ?_⟩
      rw [cond_true, run_test, run_give, run_give] at h
      cases hc : readC b with
      | none =>
        rw [hc] at h
        cases h
        have : readE b = 230 := by simp [readE, hc]
        rw [this]
        exact .inr ⟨_, _, rfl, rfl, .inl rfl, .same _, trivial⟩
      | some q =>
        rw [hc] at h
        cases h
        have : readE b = 0 := by simp [readE, hc]
        rw [this]
        exact .inr ⟨_, _, rfl, rfl, .inl rfl, .same _, trivial⟩
  · cases h
theorem o_scG : OOk (OscG Ar.real) := (o_sc.add writeG_ok).add readF2_ok
theorem o_scJ : OOk (OscJ Ar.real) := (o_sc.add writeF2_ok).add readF2_ok
theorem encs_app (l m : List Cm) : encs (l ++ m) = encs l ++ encs m := by simp [encs]

theorem joinsG (l m : List Cm) (nl nm : Bool) (n : Nat) (hn : n < 65536) (hw : l.all wfB = true) (hw2 : m.all wfB = true) (hf : l.all small = true ∧ l.length ≤ 100) (hf2 : m.all small = true ∧ m.length ≤ 100) (hc : l.all checkC = true) (hc2 : m.all checkC = true) :
    bodyX (Cx Ar.real (OscG Ar.real) noL) 200 Try.f5 [cms l (some nl) false, cms m (some nm) false, u16x n] [] = some (X.d .bool true, []) := by
  obtain ⟨g1, g2, g3, g4, g5, g6⟩ := good_write hw hf.1 (by omega) hc
  obtain ⟨k1, k2, k3, k4, k5, k6⟩ := good_write hw2 hf2.1 (by omega) hc2
  have wl1 := wl_few hw hf.1 (by omega)
  have wl2 := wl_few hw2 hf2.1 (by omega)
  have wl3 : wl (l ++ m) = true := wl_few (by simp [List.all_append, hw, hw2]) (by simp [List.all_append, hf.1, hf2.1]) (by rw [List.length_append]; omega)
  have a3 : (l ++ m).all checkC = true := by simp [List.all_append, hc, hc2]
  rw [tLjoinsG]
  simp only [rw_se, List.nil_append]
  rw [bd (by omega), bt (by rw [hf.1, decide_eq_true (show (l.length : Int) ≤ 100 by omega)]; rfl), bd (by omega), bf (by rw [hf2.1, decide_eq_true (show (m.length : Int) ≤ 100 by omega)]; rfl), bt (by rw [wl1, hc]; rfl), bt (by rw [wl2, hc2]; rfl), bd (by omega), bd (by omega), bt (by rw [wl3, a3]; rfl), bd (by omega), bd (by omega)]
  have hstr : Ar.real.seq (strOf (encs (l ++ m))) (strOf (encs l) ++ strOf (encs m)) = true := by rw [encs_app, strOf_append]; exact seq_self _
  rw [encs_app, seq_self, bf (by rfl)]
  cases m with
  | nil => rfl
  | cons c m' =>
    have e1 : List.take (Int.toNat 1) (c :: m') = [c] := rfl
    have e2 : List.getD (c :: m') (Int.toNat 0) (Ty.zero cmdT) = c := rfl
    have e3 : ((c :: m').length : Int) = (m'.length : Int) + 1 := by rw [List.length_cons]; omega
    simp only [List.all_cons, Bool.and_eq_true] at hc2 hw2 hf2
    have cc := hc2.1
    have cw := hw2.1
    have cs := hf2.1.1
    obtain ⟨d1, d2, d3, d4, d5, d6⟩ := good_write (l := [c]) (by simp [cw]) (by simp [cs]) (by simp) (by simp [cc])
    have eE : encs [c] = encC c := by rw [encs_cons]; simp [encs]
    have hL := encC_small cw cs
    have hL1 : 1 ≤ (encC c).length := by simp [encC]
    rw [eE] at d3 d4
    rw [e1, e2, e3, eE]
    have hmax : (if ((encC c).length : Int) > 1 then ((encC c).length : Int) else 1) = ((encC c).length : Int) := by split <;> omega
    have hmod : Int.tmod (Ar.real.wrap .i64 (n : Int)) ((encC c).length : Int) = ((n % (encC c).length : Nat) : Int) := by
      rw [rw_wrap, wi64 (by omega) (by omega), ntmod]
    rw [hmax, hmod]
    have hK : n % (encC c).length < (encC c).length := Nat.mod_lt _ (by omega)
    generalize n % (encC c).length = K at hK
    rw [Int.toNat_natCast]
    have hne : (encC c).isEmpty = false := rfl
    have hby : bytesB ((encC c).take K) = true := bytesB_iff.2 fun x hx => d4 x (List.mem_of_mem_take hx)
    rw [bt (by rw [beq_iff_eq, beq_eq_false_iff_ne]; omega), bd (by omega), bf (by rw [cc]; rfl), bd (by omega), bt (by rw [wl_few (l := [c]) (by simp [cw]) (by simp [cs]) (by simp)]; simp [cc]), bnd (by omega), bd (by omega), bt (by rw [hby, hne, decide_eq_true (by rw [List.length_take]; omega)]; rfl)]
    by_cases h0 : K = 0
    · subst h0
      rw [List.take_zero, bt (by rfl), bt (by rw [beq_iff_eq, decide_eq_true_eq]; omega)]
      rfl
    · rw [read_cut (d6 c (by simp)) cc (by omega) (by omega) hK, bf (by rfl), bt (by rw [beq_iff_eq, decide_eq_true_eq]; omega)]
      have : (((K : Int)) == 0) = false := by rw [beq_eq_false_iff_ne]; omega
      rw [this]
      rfl

theorem joinsJ (l m : List Cm) (nl nm : Bool) (n : Nat) (hn : n < 65536) (hll : l.length ≤ 9223372036854775807) (hmm : m.length ≤ 9223372036854775807) (hw : l.all wfB = true) (hw2 : m.all wfB = true) (hno : ¬ (l.all small = true ∧ l.length ≤ 100 ∧ m.all small = true ∧ m.length ≤ 100 ∧ l.all checkC = true ∧ m.all checkC = true)) :
    bodyX (Cx Ar.real (OscJ Ar.real) noL) 200 Try.f5 [cms l (some nl) false, cms m (some nm) false, u16x n] [] = some (X.d .bool true, []) := by
  rw [tLjoins]
  simp only [rw_se, List.nil_append]
  rw [bd hll]
  by_cases hf : l.all small = true ∧ l.length ≤ 100
  · rw [bt (by rw [hf.1, decide_eq_true (show (l.length : Int) ≤ 100 by omega)]; rfl), bd hmm]
    by_cases hf2 : m.all small = true ∧ m.length ≤ 100
    · rw [bf (by rw [hf2.1, decide_eq_true (show (m.length : Int) ≤ 100 by omega)]; rfl)]
      have wl1 := wl_few hw hf.1 (by omega)
      have wl2 := wl_few hw2 hf2.1 (by omega)
      have wl3 : wl (l ++ m) = true := wl_few (by simp [List.all_append, hw, hw2]) (by simp [List.all_append, hf.1, hf2.1]) (by rw [List.length_append]; omega)
      have hcase : (l.all checkC = false ∧ m.all checkC = false) ∨ (l.all checkC = false ∧ m.all checkC = true) ∨ (l.all checkC = true ∧ m.all checkC = false) := by
        cases h1 : l.all checkC <;> cases h2 : m.all checkC
        · exact .inl ⟨rfl, rfl⟩
        · exact .inr (.inl ⟨rfl, rfl⟩)
        · exact .inr (.inr ⟨rfl, rfl⟩)
        · exact absurd ⟨hf.1, hf.2, hf2.1, hf2.2, h1, h2⟩ hno
      have a3 : (l ++ m).all checkC = false := by
        rw [List.all_append]
        rcases hcase with ⟨h1, h2⟩ | ⟨h1, h2⟩ | ⟨h1, h2⟩ <;> rw [h1, h2] <;> rfl
      rcases hcase with ⟨hc, hc2⟩ | ⟨hc, hc2⟩ | ⟨hc, hc2⟩
      all_goals rw [bt wl1]
      all_goals first | rw [bt hc] | rw [bf hc]
      all_goals rw [bt wl2]
      all_goals first | rw [bt hc2] | rw [bf hc2]
      all_goals rw [bd (by omega), bd (by omega), bt wl3, bf a3]
      all_goals
        clear wl1 wl2 wl3 a3 hc hc2 hno
        cases m with
        | nil => rfl
        | cons c m' =>
          have e1 : List.take (Int.toNat 1) (c :: m') = [c] := rfl
          have e2 : List.getD (c :: m') (Int.toNat 0) (Ty.zero cmdT) = c := rfl
          have e3 : ((c :: m').length : Int) = (m'.length : Int) + 1 := by rw [List.length_cons]; omega
          simp only [List.all_cons, Bool.and_eq_true] at hw2 hf2
          have cw := hw2.1
          have cs := hf2.1.1
          rw [e1, e2, e3, bt (by rw [beq_iff_eq, beq_eq_false_iff_ne]; omega), bd (by omega)]
          cases cc : checkC c
          · rw [bt (by rfl)]
            rfl
          · obtain ⟨d1, d2, d3, d4, d5, d6⟩ := good_write (l := [c]) (by simp [cw]) (by simp [cs]) (by simp) (by simp [cc])
            have eE : encs [c] = encC c := by rw [encs_cons]; simp [encs]
            have hL := encC_small cw cs
            have hL1 : 1 ≤ (encC c).length := by simp [encC]
            rw [eE] at d3 d4
            rw [eE]
            have hmax : (if ((encC c).length : Int) > 1 then ((encC c).length : Int) else 1) = ((encC c).length : Int) := by split <;> omega
            have hmod : Int.tmod (Ar.real.wrap .i64 (n : Int)) ((encC c).length : Int) = ((n % (encC c).length : Nat) : Int) := by
              rw [rw_wrap, wi64 (by omega) (by omega), ntmod]
            rw [hmax, hmod]
            have hK : n % (encC c).length < (encC c).length := Nat.mod_lt _ (by omega)
            generalize n % (encC c).length = K at hK
            rw [Int.toNat_natCast]
            have hne : (encC c).isEmpty = false := rfl
            have hby : bytesB ((encC c).take K) = true := bytesB_iff.2 fun x hx => d4 x (List.mem_of_mem_take hx)
            rw [bf (by rfl), bd (by omega), bt (wl_few (l := [c]) (by simp [cw]) (by simp [cs]) (by simp)), bt (by simp [cc]), bnd (by omega), bd (by omega), bt (by rw [hby, hne, decide_eq_true (by rw [List.length_take]; omega)]; rfl)]
            by_cases h0 : K = 0
            · subst h0
              rw [List.take_zero, bt (by rfl), bt (by rw [beq_iff_eq, decide_eq_true_eq]; omega)]
              rfl
            · rw [read_cut (d6 c (by simp)) cc (by omega) (by omega) hK, bf (by rfl), bt (by rw [beq_iff_eq, decide_eq_true_eq]; omega)]
              have : (((K : Int)) == 0) = false := by rw [beq_eq_false_iff_ne]; omega
              rw [this]
              rfl
    · rw [bt (by rw [few_true hf2]; rfl)]
  · rw [bf (by rw [few_true hf]; rfl)]

open Classical in
theorem joins23_ok : OrcOk Try.prog 5 (.pure (LawFc [.slice cmdT, .slice cmdT, .int .u16])) := by
  have get : ∀ args, ArgsOf [.slice cmdT, .slice cmdT, .int .u16] args → ∃ (l m : List Cm) (nl nm : Bool) (n : Nat), args = [cms l (some nl) false, cms m (some nm) false, u16x n] ∧ n < 65536 ∧ l.all wfB = true ∧ m.all wfB = true ∧ l.length ≤ 9223372036854775807 ∧ m.length ≤ 9223372036854775807 := by
    intro args h
    obtain ⟨x, _, rfl, h1, h⟩ := h.cons
    obtain ⟨y, _, rfl, h2, h⟩ := h.cons
    obtain ⟨z, _, rfl, h3, h⟩ := h.cons
    obtain rfl := h.nil
    obtain ⟨l, nl, rfl, hw, hll⟩ := arg_cmds h1
    obtain ⟨m, nm, rfl, hw2, hmm⟩ := arg_cmds h2
    obtain ⟨n, rfl, hn⟩ := h3
    have i1 := wfD_int hn
    have i2 : IntKind.u16.min = 0 := by decide
    have i3 : IntKind.u16.max = 65535 := by decide
    rw [i2, i3] at i1
    obtain ⟨k, rfl⟩ := Int.eq_ofNat_of_zero_le i1.1
    exact ⟨l, m, nl, nm, k, rfl, by omega, hw, hw2, hll, hmm⟩
  have hG : PureOk Try.prog 5 (fun args => if ArgsOf [.slice cmdT, .slice cmdT, .int .u16] args ∧ (∃ H', bodyX (Cx Ar.real (OscG Ar.real) noL) 200 Try.f5 args [] = some (X.d .bool true, H')) then some (X.d .bool true) else none) := by
    refine pureOk (Cx.ok o_scG noL) mixed 5 Try.f5 (by kernel_rfl) (by kernel_rfl) (by kernel_rfl) 200 0 (by kernel_rfl) (fun i h => by omega) fun args r h => ?_
    split at h
    · rename_i hg
      cases h
      exact ⟨ArgsOf.argsB _ _ hg.1, rfl, hg.2⟩
    · cases h
  have hJ : PureOk Try.prog 5 (fun args => if ArgsOf [.slice cmdT, .slice cmdT, .int .u16] args ∧ (∃ H', bodyX (Cx Ar.real (OscJ Ar.real) noL) 200 Try.f5 args [] = some (X.d .bool true, H')) then some (X.d .bool true) else none) := by
    refine pureOk (Cx.ok o_scJ noL) mixed 5 Try.f5 (by kernel_rfl) (by kernel_rfl) (by kernel_rfl) 200 0 (by kernel_rfl) (fun i h => by omega) fun args r h => ?_
    split at h
    · rename_i hg
      cases h
      exact ⟨ArgsOf.argsB _ _ hg.1, rfl, hg.2⟩
    · cases h
  refine PureOk.union hG.1 fun args r h => ?_
  replace h : (LawFc [.slice cmdT, .slice cmdT, .int .u16] args).run some = some r := h
  unfold LawFc at h
  split at h
  · rename_i hg
    cases h
    obtain ⟨l, m, nl, nm, n, rfl, hn, hw, hw2, hll, hmm⟩ := get args hg
    by_cases hno : l.all small = true ∧ l.length ≤ 100 ∧ m.all small = true ∧ m.length ≤ 100 ∧ l.all checkC = true ∧ m.all checkC = true
    · exact ⟨_, hG, if_pos ⟨hg, [], joinsG l m nl nm n hn hw hw2 ⟨hno.1, hno.2.1⟩ ⟨hno.2.2.1, hno.2.2.2.1⟩ hno.2.2.2.2.1 hno.2.2.2.2.2⟩⟩
    · exact ⟨_, hJ, if_pos ⟨hg, [], joinsJ l m nl nm n hn hll hmm hw hw2 hno⟩⟩
  · cases h

end Go.Proofs.Ytgickaihlebgmaa.V

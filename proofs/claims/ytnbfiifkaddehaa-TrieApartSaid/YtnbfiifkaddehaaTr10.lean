/-
  Chapter 10, automata: the document's answer: its small functions do what they tell.
  It speaks of the pinned program alone; no condition.
-/
import Derived.Test.YtnbfiifkaddehaaTr9
namespace Go.Proofs.Ytnbfiifkaddehaa.V
open Go
set_option linter.unusedVariables false
set_option linter.unusedSimpArgs false

theorem oq1 : OOk (Oq1 Ar.real) := (((oa1.add (R.few_ok _ OOk.none)).add R.rfi_ok).add (R.wsa_ok _ OOk.none)).add rwrite_ok

theorem rng {i : Nat} {n : Nat} (h : i < n) : decide ((0 : Int) ≤ (i : Int) ∧ (i : Int) < (n : Int)) = true := by rw [decide_eq_true_eq]; omega
theorem lti {i : Nat} {n : Nat} (h : i < n) : decide ((i : Int) < (n : Int)) = true := by rw [decide_eq_true_eq]; omega
theorem nlti {i : Nat} {n : Nat} (h : n ≤ i) : decide ((i : Int) < (n : Int)) = false := by rw [decide_eq_false_iff_not]; omega

/-! ### Few -/
theorem loopFew10 (l : List Sta) (nl : Option Bool) (m : Int) (z : Bool) (hl : l.length ≤ 9223372036854775807) : ∀ (d i : Nat), l.length - i = d → i ≤ l.length →
    LoopTo (Cx Ar.real (Oq1 Ar.real) (Lfew10 Ar.real)) 100 (loopAt Try.f8 0) 23 [0, 1, 4, 5] [.sl staT l nl false, i64x m, boolx z, i64x (i : Int)] []
      (bif (l.drop i).all (fun s => decide (List.length s.2.1 ≤ 100)) then (.exit 0, [.sl staT l nl false, i64x m, .dead, .dead], []) else (.ret, [.dead, .dead, boolx false, .dead], [])) := by
  intro d
  induction d with
  | zero =>
    intro i h1 h2
    rw [List.drop_eq_nil_iff.2 (by omega), List.all_nil, cond_true]
    refine LoopTo.left (by simp) fun K => ?_
    rw [lFew10, bf (nlti (by omega))]
    exact ⟨_, rfl, R.fk (R.fk (R.fd (R.fd (Forget.same _))))⟩
  | succ d ih =>
    intro i h1 h2
    have hi : i < l.length := by omega
    rw [R.dropG staZ hi, List.all_cons]
    have T := fun K => lFew10 Ar.real (Ex × List X × Hp) l nl m z (i : Int) K
    have hw1 : Ar.real.wrap .i64 ((i : Int) + 1) = ((i + 1 : Nat) : Int) := by rw [rw_wrap, wi64 (by omega) (by omega)]; rfl
    simp only [Int.toNat_natCast, hw1] at T
    by_cases hc : List.length (l.getD i staZ).2.1 ≤ 100
    · rw [decide_eq_true hc, Bool.true_and]
      refine LoopTo.next (fun K => ?_) (ih (i + 1) (by omega) (by omega))
      rw [T, bt (lti hi), bt (rng hi), bf (by rw [decide_eq_false_iff_not]; omega)]
    · rw [decide_eq_false hc, Bool.false_and, cond_false]
      refine LoopTo.left (by simp) fun K => ?_
      rw [T, bt (lti hi), bt (rng hi), bt (by rw [decide_eq_true_eq]; omega)]
      exact ⟨_, rfl, R.fd (R.fd (R.fk (R.fd (Forget.same _))))⟩

theorem few10_ok : OrcOk Try.prog 8 (.pure (few10F Ar.real)) := by
  refine pureOk (Cx.ok oq1 (Lfew10 Ar.real)) mixed 8 Try.f8 (by kernel_rfl) (by kernel_rfl) (by kernel_rfl) 100 1 (by kernel_rfl) (fun i h => ?_) fun args r h => ?_
  · obtain rfl : i = 0 := by omega
    refine Tells.mk (key := 2) (N := 23) (ks := [0, 1, 4, 5]) (F := Lfew10F Ar.real) (by kernel_rfl) rfl fun xs H r h => ?_
    unfold Lfew10F at h
    split at h
    · rename_i x m z i
      split at h
      · rename_i q hq
        cases staOf_eq hq
        obtain ⟨hg, rfl⟩ := R.Tr.two h
        simp only [rw_se, decide_eq_true_eq] at hg ⊢
        dsimp only [Ty.den] at hg
        obtain ⟨h1, h2, h3⟩ := hg
        obtain ⟨i, rfl⟩ := Int.eq_ofNat_of_zero_le h2
        simp only [Int.toNat_natCast]
        exact loopFew10 q.1 q.2 m z h1 _ i rfl (by omega)
      · cases h
    · cases h
  · unfold few10F at h
    split at h
    · rename_i x m
      split at h
      · rename_i q hq
        cases staOf_eq hq
        obtain ⟨l, nl⟩ := q
        obtain ⟨hg, rfl⟩ := Tr.one h
        refine ⟨rfl, rfl, [], ?_⟩
        rw [tFew10]
        simp only [rw_se, decide_eq_true_eq, show Int.toNat 0 = 0 from rfl, List.drop_zero] at hg ⊢
        rw [bt (by rw [decide_eq_true_eq]; exact ⟨hg, by omega, by omega⟩)]
        unfold few10B
        cases l.all (fun s => decide (List.length s.2.1 ≤ 100)) <;> rfl
      · cases h
    · cases h

theorem small_ok : OrcOk Try.prog 9 (.pure (smallF Ar.real)) := by
  refine pureOk (Cx.ok oq1 noL) mixed 9 Try.f9 (by kernel_rfl) (by kernel_rfl) (by kernel_rfl) 100 0 (by kernel_rfl) (fun i h => by omega) fun args r h => ?_
  unfold smallF at h
  split at h
  · rename_i l nl
    obtain ⟨hg, rfl⟩ := Tr.one h
    refine ⟨rfl, rfl, [], ?_⟩
    rw [tSmall, bt hg]
  · cases h

/-! ### Same -/
theorem eqD_dec (a b : Arc) : eqD (.prod (.int .i64) (.prod (.int .i64) .unit)) a b = decide (a = b) := by
  by_cases h : a = b
  · rw [decide_eq_true h]; exact eqD_arc.2 h
  · rw [decide_eq_false h]; exact Bool.eq_false_iff.2 fun hh => h (eqD_arc.1 hh)
theorem sta_ext {a b : Sta} : a = b ↔ a.1 = b.1 ∧ a.2.1 = b.2.1 := by
  obtain ⟨a1, a2, a3⟩ := a
  obtain ⟨b1, b2, b3⟩ := b
  simp

theorem loopSmi (p q : List Sta) (np nq : Option Bool) (z : Bool) (i : Nat) (hn : q.length = p.length) (hi : i < p.length) (hA : (q.getD i staZ).2.1.length = (p.getD i staZ).2.1.length) (hs : (p.getD i staZ).2.1.length ≤ 1000000) : ∀ (d k : Nat), (p.getD i staZ).2.1.length - k = d → k ≤ (p.getD i staZ).2.1.length →
    LoopTo (Cx Ar.real (Oq1 Ar.real) (Lsm Ar.real)) 100 (loopAt Try.f14 1) 71 [0, 1, 4, 5, 6] [.sl staT p np false, .sl staT q nq false, boolx z, i64x (i : Int), i64x (k : Int)] []
      (bif decide ((p.getD i staZ).2.1.drop k = (q.getD i staZ).2.1.drop k) then (.exit 2, [.sl staT p np false, .sl staT q nq false, boolx z, i64x (i : Int), .dead], []) else (.ret, [.dead, .dead, boolx false, .dead, .dead], [])) := by
  intro d
  have hiq : i < q.length := by omega
  induction d with
  | zero =>
    intro k h1 h2
    rw [List.drop_eq_nil_iff.2 (by omega), List.drop_eq_nil_iff.2 (by omega), decide_eq_true rfl, cond_true]
    refine LoopTo.left (by simp) fun K => ?_
    have T := lSmi Ar.real (Ex × List X × Hp) p q np nq z (i : Int) (k : Int) K
    simp only [Int.toNat_natCast] at T
    rw [T, bt (rng hi), bf (nlti (show (p.getD i staZ).2.1.length ≤ k by omega))]
    exact ⟨_, rfl, R.fk (R.fk (R.fk (R.fk (R.fd (Forget.same _)))))⟩
  | succ d ih =>
    intro k h1 h2
    have hk : k < (p.getD i staZ).2.1.length := by omega
    have hkq : k < (q.getD i staZ).2.1.length := by omega
    have T := fun K => lSmi Ar.real (Ex × List X × Hp) p q np nq z (i : Int) (k : Int) K
    simp only [Int.toNat_natCast, rw_se, eqD_dec, R.wi1 (show k ≤ 9000000000000000000 by omega)] at T
    rw [R.dropG arcZ hk, R.dropG arcZ hkq]
    by_cases hc : (p.getD i staZ).2.1.getD k arcZ = (q.getD i staZ).2.1.getD k arcZ
    · rw [hc]
      have e : decide ((q.getD i staZ).2.1.getD k arcZ :: (p.getD i staZ).2.1.drop (k + 1) = (q.getD i staZ).2.1.getD k arcZ :: (q.getD i staZ).2.1.drop (k + 1)) = decide ((p.getD i staZ).2.1.drop (k + 1) = (q.getD i staZ).2.1.drop (k + 1)) := by
        simp only [List.cons.injEq, true_and]
      rw [e]
      refine LoopTo.next (fun K => ?_) (ih (k + 1) (by omega) (by omega))
      rw [T, bt (rng hi), bt (lti hk), bt (rng hi), bt (rng hk), bt (rng hiq), bt (rng hkq), bf (by rw [decide_eq_true hc]; rfl)]
    · rw [decide_eq_false (fun h => hc (List.cons.inj h).1), cond_false]
      refine LoopTo.left (by simp) fun K => ?_
      rw [T, bt (rng hi), bt (lti hk), bt (rng hi), bt (rng hk), bt (rng hiq), bt (rng hkq), bt (by rw [decide_eq_false hc]; rfl)]
      exact ⟨_, rfl, R.fd (R.fd (R.fk (R.fd (R.fd (Forget.same _)))))⟩

theorem loopSmo (p q : List Sta) (np nq : Option Bool) (z : Bool) (hn : q.length = p.length) (hl : p.length ≤ 1000000) (hp : shortS p = true) (hq : shortS q = true) : ∀ (d i : Nat), p.length - i = d → i ≤ p.length →
    LoopTo (Cx Ar.real (Oq1 Ar.real) (Lsm Ar.real)) 100 (loopAt Try.f14 0) 71 [0, 1, 4, 5] [.sl staT p np false, .sl staT q nq false, boolx z, i64x (i : Int)] []
      (bif decide (p.drop i = q.drop i) then (.exit 0, [.dead, .dead, .dead, .dead], []) else (.ret, [.dead, .dead, boolx false, .dead], [])) := by
  intro d
  induction d with
  | zero =>
    intro i h1 h2
    rw [List.drop_eq_nil_iff.2 (by omega), List.drop_eq_nil_iff.2 (by omega), decide_eq_true rfl, cond_true]
    refine LoopTo.left (by simp) fun K => ?_
    rw [lSmo, bf (nlti (by omega))]
    exact ⟨_, rfl, R.fd (R.fd (R.fd (R.fd (Forget.same _))))⟩
  | succ d ih =>
    intro i h1 h2
    have hi : i < p.length := by omega
    have hiq : i < q.length := by omega
    have T := fun K => lSmo Ar.real (Ex × List X × Hp) p q np nq z (i : Int) K
    simp only [Int.toNat_natCast, rw_se, show Int.toNat 0 = 0 from rfl, List.drop_zero, R.wi1 (show i ≤ 9000000000000000000 by omega)] at T
    rw [R.dropG staZ hi, R.dropG staZ hiq]
    have hd : decide (p.getD i staZ :: p.drop (i + 1) = q.getD i staZ :: q.drop (i + 1)) = (decide (p.getD i staZ = q.getD i staZ) && decide (p.drop (i + 1) = q.drop (i + 1))) := by
      simp only [List.cons.injEq, Bool.decide_and]
    rw [hd]
    by_cases h1' : (p.getD i staZ).1 = (q.getD i staZ).1
    · have e1 : ((!(List.getD p i staZ).1 == (List.getD q i staZ).1) == false) = true := by
        rw [show (List.getD p i staZ).1 = (List.getD q i staZ).1 from h1']; simp
      by_cases h2' : (p.getD i staZ).2.1.length = (q.getD i staZ).2.1.length
      · have e2 : (((p.getD i staZ).2.1.length : Int) != ((q.getD i staZ).2.1.length : Int)) = false := by rw [bne_eq_false_iff_eq]; omega
        have hg : (decide (p.length ≤ 1000000 ∧ q.length = p.length ∧ (0 : Int) ≤ (i : Int) ∧ (i : Int) < (p.length : Int) ∧ (q.getD i staZ).2.1.length = (p.getD i staZ).2.1.length ∧ (0 : Int) ≤ 0 ∧ (0 : Int) ≤ ((p.getD i staZ).2.1.length : Int)) && (shortS p && shortS q)) = true := by
          rw [hp, hq, Bool.and_self, Bool.and_true, decide_eq_true_eq]
          exact ⟨hl, hn, by omega, by omega, h2'.symm, by omega, by omega⟩
        by_cases h3' : (p.getD i staZ).2.1 = (q.getD i staZ).2.1
        · rw [decide_eq_true (sta_ext.2 ⟨h1', h3'⟩), Bool.true_and]
          refine LoopTo.next (fun K => ?_) (ih (i + 1) (by omega) (by omega))
          rw [T, bt (lti hi), bt (rng hi), bt (rng hiq), bt e1, bt (rng hi), bt (rng hiq), bf e2, bt hg, bt (decide_eq_true h3')]
        · rw [decide_eq_false (fun h => h3' (sta_ext.1 h).2), Bool.false_and, cond_false]
          refine LoopTo.left (by simp) fun K => ?_
          rw [T, bt (lti hi), bt (rng hi), bt (rng hiq), bt e1, bt (rng hi), bt (rng hiq), bf e2, bt hg, bf (decide_eq_false h3')]
          exact ⟨_, rfl, Forget.same _⟩
      · have e2 : (((p.getD i staZ).2.1.length : Int) != ((q.getD i staZ).2.1.length : Int)) = true := by rw [bne_iff_ne]; omega
        rw [decide_eq_false (fun h => h2' (by rw [(sta_ext.1 h).2])), Bool.false_and, cond_false]
        refine LoopTo.left (by simp) fun K => ?_
        rw [T, bt (lti hi), bt (rng hi), bt (rng hiq), bt e1, bt (rng hi), bt (rng hiq), bt e2]
        exact ⟨_, rfl, R.fd (R.fd (R.fk (R.fd (Forget.same _))))⟩
    · have e1 : ((!(List.getD p i staZ).1 == (List.getD q i staZ).1) == false) = false := by
        rw [show ((List.getD p i staZ).1 == (List.getD q i staZ).1) = false from by rw [beq_eq_false_iff_ne]; exact h1']; rfl
      rw [decide_eq_false (fun h => h1' (sta_ext.1 h).1), Bool.false_and, cond_false]
      refine LoopTo.left (by simp) fun K => ?_
      rw [T, bt (lti hi), bt (rng hi), bt (rng hiq), bf e1]
      exact ⟨_, rfl, R.fd (R.fd (R.fk (R.fd (Forget.same _))))⟩

theorem same10_ok : OrcOk Try.prog 14 (.pure (same10F Ar.real)) := by
  refine pureOk (Cx.ok oq1 (Lsm Ar.real)) mixed 14 Try.f14 (by kernel_rfl) (by kernel_rfl) (by kernel_rfl) 100 2 (by kernel_rfl) (fun i h => ?_) fun args r h => ?_
  · have hi : i = 0 ∨ i = 1 := by omega
    rcases hi with rfl | rfl
    · refine Tells.mk (key := 4) (N := 71) (ks := [0, 1, 4, 5]) (F := LsmoF Ar.real) (by kernel_rfl) rfl fun xs H r h => ?_
      unfold LsmoF at h
      split at h
      · rename_i x y z i
        split at h
        · rename_i p q hp hq
          cases staOf_eq hp
          cases staOf_eq hq
          obtain ⟨hg, rfl⟩ := R.Tr.two h
          simp only [rw_se, Bool.and_eq_true, decide_eq_true_eq] at hg ⊢
          dsimp only [Ty.den] at hg
          obtain ⟨⟨h1, h2, h3, h4⟩, h5, h6⟩ := hg
          obtain ⟨i, rfl⟩ := Int.eq_ofNat_of_zero_le h3
          simp only [Int.toNat_natCast]
          exact loopSmo p.1 q.1 p.2 q.2 z h2 h1 h5 h6 _ i rfl (by omega)
        · cases h
      · cases h
    · refine Tells.mk (key := 9) (N := 71) (ks := [0, 1, 4, 5, 6]) (F := LsmiF Ar.real) (by kernel_rfl) rfl fun xs H r h => ?_
      unfold LsmiF at h
      split at h
      · rename_i x y z i k
        split at h
        · rename_i p q hp hq
          cases staOf_eq hp
          cases staOf_eq hq
          obtain ⟨hg, rfl⟩ := R.Tr.two h
          simp only [rw_se, Bool.and_eq_true, decide_eq_true_eq] at hg ⊢
          dsimp only [Ty.den] at hg
          obtain ⟨⟨h1, h2, h3, h4, h7, h8, h9⟩, h5, h6⟩ := hg
          obtain ⟨i, rfl⟩ := Int.eq_ofNat_of_zero_le h3
          obtain ⟨k, rfl⟩ := Int.eq_ofNat_of_zero_le h8
          simp only [Int.toNat_natCast] at h7 h9 ⊢
          exact loopSmi p.1 q.1 p.2 q.2 z i h2 (by omega) h7 (short_arcs h5 (by omega)) _ k rfl (by omega)
        · cases h
      · cases h
  · unfold same10F at h
    split at h
    · rename_i x y
      split at h
      · rename_i p q hp hq
        cases staOf_eq hp
        cases staOf_eq hq
        obtain ⟨hg, rfl⟩ := Tr.one h
        refine ⟨rfl, rfl, [], ?_⟩
        rw [tSm]
        simp only [rw_se, Bool.and_eq_true, decide_eq_true_eq, show Int.toNat 0 = 0 from rfl, List.drop_zero] at hg ⊢
        obtain ⟨h1, h2, h3⟩ := hg
        by_cases hn : p.1.length = q.1.length
        · rw [bf (by rw [bne_eq_false_iff_eq]; omega), bt (by rw [h2, h3, Bool.and_self, Bool.and_true, decide_eq_true_eq]; exact ⟨h1, hn.symm, by omega, by omega⟩)]
          by_cases e : p.1 = q.1
          · rw [decide_eq_true e, bt rfl]
          · rw [decide_eq_false e, bf rfl]
        · rw [bt (by rw [bne_iff_ne]; omega), decide_eq_false (fun e => hn (by rw [e]))]
      · cases h
    · cases h

/-! ### Step -/
theorem loopRst (l : List Sta) (nl : Option Bool) (i : Nat) (n z : Int) (z2 : Bool) (hi : i < l.length) (hs : (l.getD i staZ).2.1.length ≤ 1000000) : ∀ (d k : Nat), (l.getD i staZ).2.1.length - k = d → k ≤ (l.getD i staZ).2.1.length →
    LoopTo (Cx Ar.real (Oq1 Ar.real) (Lrst Ar.real)) 100 (loopAt Try.f13 0) 47 [0, 1, 2, 6, 7, 8] [.sl staT l nl false, i64x (i : Int), i64x n, i64x z, boolx z2, i64x (k : Int)] []
      (bif (arcTo ((l.getD i staZ).2.1.drop k) n).2 then (.ret, [.dead, .dead, .dead, i64x (arcTo ((l.getD i staZ).2.1.drop k) n).1, boolx true, .dead], []) else (.exit 0, [.dead, .dead, .dead, .dead, .dead, .dead], [])) := by
  intro d
  induction d with
  | zero =>
    intro k h1 h2
    rw [List.drop_eq_nil_iff.2 (by omega), bf (by rfl)]
    refine LoopTo.left (by simp) fun K => ?_
    have T := lRst Ar.real (Ex × List X × Hp) l nl (i : Int) n z z2 (k : Int) K
    simp only [Int.toNat_natCast] at T
    rw [T, bt (rng hi), bf (nlti (show (l.getD i staZ).2.1.length ≤ k by omega))]
    exact ⟨_, rfl, R.fd (R.fd (R.fd (R.fd (R.fd (R.fd (Forget.same _))))))⟩
  | succ d ih =>
    intro k h1 h2
    have hk : k < (l.getD i staZ).2.1.length := by omega
    have T := fun K => lRst Ar.real (Ex × List X × Hp) l nl (i : Int) n z z2 (k : Int) K
    simp only [Int.toNat_natCast, R.wi1 (show k ≤ 9000000000000000000 by omega)] at T
    rw [R.dropG arcZ hk]
    cases hc : sgn n ((l.getD i staZ).2.1.getD k arcZ) with
    | true =>
      have e : arcTo ((l.getD i staZ).2.1.getD k arcZ :: (l.getD i staZ).2.1.drop (k + 1)) n = (((l.getD i staZ).2.1.getD k arcZ).2.1, true) := by
        unfold arcTo; rw [List.find?_cons, hc]
      rw [e, cond_true]
      refine LoopTo.left (by simp) fun K => ?_
      rw [T, bt (rng hi), bt (lti hk), bt (rng hi), bt (rng hk), bt (show (((l.getD i staZ).2.1.getD k arcZ).1 == n) = true from hc), bt (rng hi), bt (rng hk)]
      exact ⟨_, rfl, R.fd (R.fd (R.fd (R.fk (R.fk (R.fd (Forget.same _))))))⟩
    | false =>
      have e : arcTo ((l.getD i staZ).2.1.getD k arcZ :: (l.getD i staZ).2.1.drop (k + 1)) n = arcTo ((l.getD i staZ).2.1.drop (k + 1)) n := by
        unfold arcTo; rw [List.find?_cons, hc]
      rw [e]
      refine LoopTo.next (fun K => ?_) (ih (k + 1) (by omega) (by omega))
      rw [T, bt (rng hi), bt (lti hk), bt (rng hi), bt (rng hk), bf (show (((l.getD i staZ).2.1.getD k arcZ).1 == n) = false from hc)]

theorem arcTo_no {l : List Arc} {n : Int} (h : (arcTo l n).2 = false) : arcTo l n = (0, false) := by
  unfold arcTo at h ⊢
  split at h
  · cases h
  · rfl

theorem rstep_core (l : List Sta) (nl : Option Bool) (i n : Int) (hl : l.length ≤ 1000000) (hs : shortS l = true) : bodyX (Cx Ar.real (Oq1 Ar.real) (Lrst Ar.real)) 100 Try.f13 [.sl staT l nl false, i64x i, i64x n] [] = some (.tup [i64x (stepA l i n).1, boolx (stepA l i n).2], []) := by
  rw [tRst]
  simp only [rw_se, show Int.toNat 0 = 0 from rfl, List.drop_zero]
  unfold stepA
  by_cases h1 : i < 0
  · rw [bf (by rw [decide_eq_true h1]; rfl), if_neg (fun h => by omega)]
  · rw [bt (by rw [decide_eq_false h1]; rfl)]
    by_cases h2 : i ≥ (l.length : Int)
    · rw [bt (decide_eq_true h2), if_neg (fun h => by omega)]
    · rw [bf (decide_eq_false h2), if_pos (by omega), bt (by rw [hs, Bool.and_true, decide_eq_true_eq]; exact ⟨hl, by omega, by omega, by omega, by omega⟩)]
      have e0 : arcTo (l.getD i.toNat (false, [], ())).2.1 n = arcTo (l.getD i.toNat staZ).2.1 n := rfl
      rw [e0]
      cases h3 : (arcTo (l.getD i.toNat staZ).2.1 n).2 with
      | true => rw [bt rfl]
      | false => rw [bf rfl, arcTo_no h3]

theorem rstep_ok : OrcOk Try.prog 13 (.pure (stepAF Ar.real)) := by
  refine pureOk (Cx.ok oq1 (Lrst Ar.real)) mixed 13 Try.f13 (by kernel_rfl) (by kernel_rfl) (by kernel_rfl) 100 1 (by kernel_rfl) (fun i h => ?_) fun args r h => ?_
  · obtain rfl : i = 0 := by omega
    refine Tells.mk (key := 4) (N := 47) (ks := [0, 1, 2, 6, 7, 8]) (F := LrstF Ar.real) (by kernel_rfl) rfl fun xs H r h => ?_
    unfold LrstF at h
    split at h
    · rename_i x i n z z2 k
      split at h
      · rename_i q hq
        cases staOf_eq hq
        obtain ⟨hg, rfl⟩ := R.Tr.two h
        simp only [rw_se, Bool.and_eq_true, decide_eq_true_eq] at hg ⊢
        dsimp only [Ty.den] at hg
        obtain ⟨⟨h1, h2, h3, h4, h5⟩, h6⟩ := hg
        obtain ⟨i, rfl⟩ := Int.eq_ofNat_of_zero_le h2
        obtain ⟨k, rfl⟩ := Int.eq_ofNat_of_zero_le h4
        simp only [Int.toNat_natCast] at h5 ⊢
        exact loopRst q.1 q.2 i n z z2 (by omega) (short_arcs h6 (by omega)) _ k rfl (by omega)
      · cases h
    · cases h
  · unfold stepAF at h
    split at h
    · rename_i x i n
      split at h
      · rename_i q hq
        cases staOf_eq hq
        obtain ⟨hg, rfl⟩ := Tr.one h
        simp only [rw_se, Bool.and_eq_true, decide_eq_true_eq] at hg
        exact ⟨rfl, rfl, [], rstep_core q.1 q.2 i n hg.1 hg.2⟩
      · cases h
    · cases h

/-! ### Check -/
theorem lastAt_succ {l : List Arc} {k : Nat} : lastAt l (k + 1) = (l.getD k arcZ).1 := by
  unfold lastAt
  rw [if_neg (by omega), Nat.add_sub_cancel]
theorem wrongA_first {i n : Int} {a : Arc} : wrongA i n (-1) a = (!(U.goodN a.1) || (decide (a.2.1 ≤ i) || decide (a.2.1 ≥ n))) := by
  unfold wrongA
  cases h : U.goodN a.1 with
  | true =>
    have := goodN_pos h
    rw [decide_eq_false (by omega), Bool.false_or]
  | false => simp

theorem loopRcki (l : List Sta) (nl : Option Bool) (z : Bool) (i : Nat) (hi : i < l.length) (hs : (l.getD i staZ).2.1.length ≤ 1000000) : ∀ (d k : Nat), (l.getD i staZ).2.1.length - k = d → k ≤ (l.getD i staZ).2.1.length →
    LoopTo (Cx Ar.real (Oq1 Ar.real) (Lrck Ar.real)) 100 (loopAt Try.f16 1) 74 [0, 2, 3, 4] [.sl staT l nl false, boolx z, i64x (i : Int), i64x (k : Int)] []
      (bif anyC i l.length (lastAt (l.getD i staZ).2.1 k) ((l.getD i staZ).2.1.drop k) then (.ret, [.dead, boolx false, .dead, .dead], []) else (.exit 2, [.sl staT l nl false, boolx z, i64x (i : Int), .dead], [])) := by
  intro d
  induction d with
  | zero =>
    intro k h1 h2
    rw [List.drop_eq_nil_iff.2 (by omega), bf (by rfl)]
    refine LoopTo.left (by simp) fun K => ?_
    have T := lRcki Ar.real (Ex × List X × Hp) l nl z (i : Int) (k : Int) K
    simp only [Int.toNat_natCast] at T
    rw [T, bt (rng hi), bf (nlti (show (l.getD i staZ).2.1.length ≤ k by omega))]
    exact ⟨_, rfl, R.fk (R.fk (R.fk (R.fd (Forget.same _))))⟩
  | succ d ih =>
    intro k h1 h2
    have hk : k < (l.getD i staZ).2.1.length := by omega
    rw [R.dropG arcZ hk, anyC, ← lastAt_succ]
    obtain ⟨a, ha⟩ : ∃ a, a = (l.getD i staZ).2.1.getD k arcZ := ⟨_, rfl⟩
    rw [← ha]
    have hw1 : wrongA i l.length (lastAt (l.getD i staZ).2.1 k) a = (!(U.goodN a.1) || (decide (a.2.1 ≤ i) || (decide (a.2.1 ≥ l.length) || (decide (0 < k) && decide (a.1 ≤ lastAt (l.getD i staZ).2.1 k))))) := by
      by_cases hk0 : k = 0
      · subst hk0
        rw [show lastAt (l.getD i staZ).2.1 0 = -1 from rfl, wrongA_first]
        simp
      · rw [decide_eq_true (show 0 < k by omega), Bool.true_and]
        unfold wrongA
        cases decide (a.1 ≤ lastAt (l.getD i staZ).2.1 k) <;> cases U.goodN a.1 <;> cases decide (a.2.1 ≤ (i : Int)) <;> cases decide (a.2.1 ≥ (l.length : Int)) <;> rfl
    -- one round
    have step : ∀ K : Ex → List X → Hp → Option (Ex × List X × Hp), stepF (Cx Ar.real (Oq1 Ar.real) (Lrck Ar.real)) 100 (loopAt Try.f16 1) 74 [0, 2, 3, 4] [.sl staT l nl false, boolx z, i64x (i : Int), i64x (k : Int)] [] K =
        bif wrongA i l.length (lastAt (l.getD i staZ).2.1 k) a then K .ret [.sl staT l nl false, boolx false, i64x (i : Int), i64x (k : Int)] [(arcT, .d arcT a)] else K .normal [.sl staT l nl false, boolx z, i64x (i : Int), i64x ((k + 1 : Nat) : Int)] [(arcT, .d arcT a)] := by
      intro K
      have T := lRcki Ar.real (Ex × List X × Hp) l nl z (i : Int) (k : Int) K
      rw [Int.toNat_natCast, Int.toNat_natCast, R.wi1 (show k ≤ 9000000000000000000 by omega), ← ha, rw_se] at T
      rw [T, bt (rng hi), bt (lti hk), bt (rng hi), bt (rng hk), hw1]
      cases hg : U.goodN a.1 with
      | false => rw [bf (c := (!false) == false) rfl]; rfl
      | true =>
        rw [bt (c := (!true) == false) rfl]
        by_cases c1 : a.2.1 ≤ (i : Int)
        · rw [bf (by rw [decide_eq_true c1]; rfl), decide_eq_true c1]; rfl
        · rw [bt (by rw [decide_eq_false c1]; rfl), decide_eq_false c1]
          by_cases c2 : a.2.1 ≥ (l.length : Int)
          · rw [bf (by rw [decide_eq_true c2]; rfl), decide_eq_true c2]; rfl
          · rw [bt (by rw [decide_eq_false c2]; rfl), decide_eq_false c2]
            by_cases c3 : 0 < k
            · have hwk : Ar.real.wrap .i64 ((k : Int) - 1) = ((k - 1 : Nat) : Int) := by rw [rw_wrap, wi64 (by omega) (by omega)]; omega
              rw [hwk, Int.toNat_natCast]
              have hl2 : (List.getD (List.getD l i staZ).snd.fst (k - 1) arcZ).fst = lastAt (l.getD i staZ).2.1 k := by
                unfold lastAt
                rw [if_neg (by omega)]
              rw [bt (by rw [decide_eq_true (show (k : Int) > 0 by omega)]; rfl), bt (rng hi), bt (rng (show k - 1 < (l.getD i staZ).2.1.length by omega)), hl2, decide_eq_true c3]
              cases decide (a.1 ≤ lastAt (l.getD i staZ).2.1 k) <;> rfl
            · rw [bf (by rw [decide_eq_false (show ¬ (k : Int) > 0 by omega)]; rfl), decide_eq_false c3]; rfl
    cases hw : wrongA i l.length (lastAt (l.getD i staZ).2.1 k) a with
    | true =>
      rw [Bool.true_or, cond_true]
      exact LoopTo.end (by simp) (fun K => (step K).trans (bt hw)) (R.fd (R.fk (R.fd (R.fd (Forget.same _))))) (HWeak.of (H' := []) trivial rfl) (by simp) (.inr rfl)
    | false =>
      rw [Bool.false_or]
      exact LoopTo.weak (fun K => (step K).trans (bf hw)) (Forget.same _) (HWeak.of (H' := []) trivial rfl) (by simp) (.inr rfl) (ih (k + 1) (by omega) (by omega))

theorem loopRcko (l : List Sta) (nl : Option Bool) (z : Bool) (hl : l.length ≤ 1000000) (hs : shortS l = true) : ∀ (d i : Nat), l.length - i = d → i ≤ l.length →
    LoopTo (Cx Ar.real (Oq1 Ar.real) (Lrck Ar.real)) 100 (loopAt Try.f16 0) 74 [0, 2, 3] [.sl staT l nl false, boolx z, i64x (i : Int)] []
      (bif anyS l.length i (l.drop i) then (.ret, [.dead, boolx false, .dead], []) else (.exit 0, [.sl staT l nl false, .dead, .dead], [])) := by
  intro d
  induction d with
  | zero =>
    intro i h1 h2
    rw [List.drop_eq_nil_iff.2 (by omega), bf (by rfl)]
    refine LoopTo.left (by simp) fun K => ?_
    rw [lRcko, bf (nlti (by omega))]
    exact ⟨_, rfl, R.fk (R.fd (R.fd (Forget.same _)))⟩
  | succ d ih =>
    intro i h1 h2
    have hi : i < l.length := by omega
    have T := fun K => lRcko Ar.real (Ex × List X × Hp) l nl z (i : Int) K
    simp only [Int.toNat_natCast, rw_se, show Int.toNat 0 = 0 from rfl, List.drop_zero, R.wi1 (show i ≤ 9000000000000000000 by omega), show ∀ l, lastAt l 0 = -1 from fun _ => rfl] at T
    have hg : (decide (l.length ≤ 1000000 ∧ (0 : Int) ≤ (i : Int) ∧ (i : Int) < (l.length : Int) ∧ (0 : Int) ≤ 0 ∧ (0 : Int) ≤ ((l.getD i staZ).2.1.length : Int)) && shortS l) = true := by
      rw [hs, Bool.and_true, decide_eq_true_eq]
      exact ⟨hl, by omega, by omega, by omega, by omega⟩
    rw [R.dropG staZ hi, anyS]
    cases hw : anyC i l.length (-1) (l.getD i staZ).2.1 with
    | true =>
      rw [Bool.true_or, cond_true]
      refine LoopTo.left (by simp) fun K => ?_
      rw [T, bt (lti hi), bt hg, bt hw]
      exact ⟨_, rfl, Forget.same _⟩
    | false =>
      rw [Bool.false_or]
      refine LoopTo.next (fun K => ?_) (ih (i + 1) (by omega) (by omega))
      rw [T, bt (lti hi), bt hg, bf hw]

theorem rcheck_ok : OrcOk Try.prog 16 (.pure (checkF Ar.real)) := by
  refine pureOk (Cx.ok oq1 (Lrck Ar.real)) mixed 16 Try.f16 (by kernel_rfl) (by kernel_rfl) (by kernel_rfl) 100 2 (by kernel_rfl) (fun i h => ?_) fun args r h => ?_
  · have hi : i = 0 ∨ i = 1 := by omega
    rcases hi with rfl | rfl
    · refine Tells.mk (key := 2) (N := 74) (ks := [0, 2, 3]) (F := LrcoF2 Ar.real) (by kernel_rfl) rfl fun xs H r h => ?_
      unfold LrcoF2 at h
      split at h
      · rename_i x z i
        split at h
        · rename_i q hq
          cases staOf_eq hq
          obtain ⟨hg, rfl⟩ := R.Tr.two h
          simp only [rw_se, Bool.and_eq_true, decide_eq_true_eq] at hg ⊢
          dsimp only [Ty.den] at hg
          obtain ⟨⟨h1, h2, h3⟩, h4⟩ := hg
          obtain ⟨i, rfl⟩ := Int.eq_ofNat_of_zero_le h2
          simp only [Int.toNat_natCast]
          exact loopRcko q.1 q.2 z h1 h4 _ i rfl (by omega)
        · cases h
      · cases h
    · refine Tells.mk (key := 5) (N := 74) (ks := [0, 2, 3, 4]) (F := LrciF2 Ar.real) (by kernel_rfl) rfl fun xs H r h => ?_
      unfold LrciF2 at h
      split at h
      · rename_i x z i k
        split at h
        · rename_i q hq
          cases staOf_eq hq
          obtain ⟨hg, rfl⟩ := R.Tr.two h
          simp only [rw_se, Bool.and_eq_true, decide_eq_true_eq] at hg ⊢
          dsimp only [Ty.den] at hg
          obtain ⟨⟨h1, h2, h3, h4, h5⟩, h6⟩ := hg
          obtain ⟨i, rfl⟩ := Int.eq_ofNat_of_zero_le h2
          obtain ⟨k, rfl⟩ := Int.eq_ofNat_of_zero_le h4
          simp only [Int.toNat_natCast] at h5 ⊢
          exact loopRcki q.1 q.2 z i (by omega) (short_arcs h6 (by omega)) _ k rfl (by omega)
        · cases h
      · cases h
  · unfold checkF at h
    split at h
    · rename_i q hq
      cases staOf_eq hq
      obtain ⟨l, nl⟩ := q
      obtain ⟨hg, rfl⟩ := Tr.one h
      refine ⟨rfl, rfl, [], ?_⟩
      rw [tRck]
      simp only [rw_se, Bool.and_eq_true, decide_eq_true_eq, show Int.toNat 0 = 0 from rfl, List.drop_zero] at hg ⊢
      rw [bt (by rw [hg.2, Bool.and_true, decide_eq_true_eq]; exact ⟨hg.1, by omega, by omega⟩)]
      unfold checkB
      cases anyS l.length 0 l with
      | true => rfl
      | false =>
        rw [cond_false]
        by_cases h1 : 0 < l.length
        · rw [bt (by rw [decide_eq_true (show (l.length : Int) ≥ 1 by omega)]; rfl), decide_eq_true h1]
          have e : decide ((l.length : Int) ≤ 6001) = decide (l.length ≤ 6001) := by
            by_cases h2 : l.length ≤ 6001
            · rw [decide_eq_true h2, decide_eq_true (by omega)]
            · rw [decide_eq_false h2, decide_eq_false (by omega)]
          rw [e]; rfl
        · rw [bf (by rw [decide_eq_false (show ¬ (l.length : Int) ≥ 1 by omega)]; rfl), decide_eq_false h1]; rfl
    · cases h

theorem is_ok : OrcOk Try.prog 25 (.pure (isF Ar.real)) := by
  refine pureOk (Cx.ok oq1 noL) mixed 25 Try.f25 (by kernel_rfl) (by kernel_rfl) (by kernel_rfl) 100 0 (by kernel_rfl) (fun i h => by omega) fun args r h => ?_
  unfold isF at h
  split at h
  · rename_i l nl w nw
    obtain ⟨hg, rfl⟩ := Tr.one h
    refine ⟨rfl, rfl, [], ?_⟩
    rw [tIs, bt hg]
  · cases h

theorem oq2 : OOk (Oq2 Ar.real) := (oq1.add stepA_ok).add is_ok

end Go.Proofs.Ytnbfiifkaddehaa.V

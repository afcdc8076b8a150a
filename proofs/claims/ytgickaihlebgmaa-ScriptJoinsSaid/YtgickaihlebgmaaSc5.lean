/-
  Chapter 23: the small functions do what they tell.
  It speaks of the pinned program alone; no condition.
-/
import Derived.Test.YtgickaihlebgmaaSc4a
namespace Go.Proofs.Ytgickaihlebgmaa.V
open Go
set_option linter.unusedVariables false
set_option linter.unusedSimpArgs false

/-! Means -/
def Ends (o : Option (X × Hp)) (r : X) : Prop := ∃ H', o = some (r, H')
theorem Ends_bif {c : Bool} {a b : Option (X × Hp)} {r : X} : Ends (bif c then a else b) r ↔ (c = true → Ends a r) ∧ (c = false → Ends b r) := by
  cases c <;> simp [Ends]
theorem Ends_some {x r : X} {H : Hp} : Ends (some (x, H)) r ↔ x = r := by
  constructor
  · rintro ⟨H', h⟩; cases h; rfl
  · rintro rfl; exact ⟨H, rfl⟩
theorem Ends_none {r : X} : Ends none r ↔ False := by simp [Ends]
theorem X_d {t : Ty} {a b : t.den} : (X.d t a = X.d t b) ↔ a = b := by simp
theorem X_bool {a b : Bool} : (X.d .bool a = X.d .bool b) ↔ (a = true ↔ b = true) := by rw [X_d]; exact Bool.eq_iff_iff
theorem run_test {α β : Type} {c : Bool} {a b : Tr α} {k : α → Option β} : (Tr.test c a b).run k = bif c then a.run k else b.run k := rfl
theorem run_give {α β : Type} {a : α} {k : α → Option β} : (Tr.give a).run k = k a := rfl
theorem getD_mem' {α : Type} {d : α} {b : List α} {i : Nat} (h : i < b.length) : b.getD i d ∈ b := by
  rw [List.getD_eq_getElem?_getD, List.getElem?_eq_getElem h]; exact List.getElem_mem _
theorem drop_cons' {α : Type} (d : α) {b : List α} {i : Nat} (h : i < b.length) : b.drop i = b.getD i d :: b.drop (i + 1) := by
  rw [List.drop_eq_getElem_cons h, List.getD_eq_getElem?_getD, List.getElem?_eq_getElem h]; rfl
theorem bd {α : Type} {c : Prop} [Decidable c] {a b : α} (h : c) : (bif decide c then a else b) = a := bt (decide_eq_true h)
theorem bnd {α : Type} {c : Prop} [Decidable c] {a b : α} (h : ¬ c) : (bif decide c then a else b) = b := bf (decide_eq_false h)

/-- In whatever form a variable's content is told. -/
theorem HRep.canon {g : Ghost} {w : World} {dh : Nat} {t : Ty} {x : X} {H : Hp} {y : t.den} (h : HRep g w dh ((t, x) :: H)) (e : toD t x = some y) : HRep g w dh ((t, .d t y) :: H) := by
  refine ⟨h.1, fun id t' c e' => ?_⟩
  cases id with
  | zero =>
    simp only [List.getElem?_cons_zero, Option.some.injEq, Prod.mk.injEq] at e'
    obtain ⟨rfl, rfl⟩ := e'
    obtain ⟨r1, r2, r3, r4, arr, ty, r5, r6⟩ := h.2 0 t x rfl
    refine ⟨r1, r2, r3, r4, arr, ty, r5, ?_⟩
    simp only [RepO]
    exact ⟨trivial, RepO.toD _ _ _ _ _ r6 e⟩
  | succ id => exact h.2 (id + 1) t' c e'
theorem canonR_ok {f : Nat} {F : List X → Hp → Tr (X × Hp)} (h : OrcOk Try.prog f (.eff F)) : OrcOk Try.prog f (.eff (canonR F)) := by
  refine ⟨h.1, fun args H r H' hr g w d dh vs h1 h2 h3 h4 => ?_⟩
  replace hr : (canonR F args H).run some = some (r, H') := hr
  unfold canonR at hr
  split at hr
  · split at hr
    · rename_i y e
      exact h.2 args _ r H' hr g w d dh vs h1 h2 (HRep.canon h3 e) h4
    · cases hr
  · cases hr

/-! Shapes and checks -/
theorem checkC_iff {k : Int} {a b : List Int} {n m u : Int} : checkC (k, a, b, n, m, u, ()) = true ↔
    (1 ≤ k ∧ k ≤ 5) ∧ (k = 1 ∨ k = 2 ∨ k = 4 ∨ k = 5 ∨ a.length = 0) ∧ (k = 1 ∨ b.length = 0) ∧ (k = 5 ∨ (n = 0 ∧ m = 0 ∧ u = 0)) ∧ 0 ≤ n ∧ 0 ≤ u := by
  simp only [checkC, okK, Bool.and_eq_true, Bool.or_eq_true, decide_eq_true_eq, List.isEmpty_iff, ← List.length_eq_zero_iff]
  rcases tx_cases k with ⟨h1, e⟩ | ⟨h1, e⟩ | ⟨h1, h2, h3, h4, e⟩ <;> rcases nm_cases k with ⟨h5, e'⟩ | ⟨h5, e'⟩ <;> rw [e, e'] <;> omega

theorem of_ok : OrcOk Try.prog 22 (.pure (ofF Ar.real)) := by
  refine pureOk (Cx.ok o_viA noL) mixed 22 Try.f22 (by kernel_rfl) (by kernel_rfl) (by kernel_rfl) 100 0 (by kernel_rfl) (fun i h => by omega) fun args r h => ?_
  unfold ofF at h
  split at h
  · rename_i k
    simp only [run_test, run_give, rw_se] at h
    dsimp only [Ty.den] at k h
    by_cases h1 : k = 1
    · subst h1; cases h; exact ⟨rfl, rfl, _, (tOf _ _).trans rfl⟩
    by_cases h5 : k = 5
    · subst h5; cases h; exact ⟨rfl, rfl, _, (tOf _ _).trans rfl⟩
    by_cases h2 : k = 2
    · subst h2; cases h; exact ⟨rfl, rfl, _, (tOf _ _).trans rfl⟩
    by_cases h4 : k = 4
    · subst h4; cases h; exact ⟨rfl, rfl, _, (tOf _ _).trans rfl⟩
    by_cases h3 : k = 3
    · subst h3; cases h; exact ⟨rfl, rfl, _, (tOf _ _).trans rfl⟩
    rw [bnd h1, bnd h5, bnd (by omega), bnd h3] at h
    cases h
    refine ⟨rfl, rfl, ?_⟩
    show Ends _ _
    rw [tOf, bf (by simpa using h5), bf (by simpa using h2), bf (by simpa using h4), bf (by simpa using h1), bf (by simpa using h3)]
    exact Ends_some.2 rfl
  · cases h

theorem o_of : OOk (Oadd (OviA Ar.real) 22 (.pure (ofF Ar.real))) := o_viA.add of_ok

theorem check_ok : OrcOk Try.prog 15 (.pure (checkF Ar.real)) := by
  refine pureOk (Cx.ok o_of noL) mixed 15 Try.f15 (by kernel_rfl) (by kernel_rfl) (by kernel_rfl) 100 0 (by kernel_rfl) (fun i h => by omega) fun args r h => ?_
  unfold checkF at h
  split at h
  · rename_i c
    cases h
    refine ⟨rfl, rfl, ?_⟩
    show Ends _ _
    rw [tCheck]
    obtain ⟨k, a, b, n, m, u, ⟨⟩⟩ := c
    simp only [rw_se, Ends_bif, Ends_some, Ends_none, X_bool]
    simp only [checkC_iff, beq_iff_eq, bne_iff_ne, bne_eq_false_iff_eq, beq_true, beq_false, Bool.not_eq_true', Bool.not_eq_false', decide_true, decide_false, Bool.and_eq_true, Bool.or_eq_true, decide_eq_true_eq, decide_eq_false_iff_not, Bool.false_eq_true, Bool.true_eq_false, beq_eq_false_iff_ne, ne_eq, iff_true, iff_false, false_iff, true_iff, not_true]
    omega
  · cases h

theorem refCheck_ok : OrcOk Try.prog 16 (.pure (checkF Ar.real)) := by
  refine pureOk (Cx.ok o_viA noL) mixed 16 Try.f16 (by kernel_rfl) (by kernel_rfl) (by kernel_rfl) 100 0 (by kernel_rfl) (fun i h => by omega) fun args r h => ?_
  unfold checkF at h
  split at h
  · rename_i c
    cases h
    refine ⟨rfl, rfl, ?_⟩
    show Ends _ _
    rw [tRefCheck]
    obtain ⟨k, a, b, n, m, u, ⟨⟩⟩ := c
    simp only [rw_se, Ends_bif, Ends_some, Ends_none, X_bool]
    simp only [checkC_iff, beq_iff_eq, bne_iff_ne, bne_eq_false_iff_eq, beq_true, beq_false, Bool.not_eq_true', Bool.not_eq_false', decide_true, decide_false, Bool.and_eq_true, Bool.or_eq_true, decide_eq_true_eq, decide_eq_false_iff_not, Bool.false_eq_true, Bool.true_eq_false, beq_eq_false_iff_ne, ne_eq, iff_true, iff_false, false_iff, true_iff, not_true]
    omega
  · cases h

theorem bad_ok : OrcOk Try.prog 19 (.pure (nocheckF Ar.real)) := by
  refine pureOk (Cx.ok (o_viA.add check_ok) noL) mixed 19 Try.f19 (by kernel_rfl) (by kernel_rfl) (by kernel_rfl) 100 0 (by kernel_rfl) (fun i h => by omega) fun args r h => ?_
  unfold nocheckF at h
  split at h
  · rename_i c
    cases h
    exact ⟨rfl, rfl, _, tBad _ _⟩
  · cases h

theorem o_scA : OOk (OscA Ar.real) := ((((o_viA.add of_ok).add check_ok).add refCheck_ok).add bad_ok)

/-! The first that may not be -/
theorem firstBad_ge (l : List Cm) : -1 ≤ firstBad l := by
  induction l with
  | nil => decide
  | cons c l ih => unfold firstBad; split <;> (try split) <;> omega
theorem firstBad_all (l : List Cm) : firstBad l < 0 ↔ l.all checkC = true := by
  induction l with
  | nil => simp [firstBad]
  | cons c l ih =>
    have := firstBad_ge l
    unfold firstBad
    rw [List.all_cons, Bool.and_eq_true, ← ih]
    split
    · rename_i h
      split <;> simp [h] <;> omega
    · rename_i h
      simp [h]

theorem loopIdx (l : List Cm) (nl : Option Bool) (z : Int) (hl : l.length ≤ 140737488355328) : ∀ (n i : Nat), l.length - i = n → i ≤ l.length →
    ∀ r, (Tr.test (decide (firstBad (l.drop i) < 0)) (.give (Ex.exit 0, [X.dead, .dead, i64x z, .dead, .dead], ([] : Hp))) (.give (.ret, [.dead, .dead, i64x ((i : Int) + firstBad (l.drop i)), .dead, .dead], []))).run some = some r →
    LoopTo (Cx Ar.real (OscA Ar.real) (Lidx Ar.real)) 100 (loopAt Try.f28 0) 19 [0, 1, 4, 7, 8] [cms l nl false, .fn 19 [] [], i64x z, i64x l.length, i64x i] [] r := by
  intro n
  induction n with
  | zero =>
    intro i h1 h2 r hr
    have e1 : l.drop i = [] := by rw [List.drop_eq_nil_iff]; omega
    rw [e1] at hr
    cases hr
    refine LoopTo.left (by simp) fun k => ?_
    rw [lIndex, bnd (by omega)]
    exact ⟨_, rfl, Forget.cons (.inl rfl) (Forget.cons (.inl rfl) (Forget.cons (.inr rfl) (Forget.cons (.inl rfl) (Forget.cons (.inl rfl) (Forget.same _)))))⟩
  | succ n ih =>
    intro i h1 h2 r hr
    have hi : i < l.length := by omega
    rw [drop_cons' (Ty.zero cmdT) hi, firstBad] at hr
    by_cases hc : checkC (l.getD i (Ty.zero cmdT)) = true
    · rw [if_pos hc] at hr
      refine LoopTo.next (fun k => ?_) (ih (i + 1) (by omega) (by omega) r ?_)
      · rw [lIndex]
        simp only [Int.toNat_natCast, rw_wrap, rw_se]
        rw [bd (by omega), bd (by omega), bf (by rw [hc]; rfl), wi64 (by omega) (by omega)]
        rfl
      · have hg := firstBad_ge (l.drop (i + 1))
        by_cases hs : firstBad (l.drop (i + 1)) < 0
        · rw [if_pos hs] at hr
          rw [decide_eq_true hs]
          exact hr
        · rw [if_neg hs, decide_eq_false (by omega)] at hr
          rw [decide_eq_false hs]
          have e : (i : Int) + (firstBad (l.drop (i + 1)) + 1) = ((i + 1 : Nat) : Int) + firstBad (l.drop (i + 1)) := by omega
          rw [← e]
          exact hr
    · rw [if_neg hc] at hr
      cases hr
      refine LoopTo.left (by simp) fun k => ?_
      rw [lIndex]
      simp only [Int.toNat_natCast, rw_wrap, rw_se]
      rw [bd (by omega), bd (by omega), bt (by simpa using hc), Int.add_zero]
      exact ⟨_, rfl, Forget.cons (.inl rfl) (Forget.cons (.inl rfl) (Forget.cons (.inr rfl) (Forget.cons (.inl rfl) (Forget.cons (.inl rfl) (Forget.same _)))))⟩

theorem index_ok : OrcOk Try.prog 28 (.pure (indexF Ar.real)) := by
  refine pureOk (Cx.ok o_scA (Lidx Ar.real)) mixed 28 Try.f28 (by kernel_rfl) (by kernel_rfl) (by kernel_rfl) 100 1 (by kernel_rfl) (fun i h => ?_) fun args r h => ?_
  · obtain rfl : i = 0 := by omega
    refine Tells.mk (key := 2) (N := 19) (ks := [0, 1, 4, 7, 8]) (F := LidxF Ar.real) (by kernel_rfl) rfl fun xs H r h => ?_
    unfold LidxF at h
    split at h
    · rename_i l nl z n i
      rw [run_test] at h
      by_cases hg : (decide (l.length ≤ 140737488355328 ∧ n = l.length ∧ 0 ≤ i ∧ i ≤ n)) = true
      · simp only [rw_se] at h
        rw [bt hg] at h
        rw [decide_eq_true_eq] at hg
        dsimp only [Ty.den] at hg
        obtain ⟨h1, h2, h3, h4⟩ := hg
        obtain ⟨m, rfl⟩ := Int.eq_ofNat_of_zero_le h3
        subst h2
        simp only [Int.toNat_natCast] at h
        exact loopIdx l nl z h1 _ m rfl (by omega) r h
      · simp only [rw_se] at h
        rw [bf (by simpa using hg)] at h
        cases h
    · cases h
  · unfold indexF at h
    split at h
    · rename_i l nl
      obtain ⟨hg, rfl⟩ := Tr.one h
      refine ⟨rfl, rfl, [], ?_⟩
      rw [tIndex]
      simp only [rw_se, decide_eq_true_eq] at hg ⊢
      have z : Int.toNat 0 = 0 := rfl
      rw [bd ⟨hg, by first | trivial | rfl, by omega, by omega⟩, z, List.drop_zero, Int.zero_add]
      have := firstBad_ge l
      by_cases hs : firstBad l < 0
      · rw [bd hs, show firstBad l = -1 by omega]
      · rw [bnd hs]
    · cases h

theorem o_sc1 : OOk (Osc1 Ar.real) := o_scA.add index_ok

theorem contains_ok : OrcOk Try.prog 18 (.pure (containsF Ar.real)) := by
  refine pureOk (Cx.ok o_sc1 noL) mixed 18 Try.f18 (by kernel_rfl) (by kernel_rfl) (by kernel_rfl) 100 0 (by kernel_rfl) (fun i h => by omega) fun args r h => ?_
  unfold containsF at h
  split at h
  · rename_i l nl
    obtain ⟨hg, rfl⟩ := Tr.one h
    refine ⟨rfl, rfl, [], ?_⟩
    rw [tContains]
    simp only [rw_se, decide_eq_true_eq] at hg ⊢
    rw [bd hg]
    have h1 := firstBad_all l
    have e : decide (firstBad l ≥ 0) = !l.all checkC := by
      cases hc : l.all checkC
      · rw [hc] at h1; simp at h1; simpa using h1
      · rw [hc] at h1; simp at h1; simpa using h1
    rw [e]
  · cases h

/-! Few, same -/
theorem loopFew (l : List Cm) (nl : Option Bool) (m : Int) (z : Bool) (hl : l.length ≤ 9223372036854775807) : ∀ (n i : Nat), l.length - i = n → i ≤ l.length →
    ∀ r, (Tr.test ((l.drop i).all small) (.give (Ex.exit 0, [cms l nl false, i64x m, boolx z, .dead], ([] : Hp))) (.give (.ret, [.dead, .dead, boolx false, .dead], []))).run some = some r →
    LoopTo (Cx Ar.real (OscA Ar.real) (Lfew Ar.real)) 100 (loopAt Try.f9 0) 32 [0, 1, 4, 5] [cms l nl false, i64x m, boolx z, i64x i] [] r := by
  intro n
  induction n with
  | zero =>
    intro i h1 h2 r hr
    have e1 : l.drop i = [] := by rw [List.drop_eq_nil_iff]; omega
    rw [e1] at hr
    cases hr
    refine LoopTo.left (by simp) fun k => ?_
    rw [lFew, bnd (by omega)]
    exact ⟨_, rfl, Forget.cons (.inr rfl) (Forget.cons (.inr rfl) (Forget.cons (.inr rfl) (Forget.cons (.inl rfl) (Forget.same _))))⟩
  | succ n ih =>
    intro i h1 h2 r hr
    have hi : i < l.length := by omega
    rw [drop_cons' (Ty.zero cmdT) hi, List.all_cons] at hr
    by_cases hc1 : (l.getD i (Ty.zero cmdT)).2.1.length ≤ 3000
    · by_cases hc2 : (l.getD i (Ty.zero cmdT)).2.2.1.length ≤ 3000
      · rw [show small (l.getD i (Ty.zero cmdT)) = true from decide_eq_true ⟨hc1, hc2⟩, Bool.true_and] at hr
        refine LoopTo.next (fun k => ?_) (ih (i + 1) (by omega) (by omega) r hr)
        rw [lFew]
        simp only [Int.toNat_natCast, rw_wrap, rw_se]
        rw [bd (by omega), bd (by omega), bt (by rw [beq_iff_eq, decide_eq_false_iff_not]; omega), bd (by omega), bnd (by omega), wi64 (by omega) (by omega)]
        rfl
      · rw [show small (l.getD i (Ty.zero cmdT)) = false from decide_eq_false (fun h => hc2 h.2), Bool.false_and] at hr
        cases hr
        refine LoopTo.left (by simp) fun k => ?_
        rw [lFew]
        simp only [Int.toNat_natCast, rw_wrap, rw_se]
        rw [bd (by omega), bd (by omega), bt (by rw [beq_iff_eq, decide_eq_false_iff_not]; omega), bd (by omega), bd (by omega)]
        exact ⟨_, rfl, Forget.cons (.inl rfl) (Forget.cons (.inl rfl) (Forget.cons (.inr rfl) (Forget.cons (.inl rfl) (Forget.same _))))⟩
    · rw [show small (l.getD i (Ty.zero cmdT)) = false from decide_eq_false (fun h => hc1 h.1), Bool.false_and] at hr
      cases hr
      refine LoopTo.left (by simp) fun k => ?_
      rw [lFew]
      simp only [Int.toNat_natCast, rw_wrap, rw_se]
      rw [bd (by omega), bd (by omega), bf (by rw [decide_eq_true (by omega)]; rfl)]
      exact ⟨_, rfl, Forget.cons (.inl rfl) (Forget.cons (.inl rfl) (Forget.cons (.inr rfl) (Forget.cons (.inl rfl) (Forget.same _))))⟩

theorem few_ok : OrcOk Try.prog 9 (.pure (fewF Ar.real)) := by
  refine pureOk (Cx.ok o_scA (Lfew Ar.real)) mixed 9 Try.f9 (by kernel_rfl) (by kernel_rfl) (by kernel_rfl) 100 1 (by kernel_rfl) (fun i h => ?_) fun args r h => ?_
  · obtain rfl : i = 0 := by omega
    refine Tells.mk (key := 2) (N := 32) (ks := [0, 1, 4, 5]) (F := LfewF Ar.real) (by kernel_rfl) rfl fun xs H r h => ?_
    unfold LfewF at h
    split at h
    · rename_i l nl m z i
      rw [run_test] at h
      by_cases hg : (decide (l.length ≤ 9223372036854775807 ∧ 0 ≤ i ∧ i ≤ l.length)) = true
      · simp only [rw_se] at h
        rw [bt hg] at h
        rw [decide_eq_true_eq] at hg
        dsimp only [Ty.den] at hg
        obtain ⟨h1, h3, h4⟩ := hg
        obtain ⟨j, rfl⟩ := Int.eq_ofNat_of_zero_le h3
        simp only [Int.toNat_natCast] at h
        exact loopFew l nl m z h1 _ j rfl (by omega) r h
      · simp only [rw_se] at h
        rw [bf (by simpa using hg)] at h
        cases h
    · cases h
  · unfold fewF at h
    split at h
    · rename_i l nl m
      obtain ⟨hg, rfl⟩ := Tr.one h
      refine ⟨rfl, rfl, [], ?_⟩
      rw [tFew]
      simp only [rw_se, decide_eq_true_eq] at hg ⊢
      have z : Int.toNat 0 = 0 := rfl
      rw [bd ⟨hg, by omega, by omega⟩, z, List.drop_zero]
      cases hs : l.all small
      · rfl
      · rfl
    · cases h

theorem wfB_iff {c : Cm} : wfB c = true ↔ (∀ x ∈ c.2.1, 0 ≤ x ∧ x < 256) ∧ (∀ x ∈ c.2.2.1, 0 ≤ x ∧ x < 256) ∧ (c.1 < 9223372036854775808 ∧ -9223372036854775808 ≤ c.1 ∧ c.2.2.2.1 < 9223372036854775808 ∧ 0 ≤ c.2.2.2.2.1 ∧ c.2.2.2.2.1 < 18446744073709551616 ∧ c.2.2.2.2.2.1 < 9223372036854775808) := by
  simp only [wfB, Bool.and_eq_true, bytesB_iff, decide_eq_true_eq]

theorem cm_eq {a b : Cm} : a = b ↔ a.2.1 = b.2.1 ∧ a.2.2.1 = b.2.2.1 ∧ a.1 = b.1 ∧ a.2.2.2.1 = b.2.2.2.1 ∧ a.2.2.2.2.1 = b.2.2.2.2.1 ∧ a.2.2.2.2.2.1 = b.2.2.2.2.2.1 := by
  obtain ⟨k, x, y, n, m, u, ⟨⟩⟩ := a
  obtain ⟨k', x', y', n', m', u', ⟨⟩⟩ := b
  simp only [Prod.mk.injEq, and_true]
  constructor
  · rintro ⟨h1, h2, h3, h4, h5, h6⟩; exact ⟨h2, h3, h1, h4, h5, h6⟩
  · rintro ⟨h2, h3, h1, h4, h5, h6⟩; exact ⟨h1, h2, h3, h4, h5, h6⟩

theorem loopSame (a b : List Cm) (na nb : Option Bool) (z : Bool) (ha : a.length ≤ 1000000000) (hb : b.length = a.length) (wa : a.all wfB = true) (wb : b.all wfB = true) : ∀ (n i : Nat), a.length - i = n → i ≤ a.length →
    ∀ r, (Tr.test (eqCs (a.drop i) (b.drop i)) (.give (Ex.exit 0, [X.dead, .dead, boolx z, .dead], ([] : Hp))) (.give (.ret, [.dead, .dead, boolx false, .dead], []))).run some = some r →
    LoopTo (Cx Ar.real (OscA Ar.real) (Lsame Ar.real)) 100 (loopAt Try.f14 0) 100 [0, 1, 4, 5] [cms a na false, cms b nb false, boolx z, i64x i] [] r := by
  have fg : ∀ (x y : X) (z' : Bool) (v : X), Forget [x, y, boolx z', v] [.dead, .dead, boolx z', .dead] := fun x y z' v =>
    Forget.cons (.inl rfl) (Forget.cons (.inl rfl) (Forget.cons (.inr rfl) (Forget.cons (.inl rfl) (Forget.same _))))
  intro n
  induction n with
  | zero =>
    intro i h1 h2 r hr
    have e1 : a.drop i = [] := by rw [List.drop_eq_nil_iff]; omega
    have e2 : b.drop i = [] := by rw [List.drop_eq_nil_iff]; omega
    rw [e1, e2, eqCs_iff.2 rfl] at hr
    cases hr
    refine LoopTo.left (by simp) fun k => ?_
    rw [lSame, bnd (by omega)]
    exact ⟨_, rfl, fg _ _ _ _⟩
  | succ n ih =>
    intro i h1 h2 r hr
    have hi : i < a.length := by omega
    have hi' : i < b.length := by omega
    rw [drop_cons' (Ty.zero cmdT) hi, drop_cons' (Ty.zero cmdT) hi'] at hr
    have ta := wfB_iff.1 (List.all_eq_true.1 wa _ (getD_mem' (d := Ty.zero cmdT) hi))
    have tb := wfB_iff.1 (List.all_eq_true.1 wb _ (getD_mem' (d := Ty.zero cmdT) hi'))
    have tree := fun (R : Type) (k : Ex → List X → Hp → Option R) => lSame Ar.real R a na b nb z i k
    simp only [Int.toNat_natCast, rw_wrap, rw_se] at tree
    generalize ec : a.getD i (Ty.zero cmdT) = c at hr ta tree
    generalize ed : b.getD i (Ty.zero cmdT) = d at hr tb tree
    rw [seq_str ta.1 tb.1, seq_str ta.2.1 tb.2.1] at tree
    have ne : ¬ c = d → (eqCs (c :: a.drop (i + 1)) (d :: b.drop (i + 1))) = false := fun h => by
      rw [Bool.eq_false_iff]; intro h'; rw [eqCs_iff] at h'; exact h (List.cons.inj h').1
    have stop : ¬ c = d → (∀ k : Ex → List X → Hp → Option (Ex × List X × Hp), ∃ ys, stepF (Cx Ar.real (OscA Ar.real) (Lsame Ar.real)) 100 (loopAt Try.f14 0) 100 [0, 1, 4, 5] [cms a na false, cms b nb false, boolx z, i64x i] [] k = k .ret ys [] ∧ Forget ys [.dead, .dead, boolx false, .dead]) →
        LoopTo (Cx Ar.real (OscA Ar.real) (Lsame Ar.real)) 100 (loopAt Try.f14 0) 100 [0, 1, 4, 5] [cms a na false, cms b nb false, boolx z, i64x i] [] r := by
      intro h1 h2
      rw [ne h1] at hr
      cases hr
      exact LoopTo.left (by simp) h2
    by_cases q1 : c.2.1 = d.2.1
    · by_cases q2 : c.2.2.1 = d.2.2.1
      · by_cases q3 : c.1 = d.1
        · by_cases q4 : c.2.2.2.1 = d.2.2.2.1
          · by_cases q5 : c.2.2.2.2.1 = d.2.2.2.2.1
            · by_cases q6 : c.2.2.2.2.2.1 = d.2.2.2.2.2.1
              · have e : c = d := cm_eq.2 ⟨q1, q2, q3, q4, q5, q6⟩
                subst e
                have e2 : eqCs (c :: a.drop (i + 1)) (c :: b.drop (i + 1)) = eqCs (a.drop (i + 1)) (b.drop (i + 1)) := by
                  rw [Bool.eq_iff_iff, eqCs_iff, eqCs_iff]; simp
                rw [e2] at hr
                refine LoopTo.next (fun k => ?_) (ih (i + 1) (by omega) (by omega) r hr)
                rw [tree, bd (by omega), bd (by omega), bd (by omega), bt (by simp), bd (by omega), bd (by omega), bt (by simp), bd (by omega), bd (by omega), bt (by simp), bd (by omega), bd (by omega), bt (by simp), bd (by omega), bd (by omega), bt (by simp), bd (by omega), bd (by omega), bf (by simp), wi64 (by omega) (by omega)]
                rfl
              · refine stop (fun e => q6 (by rw [e])) fun k => ?_
                rw [tree, bd (by omega), bd (by omega), bd (by omega), bt (by simpa using q1), bd (by omega), bd (by omega), bt (by simpa using q2), bd (by omega), bd (by omega), bt (by simpa using q3), bd (by omega), bd (by omega), bt (by simpa using q4), bd (by omega), bd (by omega), bt (by simpa using q5), bd (by omega), bd (by omega), bt (by simpa using q6)]
                exact ⟨_, rfl, fg _ _ _ _⟩
            · refine stop (fun e => q5 (by rw [e])) fun k => ?_
              rw [tree, bd (by omega), bd (by omega), bd (by omega), bt (by simpa using q1), bd (by omega), bd (by omega), bt (by simpa using q2), bd (by omega), bd (by omega), bt (by simpa using q3), bd (by omega), bd (by omega), bt (by simpa using q4), bd (by omega), bd (by omega), bf (by simpa using q5)]
              exact ⟨_, rfl, fg _ _ _ _⟩
          · refine stop (fun e => q4 (by rw [e])) fun k => ?_
            rw [tree, bd (by omega), bd (by omega), bd (by omega), bt (by simpa using q1), bd (by omega), bd (by omega), bt (by simpa using q2), bd (by omega), bd (by omega), bt (by simpa using q3), bd (by omega), bd (by omega), bf (by simpa using q4)]
            exact ⟨_, rfl, fg _ _ _ _⟩
        · refine stop (fun e => q3 (by rw [e])) fun k => ?_
          rw [tree, bd (by omega), bd (by omega), bd (by omega), bt (by simpa using q1), bd (by omega), bd (by omega), bt (by simpa using q2), bd (by omega), bd (by omega), bf (by simpa using q3)]
          exact ⟨_, rfl, fg _ _ _ _⟩
      · refine stop (fun e => q2 (by rw [e])) fun k => ?_
        rw [tree, bd (by omega), bd (by omega), bd (by omega), bt (by simpa using q1), bd (by omega), bd (by omega), bf (by simpa using q2)]
        exact ⟨_, rfl, fg _ _ _ _⟩
    · refine stop (fun e => q1 (by rw [e])) fun k => ?_
      rw [tree, bd (by omega), bd (by omega), bd (by omega), bf (by simpa using q1)]
      exact ⟨_, rfl, fg _ _ _ _⟩

theorem same_ok : OrcOk Try.prog 14 (.pure (sameF Ar.real)) := by
  refine pureOk (Cx.ok o_scA (Lsame Ar.real)) mixed 14 Try.f14 (by kernel_rfl) (by kernel_rfl) (by kernel_rfl) 100 1 (by kernel_rfl) (fun i h => ?_) fun args r h => ?_
  · obtain rfl : i = 0 := by omega
    refine Tells.mk (key := 4) (N := 100) (ks := [0, 1, 4, 5]) (F := LsameF Ar.real) (by kernel_rfl) rfl fun xs H r h => ?_
    unfold LsameF at h
    split at h
    · rename_i a na b nb z i
      rw [run_test] at h
      simp only [rw_se] at h
      by_cases hg : (decide (a.length ≤ 1000000000 ∧ b.length = a.length ∧ 0 ≤ i ∧ i ≤ a.length) && (a.all wfB && b.all wfB)) = true
      · rw [bt hg] at h
        rw [Bool.and_eq_true, Bool.and_eq_true, decide_eq_true_eq] at hg
        dsimp only [Ty.den] at hg
        obtain ⟨⟨h1, h2, h3, h4⟩, h5, h6⟩ := hg
        obtain ⟨j, rfl⟩ := Int.eq_ofNat_of_zero_le h3
        simp only [Int.toNat_natCast] at h
        exact loopSame a b na nb z h1 h2 h5 h6 _ j rfl (by omega) r h
      · rw [bf (by simpa using hg)] at h
        cases h
    · cases h
  · unfold sameF at h
    split at h
    · rename_i a na b nb
      obtain ⟨hg, rfl⟩ := Tr.one h
      refine ⟨rfl, rfl, [], ?_⟩
      rw [tSame]
      simp only [rw_se, decide_eq_true_eq, Bool.and_eq_true] at hg ⊢
      obtain ⟨h1, h2, h3⟩ := hg
      have z : Int.toNat 0 = 0 := rfl
      by_cases hl : a.length = b.length
      · rw [bf (by rw [hl]; simp), bt (by rw [Bool.and_eq_true, Bool.and_eq_true, decide_eq_true_eq]; exact ⟨⟨h1, hl.symm, by omega, by omega⟩, h2, h3⟩), z, List.drop_zero, List.drop_zero]
        cases hs : eqCs a b
        · rfl
        · rfl
      · rw [bt (by rw [bne_iff_ne]; omega)]
        have : eqCs a b = false := by rw [Bool.eq_false_iff]; intro h'; rw [eqCs_iff] at h'; exact hl (by rw [h'])
        rw [this]
    · cases h

theorem o_sc2 : OOk (Osc2 Ar.real) := ((o_sc1.add contains_ok).add few_ok).add same_ok

/-! Texts and numbers -/
theorem text_ok : OrcOk Try.prog 20 (.eff (textF Ar.real)) := by
  refine effOk (Cx.ok o_scA noL) mixed 20 Try.f20 (by kernel_rfl) (by kernel_rfl) (by kernel_rfl) 100 0 (by kernel_rfl) (fun i h => by omega) fun args H r H' h => ?_
  unfold textF at h
  split at h
  · rename_i t nt b nb ok H
    obtain ⟨hg, e⟩ := Tr.one h
    cases e
    simp only [rw_se, Bool.and_eq_true, decide_eq_true_eq] at hg
    obtain ⟨⟨h1, h2⟩, h3⟩ := hg
    have hv := vb_len_le (n := t.length) (by omega)
    refine ⟨?_, .tup [], (bytT, .agg [u8s (b ++ txt t) (some false) true, boolx ok]) :: H, rfl, ?_, HWeak.refl _, by simp, .inl rfl⟩
    · intro x hx e xs nl own hxe
      subst hxe
      simp only [List.mem_cons, List.not_mem_nil, or_false, reduceCtorEq, false_or] at hx
      cases hx
      rfl
    · rw [tText]
      simp only [rw_se, rw_wrap]
      rw [wu64 (by omega) (by omega), Int.toNat_natCast, bt (by rw [Bool.and_eq_true, Bool.and_eq_true, isU64_iff, decide_eq_true_eq]; exact ⟨⟨by omega, by omega⟩, by omega, h3⟩), bd (by rw [List.length_append]; omega), txt, List.append_assoc]
      rfl
  · cases h

theorem number_ok : OrcOk Try.prog 21 (.eff (numberF Ar.real)) := by
  refine effOk (Cx.ok o_scA noL) mixed 21 Try.f21 (by kernel_rfl) (by kernel_rfl) (by kernel_rfl) 100 0 (by kernel_rfl) (fun i h => by omega) fun args H r H' h => ?_
  unfold numberF at h
  split at h
  · rename_i n b nb ok H
    obtain ⟨hg, e⟩ := Tr.one h
    cases e
    simp only [rw_se, Bool.and_eq_true, decide_eq_true_eq] at hg
    obtain ⟨h1, h2, h3⟩ := hg
    refine ⟨?_, .tup [], (bytT, .agg [u8s (b ++ vb n.toNat) (some false) true, boolx ok]) :: H, rfl, ?_, HWeak.refl _, by simp, .inl rfl⟩
    · intro x hx e xs nl own hxe
      subst hxe
      simp only [List.mem_cons, List.not_mem_nil, or_false, reduceCtorEq, false_or] at hx
    · rw [tNumber]
      simp only [rw_se]
      rw [bt (by rw [Bool.and_eq_true, Bool.and_eq_true, decide_eq_true_eq]; exact ⟨h2, by omega, h3⟩)]
  · cases h

theorem rtext_ok : OrcOk Try.prog 23 (.pure (rtextF Ar.real)) := by
  refine pureOk (Cx.ok o_scA noL) mixed 23 Try.f23 (by kernel_rfl) (by kernel_rfl) (by kernel_rfl) 100 0 (by kernel_rfl) (fun i h => by omega) fun args r h => ?_
  unfold rtextF at h
  split at h
  · rename_i b nb t nt
    obtain ⟨hg, rfl⟩ := Tr.one h
    simp only [rw_se, Bool.and_eq_true, decide_eq_true_eq] at hg
    obtain ⟨⟨h1, h2⟩, h3⟩ := hg
    have hv := vb_len_le (n := t.length) (by omega)
    refine ⟨rfl, rfl, [], ?_⟩
    rw [tRtext]
    simp only [rw_se, rw_wrap]
    rw [wu64 (by omega) (by omega), Int.toNat_natCast, bt (by rw [Bool.and_eq_true, Bool.and_eq_true, isU64_iff, decide_eq_true_eq]; exact ⟨⟨by omega, by omega⟩, by omega, h3⟩), bd (by rw [List.length_append]; omega), txt, List.append_assoc]
    rfl
  · cases h

theorem o_sc3 : OOk (Osc3 Ar.real) := ((o_sc2.add text_ok).add number_ok).add rtext_ok

end Go.Proofs.Ytgickaihlebgmaa.V

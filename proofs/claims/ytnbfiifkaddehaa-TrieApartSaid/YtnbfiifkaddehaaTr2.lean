/-
  Chapter 10, automata: whether one may be, and where a way leads: the functions do what they tell.
  It speaks of the pinned program alone; no condition.
-/
import Derived.Test.YtnbfiifkaddehaaTr1
namespace Go.Proofs.Ytnbfiifkaddehaa.V
open Go
set_option linter.unusedVariables false
set_option linter.unusedSimpArgs false

theorem castTo_eq {t t' : Ty} {x : t.den} {y : t'.den} (h : castTo t t' x = some y) : ∃ e : t = t', e ▸ x = y := castTo_some h
theorem staOf_eq {xs : List X} {q : List Sta × Option Bool} (h : staOf xs = some q) : xs = [.sl staT q.1 q.2 false] := by
  unfold staOf at h
  split at h
  · rename_i e l nl
    split at h
    · rename_i l' hl
      cases h
      obtain ⟨e1, e2⟩ := castTo_some hl
      cases e1
      cases e2
      rfl
    · cases h
  · cases h
theorem chkOf_eq {H : Hp} {q : List Sta × Option Bool × Int × Sta × Int} (h : chkOf H = some q) : H = chkH q.1 q.2.1 q.2.2.1 q.2.2.2.1 q.2.2.2.2 := by
  unfold chkOf at h
  split at h
  · rename_i t0 e l nl i t2 t s last
    split at h
    · rename_i ht
      obtain ⟨rfl, rfl⟩ := ht
      split at h
      · rename_i l' s' h1 h2
        cases h
        obtain ⟨e1, e2⟩ := castTo_some h1
        cases e1
        cases e2
        obtain ⟨e1, e2⟩ := castTo_some h2
        cases e1
        cases e2
        rfl
      · cases h
    · cases h
  · cases h
theorem chkOf_chkH (l : List Sta) (nl : Option Bool) (i : Int) (s : Sta) (last : Int) : chkOf (chkH l nl i s last) = some (l, nl, i, s, last) := rfl

theorem loopFst (O : OT) (a : List Int) (na : Option Bool) (b : List Int) (nb : Option Bool) (z : Int) (l : Nat) (ha : a.length ≤ 1000000) (hb : b.length ≤ 1000000) (l1 : l ≤ a.length) (l2 : l ≤ b.length) (l3 : l = a.length ∨ l = b.length) : ∀ (n i : Nat), l - i = n → i ≤ l →
    LoopTo (Cx Ar.real O (Lfst Ar.real)) 100 (loopAt Try.f39 0) 30 [0, 1, 4, 10, 11] [i64s a na false, i64s b nb false, i64x z, i64x (l : Int), i64x (i : Int)] []
      (bif decide ((i : Int) + (R.comL (a.drop i) (b.drop i) : Int) = (l : Int)) then (.exit 0, [i64s a na false, i64s b nb false, .dead, .dead, .dead], []) else (.ret, [.dead, .dead, i64x ((i : Int) + (R.comL (a.drop i) (b.drop i) : Int)), .dead, .dead], [])) := by
  intro n
  induction n with
  | zero =>
    intro i h1 h2
    obtain rfl : i = l := by omega
    rw [R.comL_end (by omega), decide_eq_true (by omega), cond_true]
    refine LoopTo.left (by simp) fun k => ?_
    rw [lFst, bf (by rw [decide_eq_false_iff_not]; omega)]
    exact ⟨_, rfl, R.fk (R.fk (R.fd (R.fd (R.fd (Forget.same _)))))⟩
  | succ n ih =>
    intro i h1 h2
    have hi : i < a.length := by omega
    have hi' : i < b.length := by omega
    by_cases hc : a.getD i 0 = b.getD i 0
    · rw [R.comL_eq hi hi' hc]
      have e : (i : Int) + ((R.comL (a.drop (i + 1)) (b.drop (i + 1)) + 1 : Nat) : Int) = ((i + 1 : Nat) : Int) + (R.comL (a.drop (i + 1)) (b.drop (i + 1)) : Int) := by omega
      rw [e]
      refine LoopTo.next (fun k => ?_) (ih (i + 1) (by omega) (by omega))
      rw [lFst]
      simp only [Int.toNat_natCast, R.wi1 (show i ≤ 9000000000000000000 by omega)]
      rw [bt (by rw [decide_eq_true_eq]; omega), bt (by rw [decide_eq_true_eq]; omega), bt (by rw [decide_eq_true_eq]; omega), bf (by rw [hc]; simp)]
    · rw [R.comL_ne hi hi' hc, decide_eq_false (by omega), cond_false]
      refine LoopTo.left (by simp) fun k => ?_
      rw [lFst]
      simp only [Int.toNat_natCast]
      rw [bt (by rw [decide_eq_true_eq]; omega), bt (by rw [decide_eq_true_eq]; omega), bt (by rw [decide_eq_true_eq]; omega), bt (by rw [bne_iff_ne]; exact hc)]
      rw [show (i : Int) + ((0 : Nat) : Int) = (i : Int) by omega]
      exact ⟨_, rfl, R.fd (R.fd (R.fk (R.fd (R.fd (Forget.same _)))))⟩

theorem fst_ok (O : OT) (hO : OOk O) : OrcOk Try.prog 39 (.pure (R.comF Ar.real)) := by
  refine pureOk (Cx.ok hO (Lfst Ar.real)) mixed 39 Try.f39 (by kernel_rfl) (by kernel_rfl) (by kernel_rfl) 100 1 (by kernel_rfl) (fun i h => ?_) fun args r h => ?_
  · obtain rfl : i = 0 := by omega
    refine Tells.mk (key := 2) (N := 30) (ks := [0, 1, 4, 10, 11]) (F := LfstF Ar.real) (by kernel_rfl) rfl fun xs H r h => ?_
    unfold LfstF at h
    split at h
    · rename_i a na b nb z l i
      obtain ⟨hg, rfl⟩ := R.Tr.two h
      simp only [rw_se, decide_eq_true_eq] at hg ⊢
      dsimp only [Ty.den] at hg
      obtain ⟨h1, h2, h3, h4, h5, h6, h7⟩ := hg
      obtain ⟨m, rfl⟩ := Int.eq_ofNat_of_zero_le h6
      obtain ⟨l, rfl⟩ := Int.eq_ofNat_of_zero_le (Int.le_trans h6 h7)
      simp only [Int.toNat_natCast]
      exact loopFst O a na b nb z l h1 h2 (by omega) (by omega) (by omega) _ m rfl (by omega)
    · cases h
  · unfold R.comF at h
    split at h
    · rename_i a na b nb
      obtain ⟨hg, rfl⟩ := Tr.one h
      refine ⟨rfl, rfl, [], ?_⟩
      rw [tFst]
      simp only [rw_se, decide_eq_true_eq, show Int.toNat 0 = 0 from rfl, List.drop_zero] at hg ⊢
      have hle := R.comL_le a b
      by_cases hl : (b.length : Int) < (a.length : Int)
      · simp only [if_pos hl]
        rw [bt (by rw [decide_eq_true_eq]; exact ⟨hg.1, hg.2, by first | omega | exact Int.le_refl _, by first | omega | exact Int.le_refl _, by first | omega | exact .inl trivial | exact .inr trivial, by omega, by omega⟩)]
        by_cases he : (0 : Int) + (R.comL a b : Int) = (b.length : Int)
        · rw [bt (decide_eq_true he), ← he, Int.zero_add]
        · rw [bf (decide_eq_false he), Int.zero_add]
      · simp only [if_neg hl]
        rw [bt (by rw [decide_eq_true_eq]; exact ⟨hg.1, hg.2, by first | omega | exact Int.le_refl _, by first | omega | exact Int.le_refl _, by first | omega | exact .inl trivial | exact .inr trivial, by omega, by omega⟩)]
        by_cases he : (0 : Int) + (R.comL a b : Int) = (a.length : Int)
        · rw [bt (decide_eq_true he), ← he, Int.zero_add]
        · rw [bf (decide_eq_false he), Int.zero_add]
    · cases h

theorem oa1 : OOk (Oa1 Ar.real) := ((OOk.none.add U.good_ok).add U.rgood_ok).add (fst_ok _ OOk.none)

theorem com_ok : OrcOk Try.prog 19 (.pure (R.comF Ar.real)) := by
  refine pureOk (Cx.ok oa1 noL) mixed 19 Try.f19 (by kernel_rfl) (by kernel_rfl) (by kernel_rfl) 100 0 (by kernel_rfl) (fun i h => by omega) fun args r h => ?_
  unfold R.comF at h
  split at h
  · rename_i a na b nb
    obtain ⟨hg, rfl⟩ := Tr.one h
    refine ⟨rfl, rfl, [], ?_⟩
    rw [tCom, bt hg]
  · cases h

theorem frontB_chk (l : List Sta) (nl : Option Bool) (i : Int) (s : Sta) (last : Int) (t : Ty) (x : X) : frontB (chkH l nl i s last ++ [(t, x)]) (chkH l nl i s last) :=
  ⟨rfl, .inl rfl, rfl, .inl rfl, rfl, .inl rfl, rfl, .inl rfl, trivial⟩

theorem frontB_stp (n : Int) (t : Ty) (x : X) : frontB (stpH n ++ [(t, x)]) (stpH n) := ⟨rfl, .inl rfl, trivial⟩

theorem chk1_ok : OrcOk Try.prog 29 (.eff (chk1F Ar.real)) := by
  refine effOk (Cx.ok oa1 noL) mixed 29 Try.f29 (by kernel_rfl) (by kernel_rfl) (by kernel_rfl) 100 0 (by kernel_rfl) (fun i h => by omega) fun args H r H' h => ?_
  unfold chk1F at h
  split at h
  · rename_i a
    split at h
    · rename_i q hq
      have e := chkOf_eq hq
      obtain ⟨l, nl, i, s, last⟩ := q
      subst e
      simp only [Tr.run, Option.some.injEq, Prod.mk.injEq] at h
      obtain ⟨rfl, rfl⟩ := h
      refine ⟨by simp [X.unown], boolx (wrongA i l.length last a), chkH l nl i s a.1 ++ [(arcT, .d arcT a)], rfl, ?_, HWeak.of (frontB_chk ..) rfl, by simp, .inr rfl⟩
      rw [tChk1]
      simp only [rw_se]
      unfold wrongA
      by_cases h1 : a.1 ≤ last
      · rw [bf (by rw [decide_eq_true h1]; rfl), decide_eq_true h1]; rfl
      · rw [bt (by rw [decide_eq_false h1]; rfl), decide_eq_false h1, Bool.false_or]
        cases h2 : U.goodN a.1 with
        | false => rw [bf (c := (!false) == false) rfl]; rfl
        | true =>
          rw [bt (c := (!true) == false) rfl]
          by_cases h3 : a.2.1 ≤ i
          · rw [bf (by rw [decide_eq_true h3]; rfl), decide_eq_true h3]; rfl
          · rw [bt (by rw [decide_eq_false h3]; rfl), decide_eq_false h3]
            rfl
    · cases h
  · cases h

theorem stp1_ok : OrcOk Try.prog 28 (.eff (stp1F Ar.real)) := by
  refine effOk (Cx.ok oa1 noL) mixed 28 Try.f28 (by kernel_rfl) (by kernel_rfl) (by kernel_rfl) 100 0 (by kernel_rfl) (fun i h => by omega) fun args H r H' h => ?_
  unfold stp1F at h
  split at h
  · rename_i a n
    simp only [Tr.run, Option.some.injEq, Prod.mk.injEq] at h
    obtain ⟨rfl, rfl⟩ := h
    refine ⟨by simp [X.unown], boolx (a.1 == n), stpH n ++ [(arcT, .d arcT a)], rfl, ?_, HWeak.of (frontB_stp ..) rfl, by simp, .inr rfl⟩
    rw [tStp1]
    rfl
  · cases h

theorem oa2 : OOk (Oa2 Ar.real) := (oa1.add chk1_ok).add stp1_ok

theorem idxC_ge (i n : Int) : ∀ (last : Int) (l : List Arc), -1 ≤ (idxC i n last l).1
  | _, [] => by simp [idxC]
  | last, a :: r => by
    have := idxC_ge i n a.1 r
    rw [idxC]
    cases wrongA i n last a
    · rw [cond_false]
      cases h : ((idxC i n a.1 r).1 == -1)
      · simp only [cond_false]; omega
      · simp
    · simp
theorem idxC_at {i n last : Int} {a : Arc} (l : List Arc) (h : wrongA i n last a = true) : idxC i n last (a :: l) = (0, a.1) := by rw [idxC, h, cond_true]
theorem idxC_on {i n last : Int} {a : Arc} (l : List Arc) (h : wrongA i n last a = false) : idxC i n last (a :: l) = (if (idxC i n a.1 l).1 < 0 then -1 else (idxC i n a.1 l).1 + 1, (idxC i n a.1 l).2) := by
  have := idxC_ge i n a.1 l
  rw [idxC, h, cond_false]
  by_cases h1 : (idxC i n a.1 l).1 < 0
  · have : (idxC i n a.1 l).1 = -1 := by omega
    simp [this]
  · have h2 : ((idxC i n a.1 l).1 == -1) = false := by rw [beq_eq_false_iff_ne]; omega
    rw [h2, if_neg h1]; rfl
theorem idxC_any (i n : Int) : ∀ (last : Int) (l : List Arc), decide ((idxC i n last l).1 ≥ 0) = anyC i n last l
  | _, [] => by simp [idxC, anyC]
  | last, a :: l => by
    have ih := idxC_any i n a.1 l
    rw [anyC]
    cases h : wrongA i n last a with
    | true => rw [idxC_at l h]; simp
    | false =>
      rw [idxC_on l h, Bool.false_or, ← ih]
      by_cases h1 : (idxC i n a.1 l).1 < 0
      · rw [if_pos h1]
        have h2 : ¬ (idxC i n a.1 l).1 ≥ 0 := by omega
        simp [h2]
      · rw [if_neg h1]
        have h2 : (idxC i n a.1 l).1 ≥ 0 := by omega
        have h3 : (idxC i n a.1 l).1 + 1 ≥ 0 := by omega
        simp [h2, h3]

theorem loopIdxC (w : List Arc) (nw : Option Bool) (z : Int) (l : List Sta) (nl : Option Bool) (i : Int) (s : Sta) (hw : w.length ≤ 1000000) : ∀ (n k : Nat) (last : Int), w.length - k = n → k ≤ w.length →
    LoopTo (Cx Ar.real (Oa2 Ar.real) (LidxC Ar.real)) 100 (loopAt Try.f27 0) 19 [0, 1, 4, 7, 8] [.sl arcT w nw false, chkC, i64x z, i64x (w.length : Int), i64x (k : Int)] (chkH l nl i s last)
      (bif decide ((idxC i l.length last (w.drop k)).1 < 0) then (.exit 0, [.dead, .dead, .dead, .dead, .dead], chkH l nl i s (idxC i l.length last (w.drop k)).2) else (.ret, [.dead, .dead, i64x ((k : Int) + (idxC i l.length last (w.drop k)).1), .dead, .dead], chkH l nl i s (idxC i l.length last (w.drop k)).2)) := by
  intro n
  induction n with
  | zero =>
    intro k last h1 h2
    rw [List.drop_eq_nil_iff.2 (by omega), bt (by simp [idxC])]
    refine LoopTo.left (by simp) fun K => ?_
    rw [lIdxC, bf (by rw [decide_eq_false_iff_not]; omega)]
    exact ⟨_, rfl, R.fd (R.fd (R.fd (R.fd (R.fd (Forget.same _)))))⟩
  | succ n ih =>
    intro k last h1 h2
    have hi : k < w.length := by omega
    rw [R.dropG (Ty.zero arcT) hi]
    generalize ha : w.getD k (Ty.zero arcT) = a
    have T := fun K => lIdxC Ar.real (Ex × List X × Hp) w nw z (w.length : Int) (k : Int) l nl i s last K
    simp only [Int.toNat_natCast, rw_se, ha, R.wi1 (show k ≤ 9000000000000000000 by omega)] at T
    cases hp : wrongA i l.length last a with
    | true =>
      rw [idxC_at _ hp, bf (by simp), Int.add_zero]
      refine LoopTo.left (by simp) fun K => ?_
      rw [T, bt (by rw [decide_eq_true_eq]; omega), bt (by rw [decide_eq_true_eq]; omega), bt hp]
      exact ⟨_, rfl, R.fd (R.fd (R.fk (R.fd (R.fd (Forget.same _)))))⟩
    | false =>
      have hge := idxC_ge i l.length a.1 (w.drop (k + 1))
      have e : (bif decide ((idxC i l.length last (a :: w.drop (k + 1))).1 < 0) then ((Ex.exit 0, [X.dead, .dead, .dead, .dead, .dead], chkH l nl i s (idxC i l.length last (a :: w.drop (k + 1))).2) : Ex × List X × Hp) else (.ret, [.dead, .dead, i64x ((k : Int) + (idxC i l.length last (a :: w.drop (k + 1))).1), .dead, .dead], chkH l nl i s (idxC i l.length last (a :: w.drop (k + 1))).2)) =
          bif decide ((idxC i l.length a.1 (w.drop (k + 1))).1 < 0) then (.exit 0, [.dead, .dead, .dead, .dead, .dead], chkH l nl i s (idxC i l.length a.1 (w.drop (k + 1))).2) else (.ret, [.dead, .dead, i64x (((k + 1 : Nat) : Int) + (idxC i l.length a.1 (w.drop (k + 1))).1), .dead, .dead], chkH l nl i s (idxC i l.length a.1 (w.drop (k + 1))).2) := by
        rw [idxC_on _ hp]
        by_cases h : (idxC i l.length a.1 (w.drop (k + 1))).1 < 0
        · rw [if_pos h, bt (by simp), bt (decide_eq_true h)]
        · rw [if_neg h, bf (by rw [decide_eq_false_iff_not]; simp only; omega), bf (decide_eq_false h), show (k : Int) + ((idxC i l.length a.1 (w.drop (k + 1))).1 + 1) = ((k + 1 : Nat) : Int) + (idxC i l.length a.1 (w.drop (k + 1))).1 by omega]
      rw [e]
      refine LoopTo.next (fun K => ?_) (ih (k + 1) a.1 (by omega) (by omega))
      rw [T, bt (by rw [decide_eq_true_eq]; omega), bt (by rw [decide_eq_true_eq]; omega), bf hp]

theorem idxC_ok : OrcOk Try.prog 27 (.eff (idxCF Ar.real)) := by
  refine effOk (Cx.ok oa2 (LidxC Ar.real)) mixed 27 Try.f27 (by kernel_rfl) (by kernel_rfl) (by kernel_rfl) 100 1 (by kernel_rfl) (fun i h => ?_) fun args H r H' h => ?_
  · obtain rfl : i = 0 := by omega
    refine Tells.mk (key := 2) (N := 19) (ks := [0, 1, 4, 7, 8]) (F := LidxCF Ar.real) (by kernel_rfl) rfl fun xs H r h => ?_
    unfold LidxCF at h
    split at h
    · rename_i w nw f z m k
      split at h
      · rename_i q hq
        have e := chkOf_eq hq
        obtain ⟨l, nl, i, s, last⟩ := q
        subst e
        obtain ⟨hg, rfl⟩ := R.Tr.two h
        simp only [rw_se, decide_eq_true_eq] at hg ⊢
        dsimp only [Ty.den] at hg
        obtain ⟨rfl, h1, h2, h3, h4⟩ := hg
        obtain ⟨k, rfl⟩ := Int.eq_ofNat_of_zero_le h3
        subst h2
        simp only [Int.toNat_natCast]
        exact loopIdxC w nw z l nl i s h1 _ k last rfl (by omega)
      · cases h
    · cases h
  · unfold idxCF at h
    split at h
    · rename_i w nw f
      split at h
      · rename_i q hq
        have e := chkOf_eq hq
        obtain ⟨l, nl, i, s, last⟩ := q
        subst e
        obtain ⟨hg, he⟩ := Tr.one h
        cases he
        simp only [rw_se, decide_eq_true_eq] at hg ⊢
        obtain ⟨rfl, hg⟩ := hg
        refine ⟨by simp [X.unown], i64x (idxC i l.length last w).1, _, rfl, ?_, HWeak.refl _, by simp, .inl rfl⟩
        rw [tIdxC]
        simp only [rw_se, show Int.toNat 0 = 0 from rfl, List.drop_zero]
        rw [bt (by rw [decide_eq_true_eq]; exact ⟨trivial, hg, trivial, by omega, by omega⟩)]
        have hge := idxC_ge i l.length last w
        by_cases he : (idxC i l.length last w).1 < 0
        · rw [bt (decide_eq_true he), show (idxC i l.length last w).1 = -1 by omega]
        · rw [bf (decide_eq_false he), Int.zero_add]
      · cases h
    · cases h

theorem oa3 : OOk (Oa3 Ar.real) := oa2.add idxC_ok

theorem ctC_ok : OrcOk Try.prog 31 (.eff (ctCF Ar.real)) := by
  refine effOk (Cx.ok oa3 noL) mixed 31 Try.f31 (by kernel_rfl) (by kernel_rfl) (by kernel_rfl) 100 0 (by kernel_rfl) (fun i h => by omega) fun args H r H' h => ?_
  unfold ctCF at h
  split at h
  · rename_i w nw f
    split at h
    · rename_i q hq
      have e := chkOf_eq hq
      obtain ⟨l, nl, i, s, last⟩ := q
      subst e
      obtain ⟨hg, he⟩ := Tr.one h
      cases he
      simp only [rw_se, decide_eq_true_eq] at hg ⊢
      obtain ⟨rfl, hg⟩ := hg
      refine ⟨by simp [X.unown], boolx (anyC i l.length last w), _, rfl, ?_, HWeak.refl _, by simp, .inl rfl⟩
      rw [tCtC]
      simp only [rw_se]
      rw [bt (decide_eq_true ⟨trivial, hg⟩), idxC_any]
    · cases h
  · cases h

theorem oa4 : OOk (Oa4 Ar.real) := oa3.add ctC_ok

theorem short_arcs {l : List Sta} (h : shortS l = true) {i : Nat} (hi : i < l.length) : (l.getD i (Ty.zero staT)).2.1.length ≤ 1000000 := by
  unfold shortS at h
  have := List.all_eq_true.1 h _ (R.memG (Ty.zero staT) hi)
  simpa using this

theorem loopChk (z : Bool) (l l2 : List Sta) (nl nl2 : Option Bool) (hn : l2.length = l.length) (hl : l.length ≤ 1000000) (hs : shortS l = true) : ∀ (n k : Nat), l.length - k = n → k ≤ l.length →
    LoopTo (Cx Ar.real (Oa4 Ar.real) (Lchk Ar.real)) 100 (loopAt Try.f15 0) 28 [1, 2, 7, 8, 9] [.ptr 0 [], boolx z, .sl staT l nl false, i64x (l.length : Int), i64x (k : Int)] [(.slice staT, .sl staT l2 nl2 false)]
      (bif anyS l.length k (l.drop k) then (.ret, [.dead, boolx false, .dead, .dead, .dead], [(.slice staT, .sl staT l2 nl2 false)]) else (.exit 0, [.ptr 0 [], .dead, .dead, .dead, .dead], [(.slice staT, .sl staT l2 nl2 false)])) := by
  intro n
  induction n with
  | zero =>
    intro k h1 h2
    rw [List.drop_eq_nil_iff.2 (by omega), bf (by simp [anyS])]
    refine LoopTo.left (by simp) fun K => ?_
    rw [lChk, bf (by rw [decide_eq_false_iff_not]; omega)]
    exact ⟨_, rfl, R.fk (R.fd (R.fd (R.fd (R.fd (Forget.same _)))))⟩
  | succ n ih =>
    intro k h1 h2
    have hi : k < l.length := by omega
    have hx := short_arcs hs hi
    rw [R.dropG (Ty.zero staT) hi]
    generalize ha : l.getD k (Ty.zero staT) = s at hx
    have T := fun K => lChk Ar.real (Ex × List X × Hp) z (l.length : Int) (k : Int) l l2 nl nl2 K
    simp only [Int.toNat_natCast, rw_se, ha, R.wi1 (show k ≤ 9000000000000000000 by omega)] at T
    rw [hn] at T
    rw [anyS]
    cases hp : anyC k l.length (-1) s.2.1 with
    | true =>
      rw [Bool.true_or, cond_true]
      refine LoopTo.end (e := .ret) (ys := [.ptr 0 [], boolx false, .sl staT l nl false, i64x (l.length : Int), i64x (k : Int)]) (H1 := chkH l2 nl2 k s (idxC k l.length (-1) s.2.1).2) (by simp) (fun K => ?_) (R.fd (R.fk (R.fd (R.fd (R.fd (Forget.same _)))))) (HWeak.of (H' := [(.slice staT, .sl staT l2 nl2 false)]) ⟨rfl, .inl rfl, trivial⟩ rfl) (by simp) (.inr rfl)
      rw [T, bt (by rw [decide_eq_true_eq]; omega), bt (by rw [decide_eq_true_eq]; omega), bt (by rw [decide_eq_true_eq]; exact ⟨trivial, hx⟩), bt hp]
    | false =>
      rw [Bool.false_or]
      refine LoopTo.weak (ys := [.ptr 0 [], boolx z, .sl staT l nl false, i64x (l.length : Int), i64x ((k + 1 : Nat) : Int)]) (H1 := chkH l2 nl2 k s (idxC k l.length (-1) s.2.1).2) (fun K => ?_) (Forget.same _) (HWeak.of (H' := [(.slice staT, .sl staT l2 nl2 false)]) ⟨rfl, .inl rfl, trivial⟩ rfl) (by simp) (.inr rfl) (ih (k + 1) (by omega) (by omega))
      rw [T, bt (by rw [decide_eq_true_eq]; omega), bt (by rw [decide_eq_true_eq]; omega), bt (by rw [decide_eq_true_eq]; exact ⟨trivial, hx⟩), bf hp]

theorem check_ok : OrcOk Try.prog 15 (.pure (checkF Ar.real)) := by
  refine pureOk (Cx.ok oa4 (Lchk Ar.real)) mixed 15 Try.f15 (by kernel_rfl) (by kernel_rfl) (by kernel_rfl) 100 1 (by kernel_rfl) (fun i h => ?_) fun args r h => ?_
  · obtain rfl : i = 0 := by omega
    refine Tells.mk (key := 2) (N := 28) (ks := [1, 2, 7, 8, 9]) (F := LchkF Ar.real) (by kernel_rfl) rfl fun xs H r h => ?_
    unfold LchkF at h
    split at h
    · rename_i z x m k t0 y
      split at h
      · rename_i q hq
        split at h
        · rename_i q2 hq2
          split at h
          · rename_i ht
            subst ht
            have e1 := staOf_eq hq
            have e2 := staOf_eq hq2
            cases e1
            cases e2
            obtain ⟨hg, rfl⟩ := R.Tr.two h
            simp only [rw_se, Bool.and_eq_true, decide_eq_true_eq] at hg ⊢
            dsimp only [Ty.den] at hg
            obtain ⟨⟨h1, h2, h3, h4, h5⟩, h6⟩ := hg
            obtain ⟨k, rfl⟩ := Int.eq_ofNat_of_zero_le h4
            subst h1
            simp only [Int.toNat_natCast]
            exact loopChk z q.1 q2.1 q.2 q2.2 h2 h3 h6 _ k rfl (by omega)
          · cases h
        · cases h
      · cases h
    · cases h
  · unfold checkF at h
    split at h
    · rename_i q hq
      have e := staOf_eq hq
      obtain ⟨l, nl⟩ := q
      subst e
      obtain ⟨hg, rfl⟩ := Tr.one h
      refine ⟨rfl, rfl, [(.slice staT, .sl staT l nl false)], ?_⟩
      rw [tChk]
      simp only [rw_se, Bool.and_eq_true, decide_eq_true_eq, show Int.toNat 0 = 0 from rfl, List.drop_zero] at hg ⊢
      rw [bt (by rw [Bool.and_eq_true, decide_eq_true_eq]; exact ⟨⟨trivial, trivial, hg.1, by omega, by omega⟩, hg.2⟩)]
      unfold checkB
      cases anyS l.length 0 l with
      | true => rfl
      | false =>
        rw [cond_false]
        by_cases h1 : 0 < l.length
        · rw [bt (by rw [decide_eq_true (show (l.length : Int) > 0 by omega)]; rfl), decide_eq_true h1]
          have e : decide ((l.length : Int) ≤ 6001) = decide (l.length ≤ 6001) := by
            by_cases h2 : l.length ≤ 6001
            · rw [decide_eq_true h2, decide_eq_true (by omega)]
            · rw [decide_eq_false h2, decide_eq_false (by omega)]
          rw [e]; rfl
        · rw [bf (by rw [decide_eq_false (show ¬ (l.length : Int) > 0 by omega)]; rfl), decide_eq_false h1]; rfl
    · cases h

/-! ### Where a way leads -/
theorem loopIdxS (w : List Arc) (nw : Option Bool) (z s : Int) (hw : w.length ≤ 1000000) : ∀ (n k : Nat), w.length - k = n → k ≤ w.length →
    LoopTo (Cx Ar.real (Oa2 Ar.real) (LidxS Ar.real)) 100 (loopAt Try.f27 0) 19 [0, 1, 4, 7, 8] [.sl arcT w nw false, .fn 28 [] [.ptr 0 []], i64x z, i64x (w.length : Int), i64x (k : Int)] (stpH s)
      (bif decide (idxG (sgn s) (w.drop k) < 0) then (.exit 0, [.dead, .dead, .dead, .dead, .dead], stpH s) else (.ret, [.dead, .dead, i64x ((k : Int) + idxG (sgn s) (w.drop k)), .dead, .dead], stpH s)) := by
  intro n
  induction n with
  | zero =>
    intro k h1 h2
    rw [List.drop_eq_nil_iff.2 (by omega), bt (by simp [idxG])]
    refine LoopTo.left (by simp) fun K => ?_
    rw [lIdxS, bf (by rw [decide_eq_false_iff_not]; omega)]
    exact ⟨_, rfl, R.fd (R.fd (R.fd (R.fd (R.fd (Forget.same _)))))⟩
  | succ n ih =>
    intro k h1 h2
    have hi : k < w.length := by omega
    rw [R.dropG (Ty.zero arcT) hi]
    generalize ha : w.getD k (Ty.zero arcT) = a
    have T := fun K => lIdxS Ar.real (Ex × List X × Hp) w nw z (w.length : Int) (k : Int) s K
    simp only [Int.toNat_natCast, rw_se, ha, R.wi1 (show k ≤ 9000000000000000000 by omega)] at T
    cases hp : sgn s a with
    | true =>
      rw [idxG_at _ hp, bf (by simp), Int.add_zero]
      refine LoopTo.left (by simp) fun K => ?_
      rw [T, bt (by rw [decide_eq_true_eq]; omega), bt (by rw [decide_eq_true_eq]; omega), bt (show (a.1 == s) = true from hp)]
      exact ⟨_, rfl, R.fd (R.fd (R.fk (R.fd (R.fd (Forget.same _)))))⟩
    | false =>
      have hge := idxG_ge (sgn s) (w.drop (k + 1))
      have e : (bif decide (idxG (sgn s) (a :: w.drop (k + 1)) < 0) then ((Ex.exit 0, [X.dead, .dead, .dead, .dead, .dead], stpH s) : Ex × List X × Hp) else (.ret, [.dead, .dead, i64x ((k : Int) + idxG (sgn s) (a :: w.drop (k + 1))), .dead, .dead], stpH s)) =
          bif decide (idxG (sgn s) (w.drop (k + 1)) < 0) then (.exit 0, [.dead, .dead, .dead, .dead, .dead], stpH s) else (.ret, [.dead, .dead, i64x (((k + 1 : Nat) : Int) + idxG (sgn s) (w.drop (k + 1))), .dead, .dead], stpH s) := by
        rw [idxG_on _ hp]
        by_cases h : idxG (sgn s) (w.drop (k + 1)) < 0
        · rw [if_pos h, bt (by simp), bt (decide_eq_true h)]
        · rw [if_neg h, bf (by rw [decide_eq_false_iff_not]; omega), bf (decide_eq_false h), show (k : Int) + (idxG (sgn s) (w.drop (k + 1)) + 1) = ((k + 1 : Nat) : Int) + idxG (sgn s) (w.drop (k + 1)) by omega]
      rw [e]
      refine LoopTo.next (fun K => ?_) (ih (k + 1) (by omega) (by omega))
      rw [T, bt (by rw [decide_eq_true_eq]; omega), bt (by rw [decide_eq_true_eq]; omega), bf (show (a.1 == s) = false from hp)]

theorem idxS_ok : OrcOk Try.prog 27 (.eff (idxSF Ar.real)) := by
  refine effOk (Cx.ok oa2 (LidxS Ar.real)) mixed 27 Try.f27 (by kernel_rfl) (by kernel_rfl) (by kernel_rfl) 100 1 (by kernel_rfl) (fun i h => ?_) fun args H r H' h => ?_
  · obtain rfl : i = 0 := by omega
    refine Tells.mk (key := 2) (N := 19) (ks := [0, 1, 4, 7, 8]) (F := LidxSF Ar.real) (by kernel_rfl) rfl fun xs H r h => ?_
    unfold LidxSF at h
    split at h
    · rename_i w nw f z m k s
      obtain ⟨hg, rfl⟩ := R.Tr.two h
      simp only [rw_se, decide_eq_true_eq] at hg ⊢
      dsimp only [Ty.den] at hg
      obtain ⟨rfl, h1, h2, h3, h4⟩ := hg
      obtain ⟨k, rfl⟩ := Int.eq_ofNat_of_zero_le h3
      subst h2
      simp only [Int.toNat_natCast]
      exact loopIdxS w nw z s h1 _ k rfl (by omega)
    · cases h
  · unfold idxSF at h
    split at h
    · rename_i w nw f s
      obtain ⟨hg, he⟩ := Tr.one h
      cases he
      simp only [rw_se, decide_eq_true_eq] at hg ⊢
      obtain ⟨rfl, hg⟩ := hg
      refine ⟨by simp [X.unown], i64x (idxG (sgn s) w), _, rfl, ?_, HWeak.refl _, by simp, .inl rfl⟩
      rw [tIdxS]
      simp only [rw_se, show Int.toNat 0 = 0 from rfl, List.drop_zero]
      rw [bt (by rw [decide_eq_true_eq]; exact ⟨trivial, hg, trivial, by omega, by omega⟩)]
      have hge := idxG_ge (sgn s) w
      by_cases he : idxG (sgn s) w < 0
      · rw [bt (decide_eq_true he), show idxG (sgn s) w = -1 by omega]
      · rw [bf (decide_eq_false he), Int.zero_add]
    · cases h

theorem oa5 : OOk (Oa5 Ar.real) := oa2.add idxS_ok

theorem idxG_find {α : Type} (p : α → Bool) (z : α) : ∀ l : List α, (idxG p l < 0 → l.find? p = none) ∧ (0 ≤ idxG p l → idxG p l < l.length ∧ l.find? p = some (l.getD (idxG p l).toNat z))
  | [] => by simp [idxG]
  | x :: l => by
    have ih := idxG_find p z l
    have hge := idxG_ge p l
    cases h : p x with
    | true => rw [idxG_at l h]; simp [List.find?_cons, h]
    | false =>
      rw [idxG_on l h]
      by_cases h1 : idxG p l < 0
      · rw [if_pos h1]
        refine ⟨fun _ => by rw [List.find?_cons, h]; exact ih.1 h1, fun hh => by omega⟩
      · rw [if_neg h1]
        obtain ⟨k1, k2⟩ := ih.2 (by omega)
        refine ⟨fun hh => by omega, fun _ => ⟨by rw [List.length_cons]; omega, ?_⟩⟩
        rw [List.find?_cons, h, k2]
        obtain ⟨m, hm⟩ := Int.eq_ofNat_of_zero_le (show 0 ≤ idxG p l by omega)
        rw [hm]
        have : ((m : Int) + 1).toNat = m + 1 := by omega
        rw [this, List.getD_cons_succ, Int.toNat_natCast]

theorem stepA_core (l : List Sta) (nl : Option Bool) (i n : Int) (hl : l.length ≤ 1000000) (hs : shortS l = true) : bodyX (Cx Ar.real (Oa5 Ar.real) noL) 100 Try.f12 [.sl staT l nl false, i64x i, i64x n] [] =
    some (.tup [i64x (stepA l i n).1, boolx (stepA l i n).2], stpH n) := by
  rw [tStp]
  simp only [rw_se]
  unfold stepA
  by_cases h1 : i < 0
  · rw [bf (by rw [decide_eq_true h1]; rfl), if_neg (fun h => by omega)]
  · rw [bt (by rw [decide_eq_false h1]; rfl)]
    by_cases h2 : i ≥ (l.length : Int)
    · rw [bt (decide_eq_true h2), if_neg (fun h => by omega)]
    · obtain ⟨k, rfl⟩ := Int.eq_ofNat_of_zero_le (show (0 : Int) ≤ i by omega)
      have hk : k < l.length := by omega
      have hx := short_arcs hs hk
      have hr : decide ((0 : Int) ≤ (k : Int) ∧ (k : Int) < (l.length : Int)) = true := by rw [decide_eq_true_eq]; omega
      rw [bf (decide_eq_false h2), bt hr, if_pos (by omega)]
      simp only [Int.toNat_natCast]
      rw [show (l.getD k (false, [], ())) = l.getD k (Ty.zero staT) from rfl]
      rw [bt (decide_eq_true ⟨trivial, hx⟩)]
      have hf := idxG_find (sgn n) (Ty.zero arcT) (l.getD k (Ty.zero staT)).2.1
      unfold arcTo
      by_cases h3 : idxG (sgn n) (l.getD k (Ty.zero staT)).2.1 < 0
      · rw [bt (decide_eq_true h3), hf.1 h3]
      · obtain ⟨k1, k2⟩ := hf.2 (by omega)
        rw [bf (decide_eq_false h3), bt hr, bt (by rw [decide_eq_true_eq]; omega), k2]

theorem stepA_ok : OrcOk Try.prog 12 (.pure (stepAF Ar.real)) := by
  refine pureOk (Cx.ok oa5 noL) mixed 12 Try.f12 (by kernel_rfl) (by kernel_rfl) (by kernel_rfl) 100 0 (by kernel_rfl) (fun i h => by omega) fun args r h => ?_
  unfold stepAF at h
  split at h
  · rename_i x i n
    split at h
    · rename_i q hq
      have e := staOf_eq hq
      obtain ⟨l, nl⟩ := q
      cases e
      obtain ⟨hg, rfl⟩ := Tr.one h
      simp only [rw_se, Bool.and_eq_true, decide_eq_true_eq] at hg
      exact ⟨rfl, rfl, stpH n, stepA_core l nl i n hg.1 hg.2⟩
    · cases h
  · cases h

end Go.Proofs.Ytnbfiifkaddehaa.V

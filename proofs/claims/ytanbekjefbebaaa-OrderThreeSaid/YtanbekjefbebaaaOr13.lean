/-
  Chapter 03, order: the reference's sorting, copies, and finding do what they tell.
  It speaks of the pinned program alone; no condition.
-/
import Derived.Test.YtanbekjefbebaaaOr11
import Derived.Test.YtanbekjefbebaaaOr12
namespace Go.Proofs.Ytanbekjefbebaaa.V
open Go
set_option linter.unusedVariables false
set_option linter.unusedSimpArgs false

/-! ### Copies -/
theorem wclo_ok : OrcOk Try.prog 21 (.pure (wcloF Ar.real)) := by
  refine pureOk (Cx.ok OOk.none noL) mixed 21 Try.f21 (by kernel_rfl) (by kernel_rfl) (by kernel_rfl) 100 0 (by kernel_rfl) (fun i h => by omega) fun args r h => ?_
  unfold wcloF at h
  split at h
  · rename_i b nl
    obtain ⟨hg, rfl⟩ := Tr.one h
    refine ⟨rfl, rfl, [], ?_⟩
    rw [tWclo]
    simp only [rw_se, Bool.and_eq_true, decide_eq_true_eq] at hg
    obtain ⟨h1, h2⟩ := hg
    cases nl
    · rw [bf rfl, bt (by rw [decide_eq_true_eq]; omega)]
      simp [i64s]
    · have := nlB_nil h2 rfl
      simp [this]
  · cases h

theorem wclone_ok : OrcOk Try.prog 21 (.pure (wcloneF Ar.real)) := by
  obtain ⟨h1, h2⟩ := (show PureOk _ _ _ from wclo_ok)
  refine ⟨h1, fun args r hr g w d dh vs hd hw ha => ?_⟩
  replace hr : (wcloneF Ar.real args).run some = some r := hr
  unfold wcloneF at hr
  split at hr
  · rename_i x nl
    obtain ⟨hg, rfl⟩ := Tr.one hr
    simp only [rw_se, decide_eq_true_eq] at hg
    simp only [RepXs] at ha
    obtain ⟨v0, us, rfl, k0, rfl⟩ := ha
    simp only [RepX] at k0
    obtain ⟨a, c, rfl, p1, p2, p3, p4⟩ := k0
    have hrep : RepXs g w dh [i64s x (some a.isNone) false] [.slice a (List.length x) c] := by
      simp only [RepXs, RepX]
      exact ⟨_, _, rfl, ⟨a, c, rfl, p1, p2, fun b e => by cases e; rfl, fun h => by cases h⟩, rfl⟩
    have hn : nlB a.isNone x = true := by
      cases a with
      | some a => rfl
      | none =>
        cases x with
        | nil => rfl
        | cons y x =>
          obtain ⟨A, _, e, _⟩ := p2 0 (by simp)
          cases e
    have hF : (wcloF Ar.real [i64s x (some a.isNone) false]).run some = some (i64s x (some a.isNone) true) := by
      unfold wcloF
      simp only [rw_se, hn, decide_eq_true hg, Bool.and_self]
      rfl
    refine (h2 _ _ hF g w d dh _ hd hw hrep).mono ?_
    rintro e w' ⟨v, g', e1, e2, e3, e4⟩
    refine ⟨v, g', e1, ?_, e3, e4⟩
    simp only [RepX] at e2 ⊢
    obtain ⟨a', c', q1, q2, q3, q4, q5⟩ := e2
    exact ⟨a', c', q1, q2, q3, (fun b e => by cases e), q5⟩
  · cases hr

theorem cl26_ok : OrcOk Try.prog 26 (.pure (weqF Ar.real)) := by
  refine pureOk (Cx.ok o4 noL) mixed 26 Try.f26 (by kernel_rfl) (by kernel_rfl) (by kernel_rfl) 100 0 (by kernel_rfl) (fun i h => by omega) fun args r h => ?_
  unfold weqF at h
  split at h
  · rename_i a na b nb
    obtain ⟨hg, rfl⟩ := Tr.one h
    refine ⟨rfl, rfl, [], ?_⟩
    rw [tCl26, bt hg]
  · cases h

theorem cl29_ok : OrcOk Try.prog 29 (.eff (cl29F Ar.real)) := by
  refine effOk (Cx.ok o4 noL) mixed 29 Try.f29 (by kernel_rfl) (by kernel_rfl) (by kernel_rfl) 100 0 (by kernel_rfl) (fun i h => by omega) fun args H r H' h => ?_
  unfold cl29F at h
  split at h
  · rename_i i l nl w nw
    obtain ⟨hg, he⟩ := Tr.one h
    cases he
    simp only [rw_se, Bool.and_eq_true, decide_eq_true_eq] at hg ⊢
    dsimp only [Ty.den] at hg
    obtain ⟨⟨h1, h2, h3⟩, h4⟩ := hg
    obtain ⟨i, rfl⟩ := Int.eq_ofNat_of_zero_le h1
    have hs := short_get h4 (i := i) (by omega)
    refine ⟨by simp [X.unown], boolx (!ltL (l.getD (i : Int).toNat []) w), _, rfl, ?_, HWeak.refl _, by simp, .inl rfl⟩
    rw [tCl29]
    simp only [rw_se, Int.toNat_natCast]
    rw [bt (by rw [decide_eq_true_eq]; omega), bt (by rw [decide_eq_true_eq]; omega)]
    rfl
  · cases h

theorem o5 : OOk (Or5 Ar.real) := ((o4.add wclone_ok).add cl26_ok).add cl29_ok

/-! ### The reference's sorting -/
theorem loopRso (l : List (List Int)) (nl : Option Bool) (hl : l.length ≤ 1000) (hs : shortB l = true) : ∀ (m i : Nat) (out : List (List Int)), l.length - i = m → i ≤ l.length → out.length ≤ i → shortB out = true →
    LoopTo (Cx Ar.real (Or5 Ar.real) (Lrso Ar.real)) 100 (loopAt Try.f13 0) 44 [0, 3, 4] [.sl wT l nl false, .sl wT out (some out.isEmpty) true, i64x (i : Int)] []
      (.exit 0, [.dead, .sl wT ((l.drop i).foldl insL out) (some ((l.drop i).foldl insL out).isEmpty) true, .dead], []) := by
  intro m
  induction m with
  | zero =>
    intro i out h1 h2 h3 h4
    rw [List.drop_eq_nil_iff.2 (show l.length ≤ i by omega)]
    refine LoopTo.left (by simp) fun k => ?_
    rw [lRso, bf (by rw [decide_eq_false_iff_not]; omega)]
    exact ⟨_, rfl, fd (fk (fd (Forget.same _)))⟩
  | succ m ih =>
    intro i out h1 h2 h3 h4
    have hi : i < l.length := by omega
    have hsi := short_get hs hi
    rw [dropG (Ty.zero wT) hi, List.foldl_cons]
    generalize hx : l.getD i (Ty.zero wT) = x at hsi
    have hlen := insL_len (out := out) (w := x)
    have hsh : shortB (insL out x) = true := by
      unfold shortB at h4 ⊢
      rw [List.all_eq_true] at h4 ⊢
      intro z hz
      rcases insL_mem.1 hz with q | q
      · exact h4 z q
      · subst q; exact decide_eq_true hsi
    have hk := wi1 (show i ≤ 9000000000000000000 by omega)
    have hi' := ih (i + 1) (insL out x) (by omega) (by omega) (by omega) hsh
    by_cases hm : x ∈ out
    · have hI : insL out x = out := if_pos hm
      rw [hI] at hi' ⊢
      refine LoopTo.next (fun k => ?_) hi'
      rw [lRso]
      simp only [Int.toNat_natCast, hx, rw_se, hk, h4, Bool.and_true]
      rw [bt (by rw [decide_eq_true_eq]; omega), bt (by rw [decide_eq_true_eq]; omega), bt (by rw [decide_eq_true_eq]; omega), bf (by rw [decide_eq_true hm]; rfl)]
    · have hI : insL out x = out.take (cntL out x) ++ x :: out.drop (cntL out x) := if_neg hm
      have hc := cnt_le out x
      have t1 : (out.take (cntL out x)).length = cntL out x := by rw [List.length_take]; omega
      have t2 : (out.drop (cntL out x)).length = out.length - cntL out x := List.length_drop
      have hne := insL_ne (out := out) (w := x)
      rw [hne, hI] at hi'
      rw [hI]
      refine LoopTo.next (fun k => ?_) hi'
      rw [lRso]
      simp only [Int.toNat_natCast, hx, rw_se, hk, h4, Bool.and_true, List.nil_append, Bool.false_and]
      rw [bt (by rw [decide_eq_true_eq]; omega), bt (by rw [decide_eq_true_eq]; omega), bt (by rw [decide_eq_true_eq]; omega), bt (by rw [decide_eq_false hm]; rfl), bt (by rw [decide_eq_true_eq]; omega), bt (by rw [decide_eq_true_eq]; omega), bt (by rw [decide_eq_true_eq]; omega), bt (by rw [decide_eq_true_eq]; omega), bt (by rw [decide_eq_true_eq]; omega),
        bt (by rw [decide_eq_true_eq, t1]; simp; omega), bt (by rw [decide_eq_true_eq, List.length_append, t1, t2]; simp; omega)]
      simp

theorem rsort_ok : OrcOk Try.prog 13 (.pure (rsortF Ar.real)) := by
  refine pureOk (Cx.ok o5 (Lrso Ar.real)) mixed 13 Try.f13 (by kernel_rfl) (by kernel_rfl) (by kernel_rfl) 100 1 (by kernel_rfl) (fun i h => ?_) fun args r h => ?_
  · obtain rfl : i = 0 := by omega
    refine Tells.mk (key := 3) (N := 44) (ks := [0, 3, 4]) (F := LrsoF Ar.real) (by kernel_rfl) rfl fun xs H r h => ?_
    unfold LrsoF at h
    split at h
    · rename_i l nl out no i
      obtain ⟨hg, rfl⟩ := Tr.one h
      simp only [rw_se, Bool.and_eq_true, decide_eq_true_eq] at hg ⊢
      dsimp only [Ty.den] at hg
      obtain ⟨⟨h1, h2, h3, h4, rfl⟩, h5, h6⟩ := hg
      obtain ⟨i, rfl⟩ := Int.eq_ofNat_of_zero_le h3
      simp only [Int.toNat_natCast]
      exact loopRso l nl h1 h5 _ i out rfl (by omega) (by omega) h6
    · cases h
  · unfold rsortF at h
    split at h
    · rename_i l nl
      obtain ⟨hg, rfl⟩ := Tr.one h
      refine ⟨rfl, rfl, [], ?_⟩
      rw [tRso]
      simp only [rw_se, Bool.and_eq_true, decide_eq_true_eq, show Int.toNat 0 = 0 from rfl, List.drop_zero] at hg ⊢
      rw [bt (by rw [Bool.and_eq_true, Bool.and_eq_true, decide_eq_true_eq]; exact ⟨⟨hg.1, by simp, by omega, by omega, trivial⟩, hg.2, rfl⟩)]
      rfl
    · cases h

/-! ### Finding -/
theorem loopSea (l : List (List Int)) (nl : Option Bool) (w : List Int) (nw : Option Bool) (hl : l.length ≤ 1000000) (hw : w.length ≤ 1000000) (hs : shortB l = true) (hr : Rises l) : ∀ (m i j : Nat), j - i ≤ m → i ≤ cntL l w → cntL l w ≤ j → j ≤ l.length →
    LoopTo (Cx Ar.real (Or5 Ar.real) (Lsea Ar.real)) 100 (loopAt Try.f28 0) 26 [1, 5, 6] [.fn 29 [] [.ptr 0 [], .ptr 1 []], i64x (i : Int), i64x (j : Int)] [(.slice wT, .sl wT l nl false), (wT, i64s w nw false)]
      (.exit 0, [.dead, i64x (cntL l w : Int), .dead], [(.slice wT, .sl wT l nl false), (wT, i64s w nw false)]) := by
  intro m
  induction m with
  | zero =>
    intro i j h1 h2 h3 h4
    obtain rfl : i = cntL l w := by omega
    refine LoopTo.left (by simp) fun k => ?_
    rw [lSea, bf (by rw [decide_eq_false_iff_not]; omega)]
    exact ⟨_, rfl, fd (fk (fd (Forget.same _)))⟩
  | succ m ih =>
    intro i j h1 h2 h3 h4
    by_cases hij : i < j
    · have e1 : Ar.real.wrap .i64 (Int.fdiv (Ar.real.wrap .u64 (Ar.real.wrap .i64 ((i : Int) + (j : Int)))) (Ar.real.p2 1 64)) = (((i + j) / 2 : Nat) : Int) := by
        rw [rw_p2, show min (Int.toNat 1) 64 = 1 from rfl, rw_wrap, rw_wrap, rw_wrap, wi64 (n := (i : Int) + (j : Int)) (by omega) (by omega), show (i : Int) + (j : Int) = ((i + j : Nat) : Int) from by omega, wu64 (by omega) (by omega), nfdiv, wi64 (by omega) (by omega)]
      have hh : (i + j) / 2 < j := by omega
      have hh2 : i ≤ (i + j) / 2 := by omega
      have hlt : ltL (l.getD ((i + j) / 2) []) w = decide ((i + j) / 2 < cntL l w) := by
        rw [← cnt_at w hr ((i + j) / 2) (by omega), List.getD_eq_getElem?_getD, List.getElem?_eq_getElem (show (i + j) / 2 < l.length by omega)]; rfl
      generalize hq : (i + j) / 2 = q at e1 hh hh2 hlt
      have hq1 := wi1 (show q ≤ 9000000000000000000 by omega)
      by_cases hc : q < cntL l w
      · rw [decide_eq_true hc] at hlt
        refine LoopTo.next (fun k => ?_) (ih (q + 1) j (by omega) (by omega) h3 h4)
        rw [lSea]
        simp only [e1, rw_se, Int.toNat_natCast, hlt, hs, Bool.and_true, hq1]
        rw [bt (by rw [decide_eq_true_eq]; omega), bt (by rw [decide_eq_true_eq]; omega)]
        rfl
      · rw [decide_eq_false hc] at hlt
        refine LoopTo.next (fun k => ?_) (ih i q (by omega) h2 (by omega) (by omega))
        rw [lSea]
        simp only [e1, rw_se, Int.toNat_natCast, hlt, hs, Bool.and_true]
        rw [bt (by rw [decide_eq_true_eq]; omega), bt (by rw [decide_eq_true_eq]; omega)]
        rfl
    · obtain rfl : i = cntL l w := by omega
      refine LoopTo.left (by simp) fun k => ?_
      rw [lSea, bf (by rw [decide_eq_false_iff_not]; omega)]
      exact ⟨_, rfl, fd (fk (fd (Forget.same _)))⟩

theorem search_ok : OrcOk Try.prog 28 (.eff (searchF Ar.real)) := by
  refine effOk (Cx.ok o5 (Lsea Ar.real)) mixed 28 Try.f28 (by kernel_rfl) (by kernel_rfl) (by kernel_rfl) 100 1 (by kernel_rfl) (fun i h => ?_) fun args H r H' h => ?_
  · obtain rfl : i = 0 := by omega
    refine Tells.mk (key := 2) (N := 26) (ks := [1, 5, 6]) (F := LseaF Ar.real) (by kernel_rfl) rfl fun xs H r h => ?_
    unfold LseaF at h
    split at h
    · rename_i f i j l nl w nw
      obtain ⟨hg, rfl⟩ := Tr.one h
      simp only [rw_se, Bool.and_eq_true, decide_eq_true_eq] at hg ⊢
      dsimp only [Ty.den] at hg
      obtain ⟨⟨rfl, h1, h2, h3, h4, h5, h6⟩, h7, h8⟩ := hg
      obtain ⟨i, rfl⟩ := Int.eq_ofNat_of_zero_le h1
      obtain ⟨j, rfl⟩ := Int.eq_ofNat_of_zero_le (Int.le_trans (Int.natCast_nonneg _) h3)
      exact loopSea l nl w nw h5 h6 h7 (risesB_iff.1 h8) _ i j (Nat.le_refl _) (by omega) (by omega) (by omega)
    · cases h
  · unfold searchF at h
    split at h
    · rename_i n f l nl w nw
      obtain ⟨hg, he⟩ := Tr.one h
      cases he
      simp only [rw_se, Bool.and_eq_true, decide_eq_true_eq] at hg ⊢
      dsimp only [Ty.den] at hg
      obtain ⟨⟨rfl, rfl, h3, h4⟩, h5, h6⟩ := hg
      have hc := cnt_le l w
      refine ⟨by simp [X.unown], i64x (cntL l w : Int), _, rfl, ?_, HWeak.refl _, by simp, .inl rfl⟩
      rw [tSea]
      simp only [rw_se]
      rw [bt (by rw [Bool.and_eq_true, Bool.and_eq_true, decide_eq_true_eq]; exact ⟨⟨trivial, by omega, by omega, by omega, by omega, h3, h4⟩, h5, h6⟩)]
    · cases h

end Go.Proofs.Ytanbekjefbebaaa.V

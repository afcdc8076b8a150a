/-
  Chapter 03, order: how words stand: the functions do what they tell.
  It speaks of the pinned program alone; no condition.
-/
import Derived.Test.YtanbekjefbebaaaOr7
namespace Go.Proofs.Ytanbekjefbebaaa.V
open Go
set_option linter.unusedVariables false
set_option linter.unusedSimpArgs false

theorem comL_eq {a b : List Int} {i : Nat} (ha : i < a.length) (hb : i < b.length) (h : a.getD i 0 = b.getD i 0) : comL (a.drop i) (b.drop i) = comL (a.drop (i + 1)) (b.drop (i + 1)) + 1 := by
  rw [dropG 0 ha, dropG 0 hb, comL, if_pos h]
theorem comL_ne {a b : List Int} {i : Nat} (ha : i < a.length) (hb : i < b.length) (h : a.getD i 0 ≠ b.getD i 0) : comL (a.drop i) (b.drop i) = 0 := by
  rw [dropG 0 ha, dropG 0 hb, comL, if_neg h]
theorem comL_end {a b : List Int} {i : Nat} (h : a.length ≤ i ∨ b.length ≤ i) : comL (a.drop i) (b.drop i) = 0 := by
  rcases h with h | h
  · rw [List.drop_eq_nil_iff.2 h]; simp [comL]
  · rw [List.drop_eq_nil_iff.2 h]; cases a.drop i <;> simp [comL]
theorem comL_le : ∀ a b : List Int, comL a b ≤ a.length ∧ comL a b ≤ b.length
  | [], _ => by simp [comL]
  | _ :: _, [] => by simp [comL]
  | x :: a, y :: b => by
    have := comL_le a b
    simp only [comL]
    split <;> simp <;> omega
theorem ltL_com : ∀ a b : List Int, ltL a b = if comL a b = b.length then false else if comL a b = a.length then true else decide (a.getD (comL a b) 0 < b.getD (comL a b) 0)
  | [], [] => by decide
  | [], y :: b => by simp [comL, ltL, Go.Proofs.ltOf, cmpL]
  | x :: a, [] => by simp [comL, ltL, Go.Proofs.ltOf, cmpL]
  | x :: a, y :: b => by
    have ih := ltL_com a b
    simp only [comL, ltL, Go.Proofs.ltOf, cmpL] at ih ⊢
    by_cases h : x = y
    · subst h
      simpa using ih
    · by_cases h1 : x < y
      · simp [h, h1]
      · have h2 : y < x := by omega
        simp [h, h1, h2]

theorem cmp_ok : OrcOk Try.prog 24 (.pure (cmpF Ar.real)) := by
  show PureOk _ _ _
  refine ⟨fnOk (fn := Try.f24) (by kernel_rfl) (by decide +kernel) (by kernel_rfl), fun args r hr g w d dh vs hd hw ha => ?_⟩
  replace hr : (cmpF Ar.real args).run some = some r := hr
  unfold cmpF at hr
  split at hr
  · rename_i a na b nb
    obtain ⟨hg, rfl⟩ := Tr.one hr
    simp only [rw_se, decide_eq_true_eq] at hg ⊢
    simp only [RepXs] at ha
    obtain ⟨v0, us0, rfl, k0, v1, us1, rfl, k1, rfl⟩ := ha
    simp only [RepX] at k0 k1
    obtain ⟨a0, c0, rfl, p1, p2, _⟩ := k0
    obtain ⟨a1, c1, rfl, q1, q2, _⟩ := k1
    obtain ⟨_, e, _, h1, _⟩ := word_at (g := g) (w := w) (x := a) (cs := [.slice a0 (List.length a) c0]) ⟨a0, c0, rfl, p1, p2⟩ hg.1
    cases e
    obtain ⟨_, e, _, h2, _⟩ := word_at (g := g) (w := w) (x := b) (cs := [.slice a1 (List.length b) c1]) ⟨a1, c1, rfl, q1, q2⟩ hg.2
    cases e
    refine (k_compare _ _ a b w h1 h2).mono ?_
    rintro e w' ⟨rfl, rfl⟩
    exact ⟨_, g, rfl, RepX.int_iff.2 rfl, Ext.refl _ _ _ _, hw⟩
  · cases hr

theorem loopFst (O : OT) (a : List Int) (na : Option Bool) (b : List Int) (nb : Option Bool) (z : Int) (l : Nat) (ha : a.length ≤ 1000000) (hb : b.length ≤ 1000000) (l1 : l ≤ a.length) (l2 : l ≤ b.length) (l3 : l = a.length ∨ l = b.length) : ∀ (n i : Nat), l - i = n → i ≤ l →
    LoopTo (Cx Ar.real O (Lfst Ar.real)) 100 (loopAt Try.f30 0) 30 [0, 1, 4, 10, 11] [i64s a na false, i64s b nb false, i64x z, i64x (l : Int), i64x (i : Int)] []
      (bif decide ((i : Int) + (comL (a.drop i) (b.drop i) : Int) = (l : Int)) then (.exit 0, [i64s a na false, i64s b nb false, .dead, .dead, .dead], []) else (.ret, [.dead, .dead, i64x ((i : Int) + (comL (a.drop i) (b.drop i) : Int)), .dead, .dead], [])) := by
  intro n
  induction n with
  | zero =>
    intro i h1 h2
    obtain rfl : i = l := by omega
    rw [comL_end (by omega), decide_eq_true (by omega), cond_true]
    refine LoopTo.left (by simp) fun k => ?_
    rw [lFst, bf (by rw [decide_eq_false_iff_not]; omega)]
    exact ⟨_, rfl, fk (fk (fd (fd (fd (Forget.same _)))))⟩
  | succ n ih =>
    intro i h1 h2
    have hi : i < a.length := by omega
    have hi' : i < b.length := by omega
    by_cases hc : a.getD i 0 = b.getD i 0
    · rw [comL_eq hi hi' hc]
      have e : (i : Int) + ((comL (a.drop (i + 1)) (b.drop (i + 1)) + 1 : Nat) : Int) = ((i + 1 : Nat) : Int) + (comL (a.drop (i + 1)) (b.drop (i + 1)) : Int) := by omega
      rw [e]
      refine LoopTo.next (fun k => ?_) (ih (i + 1) (by omega) (by omega))
      rw [lFst]
      simp only [Int.toNat_natCast, wi1 (show i ≤ 9000000000000000000 by omega)]
      rw [bt (by rw [decide_eq_true_eq]; omega), bt (by rw [decide_eq_true_eq]; omega), bt (by rw [decide_eq_true_eq]; omega), bf (by rw [hc]; simp)]
    · rw [comL_ne hi hi' hc, decide_eq_false (by omega), cond_false]
      refine LoopTo.left (by simp) fun k => ?_
      rw [lFst]
      simp only [Int.toNat_natCast]
      rw [bt (by rw [decide_eq_true_eq]; omega), bt (by rw [decide_eq_true_eq]; omega), bt (by rw [decide_eq_true_eq]; omega), bt (by rw [bne_iff_ne]; exact hc)]
      rw [show (i : Int) + ((0 : Nat) : Int) = (i : Int) by omega]
      exact ⟨_, rfl, fd (fd (fk (fd (fd (Forget.same _)))))⟩

theorem fst_ok (O : OT) (hO : OOk O) : OrcOk Try.prog 30 (.pure (comF Ar.real)) := by
  refine pureOk (Cx.ok hO (Lfst Ar.real)) mixed 30 Try.f30 (by kernel_rfl) (by kernel_rfl) (by kernel_rfl) 100 1 (by kernel_rfl) (fun i h => ?_) fun args r h => ?_
  · obtain rfl : i = 0 := by omega
    refine Tells.mk (key := 2) (N := 30) (ks := [0, 1, 4, 10, 11]) (F := LfstF Ar.real) (by kernel_rfl) rfl fun xs H r h => ?_
    unfold LfstF at h
    split at h
    · rename_i a na b nb z l i
      obtain ⟨hg, rfl⟩ := Tr.two h
      simp only [rw_se, decide_eq_true_eq] at hg ⊢
      dsimp only [Ty.den] at hg
      obtain ⟨h1, h2, h3, h4, h5, h6, h7⟩ := hg
      obtain ⟨m, rfl⟩ := Int.eq_ofNat_of_zero_le h6
      obtain ⟨l, rfl⟩ := Int.eq_ofNat_of_zero_le (Int.le_trans h6 h7)
      simp only [Int.toNat_natCast]
      exact loopFst O a na b nb z l h1 h2 (by omega) (by omega) (by omega) _ m rfl (by omega)
    · cases h
  · unfold comF at h
    split at h
    · rename_i a na b nb
      obtain ⟨hg, rfl⟩ := Tr.one h
      refine ⟨rfl, rfl, [], ?_⟩
      rw [tFst]
      simp only [rw_se, decide_eq_true_eq, show Int.toNat 0 = 0 from rfl, List.drop_zero] at hg ⊢
      have hle := comL_le a b
      by_cases hl : (b.length : Int) < (a.length : Int)
      · simp only [if_pos hl]
        rw [bt (by rw [decide_eq_true_eq]; exact ⟨hg.1, hg.2, by first | omega | exact Int.le_refl _, by first | omega | exact Int.le_refl _, by first | omega | exact .inl trivial | exact .inr trivial, by omega, by omega⟩)]
        by_cases he : (0 : Int) + (comL a b : Int) = (b.length : Int)
        · rw [bt (decide_eq_true he), ← he, Int.zero_add]
        · rw [bf (decide_eq_false he), Int.zero_add]
      · simp only [if_neg hl]
        rw [bt (by rw [decide_eq_true_eq]; exact ⟨hg.1, hg.2, by first | omega | exact Int.le_refl _, by first | omega | exact Int.le_refl _, by first | omega | exact .inl trivial | exact .inr trivial, by omega, by omega⟩)]
        by_cases he : (0 : Int) + (comL a b : Int) = (a.length : Int)
        · rw [bt (decide_eq_true he), ← he, Int.zero_add]
        · rw [bf (decide_eq_false he), Int.zero_add]
    · cases h

theorem loopRco (O : OT) (a : List Int) (na : Option Bool) (b : List Int) (nb : Option Bool) (ha : a.length ≤ 1000000) (hb : b.length ≤ 1000000) : ∀ (n i : Nat), a.length - i = n → i ≤ a.length → i ≤ b.length →
    LoopTo (Cx Ar.real O (Lrco Ar.real)) 100 (loopAt Try.f19 0) 30 [0, 1, 5] [i64s a na false, i64s b nb false, i64x (i : Int)] []
      (.exit 0, [.dead, .dead, i64x ((i : Int) + (comL (a.drop i) (b.drop i) : Int))], []) := by
  intro n
  induction n with
  | zero =>
    intro i h1 h2 h3
    rw [comL_end (by omega), show (i : Int) + ((0 : Nat) : Int) = (i : Int) by omega]
    refine LoopTo.left (by simp) fun k => ?_
    rw [lRco, bf (by rw [decide_eq_false (by omega)]; rfl)]
    exact ⟨_, rfl, fd (fd (fk (Forget.same _)))⟩
  | succ n ih =>
    intro i h1 h2 h3
    have hi : i < a.length := by omega
    by_cases hi' : i < b.length
    · by_cases hc : a.getD i 0 = b.getD i 0
      · rw [comL_eq hi hi' hc]
        have e : (i : Int) + ((comL (a.drop (i + 1)) (b.drop (i + 1)) + 1 : Nat) : Int) = ((i + 1 : Nat) : Int) + (comL (a.drop (i + 1)) (b.drop (i + 1)) : Int) := by omega
        rw [e]
        refine LoopTo.next (fun k => ?_) (ih (i + 1) (by omega) (by omega) (by omega))
        rw [lRco]
        simp only [Int.toNat_natCast, wi1 (show i ≤ 9000000000000000000 by omega)]
        rw [bt (by rw [decide_eq_true (by omega)]; rfl), bt (by rw [decide_eq_true (by omega)]; rfl), bt (by rw [decide_eq_true_eq]; omega), bt (by rw [decide_eq_true_eq]; omega), bt (by rw [hc]; simp)]
      · rw [comL_ne hi hi' hc, show (i : Int) + ((0 : Nat) : Int) = (i : Int) by omega]
        refine LoopTo.left (by simp) fun k => ?_
        rw [lRco]
        simp only [Int.toNat_natCast]
        rw [bt (by rw [decide_eq_true (by omega)]; rfl), bt (by rw [decide_eq_true (by omega)]; rfl), bt (by rw [decide_eq_true_eq]; omega), bt (by rw [decide_eq_true_eq]; omega), bf (by rw [beq_eq_false_iff_ne]; exact hc)]
        exact ⟨_, rfl, fd (fd (fk (Forget.same _)))⟩
    · rw [comL_end (by omega), show (i : Int) + ((0 : Nat) : Int) = (i : Int) by omega]
      refine LoopTo.left (by simp) fun k => ?_
      rw [lRco, bt (by rw [decide_eq_true (by omega)]; rfl), bf (by rw [decide_eq_false (by omega)]; rfl)]
      exact ⟨_, rfl, fd (fd (fk (Forget.same _)))⟩

theorem rco_ok (O : OT) (hO : OOk O) : OrcOk Try.prog 19 (.pure (comF Ar.real)) := by
  refine pureOk (Cx.ok hO (Lrco Ar.real)) mixed 19 Try.f19 (by kernel_rfl) (by kernel_rfl) (by kernel_rfl) 100 1 (by kernel_rfl) (fun i h => ?_) fun args r h => ?_
  · obtain rfl : i = 0 := by omega
    refine Tells.mk (key := 2) (N := 30) (ks := [0, 1, 5]) (F := LrcoF Ar.real) (by kernel_rfl) rfl fun xs H r h => ?_
    unfold LrcoF at h
    split at h
    · rename_i a na b nb i
      obtain ⟨hg, rfl⟩ := Tr.one h
      simp only [rw_se, decide_eq_true_eq] at hg ⊢
      dsimp only [Ty.den] at hg
      obtain ⟨h1, h2, h6, h7, h8⟩ := hg
      obtain ⟨m, rfl⟩ := Int.eq_ofNat_of_zero_le h6
      simp only [Int.toNat_natCast]
      exact loopRco O a na b nb h1 h2 _ m rfl (by omega) (by omega)
    · cases h
  · unfold comF at h
    split at h
    · rename_i a na b nb
      obtain ⟨hg, rfl⟩ := Tr.one h
      refine ⟨rfl, rfl, [], ?_⟩
      rw [tRco]
      simp only [rw_se, decide_eq_true_eq, show Int.toNat 0 = 0 from rfl, List.drop_zero, Int.zero_add] at hg ⊢
      rw [bt (by rw [decide_eq_true_eq]; exact ⟨hg.1, hg.2, by omega, by omega, by omega⟩)]
    · cases h

theorem o1 : OOk (Or1 Ar.real) := ((OOk.none.add cmp_ok).add (weq_ok _ OOk.none)).add (wsa_ok _ OOk.none)
theorem o2 : OOk (Or2 Ar.real) := ((o1.add (fst_ok _ OOk.none)).add (rco_ok _ OOk.none)).add srt_ok

theorem com_ok : OrcOk Try.prog 18 (.pure (comF Ar.real)) := by
  refine pureOk (Cx.ok o2 noL) mixed 18 Try.f18 (by kernel_rfl) (by kernel_rfl) (by kernel_rfl) 100 0 (by kernel_rfl) (fun i h => by omega) fun args r h => ?_
  unfold comF at h
  split at h
  · rename_i a na b nb
    obtain ⟨hg, rfl⟩ := Tr.one h
    refine ⟨rfl, rfl, [], ?_⟩
    rw [tCom, bt hg]
  · cases h
theorem less_ok : OrcOk Try.prog 16 (.pure (lessF Ar.real)) := by
  refine pureOk (Cx.ok o2 noL) mixed 16 Try.f16 (by kernel_rfl) (by kernel_rfl) (by kernel_rfl) 100 0 (by kernel_rfl) (fun i h => by omega) fun args r h => ?_
  unfold lessF at h
  split at h
  · rename_i a na b nb
    obtain ⟨hg, rfl⟩ := Tr.one h
    refine ⟨rfl, rfl, [], ?_⟩
    rw [tLess, bt hg]
    rfl
  · cases h
theorem rless_ok : OrcOk Try.prog 17 (.pure (lessF Ar.real)) := by
  refine pureOk (Cx.ok o2 noL) mixed 17 Try.f17 (by kernel_rfl) (by kernel_rfl) (by kernel_rfl) 100 0 (by kernel_rfl) (fun i h => by omega) fun args r h => ?_
  unfold lessF at h
  split at h
  · rename_i a na b nb
    obtain ⟨hg, rfl⟩ := Tr.one h
    refine ⟨rfl, rfl, [], ?_⟩
    have hle := comL_le a b
    rw [tRless, bt hg]
    simp only [rw_se, Int.toNat_natCast]
    rw [ltL_com]
    by_cases h1 : comL a b = b.length
    · rw [bt (by rw [h1]; simp), if_pos h1]
    · rw [bf (by rw [beq_eq_false_iff_ne]; omega), if_neg h1]
      by_cases h2 : comL a b = a.length
      · rw [bf (by rw [h2]; simp), if_pos h2]
      · rw [bt (by rw [show ((comL a b : Int) == (a.length : Int)) = false from by rw [beq_eq_false_iff_ne]; omega]; rfl), if_neg h2, bt (by rw [decide_eq_true_eq]; omega), bt (by rw [decide_eq_true_eq]; omega)]
  · cases h
theorem o3 : OOk (Or3 Ar.real) := ((o2.add com_ok).add less_ok).add rless_ok

end Go.Proofs.Ytanbekjefbebaaa.V

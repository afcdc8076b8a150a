/-
  Chapter 03, order: the functions that only look do what they tell.
  It speaks of the pinned program alone; no condition.
-/
import Derived.Test.YtanbekjefbebaaaOr6
namespace Go.Proofs.Ytanbekjefbebaaa.V
open Go
set_option linter.unusedVariables false
set_option linter.unusedSimpArgs false

theorem Tr.two {α : Type} {c e : Bool} {x y r : α} (h : (Tr.test c (.test e (.give x) (.give y)) .no).run some = some r) : c = true ∧ r = bif e then x else y := by
  cases c
  · cases h
  · cases e
    · exact ⟨rfl, by simpa [Tr.run] using h.symm⟩
    · exact ⟨rfl, by simpa [Tr.run] using h.symm⟩
theorem dropG {α : Type} (d : α) {b : List α} {i : Nat} (h : i < b.length) : b.drop i = b.getD i d :: b.drop (i + 1) := by
  rw [List.getD_eq_getElem?_getD, List.getElem?_eq_getElem h, Option.getD_some]
  exact List.drop_eq_getElem_cons h
theorem memG {α : Type} (d : α) {b : List α} {i : Nat} (h : i < b.length) : b.getD i d ∈ b := by
  rw [List.getD_eq_getElem?_getD, List.getElem?_eq_getElem h, Option.getD_some]
  exact List.getElem_mem h
theorem dropG_eq {α : Type} [DecidableEq α] (d : α) {a b : List α} {i : Nat} (ha : i < a.length) (hb : i < b.length) (h : a.getD i d = b.getD i d) : decide (a.drop i = b.drop i) = decide (a.drop (i + 1) = b.drop (i + 1)) := by
  rw [dropG d ha, dropG d hb, h]
  simp
theorem dropG_ne {α : Type} [DecidableEq α] (d : α) {a b : List α} {i : Nat} (ha : i < a.length) (hb : i < b.length) (h : a.getD i d ≠ b.getD i d) : decide (a.drop i = b.drop i) = false := by
  rw [dropG d ha, dropG d hb, decide_eq_false_iff_not]
  intro e
  simp only [List.cons.injEq] at e
  exact h e.1
theorem dropG_nil {α : Type} [DecidableEq α] {a b : List α} {i : Nat} (ha : a.length ≤ i) (hb : b.length ≤ i) : decide (a.drop i = b.drop i) = true := by
  rw [List.drop_eq_nil_iff.2 ha, List.drop_eq_nil_iff.2 hb]; simp
theorem wi1 {i : Nat} (h : i ≤ 9000000000000000000) : Ar.real.wrap .i64 ((i : Int) + 1) = ((i + 1 : Nat) : Int) := by rw [rw_wrap, wi64 (by omega) (by omega)]; rfl
theorem fd {x : X} {ys xs : List X} (t : Forget ys xs) : Forget (x :: ys) (.dead :: xs) := Forget.cons (.inl rfl) t
theorem fk {x : X} {ys xs : List X} (t : Forget ys xs) : Forget (x :: ys) (x :: xs) := Forget.cons (.inr rfl) t

/-! ### Two words, the same -/
theorem loopWeq (O : OT) (a : List Int) (na : Option Bool) (b : List Int) (nb : Option Bool) (z : Bool) (ha : a.length ≤ 1000000) (hb : b.length = a.length) : ∀ (n i : Nat), a.length - i = n → i ≤ a.length →
    LoopTo (Cx Ar.real O (Lweq Ar.real)) 100 (loopAt Try.f27 0) 26 [0, 1, 4, 12, 13] [i64s a na false, i64s b nb false, boolx z, i64x (a.length : Int), i64x (i : Int)] []
      (bif decide (a.drop i = b.drop i) then (.exit 0, [.dead, .dead, .dead, .dead, .dead], []) else (.ret, [.dead, .dead, boolx false, .dead, .dead], [])) := by
  intro n
  induction n with
  | zero =>
    intro i h1 h2
    rw [dropG_nil (by omega) (by omega), cond_true]
    refine LoopTo.left (by simp) fun k => ?_
    rw [lWeq, bf (by rw [decide_eq_false_iff_not]; omega)]
    exact ⟨_, rfl, fd (fd (fd (fd (fd (Forget.same _)))))⟩
  | succ n ih =>
    intro i h1 h2
    have hi : i < a.length := by omega
    have hi' : i < b.length := by omega
    by_cases hc : a.getD i 0 = b.getD i 0
    · rw [dropG_eq 0 hi hi' hc]
      refine LoopTo.next (fun k => ?_) (ih (i + 1) (by omega) (by omega))
      rw [lWeq]
      simp only [Int.toNat_natCast, wi1 (show i ≤ 9000000000000000000 by omega)]
      rw [bt (by rw [decide_eq_true_eq]; omega), bt (by rw [decide_eq_true_eq]; omega), bt (by rw [decide_eq_true_eq]; omega), bf (by rw [hc]; simp)]
    · rw [dropG_ne 0 hi hi' hc, cond_false]
      refine LoopTo.left (by simp) fun k => ?_
      rw [lWeq]
      simp only [Int.toNat_natCast]
      rw [bt (by rw [decide_eq_true_eq]; omega), bt (by rw [decide_eq_true_eq]; omega), bt (by rw [decide_eq_true_eq]; omega), bt (by rw [bne_iff_ne]; exact hc)]
      exact ⟨_, rfl, fd (fd (fk (fd (fd (Forget.same _)))))⟩

theorem weq_ok (O : OT) (hO : OOk O) : OrcOk Try.prog 27 (.pure (weqF Ar.real)) := by
  refine pureOk (Cx.ok hO (Lweq Ar.real)) mixed 27 Try.f27 (by kernel_rfl) (by kernel_rfl) (by kernel_rfl) 100 1 (by kernel_rfl) (fun i h => ?_) fun args r h => ?_
  · obtain rfl : i = 0 := by omega
    refine Tells.mk (key := 4) (N := 26) (ks := [0, 1, 4, 12, 13]) (F := LweqF Ar.real) (by kernel_rfl) rfl fun xs H r h => ?_
    unfold LweqF at h
    split at h
    · rename_i a na b nb z l i
      obtain ⟨hg, rfl⟩ := Tr.two h
      simp only [rw_se, decide_eq_true_eq] at hg ⊢
      dsimp only [Ty.den] at hg
      obtain ⟨h1, h2, h3, h4, h5⟩ := hg
      obtain ⟨m, rfl⟩ := Int.eq_ofNat_of_zero_le h4
      subst h3
      simp only [Int.toNat_natCast]
      exact loopWeq O a na b nb z h1 h2 _ m rfl (by omega)
    · cases h
  · unfold weqF at h
    split at h
    · rename_i a na b nb
      obtain ⟨hg, rfl⟩ := Tr.one h
      refine ⟨rfl, rfl, [], ?_⟩
      rw [tWeq]
      simp only [rw_se, decide_eq_true_eq, show Int.toNat 0 = 0 from rfl, List.drop_zero] at hg ⊢
      by_cases hl : a.length = b.length
      · rw [bf (by rw [hl]; simp), bt (by rw [decide_eq_true_eq]; exact ⟨hg, hl.symm, trivial, by omega, by omega⟩)]
        by_cases he : a = b
        · rw [bt (by rw [decide_eq_true_eq]; exact he), decide_eq_true he]
        · rw [bf (by rw [decide_eq_false_iff_not]; exact he), decide_eq_false he]
      · have he : a ≠ b := fun e => hl (by rw [e])
        rw [bt (by rw [bne_iff_ne]; omega), decide_eq_false he]
    · cases h

theorem loopWsa (O : OT) (a : List Int) (na : Option Bool) (b : List Int) (nb : Option Bool) (z : Bool) (ha : a.length ≤ 1000000) (hb : b.length = a.length) : ∀ (n i : Nat), a.length - i = n → i ≤ a.length →
    LoopTo (Cx Ar.real O (Lwsa Ar.real)) 100 (loopAt Try.f20 0) 26 [0, 1, 4, 5] [i64s a na false, i64s b nb false, boolx z, i64x (i : Int)] []
      (bif decide (a.drop i = b.drop i) then (.exit 0, [.dead, .dead, .dead, .dead], []) else (.ret, [.dead, .dead, boolx false, .dead], [])) := by
  intro n
  induction n with
  | zero =>
    intro i h1 h2
    rw [dropG_nil (by omega) (by omega), cond_true]
    refine LoopTo.left (by simp) fun k => ?_
    rw [lWsa, bf (by rw [decide_eq_false_iff_not]; omega)]
    exact ⟨_, rfl, fd (fd (fd (fd (Forget.same _))))⟩
  | succ n ih =>
    intro i h1 h2
    have hi : i < a.length := by omega
    have hi' : i < b.length := by omega
    by_cases hc : a.getD i 0 = b.getD i 0
    · rw [dropG_eq 0 hi hi' hc]
      refine LoopTo.next (fun k => ?_) (ih (i + 1) (by omega) (by omega))
      rw [lWsa]
      simp only [Int.toNat_natCast, wi1 (show i ≤ 9000000000000000000 by omega)]
      rw [bt (by rw [decide_eq_true_eq]; omega), bt (by rw [decide_eq_true_eq]; omega), bt (by rw [decide_eq_true_eq]; omega), bf (by rw [hc]; simp)]
    · rw [dropG_ne 0 hi hi' hc, cond_false]
      refine LoopTo.left (by simp) fun k => ?_
      rw [lWsa]
      simp only [Int.toNat_natCast]
      rw [bt (by rw [decide_eq_true_eq]; omega), bt (by rw [decide_eq_true_eq]; omega), bt (by rw [decide_eq_true_eq]; omega), bt (by rw [bne_iff_ne]; exact hc)]
      exact ⟨_, rfl, fd (fd (fk (fd (Forget.same _))))⟩

theorem wsa_ok (O : OT) (hO : OOk O) : OrcOk Try.prog 20 (.pure (weqF Ar.real)) := by
  refine pureOk (Cx.ok hO (Lwsa Ar.real)) mixed 20 Try.f20 (by kernel_rfl) (by kernel_rfl) (by kernel_rfl) 100 1 (by kernel_rfl) (fun i h => ?_) fun args r h => ?_
  · obtain rfl : i = 0 := by omega
    refine Tells.mk (key := 4) (N := 26) (ks := [0, 1, 4, 5]) (F := LwsaF Ar.real) (by kernel_rfl) rfl fun xs H r h => ?_
    unfold LwsaF at h
    split at h
    · rename_i a na b nb z i
      obtain ⟨hg, rfl⟩ := Tr.two h
      simp only [rw_se, decide_eq_true_eq] at hg ⊢
      dsimp only [Ty.den] at hg
      obtain ⟨h1, h2, h4, h5⟩ := hg
      obtain ⟨m, rfl⟩ := Int.eq_ofNat_of_zero_le h4
      simp only [Int.toNat_natCast]
      exact loopWsa O a na b nb z h1 h2 _ m rfl (by omega)
    · cases h
  · unfold weqF at h
    split at h
    · rename_i a na b nb
      obtain ⟨hg, rfl⟩ := Tr.one h
      refine ⟨rfl, rfl, [], ?_⟩
      rw [tWsa]
      simp only [rw_se, decide_eq_true_eq, show Int.toNat 0 = 0 from rfl, List.drop_zero] at hg ⊢
      by_cases hl : a.length = b.length
      · rw [bf (by rw [hl]; simp), bt (by rw [decide_eq_true_eq]; exact ⟨hg, hl.symm, by omega, by omega⟩)]
        by_cases he : a = b
        · rw [bt (by rw [decide_eq_true_eq]; exact he), decide_eq_true he]
        · rw [bf (by rw [decide_eq_false_iff_not]; exact he), decide_eq_false he]
      · have he : a ≠ b := fun e => hl (by rw [e])
        rw [bt (by rw [bne_iff_ne]; omega), decide_eq_false he]
    · cases h

end Go.Proofs.Ytanbekjefbebaaa.V

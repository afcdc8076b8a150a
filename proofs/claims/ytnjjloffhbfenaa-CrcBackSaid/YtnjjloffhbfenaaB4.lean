/-
  Functions of Go's library on bytes do what they tell.
  It speaks of the pinned program alone; no condition.
-/
import Derived.Test.YtnjjloffhbfenaaB3
namespace Go.Proofs.Ytnjjloffhbfenaa.V
open Go
set_option linter.unusedVariables false
set_option linter.unusedSimpArgs false

theorem clone_ok : OrcOk Try.prog 15 (.pure (cloneF Ar.real)) := by
  refine pureOk (Cx.ok OOk.none noL) mixed 15 Try.f15 (by kernel_rfl) (by kernel_rfl) (by kernel_rfl) 100 0 (by kernel_rfl) (fun i h => by omega) fun args r h => ?_
  unfold cloneF at h
  split at h
  · rename_i b nl
    obtain ⟨hg, rfl⟩ := Tr.one h
    refine ⟨rfl, rfl, [], ?_⟩
    rw [tClone]
    simp only [rw_se, Bool.and_eq_true, decide_eq_true_eq] at hg
    obtain ⟨h1, h2⟩ := hg
    cases nl
    · rw [bf rfl, bt (by simp; omega)]
      simp [u8s]
    · have := nlB_nil h2 rfl
      simp [this]
  · cases h

theorem drop_ne {a b : List Int} {i : Nat} (ha : i < a.length) (hb : i < b.length) (h : a.getD i 0 ≠ b.getD i 0) : a.drop i ≠ b.drop i := by
  rw [drop_cons ha, drop_cons hb]
  intro e
  simp only [List.cons.injEq] at e
  exact h e.1
theorem drop_eq {a b : List Int} {i : Nat} (ha : i < a.length) (hb : i < b.length) (h : a.getD i 0 = b.getD i 0) : (a.drop i = b.drop i) = (a.drop (i + 1) = b.drop (i + 1)) := by
  rw [drop_cons ha, drop_cons hb, h]
  simp

theorem loopEqual (a b : List Int) (na nb z : Bool) (ha : a.length ≤ 1000000) (hb : b.length = a.length) : ∀ (n i : Nat), a.length - i = n → i ≤ a.length →
    ∀ r, (Tr.test (decide (a.drop i = b.drop i)) (.give (Ex.exit 0, [u8s a (some na) false, u8s b (some nb) false, boolx z, i64x (a.length : Int), i64x (a.length : Int)], ([] : Hp))) (.give (.ret, [.dead, .dead, boolx false, .dead, .dead], []))).run some = some r →
    LoopTo (Cx Ar.real (fun _ => none) (Leq Ar.real)) 100 (loopAt Try.f14 0) 26 [0, 1, 4, 12, 13] [u8s a (some na) false, u8s b (some nb) false, boolx z, i64x (a.length : Int), i64x i] [] r := by
  intro n
  induction n with
  | zero =>
    intro i h1 h2 r hr
    have ei : i = a.length := by omega
    have e1 : a.drop i = [] := by rw [List.drop_eq_nil_iff]; omega
    have e2 : b.drop i = [] := by rw [List.drop_eq_nil_iff]; omega
    rw [e1, e2, decide_eq_true rfl] at hr
    cases hr
    refine LoopTo.done (by simp) fun k => ?_
    rw [lEqual, bf (by rw [decide_eq_false_iff_not]; omega), ei]
  | succ n ih =>
    intro i h1 h2 r hr
    have hi : i < a.length := by omega
    have hi' : i < b.length := by omega
    by_cases hc : a.getD i 0 = b.getD i 0
    · rw [show decide (a.drop i = b.drop i) = decide (a.drop (i + 1) = b.drop (i + 1)) from by simp only [drop_eq hi hi' hc]] at hr
      refine LoopTo.next (fun k => ?_) (ih (i + 1) (by omega) (by omega) r hr)
      rw [lEqual]
      simp only [Int.toNat_natCast, rw_wrap]
      rw [bt (by rw [decide_eq_true_eq]; omega), bt (by rw [decide_eq_true_eq]; omega), bt (by rw [decide_eq_true_eq]; omega), bf (by rw [hc]; simp), wi64 (by omega) (by omega)]
      rfl
    · rw [decide_eq_false (drop_ne hi hi' hc)] at hr
      cases hr
      refine LoopTo.left (by simp) fun k => ?_
      rw [lEqual]
      simp only [Int.toNat_natCast, rw_wrap]
      rw [bt (by rw [decide_eq_true_eq]; omega), bt (by rw [decide_eq_true_eq]; omega), bt (by rw [decide_eq_true_eq]; omega), bt (by rw [bne_iff_ne]; exact hc)]
      exact ⟨_, rfl, Forget.cons (.inl rfl) (Forget.cons (.inl rfl) (Forget.cons (.inr rfl) (Forget.cons (.inl rfl) (Forget.cons (.inl rfl) (Forget.same _)))))⟩

theorem equal_ok : OrcOk Try.prog 14 (.pure (equalF Ar.real)) := by
  refine pureOk (Cx.ok OOk.none (Leq Ar.real)) mixed 14 Try.f14 (by kernel_rfl) (by kernel_rfl) (by kernel_rfl) 100 1 (by kernel_rfl) (fun i h => ?_) fun args r h => ?_
  · obtain rfl : i = 0 := by omega
    refine Tells.mk (key := 4) (N := 26) (ks := [0, 1, 4, 12, 13]) (F := LeqF Ar.real) (by kernel_rfl) rfl fun xs H r h => ?_
    unfold LeqF at h
    split at h
    · rename_i a na b nb z l i
      by_cases hg : (decide (a.length ≤ 1000000 ∧ b.length = a.length ∧ l = a.length ∧ 0 ≤ i ∧ i ≤ l)) = true
      · simp only [rw_se] at h
        rw [show ∀ (x y : Tr (Ex × List X × Hp)), (Tr.test (decide (a.length ≤ 1000000 ∧ b.length = a.length ∧ l = a.length ∧ 0 ≤ i ∧ i ≤ l)) x y).run some = x.run some from fun x y => by rw [hg]; rfl] at h
        rw [decide_eq_true_eq] at hg
        dsimp only [Ty.den] at hg
        obtain ⟨h1, h2, h3, h4, h5⟩ := hg
        obtain ⟨m, rfl⟩ := Int.eq_ofNat_of_zero_le h4
        subst h3
        simp only [Int.toNat_natCast] at h
        exact loopEqual a b na nb z h1 h2 _ m rfl (by omega) r h
      · simp only [rw_se] at h
        rw [show decide (a.length ≤ 1000000 ∧ b.length = a.length ∧ l = a.length ∧ 0 ≤ i ∧ i ≤ l) = false by simpa using hg] at h
        cases h
    · cases h
  · unfold equalF at h
    split at h
    · rename_i a na b nb
      obtain ⟨hg, rfl⟩ := Tr.one h
      refine ⟨rfl, rfl, [], ?_⟩
      rw [tEqual]
      simp only [rw_se, decide_eq_true_eq] at hg ⊢
      by_cases hl : a.length = b.length
      · rw [bf (by rw [hl]; simp), bt (by rw [decide_eq_true_eq]; exact ⟨hg, hl.symm, by first | trivial | rfl, by omega, by omega⟩)]
        have z : Int.toNat 0 = 0 := rfl
        rw [z, List.drop_zero, List.drop_zero]
        by_cases he : a = b
        · rw [bt (by rw [decide_eq_true_eq]; exact he), decide_eq_true he]
        · rw [bf (by rw [decide_eq_false_iff_not]; exact he), decide_eq_false he]
      · have he : a ≠ b := fun e => hl (by rw [e])
        rw [bt (by rw [bne_iff_ne]; omega), decide_eq_false he]
    · cases h

end Go.Proofs.Ytnjjloffhbfenaa.V

/-
  Chapter 04, lines: the functions do what they tell: rounds, lines, fields.
  It speaks of the pinned program alone; no condition.
-/
import Derived.Test.YtngifmlpilemlaaLi5
namespace Go.Proofs.Ytngifmlpilemlaa.V
open Go
set_option linter.unusedVariables false
set_option linter.unusedSimpArgs false

noncomputable def rd7 : Rd := (rdOf Try.f7 0 [2]).getD ⟨#[], .skip, .skip, 0, []⟩
noncomputable def rd9 : Rd := (rdOf Try.f9 0 [2]).getD ⟨#[], .skip, .skip, 0, []⟩

theorem no_loops {c : Code} (h : (loopsAll c).isEmpty = true) {T : Code → Prop} : ∀ b ∈ loopsAll c, T b := by
  intro b hb
  rw [List.isEmpty_iff] at h
  rw [h] at hb
  cases hb

theorem all_ok : YldOk Try.prog 7 fun id tms args H => (allR Ar.real id tms args H).run some := by
  refine yldOk (CxG.ok o5 noL YOk.none (fun _ => none) true) mixed 7 rd7 (by kernel_rfl) rfl 100 (no_loops (by kernel_rfl)) (no_loops (by kernel_rfl)) (by kernel_rfl) (by kernel_rfl) fun id tms args H b H' hH h => ?_
  unfold allR at h
  split at h
  · rename_i q nl out x h1 h2 h3
    obtain ⟨hg, hr⟩ := Tr.one h
    cases hr
    simp only [List.getElem?_cons_succ, List.getElem?_cons_zero, Option.some.injEq] at hH
    subst hH
    refine ⟨_, ?_, HWeak.refl _, Nat.le_refl _⟩
    simp only [rw_se, Bool.and_eq_true, decide_eq_true_eq] at hg
    have hl : out.length ≤ 1000000 := hg.1.2
    rw [tAll, rw_se, bt (by rw [Bool.and_eq_true, decide_eq_true_eq]; exact ⟨hg.1.1, hg.2⟩), bt (by rw [decide_eq_true_eq]; simp only [List.length_cons, List.length_nil]; omega), show (x && List.isEmpty [q]) = false from Bool.and_false x]
    rfl
  · cases h

theorem full_ok : YldOk Try.prog 9 fun id tms args H => (fullR Ar.real id tms args H).run some := by
  refine yldOk (CxG.ok o5 noL YOk.none (fun _ => none) true) mixed 9 rd9 (by kernel_rfl) rfl 100 (no_loops (by kernel_rfl)) (no_loops (by kernel_rfl)) (by kernel_rfl) (by kernel_rfl) fun id tms args H b H' hH h => ?_
  unfold fullR at h
  split at h
  · rename_i q nl out x h1 h2 h3
    obtain ⟨hg, hr⟩ := Tr.one h
    cases hr
    simp only [List.getElem?_cons_succ, List.getElem?_cons_zero, Option.some.injEq] at hH
    subst hH
    refine ⟨_, ?_, HWeak.refl _, Nat.le_refl _⟩
    rw [tFull]
    cases q with
    | nil =>
      rw [bf (by decide)]
      simp [rw_se, full, sss]
    | cons y q =>
      simp only [rw_se, Bool.and_eq_true, decide_eq_true_eq] at hg
      have hl : out.length ≤ 1000000 := hg.1.2
      rw [bt (by rw [decide_eq_true_eq]; simp only [List.length_cons]; omega), rw_se, bt (by rw [Bool.and_eq_true, decide_eq_true_eq]; exact ⟨hg.1.1, hg.2⟩), bt (by rw [decide_eq_true_eq]; simp only [List.length_cons, List.length_nil]; omega), show (x && List.isEmpty [y :: q]) = false from Bool.and_false x]
      simp [rw_se, full, sss]
  · cases h

theorem y_ok : YOk (Ys Ar.real) := by
  intro key F h
  unfold Ys at h
  split at h
  · cases h; exact all_ok
  · cases h; exact full_ok
  · cases h

theorem pieces_ok : OrcOk Try.prog 11 (.eff piecesF) := by
  show EffOk Try.prog _ _
  refine effOk (Cx.ok o5 noL) mixed 11 Try.f11 (by kernel_rfl) (by kernel_rfl) (by kernel_rfl) 100 0 (by kernel_rfl) (fun i h => by omega) fun args H r H' h => ?_
  unfold piecesF at h
  split at h
  · rename_i b nl g h0
    simp only [Tr.run, Option.some.injEq, Prod.mk.injEq] at h
    obtain ⟨rfl, rfl⟩ := h
    refine ⟨?_, _, _, rfl, tPieces Ar.real h0 b nl g, HWeak.refl _, by simp, .inl rfl⟩
    intro x hx e xs nl' own he
    subst he
    simp at hx
    exact hx.2.2.2
  · cases h

theorem seq_end (b : List Int) (nl : Option Bool) (hb : bytesB b = true) (hn : nlO nl b = true) (i n : Nat) (hi : i + n ≤ b.length) : nlO nl ((b.take (i + n)).drop i) = true := by
  cases nl with
  | none => rfl
  | some x =>
    cases x
    · rfl
    · simp only [nlO, List.isEmpty_iff] at hn ⊢
      subst hn
      simp

theorem bytes_drop {b : List Int} (h : bytesB b = true) (i : Nat) : bytesB (b.drop i) = true := by
  rw [bytesB_iff] at h ⊢
  exact fun x hx => h x (List.mem_of_mem_drop hx)

end Go.Proofs.Ytngifmlpilemlaa.V

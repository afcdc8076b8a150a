/-
  Chapter 09, word lists: WordsTells answers true, whatever it is given.
  It speaks of the pinned program alone; no condition.
-/
import Derived.Test.YtaefpopjlmhmoaaDoorWt4
namespace Go.Proofs.YtaefpopjlmhmoaaDoor.V
open Go
set_option linter.unusedVariables false
set_option linter.unusedSimpArgs false

theorem arg_ints9 {x : X} (h : ArgOf (.slice (.int .i64)) x) : ∃ (b : List Int) (nl : Bool), x = i64s b (some nl) false := by
  obtain ⟨b, nl, rfl, -⟩ := h
  exact ⟨b, nl, rfl⟩

theorem tells_ok : OrcOk Tryd.prog 3 (.pure (LawFb [.slice (.int .u8), .slice (.slice (.int .i64)), .slice (.int .i64)])) := by
  refine law_pureB (Cx.ok ot5 noL) mixed 3 Tryd.f3 _ (by kernel_rfl) (by kernel_rfl) (by kernel_rfl) 100 0 (by kernel_rfl) (fun i h => by omega) (fun args h hbd => ?_)
  obtain ⟨x, _, rfl, h1, k1⟩ := h.cons
  obtain ⟨y, _, rfl, h2, k2⟩ := k1.cons
  obtain ⟨z, _, rfl, h3, k3⟩ := k2.cons
  obtain rfl := k3.nil
  obtain ⟨b, nb, rfl, hy, hn⟩ := arg_bytes h1
  obtain ⟨l, nl, rfl⟩ := arg_words9 h2
  obtain ⟨w, nw, rfl⟩ := arg_ints9 h3
  have hl := bd_words9 hbd.2.1
  refine ⟨[], ?_⟩
  rw [tTells9]
  simp only [rw_se]
  by_cases g1 : b.length > 3000
  · rw [bf (by rw [decide_eq_true (show (b.length : Int) > 3000 by omega)]; rfl)]
  · rw [bt (by rw [decide_eq_false (show ¬ (b.length : Int) > 3000 by omega)]; rfl), bt (decide_eq_true hl)]
    cases g2 : R.fewB l 400 with
    | false => rw [bf (c := (!false) == false) rfl]
    | true =>
      rw [bt (c := (!true) == false) rfl]
      by_cases g3 : w.length > 100
      · rw [bt (by rw [decide_eq_true_eq]; omega)]
      · obtain ⟨f1, f2⟩ := few400 g2
        obtain ⟨r1, r2⟩ := read_short hy
        have hk := okB hy hn (show b.length ≤ 50000 by omega)
        have hw : (decide (l.length ≤ 1000) && R.shortB l) = true := by rw [Bool.and_eq_true, decide_eq_true_eq]; exact ⟨by omega, f2⟩
        rw [bf (by rw [decide_eq_false_iff_not]; omega), bt hk, bt hk, bt hw, bt hw, bt (by rw [Bool.and_eq_true, decide_eq_true_eq]; exact ⟨by omega, short20_short r1⟩),
          bt (by simp), bt (by simp), bt (by simp), bt (by simp [rw_seq]), bt (by simp), bt (by rw [decide_eq_true_eq]; omega), bt (by rw [decide_eq_true_eq]; omega)]
        simp

end Go.Proofs.YtaefpopjlmhmoaaDoor.V

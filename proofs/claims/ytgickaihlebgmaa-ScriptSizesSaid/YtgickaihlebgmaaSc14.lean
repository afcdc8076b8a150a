/-
  Chapter 23: the statement on sizes.
  It speaks of the pinned program alone; no condition.
-/
import Derived.Test.YtgickaihlebgmaaSc13
namespace Go.Proofs.Ytgickaihlebgmaa.V
open Go
set_option linter.unusedVariables false
set_option linter.unusedSimpArgs false

theorem sizes23_ok : OrcOk Try.prog 6 (.pure (LawFc [cmdT])) := by
  refine law_pure (Cx.ok o_sc noL) mixed 6 Try.f6 _ (by kernel_rfl) (by kernel_rfl) (by kernel_rfl) 200 0 (by kernel_rfl) (fun i h => by omega) fun args h => ?_
  obtain ⟨x, _, rfl, h1, h⟩ := h.cons
  obtain rfl := h.nil
  obtain ⟨c, rfl, hw⟩ := arg_cmd h1
  show Ends _ _
  rw [tLsizes]
  simp only [rw_se, rw_wrap]
  by_cases s1 : c.2.1.length ≤ 3000
  · rw [bt (by rw [beq_iff_eq, decide_eq_false_iff_not]; omega)]
    by_cases s2 : c.2.2.1.length ≤ 3000
    · rw [bnd (by omega)]
      have hsm : small c = true := small_iff.2 ⟨s1, s2⟩
      have hw1 : [c].all wfB = true := by simp [hw]
      have hs1 : [c].all small = true := by simp [hsm]
      rw [bt (wl_few hw1 hs1 (by simp))]
      cases hc : checkC c
      · obtain ⟨g1, g2⟩ := bad_write (l := [c]) (by simp [hc])
        rw [g1, g2, bt (by rfl), bt (by rfl)]
        exact Ends_some.2 rfl
      · obtain ⟨g1, g2, g3, g4, g5, g6⟩ := good_write hw1 hs1 (by simp) (by simp [hc])
        have gB : writeB [c] = encC c := by rw [g1, encs_cons]; simp [encs]
        have hlen := encC_small hw hsm
        rw [gB, g2, bf (by rfl)]
        obtain ⟨w1, w2, w3, w4, w5, w6, w7, w8⟩ := wfB_iff.1 hw
        obtain ⟨k, a, b, n, m, u, ⟨⟩⟩ := c
        obtain ⟨⟨k1, k2⟩, q1, q2, q3, q4, q5⟩ := checkC_iff.1 hc
        dsimp only at s1 s2 w1 w2 w3 w4 w5 w6 w7 w8 q4 q5 ⊢
        have ua : IntKind.u64.wrap (a.length : Int) = a.length := wu64 (by omega) (by omega)
        have ub : IntKind.u64.wrap (b.length : Int) = b.length := wu64 (by omega) (by omega)
        have un : IntKind.u64.wrap n = n := wu64 (by omega) (by omega)
        have uu : IntKind.u64.wrap u = u := wu64 (by omega) (by omega)
        rw [ua, ub, un, uu]
        simp only [Int.toNat_natCast]
        have va := vb_len_le (n := a.length) (by omega)
        have vb' := vb_len_le (n := b.length) (by omega)
        have vn := vb_len_le (n := n.toNat) (by omega)
        have vm := vb_len_le (n := m.toNat) (by omega)
        have vu := vb_len_le (n := u.toNat) (by omega)
        have fa : isU64 (a.length : Int) = true := isU64_iff.2 ⟨by omega, by omega⟩
        have fb : isU64 (b.length : Int) = true := isU64_iff.2 ⟨by omega, by omega⟩
        have fn : isU64 n = true := isU64_iff.2 ⟨by omega, by omega⟩
        have fm : isU64 m = true := isU64_iff.2 ⟨by omega, by omega⟩
        have fu : isU64 u = true := isU64_iff.2 ⟨by omega, by omega⟩
        have w : ∀ x : Int, 0 ≤ x → x < 100000 → IntKind.i64.wrap x = x := fun x a1 a2 => wi64 (by omega) (by omega)
        have fin : ∀ H : Hp, Ends (some (X.d Ty.bool (IntKind.i64.wrap (List.getD (encC (k, a, b, n, m, u, PUnit.unit)) (Int.toNat 0) 0) == k), H)) (X.d Ty.bool true) := by
          intro H
          have e : List.getD (encC (k, a, b, n, m, u, PUnit.unit)) (Int.toNat 0) 0 = k := rfl
          rw [e, w k (by omega) (by omega)]
          exact Ends_some.2 (by simp)
        have e2 : (txts [a, b]).length = (vb a.length).length + a.length + ((vb b.length).length + b.length) := by simp [txts, txt]; omega
        have e1 : (txts [a]).length = (vb a.length).length + a.length := by simp [txts, txt]
        have e0 : (txts []).length = 0 := rfl
        have f3 : (nums [n, m, u]).length = (vb n.toNat).length + ((vb m.toNat).length + (vb u.toNat).length) := by simp [nums]
        have f0 : (nums []).length = 0 := rfl
        by_cases c1 : k = 1
        · subst c1
          have hL : (encC (1, a, b, n, m, u, PUnit.unit)).length = (txts [a, b]).length + (nums []).length + 1 := by
            show (1 :: (txts [a, b] ++ nums [])).length = _
            simp only [List.length_cons, List.length_append]
          rw [bt (by rfl), bt fa, bt (by rfl), bt fb, bf (by rfl)]
          rw [w (1 + ((vb a.length).length : Int)) (by omega) (by omega), w (1 + ((vb a.length).length : Int) + (a.length : Int)) (by omega) (by omega), w (1 + ((vb a.length).length : Int) + (a.length : Int) + ((vb b.length).length : Int)) (by omega) (by omega), w (1 + ((vb a.length).length : Int) + (a.length : Int) + ((vb b.length).length : Int) + (b.length : Int)) (by omega) (by omega)]
          rw [bt (by rw [beq_iff_eq, beq_iff_eq]; omega), bd (by omega)]
          exact fin _
        by_cases c5 : k = 5
        · subst c5
          have hL : (encC (5, a, b, n, m, u, PUnit.unit)).length = (txts [a]).length + (nums [n, m, u]).length + 1 := by
            show (5 :: (txts [a] ++ nums [n, m, u])).length = _
            simp only [List.length_cons, List.length_append]
          rw [bt (by rfl), bt fa, bf (by rfl), bt (by rfl), bt fn, bt fm, bt fu]
          rw [w (1 + ((vb a.length).length : Int)) (by omega) (by omega), w (1 + ((vb a.length).length : Int) + (a.length : Int)) (by omega) (by omega), w (1 + ((vb a.length).length : Int) + (a.length : Int) + ((vb n.toNat).length : Int)) (by omega) (by omega), w (1 + ((vb a.length).length : Int) + (a.length : Int) + ((vb n.toNat).length : Int) + ((vb m.toNat).length : Int)) (by omega) (by omega), w (1 + ((vb a.length).length : Int) + (a.length : Int) + ((vb n.toNat).length : Int) + ((vb m.toNat).length : Int) + ((vb u.toNat).length : Int)) (by omega) (by omega)]
          rw [bt (by rw [beq_iff_eq, beq_iff_eq]; omega), bd (by omega)]
          exact fin _
        by_cases c3 : k = 3
        · subst c3
          have hL : (encC (3, a, b, n, m, u, PUnit.unit)).length = (txts []).length + (nums []).length + 1 := by
            show (3 :: (txts [] ++ nums [])).length = _
            simp only [List.length_cons, List.length_append]
          rw [bf (by rfl), bf (by rfl), bf (by rfl)]
          rw [bt (by rw [beq_iff_eq, beq_iff_eq]; omega), bd (by omega)]
          exact fin _
        · have c24 : k = 2 ∨ k = 4 := by omega
          have hE : encC (k, a, b, n, m, u, PUnit.unit) = k :: (txts [a] ++ nums []) := by rcases c24 with rfl | rfl <;> rfl
          have hL : (encC (k, a, b, n, m, u, PUnit.unit)).length = (txts [a]).length + (nums []).length + 1 := by
            rw [hE]
            simp only [List.length_cons, List.length_append]
          rw [bt (by rw [bne_iff_ne]; omega), bt fa, bf (by rw [beq_eq_false_iff_ne]; exact c1), bf (by rw [beq_eq_false_iff_ne]; exact c5)]
          rw [w (1 + ((vb a.length).length : Int)) (by omega) (by omega), w (1 + ((vb a.length).length : Int) + (a.length : Int)) (by omega) (by omega)]
          rw [bt (by rw [beq_iff_eq, beq_iff_eq]; omega), bd (by omega)]
          exact fin _
    · rw [bd (by omega)]
      exact Ends_some.2 rfl
  · rw [bf (by rw [decide_eq_true (by omega)]; rfl)]
    exact Ends_some.2 rfl

end Go.Proofs.Ytgickaihlebgmaa.V

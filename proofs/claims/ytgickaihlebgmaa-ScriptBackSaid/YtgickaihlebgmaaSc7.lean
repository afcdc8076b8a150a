/-
  Chapter 23: commands are written by the reference; numbers and texts are taken.
  It speaks of the pinned program alone; no condition.
-/
import Derived.Test.YtgickaihlebgmaaSc6
namespace Go.Proofs.Ytgickaihlebgmaa.V
open Go
set_option linter.unusedVariables false
set_option linter.unusedSimpArgs false

theorem frontB_nil : ∀ H : Hp, frontB H []
  | [] => trivial
  | _ :: _ => trivial

theorem loopRw (l : List Cm) (nl : Option Bool) (z : Int) (hw : l.all wfB = true) (hlen : l.length ≤ 10000000) : ∀ (q i : Nat) (b : List Int) (nb : Bool), l.length - i = q → i ≤ l.length → b.length + (encs (l.drop i)).length ≤ 10000000 → nlB nb b = true →
    ∀ r, (Tr.test ((l.drop i).all checkC)
        (.give (Ex.exit 0, [X.dead, .sl (.int .u8) [] (some true) true, i64x z, u8s (b ++ encs (l.drop i)) (some (nb && (l.drop i).isEmpty)) true, .dead], ([] : Hp)))
        (.give (.ret, [.dead, .sl (.int .u8) [] (some true) true, i64x 230, .dead, .dead], []))).run some = some r →
    LoopTo (Cx Ar.real (Osc3 Ar.real) (Lrw Ar.real)) 100 (loopAt Try.f11 0) 57 [0, 2, 3, 4, 5] [cms l nl false, u8s [] (some true) true, i64x z, u8s b (some nb) true, i64x i] [] r := by
  intro q
  induction q with
  | zero =>
    intro i b nb h1 h2 h3 h4 r hr
    have e1 : l.drop i = [] := by rw [List.drop_eq_nil_iff]; omega
    rw [e1] at hr
    cases hr
    refine LoopTo.left (by simp) fun k => ?_
    rw [lRwrite, bnd (by omega)]
    simp only [encs, List.map_nil, List.flatten_nil, List.append_nil, List.isEmpty_nil, Bool.and_true]
    exact ⟨_, rfl, Forget.cons (.inl rfl) (Forget.cons (.inr rfl) (Forget.cons (.inr rfl) (Forget.cons (.inr rfl) (Forget.cons (.inl rfl) (Forget.same _)))))⟩
  | succ q ih =>
    intro i b nb h1 h2 h3 h4 r hr
    have hi : i < l.length := by omega
    have tw := wfB_iff.1 (List.all_eq_true.1 hw _ (getD_mem' (d := Ty.zero cmdT) hi))
    rw [drop_cons' (Ty.zero cmdT) hi, encs_cons] at hr h3
    rw [List.length_append] at h3
    rw [List.all_cons] at hr
    have tree := fun (R : Type) (k : Ex → List X → Hp → Option R) => lRwrite Ar.real R l nl z i b nb k
    obtain ⟨c, ec⟩ : ∃ c, l.getD i (Ty.zero cmdT) = c := ⟨_, rfl⟩
    have ec' : l.getD (Int.toNat (i : Int)) (Ty.zero cmdT) = c := by rw [Int.toNat_natCast]; exact ec
    rw [ec] at hr h3 tw
    rw [ec'] at tree
    obtain ⟨k, x, y, n, m, u, ⟨⟩⟩ := c
    obtain ⟨w1, w2, w3, w4, w5, w6, w7, w8⟩ := tw
    dsimp only at w1 w2 w3 w4 w5 w6 w7 w8 tree
    simp only [rw_wrap, rw_se] at tree
    have wi : IntKind.i64.wrap ((i : Int) + 1) = ((i + 1 : Nat) : Int) := by rw [wi64 (by omega) (by omega)]; omega
    cases tc : checkC (k, x, y, n, m, u, PUnit.unit) with
    | false =>
      rw [tc] at hr
      cases hr
      obtain ⟨H1, hs⟩ : ∃ H1 : Hp, ∀ k' : Ex → List X → Hp → Option (Ex × List X × Hp), stepF (Cx Ar.real (Osc3 Ar.real) (Lrw Ar.real)) 100 (loopAt Try.f11 0) 57 [0, 2, 3, 4, 5] [cms l nl false, u8s [] (some true) true, i64x z, u8s b (some nb) true, i64x i] [] k'
            = k' .ret [cms l nl false, u8s [] (some true) true, i64x 230, u8s b (some nb) true, i64x i] H1 := by
        refine ⟨?_, fun k' => ?_⟩
        rotate_left
        rw [tree, bd (by omega), bd (by omega), bt (by rw [tc]; rfl)]
      exact LoopTo.end (by simp) hs (Forget.cons (.inl rfl) (Forget.cons (.inr rfl) (Forget.cons (.inr rfl) (Forget.cons (.inl rfl) (Forget.cons (.inl rfl) (Forget.same _)))))) (HWeak.of (H' := []) (frontB_nil _) rfl) (by simp) (.inr rfl)
    | true =>
      rw [tc, Bool.true_and] at hr
      obtain ⟨⟨k1, k2⟩, q1, q2, q3, q4, q5⟩ := checkC_iff.1 tc
      have wk : IntKind.u8.wrap k = k := wu8 (by omega) (by omega)
      have wn : IntKind.u64.wrap n = n := wu64 (by omega) (by omega)
      have wu : IntKind.u64.wrap u = u := wu64 (by omega) (by omega)
      simp only [wk, wn, wu, wi, tc, Bool.not_true, cond_false, List.isEmpty_cons, Bool.and_false, Bool.false_and] at tree
      have fin : (∃ H1 : Hp, ∀ k' : Ex → List X → Hp → Option (Ex × List X × Hp), stepF (Cx Ar.real (Osc3 Ar.real) (Lrw Ar.real)) 100 (loopAt Try.f11 0) 57 [0, 2, 3, 4, 5] [cms l nl false, u8s [] (some true) true, i64x z, u8s b (some nb) true, i64x i] [] k'
            = k' .normal [cms l nl false, u8s [] (some true) true, i64x z, u8s (b ++ encC (k, x, y, n, m, u, PUnit.unit)) (some false) true, i64x (i + 1 : Nat)] H1) →
          LoopTo (Cx Ar.real (Osc3 Ar.real) (Lrw Ar.real)) 100 (loopAt Try.f11 0) 57 [0, 2, 3, 4, 5] [cms l nl false, u8s [] (some true) true, i64x z, u8s b (some nb) true, i64x i] [] r := by
        rintro ⟨H1, h⟩
        refine LoopTo.weak h (Forget.same _) (HWeak.of (H' := []) (by cases H1 <;> exact trivial) rfl) (by simp) (.inr rfl) (ih (i + 1) _ false (by omega) (by omega) (by rw [List.length_append]; omega) rfl r (Eq.trans ?_ hr))
        simp only [List.append_assoc, List.isEmpty_cons, Bool.and_false, Bool.false_and]
      have lt : ∀ t : List Int, (txt t).length = (vb t.length).length + t.length := fun t => by rw [txt, List.length_append]
      have ltx := lt x
      have lty := lt y
      by_cases c1 : k = 1
      · subst c1
        have hA : b ++ [1] ++ txt x ++ txt y = b ++ encC (1, x, y, n, m, u, PUnit.unit) := by
          show _ = b ++ (1 :: (txts [x, y] ++ nums []))
          simp only [txts_cons, txts_nil, nums_nil, List.append_assoc, List.append_nil, List.cons_append, List.nil_append]
        have hL := congrArg List.length hA
        simp only [List.length_append, List.length_cons, List.length_nil] at hL
        refine fin ⟨?_, fun k' => ?_⟩
        rotate_left
        rw [tree]
        iterate 8 (first | rw [bt (by first | rfl | omega | assumption | ((try simp only [Bool.and_eq_true, Bool.or_eq_true, decide_eq_true_eq, decide_eq_false_iff_not, beq_iff_eq, bne_iff_ne, isU64_iff, List.length_append, List.length_cons, List.length_nil, nlB_false, nlO_some, List.isEmpty_cons, Bool.and_false, Bool.false_and, and_true, true_and, List.all_cons, List.all_nil, Bool.not_eq_true', Bool.not_eq_false', beq_eq_false_iff_ne, bne_eq_false_iff_eq, ne_eq]); first | omega | assumption | rfl | trivial | exact ⟨by first | omega | assumption | rfl | trivial | exact ⟨by first | omega | assumption | rfl | trivial, by first | omega | assumption | rfl | trivial⟩ | exact Or.inl (by first | omega | assumption | rfl | trivial) | exact Or.inr (by first | omega | assumption | rfl | trivial), by first | omega | assumption | rfl | trivial | exact ⟨by first | omega | assumption | rfl | trivial, by first | omega | assumption | rfl | trivial⟩ | exact Or.inl (by first | omega | assumption | rfl | trivial) | exact Or.inr (by first | omega | assumption | rfl | trivial)⟩ | exact ⟨by first | omega | assumption | rfl | trivial, by first | omega | assumption | rfl | trivial, by first | omega | assumption | rfl | trivial⟩ | exact ⟨by first | omega | assumption | rfl | trivial, by first | omega | assumption | rfl | trivial, by first | omega | assumption | rfl | trivial, by first | omega | assumption | rfl | trivial⟩ | exact ⟨by first | omega | assumption | rfl | trivial, by first | omega | assumption | rfl | trivial, by first | omega | assumption | rfl | trivial, by first | omega | assumption | rfl | trivial, by first | omega | assumption | rfl | trivial⟩ | exact ⟨by first | omega | assumption | rfl | trivial, by first | omega | assumption | rfl | trivial, by first | omega | assumption | rfl | trivial, by first | omega | assumption | rfl | trivial, by first | omega | assumption | rfl | trivial, by first | omega | assumption | rfl | trivial⟩ | exact ⟨by first | omega | assumption | rfl | trivial, by first | omega | assumption | rfl | trivial, by first | omega | assumption | rfl | trivial, by first | omega | assumption | rfl | trivial, by first | omega | assumption | rfl | trivial, by first | omega | assumption | rfl | trivial, by first | omega | assumption | rfl | trivial⟩ | exact Or.inl (by first | omega | assumption | rfl | trivial | exact ⟨by first | omega | assumption | rfl | trivial, by first | omega | assumption | rfl | trivial⟩ | exact Or.inl (by first | omega | assumption | rfl | trivial) | exact Or.inr (by first | omega | assumption | rfl | trivial)) | exact Or.inr (by first | omega | assumption | rfl | trivial | exact ⟨by first | omega | assumption | rfl | trivial, by first | omega | assumption | rfl | trivial⟩ | exact Or.inl (by first | omega | assumption | rfl | trivial) | exact Or.inr (by first | omega | assumption | rfl | trivial))))] | rw [bf (by first | rfl | omega | assumption | ((try simp only [Bool.and_eq_true, Bool.or_eq_true, decide_eq_true_eq, decide_eq_false_iff_not, beq_iff_eq, bne_iff_ne, isU64_iff, List.length_append, List.length_cons, List.length_nil, nlB_false, nlO_some, List.isEmpty_cons, Bool.and_false, Bool.false_and, and_true, true_and, List.all_cons, List.all_nil, Bool.not_eq_true', Bool.not_eq_false', beq_eq_false_iff_ne, bne_eq_false_iff_eq, ne_eq]); first | omega | assumption | rfl | trivial | exact ⟨by first | omega | assumption | rfl | trivial | exact ⟨by first | omega | assumption | rfl | trivial, by first | omega | assumption | rfl | trivial⟩ | exact Or.inl (by first | omega | assumption | rfl | trivial) | exact Or.inr (by first | omega | assumption | rfl | trivial), by first | omega | assumption | rfl | trivial | exact ⟨by first | omega | assumption | rfl | trivial, by first | omega | assumption | rfl | trivial⟩ | exact Or.inl (by first | omega | assumption | rfl | trivial) | exact Or.inr (by first | omega | assumption | rfl | trivial)⟩ | exact ⟨by first | omega | assumption | rfl | trivial, by first | omega | assumption | rfl | trivial, by first | omega | assumption | rfl | trivial⟩ | exact ⟨by first | omega | assumption | rfl | trivial, by first | omega | assumption | rfl | trivial, by first | omega | assumption | rfl | trivial, by first | omega | assumption | rfl | trivial⟩ | exact ⟨by first | omega | assumption | rfl | trivial, by first | omega | assumption | rfl | trivial, by first | omega | assumption | rfl | trivial, by first | omega | assumption | rfl | trivial, by first | omega | assumption | rfl | trivial⟩ | exact ⟨by first | omega | assumption | rfl | trivial, by first | omega | assumption | rfl | trivial, by first | omega | assumption | rfl | trivial, by first | omega | assumption | rfl | trivial, by first | omega | assumption | rfl | trivial, by first | omega | assumption | rfl | trivial⟩ | exact ⟨by first | omega | assumption | rfl | trivial, by first | omega | assumption | rfl | trivial, by first | omega | assumption | rfl | trivial, by first | omega | assumption | rfl | trivial, by first | omega | assumption | rfl | trivial, by first | omega | assumption | rfl | trivial, by first | omega | assumption | rfl | trivial⟩ | exact Or.inl (by first | omega | assumption | rfl | trivial | exact ⟨by first | omega | assumption | rfl | trivial, by first | omega | assumption | rfl | trivial⟩ | exact Or.inl (by first | omega | assumption | rfl | trivial) | exact Or.inr (by first | omega | assumption | rfl | trivial)) | exact Or.inr (by first | omega | assumption | rfl | trivial | exact ⟨by first | omega | assumption | rfl | trivial, by first | omega | assumption | rfl | trivial⟩ | exact Or.inl (by first | omega | assumption | rfl | trivial) | exact Or.inr (by first | omega | assumption | rfl | trivial))))])
        rw [hA]
      by_cases c5 : k = 5
      · subst c5
        have hA : b ++ [5] ++ txt x ++ vb n.toNat ++ vb m.toNat ++ vb u.toNat = b ++ encC (5, x, y, n, m, u, PUnit.unit) := by
          show _ = b ++ (5 :: (txts [x] ++ nums [n, m, u]))
          simp only [txts_cons, txts_nil, nums_nil, nums_cons, List.append_assoc, List.append_nil, List.cons_append, List.nil_append]
        have hL := congrArg List.length hA
        simp only [List.length_append, List.length_cons, List.length_nil] at hL
        refine fin ⟨?_, fun k' => ?_⟩
        rotate_left
        rw [tree]
        iterate 10 (first | rw [bt (by first | rfl | omega | assumption | ((try simp only [Bool.and_eq_true, Bool.or_eq_true, decide_eq_true_eq, decide_eq_false_iff_not, beq_iff_eq, bne_iff_ne, isU64_iff, List.length_append, List.length_cons, List.length_nil, nlB_false, nlO_some, List.isEmpty_cons, Bool.and_false, Bool.false_and, and_true, true_and, List.all_cons, List.all_nil, Bool.not_eq_true', Bool.not_eq_false', beq_eq_false_iff_ne, bne_eq_false_iff_eq, ne_eq]); first | omega | assumption | rfl | trivial | exact ⟨by first | omega | assumption | rfl | trivial | exact ⟨by first | omega | assumption | rfl | trivial, by first | omega | assumption | rfl | trivial⟩ | exact Or.inl (by first | omega | assumption | rfl | trivial) | exact Or.inr (by first | omega | assumption | rfl | trivial), by first | omega | assumption | rfl | trivial | exact ⟨by first | omega | assumption | rfl | trivial, by first | omega | assumption | rfl | trivial⟩ | exact Or.inl (by first | omega | assumption | rfl | trivial) | exact Or.inr (by first | omega | assumption | rfl | trivial)⟩ | exact ⟨by first | omega | assumption | rfl | trivial, by first | omega | assumption | rfl | trivial, by first | omega | assumption | rfl | trivial⟩ | exact ⟨by first | omega | assumption | rfl | trivial, by first | omega | assumption | rfl | trivial, by first | omega | assumption | rfl | trivial, by first | omega | assumption | rfl | trivial⟩ | exact ⟨by first | omega | assumption | rfl | trivial, by first | omega | assumption | rfl | trivial, by first | omega | assumption | rfl | trivial, by first | omega | assumption | rfl | trivial, by first | omega | assumption | rfl | trivial⟩ | exact ⟨by first | omega | assumption | rfl | trivial, by first | omega | assumption | rfl | trivial, by first | omega | assumption | rfl | trivial, by first | omega | assumption | rfl | trivial, by first | omega | assumption | rfl | trivial, by first | omega | assumption | rfl | trivial⟩ | exact ⟨by first | omega | assumption | rfl | trivial, by first | omega | assumption | rfl | trivial, by first | omega | assumption | rfl | trivial, by first | omega | assumption | rfl | trivial, by first | omega | assumption | rfl | trivial, by first | omega | assumption | rfl | trivial, by first | omega | assumption | rfl | trivial⟩ | exact Or.inl (by first | omega | assumption | rfl | trivial | exact ⟨by first | omega | assumption | rfl | trivial, by first | omega | assumption | rfl | trivial⟩ | exact Or.inl (by first | omega | assumption | rfl | trivial) | exact Or.inr (by first | omega | assumption | rfl | trivial)) | exact Or.inr (by first | omega | assumption | rfl | trivial | exact ⟨by first | omega | assumption | rfl | trivial, by first | omega | assumption | rfl | trivial⟩ | exact Or.inl (by first | omega | assumption | rfl | trivial) | exact Or.inr (by first | omega | assumption | rfl | trivial))))] | rw [bf (by first | rfl | omega | assumption | ((try simp only [Bool.and_eq_true, Bool.or_eq_true, decide_eq_true_eq, decide_eq_false_iff_not, beq_iff_eq, bne_iff_ne, isU64_iff, List.length_append, List.length_cons, List.length_nil, nlB_false, nlO_some, List.isEmpty_cons, Bool.and_false, Bool.false_and, and_true, true_and, List.all_cons, List.all_nil, Bool.not_eq_true', Bool.not_eq_false', beq_eq_false_iff_ne, bne_eq_false_iff_eq, ne_eq]); first | omega | assumption | rfl | trivial | exact ⟨by first | omega | assumption | rfl | trivial | exact ⟨by first | omega | assumption | rfl | trivial, by first | omega | assumption | rfl | trivial⟩ | exact Or.inl (by first | omega | assumption | rfl | trivial) | exact Or.inr (by first | omega | assumption | rfl | trivial), by first | omega | assumption | rfl | trivial | exact ⟨by first | omega | assumption | rfl | trivial, by first | omega | assumption | rfl | trivial⟩ | exact Or.inl (by first | omega | assumption | rfl | trivial) | exact Or.inr (by first | omega | assumption | rfl | trivial)⟩ | exact ⟨by first | omega | assumption | rfl | trivial, by first | omega | assumption | rfl | trivial, by first | omega | assumption | rfl | trivial⟩ | exact ⟨by first | omega | assumption | rfl | trivial, by first | omega | assumption | rfl | trivial, by first | omega | assumption | rfl | trivial, by first | omega | assumption | rfl | trivial⟩ | exact ⟨by first | omega | assumption | rfl | trivial, by first | omega | assumption | rfl | trivial, by first | omega | assumption | rfl | trivial, by first | omega | assumption | rfl | trivial, by first | omega | assumption | rfl | trivial⟩ | exact ⟨by first | omega | assumption | rfl | trivial, by first | omega | assumption | rfl | trivial, by first | omega | assumption | rfl | trivial, by first | omega | assumption | rfl | trivial, by first | omega | assumption | rfl | trivial, by first | omega | assumption | rfl | trivial⟩ | exact ⟨by first | omega | assumption | rfl | trivial, by first | omega | assumption | rfl | trivial, by first | omega | assumption | rfl | trivial, by first | omega | assumption | rfl | trivial, by first | omega | assumption | rfl | trivial, by first | omega | assumption | rfl | trivial, by first | omega | assumption | rfl | trivial⟩ | exact Or.inl (by first | omega | assumption | rfl | trivial | exact ⟨by first | omega | assumption | rfl | trivial, by first | omega | assumption | rfl | trivial⟩ | exact Or.inl (by first | omega | assumption | rfl | trivial) | exact Or.inr (by first | omega | assumption | rfl | trivial)) | exact Or.inr (by first | omega | assumption | rfl | trivial | exact ⟨by first | omega | assumption | rfl | trivial, by first | omega | assumption | rfl | trivial⟩ | exact Or.inl (by first | omega | assumption | rfl | trivial) | exact Or.inr (by first | omega | assumption | rfl | trivial))))])
        rw [hA]
      by_cases c3 : k = 3
      · subst c3
        have hA : b ++ [3] = b ++ encC (3, x, y, n, m, u, PUnit.unit) := rfl
        have hL := congrArg List.length hA
        simp only [List.length_append, List.length_cons, List.length_nil] at hL
        refine fin ⟨?_, fun k' => ?_⟩
        rotate_left
        rw [tree]
        iterate 6 (first | rw [bt (by first | rfl | omega | assumption | ((try simp only [Bool.and_eq_true, Bool.or_eq_true, decide_eq_true_eq, decide_eq_false_iff_not, beq_iff_eq, bne_iff_ne, isU64_iff, List.length_append, List.length_cons, List.length_nil, nlB_false, nlO_some, List.isEmpty_cons, Bool.and_false, Bool.false_and, and_true, true_and, List.all_cons, List.all_nil, Bool.not_eq_true', Bool.not_eq_false', beq_eq_false_iff_ne, bne_eq_false_iff_eq, ne_eq]); first | omega | assumption | rfl | trivial | exact ⟨by first | omega | assumption | rfl | trivial | exact ⟨by first | omega | assumption | rfl | trivial, by first | omega | assumption | rfl | trivial⟩ | exact Or.inl (by first | omega | assumption | rfl | trivial) | exact Or.inr (by first | omega | assumption | rfl | trivial), by first | omega | assumption | rfl | trivial | exact ⟨by first | omega | assumption | rfl | trivial, by first | omega | assumption | rfl | trivial⟩ | exact Or.inl (by first | omega | assumption | rfl | trivial) | exact Or.inr (by first | omega | assumption | rfl | trivial)⟩ | exact ⟨by first | omega | assumption | rfl | trivial, by first | omega | assumption | rfl | trivial, by first | omega | assumption | rfl | trivial⟩ | exact ⟨by first | omega | assumption | rfl | trivial, by first | omega | assumption | rfl | trivial, by first | omega | assumption | rfl | trivial, by first | omega | assumption | rfl | trivial⟩ | exact ⟨by first | omega | assumption | rfl | trivial, by first | omega | assumption | rfl | trivial, by first | omega | assumption | rfl | trivial, by first | omega | assumption | rfl | trivial, by first | omega | assumption | rfl | trivial⟩ | exact ⟨by first | omega | assumption | rfl | trivial, by first | omega | assumption | rfl | trivial, by first | omega | assumption | rfl | trivial, by first | omega | assumption | rfl | trivial, by first | omega | assumption | rfl | trivial, by first | omega | assumption | rfl | trivial⟩ | exact ⟨by first | omega | assumption | rfl | trivial, by first | omega | assumption | rfl | trivial, by first | omega | assumption | rfl | trivial, by first | omega | assumption | rfl | trivial, by first | omega | assumption | rfl | trivial, by first | omega | assumption | rfl | trivial, by first | omega | assumption | rfl | trivial⟩ | exact Or.inl (by first | omega | assumption | rfl | trivial | exact ⟨by first | omega | assumption | rfl | trivial, by first | omega | assumption | rfl | trivial⟩ | exact Or.inl (by first | omega | assumption | rfl | trivial) | exact Or.inr (by first | omega | assumption | rfl | trivial)) | exact Or.inr (by first | omega | assumption | rfl | trivial | exact ⟨by first | omega | assumption | rfl | trivial, by first | omega | assumption | rfl | trivial⟩ | exact Or.inl (by first | omega | assumption | rfl | trivial) | exact Or.inr (by first | omega | assumption | rfl | trivial))))] | rw [bf (by first | rfl | omega | assumption | ((try simp only [Bool.and_eq_true, Bool.or_eq_true, decide_eq_true_eq, decide_eq_false_iff_not, beq_iff_eq, bne_iff_ne, isU64_iff, List.length_append, List.length_cons, List.length_nil, nlB_false, nlO_some, List.isEmpty_cons, Bool.and_false, Bool.false_and, and_true, true_and, List.all_cons, List.all_nil, Bool.not_eq_true', Bool.not_eq_false', beq_eq_false_iff_ne, bne_eq_false_iff_eq, ne_eq]); first | omega | assumption | rfl | trivial | exact ⟨by first | omega | assumption | rfl | trivial | exact ⟨by first | omega | assumption | rfl | trivial, by first | omega | assumption | rfl | trivial⟩ | exact Or.inl (by first | omega | assumption | rfl | trivial) | exact Or.inr (by first | omega | assumption | rfl | trivial), by first | omega | assumption | rfl | trivial | exact ⟨by first | omega | assumption | rfl | trivial, by first | omega | assumption | rfl | trivial⟩ | exact Or.inl (by first | omega | assumption | rfl | trivial) | exact Or.inr (by first | omega | assumption | rfl | trivial)⟩ | exact ⟨by first | omega | assumption | rfl | trivial, by first | omega | assumption | rfl | trivial, by first | omega | assumption | rfl | trivial⟩ | exact ⟨by first | omega | assumption | rfl | trivial, by first | omega | assumption | rfl | trivial, by first | omega | assumption | rfl | trivial, by first | omega | assumption | rfl | trivial⟩ | exact ⟨by first | omega | assumption | rfl | trivial, by first | omega | assumption | rfl | trivial, by first | omega | assumption | rfl | trivial, by first | omega | assumption | rfl | trivial, by first | omega | assumption | rfl | trivial⟩ | exact ⟨by first | omega | assumption | rfl | trivial, by first | omega | assumption | rfl | trivial, by first | omega | assumption | rfl | trivial, by first | omega | assumption | rfl | trivial, by first | omega | assumption | rfl | trivial, by first | omega | assumption | rfl | trivial⟩ | exact ⟨by first | omega | assumption | rfl | trivial, by first | omega | assumption | rfl | trivial, by first | omega | assumption | rfl | trivial, by first | omega | assumption | rfl | trivial, by first | omega | assumption | rfl | trivial, by first | omega | assumption | rfl | trivial, by first | omega | assumption | rfl | trivial⟩ | exact Or.inl (by first | omega | assumption | rfl | trivial | exact ⟨by first | omega | assumption | rfl | trivial, by first | omega | assumption | rfl | trivial⟩ | exact Or.inl (by first | omega | assumption | rfl | trivial) | exact Or.inr (by first | omega | assumption | rfl | trivial)) | exact Or.inr (by first | omega | assumption | rfl | trivial | exact ⟨by first | omega | assumption | rfl | trivial, by first | omega | assumption | rfl | trivial⟩ | exact Or.inl (by first | omega | assumption | rfl | trivial) | exact Or.inr (by first | omega | assumption | rfl | trivial))))])
        rw [hA]
      · have c24 : k = 2 ∨ k = 4 := by omega
        have hA : b ++ [k] ++ txt x = b ++ encC (k, x, y, n, m, u, PUnit.unit) := by
          have e : encC (k, x, y, n, m, u, PUnit.unit) = k :: (txts [x] ++ nums []) := by rcases c24 with rfl | rfl <;> rfl
          rw [e]
          simp only [txts_cons, txts_nil, nums_nil, List.append_assoc, List.append_nil, List.cons_append, List.nil_append]
        have hL := congrArg List.length hA
        simp only [List.length_append, List.length_cons, List.length_nil] at hL
        refine fin ⟨?_, fun k' => ?_⟩
        rotate_left
        rw [tree]
        iterate 7 (first | rw [bt (by first | rfl | omega | assumption | ((try simp only [Bool.and_eq_true, Bool.or_eq_true, decide_eq_true_eq, decide_eq_false_iff_not, beq_iff_eq, bne_iff_ne, isU64_iff, List.length_append, List.length_cons, List.length_nil, nlB_false, nlO_some, List.isEmpty_cons, Bool.and_false, Bool.false_and, and_true, true_and, List.all_cons, List.all_nil, Bool.not_eq_true', Bool.not_eq_false', beq_eq_false_iff_ne, bne_eq_false_iff_eq, ne_eq]); first | omega | assumption | rfl | trivial | exact ⟨by first | omega | assumption | rfl | trivial | exact ⟨by first | omega | assumption | rfl | trivial, by first | omega | assumption | rfl | trivial⟩ | exact Or.inl (by first | omega | assumption | rfl | trivial) | exact Or.inr (by first | omega | assumption | rfl | trivial), by first | omega | assumption | rfl | trivial | exact ⟨by first | omega | assumption | rfl | trivial, by first | omega | assumption | rfl | trivial⟩ | exact Or.inl (by first | omega | assumption | rfl | trivial) | exact Or.inr (by first | omega | assumption | rfl | trivial)⟩ | exact ⟨by first | omega | assumption | rfl | trivial, by first | omega | assumption | rfl | trivial, by first | omega | assumption | rfl | trivial⟩ | exact ⟨by first | omega | assumption | rfl | trivial, by first | omega | assumption | rfl | trivial, by first | omega | assumption | rfl | trivial, by first | omega | assumption | rfl | trivial⟩ | exact ⟨by first | omega | assumption | rfl | trivial, by first | omega | assumption | rfl | trivial, by first | omega | assumption | rfl | trivial, by first | omega | assumption | rfl | trivial, by first | omega | assumption | rfl | trivial⟩ | exact ⟨by first | omega | assumption | rfl | trivial, by first | omega | assumption | rfl | trivial, by first | omega | assumption | rfl | trivial, by first | omega | assumption | rfl | trivial, by first | omega | assumption | rfl | trivial, by first | omega | assumption | rfl | trivial⟩ | exact ⟨by first | omega | assumption | rfl | trivial, by first | omega | assumption | rfl | trivial, by first | omega | assumption | rfl | trivial, by first | omega | assumption | rfl | trivial, by first | omega | assumption | rfl | trivial, by first | omega | assumption | rfl | trivial, by first | omega | assumption | rfl | trivial⟩ | exact Or.inl (by first | omega | assumption | rfl | trivial | exact ⟨by first | omega | assumption | rfl | trivial, by first | omega | assumption | rfl | trivial⟩ | exact Or.inl (by first | omega | assumption | rfl | trivial) | exact Or.inr (by first | omega | assumption | rfl | trivial)) | exact Or.inr (by first | omega | assumption | rfl | trivial | exact ⟨by first | omega | assumption | rfl | trivial, by first | omega | assumption | rfl | trivial⟩ | exact Or.inl (by first | omega | assumption | rfl | trivial) | exact Or.inr (by first | omega | assumption | rfl | trivial))))] | rw [bf (by first | rfl | omega | assumption | ((try simp only [Bool.and_eq_true, Bool.or_eq_true, decide_eq_true_eq, decide_eq_false_iff_not, beq_iff_eq, bne_iff_ne, isU64_iff, List.length_append, List.length_cons, List.length_nil, nlB_false, nlO_some, List.isEmpty_cons, Bool.and_false, Bool.false_and, and_true, true_and, List.all_cons, List.all_nil, Bool.not_eq_true', Bool.not_eq_false', beq_eq_false_iff_ne, bne_eq_false_iff_eq, ne_eq]); first | omega | assumption | rfl | trivial | exact ⟨by first | omega | assumption | rfl | trivial | exact ⟨by first | omega | assumption | rfl | trivial, by first | omega | assumption | rfl | trivial⟩ | exact Or.inl (by first | omega | assumption | rfl | trivial) | exact Or.inr (by first | omega | assumption | rfl | trivial), by first | omega | assumption | rfl | trivial | exact ⟨by first | omega | assumption | rfl | trivial, by first | omega | assumption | rfl | trivial⟩ | exact Or.inl (by first | omega | assumption | rfl | trivial) | exact Or.inr (by first | omega | assumption | rfl | trivial)⟩ | exact ⟨by first | omega | assumption | rfl | trivial, by first | omega | assumption | rfl | trivial, by first | omega | assumption | rfl | trivial⟩ | exact ⟨by first | omega | assumption | rfl | trivial, by first | omega | assumption | rfl | trivial, by first | omega | assumption | rfl | trivial, by first | omega | assumption | rfl | trivial⟩ | exact ⟨by first | omega | assumption | rfl | trivial, by first | omega | assumption | rfl | trivial, by first | omega | assumption | rfl | trivial, by first | omega | assumption | rfl | trivial, by first | omega | assumption | rfl | trivial⟩ | exact ⟨by first | omega | assumption | rfl | trivial, by first | omega | assumption | rfl | trivial, by first | omega | assumption | rfl | trivial, by first | omega | assumption | rfl | trivial, by first | omega | assumption | rfl | trivial, by first | omega | assumption | rfl | trivial⟩ | exact ⟨by first | omega | assumption | rfl | trivial, by first | omega | assumption | rfl | trivial, by first | omega | assumption | rfl | trivial, by first | omega | assumption | rfl | trivial, by first | omega | assumption | rfl | trivial, by first | omega | assumption | rfl | trivial, by first | omega | assumption | rfl | trivial⟩ | exact Or.inl (by first | omega | assumption | rfl | trivial | exact ⟨by first | omega | assumption | rfl | trivial, by first | omega | assumption | rfl | trivial⟩ | exact Or.inl (by first | omega | assumption | rfl | trivial) | exact Or.inr (by first | omega | assumption | rfl | trivial)) | exact Or.inr (by first | omega | assumption | rfl | trivial | exact ⟨by first | omega | assumption | rfl | trivial, by first | omega | assumption | rfl | trivial⟩ | exact Or.inl (by first | omega | assumption | rfl | trivial) | exact Or.inr (by first | omega | assumption | rfl | trivial))))])
        rw [hA]

theorem rwrite_ok : OrcOk Try.prog 11 (.pure (writeF Ar.real)) := by
  refine pureOk (Cx.ok o_sc3 (Lrw Ar.real)) mixed 11 Try.f11 (by kernel_rfl) (by kernel_rfl) (by kernel_rfl) 100 1 (by kernel_rfl) (fun i h => ?_) fun args r h => ?_
  · obtain rfl : i = 0 := by omega
    refine Tells.mk (key := 3) (N := 57) (ks := [0, 2, 3, 4, 5]) (F := LrwF Ar.real) (by kernel_rfl) rfl fun xs H r h => ?_
    unfold LrwF at h
    split at h
    · rename_i l nl z b nb i
      rw [run_test] at h
      simp only [rw_se] at h
      by_cases hg : (l.all wfB && (decide (0 ≤ i ∧ i ≤ l.length ∧ b.length + (encs (l.drop i.toNat)).length ≤ 10000000 ∧ l.length ≤ 10000000) && nlB nb b)) = true
      · rw [bt hg] at h
        simp only [Bool.and_eq_true, decide_eq_true_eq] at hg
        dsimp only [Ty.den] at hg
        obtain ⟨h1, ⟨h3, h4, h5, h6⟩, h7⟩ := hg
        obtain ⟨j, rfl⟩ := Int.eq_ofNat_of_zero_le h3
        simp only [Int.toNat_natCast] at h h5
        exact loopRw l nl z h1 h6 _ j b nb rfl (by omega) h5 h7 r h
      · rw [bf (by simpa using hg)] at h
        cases h
    · cases h
  · unfold writeF at h
    split at h
    · rename_i l nl
      obtain ⟨hg, rfl⟩ := Tr.one h
      refine ⟨rfl, rfl, ?_⟩
      show Ends _ _
      simp only [rw_se, wl, Bool.and_eq_true, decide_eq_true_eq] at hg
      obtain ⟨h1, h2, h3⟩ := hg
      rw [tRwrite]
      simp only [rw_se, drop0, List.nil_append, Bool.true_and]
      rw [bt (by simp [h1, nlB]; omega)]
      cases hc : l.all checkC
      · simp only [writeB, writeE, hc, cond_false, cond_true]
        exact Ends_some.2 rfl
      · simp only [writeB, writeE, hc, cond_false, cond_true, encs_isEmpty]
        exact Ends_some.2 rfl
    · cases h

/-! Taking -/
/-- A function that may turn its caller's variables; less is told of its result than its text does. -/
theorem effWk {P : Program} {C : Ctx} (hC : COk P C) (hmix : P.follows .mixedOrders = true) (f : Nat) (fn : Func) (hf : P.funcs[f]? = some fn) (hname : (fn.name == "runtime.NumGoroutine") = false) (hb : fn.body.isSome = true) (fuel n : Nat)
    (hn : (loopsAll (bodyOf fn)).length = n) (hL : ∀ i, i < n → Tells C fuel (loopAt fn i)) {F : List X → Hp → Option (X × Hp)}
    (hF : ∀ args H r H', F args H = some (r, H') → (∀ x ∈ args, ∀ e xs nl own, x = .sl e xs nl own → own = false) ∧ ∃ x H1, bodyX C fuel fn args H = some (x, H1) ∧ Wk x.unown r ∧ HWeak H1 H' ∧ H.length ≤ H'.length ∧ LeadsB H1 H' [x]) : EffOk P f F := by
  have h0 : EffOk P f fun args H => (F args H).bind fun p => (bodyX C fuel fn args H).map fun q => (q.1.unown, p.2) := by
    refine effOk hC hmix f fn hf hname hb fuel n hn hL fun args H r H' h => ?_
    rw [Option.bind_eq_some_iff] at h
    obtain ⟨⟨r0, H0⟩, e1, h⟩ := h
    rw [Option.map_eq_some_iff] at h
    obtain ⟨⟨x0, H2⟩, e2, h⟩ := h
    obtain ⟨k1, x, H1, k2, k3, k4, k5, k6⟩ := hF args H r0 H0 e1
    rw [k2] at e2
    cases e2
    cases h
    exact ⟨k1, x0, H2, rfl, k2, k4, k5, k6⟩
  refine h0.wk fun args H r H' h => ?_
  obtain ⟨k1, x, H1, k2, k3, k4, k5, k6⟩ := hF args H r H' h
  exact ⟨x.unown, by simp [h, k2], k3⟩

theorem HWeak.head {t : Ty} {c : X} {y : t.den} {H : Hp} (e : toD t c = some y) : HWeak ((t, c) :: H) ((t, .d t y) :: H) := by
  refine ⟨by simp, fun id t' c' h => ?_, .inl (by simp)⟩
  cases id with
  | zero =>
    simp only [List.getElem?_cons_zero, Option.some.injEq, Prod.mk.injEq] at h
    obtain ⟨rfl, rfl⟩ := h
    exact ⟨c, rfl, .inr ⟨y, e, rfl⟩⟩
  | succ id => exact ⟨c', h, .inl rfl⟩

theorem takeV_byts {b r : List Int} {n : Nat} (hb : Byts b) (h : takeV b = some (n, r)) : Byts r ∧ r.length < b.length ∧ n < 18446744073709551616 := by
  obtain ⟨h1, h2⟩ := takeV_some.1 h
  rw [h2] at hb ⊢
  have := vb_len_pos n
  exact ⟨(bytes_of_app hb).2, by rw [List.length_append]; omega, by omega⟩
theorem takeT_byts {b r x : List Int} (hb : Byts b) (h : takeT b = some (x, r)) : Byts r ∧ r.length < b.length ∧ Byts x ∧ x.length < b.length := by
  have e := (takeT_some (takeT_len h)).1 h
  rw [e] at hb ⊢
  obtain ⟨h1, h2⟩ := bytes_of_app hb
  have := vb_len_pos x.length
  exact ⟨h2, by rw [List.length_append, txt, List.length_append]; omega, (bytes_of_app h1).2, by rw [List.length_append, txt, List.length_append]; omega⟩

theorem own_ptr {p : List X} (h : ∀ x ∈ p, match x with | .sl _ _ _ o => o = false | _ => True) : ∀ x ∈ p, ∀ e xs nl own, x = .sl e xs nl own → own = false := by
  intro x hx e xs nl own hxe
  subst hxe
  exact h _ hx

theorem take0_ok : OrcOk Try.prog 32 (.eff (takeE0 Ar.real)) := by
  refine effOk (Cx.ok o_sc3 noL) mixed 32 Try.f32 (by kernel_rfl) (by kernel_rfl) (by kernel_rfl) 100 0 (by kernel_rfl) (fun i h => by omega) fun args H r H' h => ?_
  unfold takeE0 at h
  split at h
  · rename_i most b ok c H
    obtain ⟨hg, e⟩ := Tr.one h
    cases e
    simp only [rw_se, Bool.and_eq_true, decide_eq_true_eq] at hg
    obtain ⟨h1, h2, h3⟩ := hg
    rw [isU64_iff] at h3
    try dsimp only [Ty.den] at h3
    obtain ⟨mm, rfl⟩ := Int.eq_ofNat_of_zero_le h3.1
    refine ⟨own_ptr (by simp), ?_⟩
    have tree := tTakeM Ar.real mm b ok c H
    simp only [rw_se] at tree ⊢
    rw [bt (by rw [Bool.and_eq_true, Bool.and_eq_true, decide_eq_true_eq]; exact ⟨by omega, h2, rfl⟩)] at tree
    rw [Int.toNat_natCast]
    cases hv : takeV b with
    | none =>
      have e1 : tkE b = 130 := by simp [tkE, tkB, hv]
      have e2 : tkS mm b ok = (0, b, false) := by simp [tkS, hv]
      rw [e1] at tree
      rw [e2]
      cases ok
      · exact ⟨_, _, rfl, tree, HWeak.head rfl, by simp, .inl rfl⟩
      · exact ⟨_, _, rfl, tree, HWeak.head rfl, by simp, .inl rfl⟩
    | some p =>
      obtain ⟨n, s⟩ := p
      have e1 : tkE b = 0 := by simp [tkE, tkB, hv]
      have e3 : tkN b = (n : Int) := by simp [tkN, hv]
      have e4 : tkR b = s := by simp [tkR, hv]
      rw [e1, e3, e4] at tree
      cases ok
      · have e2 : tkS mm b false = (0, b, false) := by simp [tkS, hv]
        rw [e2]
        exact ⟨_, _, rfl, tree, HWeak.head rfl, by simp, .inl rfl⟩
      · by_cases hm : n ≤ mm
        · have e2 : tkS mm b true = (n, s, true) := by simp [tkS, hv, hm]
          rw [e2]
          have e5 : decide ((n : Int) ≤ (mm : Int)) = true := by rw [decide_eq_true_eq]; omega
          rw [e5] at tree
          exact ⟨_, _, rfl, tree, HWeak.head rfl, by simp, .inl rfl⟩
        · have e2 : tkS mm b true = (0, b, false) := by simp [tkS, hv, hm]
          rw [e2]
          have e5 : decide ((n : Int) ≤ (mm : Int)) = false := by rw [decide_eq_false_iff_not]; omega
          rw [e5] at tree
          exact ⟨_, _, rfl, tree, HWeak.head rfl, by simp, .inl rfl⟩
  · cases h
theorem take23_ok : OrcOk Try.prog 32 (.eff (takeE Ar.real)) := canonR_ok take0_ok

theorem rtakeText_ok : OrcOk Try.prog 33 (.pure (rtakeTextF Ar.real)) := by
  refine pureOk (Cx.ok o_sc3 noL) mixed 33 Try.f33 (by kernel_rfl) (by kernel_rfl) (by kernel_rfl) 100 0 (by kernel_rfl) (fun i h => by omega) fun args r h => ?_
  unfold rtakeTextF at h
  split at h
  · rename_i b nl
    obtain ⟨hg, rfl⟩ := Tr.one h
    simp only [rw_se, Bool.and_eq_true, decide_eq_true_eq] at hg
    obtain ⟨h1, h2, h3⟩ := hg
    refine ⟨rfl, rfl, ?_⟩
    show Ends _ _
    have hB := bytesB_iff.1 h2
    rw [tRtakeText]
    simp only [rw_se, rw_wrap]
    rw [bt (by rw [Bool.and_eq_true, Bool.and_eq_true, decide_eq_true_eq]; exact ⟨by omega, h2, h3⟩)]
    cases hv : takeV b with
    | none =>
      have e0 : takeT b = none := by simp [takeT, hv]
      have e1 : tkE b = 130 := by simp [tkE, tkB, hv]
      simp only [e1, ttA, ttR, e0]
      exact Ends_some.2 rfl
    | some p =>
      obtain ⟨n, s⟩ := p
      obtain ⟨f1, f2, f3⟩ := takeV_byts hB hv
      have e1 : tkE b = 0 := by simp [tkE, tkB, hv]
      have e3 : tkN b = (n : Int) := by simp [tkN, hv]
      have e4 : tkR b = s := by simp [tkR, hv]
      have e5 : tkB b = true := by simp [tkB, hv]
      rw [e1, e3, e4, e5, wu64 (by omega) (by omega), bt (by rfl)]
      by_cases hn : n ≤ s.length
      · have e0 : takeT b = some (s.take n, s.drop n) := by simp [takeT, hv, hn]
        simp only [ttA, ttR, e0]
        rw [bnd (by omega), bd (by omega), bd (by omega)]
        exact Ends_some.2 rfl
      · have e0 : takeT b = none := by simp [takeT, hv, hn]
        simp only [ttA, ttR, e0]
        rw [bd (by omega)]
        exact Ends_some.2 rfl
  · cases h

end Go.Proofs.Ytgickaihlebgmaa.V

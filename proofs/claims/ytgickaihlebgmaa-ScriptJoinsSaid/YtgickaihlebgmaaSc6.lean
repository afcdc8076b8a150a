/-
  Chapter 23: commands are written as they tell.
  It speaks of the pinned program alone; no condition.
-/
import Derived.Test.YtgickaihlebgmaaSc4b
import Derived.Test.YtgickaihlebgmaaSc4c
import Derived.Test.YtgickaihlebgmaaSc5
namespace Go.Proofs.Ytgickaihlebgmaa.V
open Go
set_option linter.unusedVariables false
set_option linter.unusedSimpArgs false


theorem txts_cons (t : List Int) (ts : List (List Int)) : txts (t :: ts) = txt t ++ txts ts := rfl
theorem nums_cons (t : Int) (ts : List Int) : nums (t :: ts) = vb t.toNat ++ nums ts := rfl

theorem loopW2 (l : List Cm) (nl : Option Bool) (n i : Int) (ts : List (List Int)) (nts : Option Bool) (ok : Bool) (e1 e2 : Ty × X) : ∀ (q j : Nat) (b : List Int) (nb : Bool), ts.length - j = q → j ≤ ts.length → ts.length ≤ 100 → b.length + (txts (ts.drop j)).length ≤ 10000000 → nlB nb b = true →
    ∀ r, r = (Ex.exit 2, [X.ptr 0 [], .fn 20 [.ptr 0 []] [], .fn 21 [.ptr 0 []] [], .ptr 1 [], .ptr 2 [], .sl cmdT l nl false, i64x n, i64x i, .dead, .dead, .dead],
        [(bytT, .agg [u8s (b ++ txts (ts.drop j)) (some (nb && (ts.drop j).isEmpty)) true, boolx ok]), e1, e2]) →
    LoopTo (Cx Ar.real (Osc3 Ar.real) (Lw Ar.real)) 100 (loopAt Try.f10 1) 80 [4, 5, 6, 8, 9, 19, 20, 21, 46, 47, 48] [.ptr 0 [], .fn 20 [.ptr 0 []] [], .fn 21 [.ptr 0 []] [], .ptr 1 [], .ptr 2 [], cms l nl false, i64x n, i64x i, .sl (.slice (.int .u8)) ts nts false, i64x ts.length, i64x j] [(bytT, .agg [u8s b (some nb) true, boolx ok]), e1, e2] r := by
  intro q
  induction q with
  | zero =>
    intro j b nb h1 h2 h3 h4 h5 r hr
    have e1 : ts.drop j = [] := by rw [List.drop_eq_nil_iff]; omega
    rw [e1] at hr
    subst hr
    refine LoopTo.left (by simp) fun k => ?_
    rw [lWrite2, bnd (by omega)]
    simp only [txts, List.map_nil, List.flatten_nil, List.append_nil, List.isEmpty_nil, Bool.and_true]
    exact ⟨_, rfl, Forget.cons (.inr rfl) (Forget.cons (.inr rfl) (Forget.cons (.inr rfl) (Forget.cons (.inr rfl) (Forget.cons (.inr rfl) (Forget.cons (.inr rfl) (Forget.cons (.inr rfl) (Forget.cons (.inr rfl) (Forget.cons (.inl rfl) (Forget.cons (.inl rfl) (Forget.cons (.inl rfl) (Forget.same _)))))))))))⟩
  | succ q ih =>
    intro j b nb h1 h2 h3 h4 h5 r hr
    have hj : j < ts.length := by omega
    rw [drop_cons' (Ty.zero (.slice (.int .u8))) hj, txts_cons] at hr h4
    rw [List.length_append] at h4
    have hl : (txt (ts.getD j (Ty.zero (.slice (.int .u8))))).length = (vb (ts.getD j (Ty.zero (.slice (.int .u8)))).length).length + (ts.getD j (Ty.zero (.slice (.int .u8)))).length := by rw [txt, List.length_append]
    refine LoopTo.next (fun k => ?_) (ih (j + 1) (b ++ txt (ts.getD j (Ty.zero (.slice (.int .u8))))) false (by omega) (by omega) h3 (by rw [List.length_append]; omega) rfl r (hr.trans ?_))
    · rw [lWrite2]
      simp only [Int.toNat_natCast, rw_wrap, rw_se]
      rw [bd (by omega), bd (by omega), bt (by rw [Bool.and_eq_true, decide_eq_true_eq]; exact ⟨by omega, h5⟩), wi64 (by omega) (by omega)]
      rfl
    · simp only [List.append_assoc, List.isEmpty_cons, Bool.and_false, Bool.false_and]

theorem loopW3 (l : List Cm) (nl : Option Bool) (n i : Int) (ts : List Int) (nts : Option Bool) (ok : Bool) (e1 e2 : Ty × X) (hu : ts.all isU64 = true) : ∀ (q j : Nat) (b : List Int) (nb : Bool), ts.length - j = q → j ≤ ts.length → ts.length ≤ 100 → b.length + (nums (ts.drop j)).length ≤ 10000000 → nlB nb b = true →
    ∀ r, r = (Ex.exit 4, [X.ptr 0 [], .fn 20 [.ptr 0 []] [], .fn 21 [.ptr 0 []] [], .sl cmdT l nl false, i64x n, i64x i, .dead, .dead, .dead],
        [(bytT, .agg [u8s (b ++ nums (ts.drop j)) (some (nb && (ts.drop j).isEmpty)) true, boolx ok]), e1, e2]) →
    LoopTo (Cx Ar.real (Osc3 Ar.real) (Lw Ar.real)) 100 (loopAt Try.f10 2) 80 [4, 5, 6, 19, 20, 21, 67, 68, 69] [.ptr 0 [], .fn 20 [.ptr 0 []] [], .fn 21 [.ptr 0 []] [], cms l nl false, i64x n, i64x i, .sl (.int .u64) ts nts false, i64x ts.length, i64x j] [(bytT, .agg [u8s b (some nb) true, boolx ok]), e1, e2] r := by
  intro q
  induction q with
  | zero =>
    intro j b nb h1 h2 h3 h4 h5 r hr
    have e1 : ts.drop j = [] := by rw [List.drop_eq_nil_iff]; omega
    rw [e1] at hr
    subst hr
    refine LoopTo.left (by simp) fun k => ?_
    rw [lWrite3, bnd (by omega)]
    simp only [nums, List.map_nil, List.flatten_nil, List.append_nil, List.isEmpty_nil, Bool.and_true]
    exact ⟨_, rfl, Forget.cons (.inr rfl) (Forget.cons (.inr rfl) (Forget.cons (.inr rfl) (Forget.cons (.inr rfl) (Forget.cons (.inr rfl) (Forget.cons (.inr rfl) (Forget.cons (.inl rfl) (Forget.cons (.inl rfl) (Forget.cons (.inl rfl) (Forget.same _)))))))))⟩
  | succ q ih =>
    intro j b nb h1 h2 h3 h4 h5 r hr
    have hj : j < ts.length := by omega
    rw [drop_cons' (0 : Int) hj, nums_cons] at hr h4
    rw [List.length_append] at h4
    have hut := List.all_eq_true.1 hu _ (getD_mem' (d := 0) hj)
    refine LoopTo.next (fun k => ?_) (ih (j + 1) (b ++ vb (Int.toNat (ts.getD j 0))) false (by omega) (by omega) h3 (by rw [List.length_append]; omega) rfl r (hr.trans ?_))
    · rw [lWrite3]
      simp only [Int.toNat_natCast, rw_wrap, rw_se]
      rw [bd (by omega), bd (by omega), bt (by rw [Bool.and_eq_true, Bool.and_eq_true, decide_eq_true_eq]; exact ⟨by omega, hut, h5⟩), wi64 (by omega) (by omega)]
      rfl
    · simp only [List.append_assoc, List.isEmpty_cons, Bool.and_false, Bool.false_and]

theorem take2 (x y : List Int) : List.take (Int.toNat 2) [x, y] = [x, y] := rfl
theorem take1 (x y : List Int) : List.take (Int.toNat 1) [x, y] = [x] := rfl
theorem take0 (x y : List Int) : List.take (Int.toNat 0) [x, y] = [] := rfl
theorem take30 (x y z : Int) : List.take (Int.toNat 0) [x, y, z] = [] := rfl
theorem take33 (x y z : Int) : List.take (Int.toNat 3) [x, y, z] = [x, y, z] := rfl
theorem drop0 {α : Type} (l : List α) : List.drop (Int.toNat 0) l = l := rfl
theorem txts_nil : txts [] = [] := rfl
theorem nums_nil : nums [] = [] := rfl
theorem encs_isEmpty (l : List Cm) : (encs l).isEmpty = l.isEmpty := by
  cases l with
  | nil => rfl
  | cons c l => rw [encs_cons]; rfl

theorem loopWrite (l : List Cm) (nl : Option Bool) (ok : Bool) (hw : l.all wfB = true) (hc : l.all checkC = true) (hlen : l.length ≤ 10000000) : ∀ (q i : Nat) (b : List Int) (nb : Bool), l.length - i = q → i ≤ l.length → b.length + (encs (l.drop i)).length ≤ 10000000 → nlB nb b = true →
    ∀ r, r = (Ex.exit 0, [X.ptr 0 [], .dead, .dead, .dead, .dead, .dead], [(bytT, X.agg [u8s (b ++ encs (l.drop i)) (some (nb && (l.drop i).isEmpty)) true, boolx ok])]) →
    LoopTo (Cx Ar.real (Osc3 Ar.real) (Lw Ar.real)) 100 (loopAt Try.f10 0) 80 [4, 5, 6, 19, 20, 21] [.ptr 0 [], .fn 20 [.ptr 0 []] [], .fn 21 [.ptr 0 []] [], cms l nl false, i64x l.length, i64x i] [(bytT, .agg [u8s b (some nb) true, boolx ok])] r := by
  intro q
  induction q with
  | zero =>
    intro i b nb h1 h2 h3 h4 r hr
    have e1 : l.drop i = [] := by rw [List.drop_eq_nil_iff]; omega
    rw [e1] at hr
    subst hr
    refine LoopTo.left (by simp) fun k => ?_
    rw [lWrite, bnd (by omega)]
    simp only [encs, List.map_nil, List.flatten_nil, List.append_nil, List.isEmpty_nil, Bool.and_true]
    exact ⟨_, rfl, Forget.cons (.inr rfl) (Forget.cons (.inl rfl) (Forget.cons (.inl rfl) (Forget.cons (.inl rfl) (Forget.cons (.inl rfl) (Forget.cons (.inl rfl) (Forget.same _))))))⟩
  | succ q ih =>
    intro i b nb h1 h2 h3 h4 r hr
    have hi : i < l.length := by omega
    have tc := List.all_eq_true.1 hc _ (getD_mem' (d := Ty.zero cmdT) hi)
    have tw := wfB_iff.1 (List.all_eq_true.1 hw _ (getD_mem' (d := Ty.zero cmdT) hi))
    rw [drop_cons' (Ty.zero cmdT) hi, encs_cons] at hr h3
    rw [List.length_append] at h3
    have tree := fun (R : Type) (k : Ex → List X → Hp → Option R) => lWrite Ar.real R l nl l.length i b nb ok k
    obtain ⟨c, ec⟩ : ∃ c, l.getD i (Ty.zero cmdT) = c := ⟨_, rfl⟩
    have ec' : l.getD (Int.toNat (i : Int)) (Ty.zero cmdT) = c := by rw [Int.toNat_natCast]; exact ec
    rw [ec] at hr h3 tc tw
    rw [ec'] at tree
    obtain ⟨k, x, y, n, m, u, ⟨⟩⟩ := c
    obtain ⟨⟨k1, k2⟩, q1, q2, q3, q4, q5⟩ := checkC_iff.1 tc
    obtain ⟨w1, w2, w3, w4, w5, w6, w7, w8⟩ := tw
    dsimp only at w1 w2 w3 w4 w5 w6 w7 w8 tree
    simp only [rw_wrap, rw_se] at tree
    have wk : IntKind.u8.wrap k = k := wu8 (by omega) (by omega)
    have wn : IntKind.u64.wrap n = n := wu64 (by omega) (by omega)
    have wu : IntKind.u64.wrap u = u := wu64 (by omega) (by omega)
    have wi : IntKind.i64.wrap ((i : Int) + 1) = ((i + 1 : Nat) : Int) := by rw [wi64 (by omega) (by omega)]; omega
    simp only [wk, wn, wu, wi, take2, take1, take0, take30, take33, drop0, List.isEmpty_cons, Bool.and_false, Bool.false_and] at tree
    have fin : (∃ H1 : Hp, ∀ k' : Ex → List X → Hp → Option (Ex × List X × Hp), stepF (Cx Ar.real (Osc3 Ar.real) (Lw Ar.real)) 100 (loopAt Try.f10 0) 80 [4, 5, 6, 19, 20, 21] [.ptr 0 [], .fn 20 [.ptr 0 []] [], .fn 21 [.ptr 0 []] [], cms l nl false, i64x l.length, i64x i] [(bytT, .agg [u8s b (some nb) true, boolx ok])] k'
          = k' .normal [.ptr 0 [], .fn 20 [.ptr 0 []] [], .fn 21 [.ptr 0 []] [], cms l nl false, i64x l.length, i64x (i + 1 : Nat)] ((bytT, .agg [u8s (b ++ encC (k, x, y, n, m, u, PUnit.unit)) (some false) true, boolx ok]) :: H1)) →
        LoopTo (Cx Ar.real (Osc3 Ar.real) (Lw Ar.real)) 100 (loopAt Try.f10 0) 80 [4, 5, 6, 19, 20, 21] [.ptr 0 [], .fn 20 [.ptr 0 []] [], .fn 21 [.ptr 0 []] [], cms l nl false, i64x l.length, i64x i] [(bytT, .agg [u8s b (some nb) true, boolx ok])] r := by
      rintro ⟨H1, h⟩
      refine LoopTo.weak h (Forget.same _) (HWeak.of (H' := [(bytT, .agg [u8s (b ++ encC (k, x, y, n, m, u, PUnit.unit)) (some false) true, boolx ok])]) ⟨rfl, .inl rfl, by cases H1 <;> exact trivial⟩ rfl) (by simp) (.inr rfl) (ih (i + 1) _ false (by omega) (by omega) (by rw [List.length_append]; omega) rfl r (hr.trans ?_))
      simp only [List.append_assoc, List.isEmpty_cons, Bool.and_false, Bool.false_and]
    by_cases c1 : k = 1
    · subst c1
      have hE : encC (1, x, y, n, m, u, PUnit.unit) = 1 :: (txts [x, y] ++ nums []) := rfl
      have hL : (encC (1, x, y, n, m, u, PUnit.unit)).length = (txts [x, y]).length + (nums []).length + 1 := by rw [hE]; simp only [List.length_cons, List.length_append]
      have hA : b ++ [1] ++ txts [x, y] ++ nums [] = b ++ encC (1, x, y, n, m, u, PUnit.unit) := by rw [hE]; simp only [List.append_assoc, List.cons_append, List.nil_append]
      refine fin ⟨?_, fun k' => ?_⟩
      rotate_left
      rw [tree]
      iterate 6 (first | rw [bt (by first | rfl | omega | assumption | ((try simp only [Bool.and_eq_true, Bool.or_eq_true, decide_eq_true_eq, decide_eq_false_iff_not, beq_iff_eq, bne_iff_ne, isU64_iff, List.length_append, List.length_cons, List.length_nil, nlB_false, nlO_some, List.isEmpty_cons, Bool.and_false, Bool.false_and, and_true, true_and, List.all_cons, List.all_nil, Bool.not_eq_true', Bool.not_eq_false', beq_eq_false_iff_ne, bne_eq_false_iff_eq, ne_eq]); first | omega | assumption | rfl | trivial | exact ⟨by first | omega | assumption | rfl | trivial | exact ⟨by first | omega | assumption | rfl | trivial, by first | omega | assumption | rfl | trivial⟩ | exact Or.inl (by first | omega | assumption | rfl | trivial) | exact Or.inr (by first | omega | assumption | rfl | trivial), by first | omega | assumption | rfl | trivial | exact ⟨by first | omega | assumption | rfl | trivial, by first | omega | assumption | rfl | trivial⟩ | exact Or.inl (by first | omega | assumption | rfl | trivial) | exact Or.inr (by first | omega | assumption | rfl | trivial)⟩ | exact ⟨by first | omega | assumption | rfl | trivial, by first | omega | assumption | rfl | trivial, by first | omega | assumption | rfl | trivial⟩ | exact ⟨by first | omega | assumption | rfl | trivial, by first | omega | assumption | rfl | trivial, by first | omega | assumption | rfl | trivial, by first | omega | assumption | rfl | trivial⟩ | exact ⟨by first | omega | assumption | rfl | trivial, by first | omega | assumption | rfl | trivial, by first | omega | assumption | rfl | trivial, by first | omega | assumption | rfl | trivial, by first | omega | assumption | rfl | trivial⟩ | exact ⟨by first | omega | assumption | rfl | trivial, by first | omega | assumption | rfl | trivial, by first | omega | assumption | rfl | trivial, by first | omega | assumption | rfl | trivial, by first | omega | assumption | rfl | trivial, by first | omega | assumption | rfl | trivial⟩ | exact ⟨by first | omega | assumption | rfl | trivial, by first | omega | assumption | rfl | trivial, by first | omega | assumption | rfl | trivial, by first | omega | assumption | rfl | trivial, by first | omega | assumption | rfl | trivial, by first | omega | assumption | rfl | trivial, by first | omega | assumption | rfl | trivial⟩ | exact Or.inl (by first | omega | assumption | rfl | trivial | exact ⟨by first | omega | assumption | rfl | trivial, by first | omega | assumption | rfl | trivial⟩ | exact Or.inl (by first | omega | assumption | rfl | trivial) | exact Or.inr (by first | omega | assumption | rfl | trivial)) | exact Or.inr (by first | omega | assumption | rfl | trivial | exact ⟨by first | omega | assumption | rfl | trivial, by first | omega | assumption | rfl | trivial⟩ | exact Or.inl (by first | omega | assumption | rfl | trivial) | exact Or.inr (by first | omega | assumption | rfl | trivial))))] | rw [bf (by first | rfl | omega | assumption | ((try simp only [Bool.and_eq_true, Bool.or_eq_true, decide_eq_true_eq, decide_eq_false_iff_not, beq_iff_eq, bne_iff_ne, isU64_iff, List.length_append, List.length_cons, List.length_nil, nlB_false, nlO_some, List.isEmpty_cons, Bool.and_false, Bool.false_and, and_true, true_and, List.all_cons, List.all_nil, Bool.not_eq_true', Bool.not_eq_false', beq_eq_false_iff_ne, bne_eq_false_iff_eq, ne_eq]); first | omega | assumption | rfl | trivial | exact ⟨by first | omega | assumption | rfl | trivial | exact ⟨by first | omega | assumption | rfl | trivial, by first | omega | assumption | rfl | trivial⟩ | exact Or.inl (by first | omega | assumption | rfl | trivial) | exact Or.inr (by first | omega | assumption | rfl | trivial), by first | omega | assumption | rfl | trivial | exact ⟨by first | omega | assumption | rfl | trivial, by first | omega | assumption | rfl | trivial⟩ | exact Or.inl (by first | omega | assumption | rfl | trivial) | exact Or.inr (by first | omega | assumption | rfl | trivial)⟩ | exact ⟨by first | omega | assumption | rfl | trivial, by first | omega | assumption | rfl | trivial, by first | omega | assumption | rfl | trivial⟩ | exact ⟨by first | omega | assumption | rfl | trivial, by first | omega | assumption | rfl | trivial, by first | omega | assumption | rfl | trivial, by first | omega | assumption | rfl | trivial⟩ | exact ⟨by first | omega | assumption | rfl | trivial, by first | omega | assumption | rfl | trivial, by first | omega | assumption | rfl | trivial, by first | omega | assumption | rfl | trivial, by first | omega | assumption | rfl | trivial⟩ | exact ⟨by first | omega | assumption | rfl | trivial, by first | omega | assumption | rfl | trivial, by first | omega | assumption | rfl | trivial, by first | omega | assumption | rfl | trivial, by first | omega | assumption | rfl | trivial, by first | omega | assumption | rfl | trivial⟩ | exact ⟨by first | omega | assumption | rfl | trivial, by first | omega | assumption | rfl | trivial, by first | omega | assumption | rfl | trivial, by first | omega | assumption | rfl | trivial, by first | omega | assumption | rfl | trivial, by first | omega | assumption | rfl | trivial, by first | omega | assumption | rfl | trivial⟩ | exact Or.inl (by first | omega | assumption | rfl | trivial | exact ⟨by first | omega | assumption | rfl | trivial, by first | omega | assumption | rfl | trivial⟩ | exact Or.inl (by first | omega | assumption | rfl | trivial) | exact Or.inr (by first | omega | assumption | rfl | trivial)) | exact Or.inr (by first | omega | assumption | rfl | trivial | exact ⟨by first | omega | assumption | rfl | trivial, by first | omega | assumption | rfl | trivial⟩ | exact Or.inl (by first | omega | assumption | rfl | trivial) | exact Or.inr (by first | omega | assumption | rfl | trivial))))])
      rw [hA]
    by_cases c5 : k = 5
    · subst c5
      have hE : encC (5, x, y, n, m, u, PUnit.unit) = 5 :: (txts [x] ++ nums [n, m, u]) := rfl
      have hL : (encC (5, x, y, n, m, u, PUnit.unit)).length = (txts [x]).length + (nums [n, m, u]).length + 1 := by rw [hE]; simp only [List.length_cons, List.length_append]
      have hA : b ++ [5] ++ txts [x] ++ nums [n, m, u] = b ++ encC (5, x, y, n, m, u, PUnit.unit) := by rw [hE]; simp only [List.append_assoc, List.cons_append, List.nil_append]
      refine fin ⟨?_, fun k' => ?_⟩
      rotate_left
      rw [tree]
      iterate 7 (first | rw [bt (by first | rfl | omega | assumption | ((try simp only [Bool.and_eq_true, Bool.or_eq_true, decide_eq_true_eq, decide_eq_false_iff_not, beq_iff_eq, bne_iff_ne, isU64_iff, List.length_append, List.length_cons, List.length_nil, nlB_false, nlO_some, List.isEmpty_cons, Bool.and_false, Bool.false_and, and_true, true_and, List.all_cons, List.all_nil, Bool.not_eq_true', Bool.not_eq_false', beq_eq_false_iff_ne, bne_eq_false_iff_eq, ne_eq]); first | omega | assumption | rfl | trivial | exact ⟨by first | omega | assumption | rfl | trivial | exact ⟨by first | omega | assumption | rfl | trivial, by first | omega | assumption | rfl | trivial⟩ | exact Or.inl (by first | omega | assumption | rfl | trivial) | exact Or.inr (by first | omega | assumption | rfl | trivial), by first | omega | assumption | rfl | trivial | exact ⟨by first | omega | assumption | rfl | trivial, by first | omega | assumption | rfl | trivial⟩ | exact Or.inl (by first | omega | assumption | rfl | trivial) | exact Or.inr (by first | omega | assumption | rfl | trivial)⟩ | exact ⟨by first | omega | assumption | rfl | trivial, by first | omega | assumption | rfl | trivial, by first | omega | assumption | rfl | trivial⟩ | exact ⟨by first | omega | assumption | rfl | trivial, by first | omega | assumption | rfl | trivial, by first | omega | assumption | rfl | trivial, by first | omega | assumption | rfl | trivial⟩ | exact ⟨by first | omega | assumption | rfl | trivial, by first | omega | assumption | rfl | trivial, by first | omega | assumption | rfl | trivial, by first | omega | assumption | rfl | trivial, by first | omega | assumption | rfl | trivial⟩ | exact ⟨by first | omega | assumption | rfl | trivial, by first | omega | assumption | rfl | trivial, by first | omega | assumption | rfl | trivial, by first | omega | assumption | rfl | trivial, by first | omega | assumption | rfl | trivial, by first | omega | assumption | rfl | trivial⟩ | exact ⟨by first | omega | assumption | rfl | trivial, by first | omega | assumption | rfl | trivial, by first | omega | assumption | rfl | trivial, by first | omega | assumption | rfl | trivial, by first | omega | assumption | rfl | trivial, by first | omega | assumption | rfl | trivial, by first | omega | assumption | rfl | trivial⟩ | exact Or.inl (by first | omega | assumption | rfl | trivial | exact ⟨by first | omega | assumption | rfl | trivial, by first | omega | assumption | rfl | trivial⟩ | exact Or.inl (by first | omega | assumption | rfl | trivial) | exact Or.inr (by first | omega | assumption | rfl | trivial)) | exact Or.inr (by first | omega | assumption | rfl | trivial | exact ⟨by first | omega | assumption | rfl | trivial, by first | omega | assumption | rfl | trivial⟩ | exact Or.inl (by first | omega | assumption | rfl | trivial) | exact Or.inr (by first | omega | assumption | rfl | trivial))))] | rw [bf (by first | rfl | omega | assumption | ((try simp only [Bool.and_eq_true, Bool.or_eq_true, decide_eq_true_eq, decide_eq_false_iff_not, beq_iff_eq, bne_iff_ne, isU64_iff, List.length_append, List.length_cons, List.length_nil, nlB_false, nlO_some, List.isEmpty_cons, Bool.and_false, Bool.false_and, and_true, true_and, List.all_cons, List.all_nil, Bool.not_eq_true', Bool.not_eq_false', beq_eq_false_iff_ne, bne_eq_false_iff_eq, ne_eq]); first | omega | assumption | rfl | trivial | exact ⟨by first | omega | assumption | rfl | trivial | exact ⟨by first | omega | assumption | rfl | trivial, by first | omega | assumption | rfl | trivial⟩ | exact Or.inl (by first | omega | assumption | rfl | trivial) | exact Or.inr (by first | omega | assumption | rfl | trivial), by first | omega | assumption | rfl | trivial | exact ⟨by first | omega | assumption | rfl | trivial, by first | omega | assumption | rfl | trivial⟩ | exact Or.inl (by first | omega | assumption | rfl | trivial) | exact Or.inr (by first | omega | assumption | rfl | trivial)⟩ | exact ⟨by first | omega | assumption | rfl | trivial, by first | omega | assumption | rfl | trivial, by first | omega | assumption | rfl | trivial⟩ | exact ⟨by first | omega | assumption | rfl | trivial, by first | omega | assumption | rfl | trivial, by first | omega | assumption | rfl | trivial, by first | omega | assumption | rfl | trivial⟩ | exact ⟨by first | omega | assumption | rfl | trivial, by first | omega | assumption | rfl | trivial, by first | omega | assumption | rfl | trivial, by first | omega | assumption | rfl | trivial, by first | omega | assumption | rfl | trivial⟩ | exact ⟨by first | omega | assumption | rfl | trivial, by first | omega | assumption | rfl | trivial, by first | omega | assumption | rfl | trivial, by first | omega | assumption | rfl | trivial, by first | omega | assumption | rfl | trivial, by first | omega | assumption | rfl | trivial⟩ | exact ⟨by first | omega | assumption | rfl | trivial, by first | omega | assumption | rfl | trivial, by first | omega | assumption | rfl | trivial, by first | omega | assumption | rfl | trivial, by first | omega | assumption | rfl | trivial, by first | omega | assumption | rfl | trivial, by first | omega | assumption | rfl | trivial⟩ | exact Or.inl (by first | omega | assumption | rfl | trivial | exact ⟨by first | omega | assumption | rfl | trivial, by first | omega | assumption | rfl | trivial⟩ | exact Or.inl (by first | omega | assumption | rfl | trivial) | exact Or.inr (by first | omega | assumption | rfl | trivial)) | exact Or.inr (by first | omega | assumption | rfl | trivial | exact ⟨by first | omega | assumption | rfl | trivial, by first | omega | assumption | rfl | trivial⟩ | exact Or.inl (by first | omega | assumption | rfl | trivial) | exact Or.inr (by first | omega | assumption | rfl | trivial))))])
      rw [hA]
    by_cases c3 : k = 3
    · subst c3
      have hE : encC (3, x, y, n, m, u, PUnit.unit) = 3 :: (txts [] ++ nums []) := rfl
      have hL : (encC (3, x, y, n, m, u, PUnit.unit)).length = (txts []).length + (nums []).length + 1 := by rw [hE]; simp only [List.length_cons, List.length_append]
      have hA : b ++ [3] ++ txts [] ++ nums [] = b ++ encC (3, x, y, n, m, u, PUnit.unit) := by rw [hE]; simp only [List.append_assoc, List.cons_append, List.nil_append]
      refine fin ⟨?_, fun k' => ?_⟩
      rotate_left
      rw [tree]
      iterate 9 (first | rw [bt (by first | rfl | omega | assumption | ((try simp only [Bool.and_eq_true, Bool.or_eq_true, decide_eq_true_eq, decide_eq_false_iff_not, beq_iff_eq, bne_iff_ne, isU64_iff, List.length_append, List.length_cons, List.length_nil, nlB_false, nlO_some, List.isEmpty_cons, Bool.and_false, Bool.false_and, and_true, true_and, List.all_cons, List.all_nil, Bool.not_eq_true', Bool.not_eq_false', beq_eq_false_iff_ne, bne_eq_false_iff_eq, ne_eq]); first | omega | assumption | rfl | trivial | exact ⟨by first | omega | assumption | rfl | trivial | exact ⟨by first | omega | assumption | rfl | trivial, by first | omega | assumption | rfl | trivial⟩ | exact Or.inl (by first | omega | assumption | rfl | trivial) | exact Or.inr (by first | omega | assumption | rfl | trivial), by first | omega | assumption | rfl | trivial | exact ⟨by first | omega | assumption | rfl | trivial, by first | omega | assumption | rfl | trivial⟩ | exact Or.inl (by first | omega | assumption | rfl | trivial) | exact Or.inr (by first | omega | assumption | rfl | trivial)⟩ | exact ⟨by first | omega | assumption | rfl | trivial, by first | omega | assumption | rfl | trivial, by first | omega | assumption | rfl | trivial⟩ | exact ⟨by first | omega | assumption | rfl | trivial, by first | omega | assumption | rfl | trivial, by first | omega | assumption | rfl | trivial, by first | omega | assumption | rfl | trivial⟩ | exact ⟨by first | omega | assumption | rfl | trivial, by first | omega | assumption | rfl | trivial, by first | omega | assumption | rfl | trivial, by first | omega | assumption | rfl | trivial, by first | omega | assumption | rfl | trivial⟩ | exact ⟨by first | omega | assumption | rfl | trivial, by first | omega | assumption | rfl | trivial, by first | omega | assumption | rfl | trivial, by first | omega | assumption | rfl | trivial, by first | omega | assumption | rfl | trivial, by first | omega | assumption | rfl | trivial⟩ | exact ⟨by first | omega | assumption | rfl | trivial, by first | omega | assumption | rfl | trivial, by first | omega | assumption | rfl | trivial, by first | omega | assumption | rfl | trivial, by first | omega | assumption | rfl | trivial, by first | omega | assumption | rfl | trivial, by first | omega | assumption | rfl | trivial⟩ | exact Or.inl (by first | omega | assumption | rfl | trivial | exact ⟨by first | omega | assumption | rfl | trivial, by first | omega | assumption | rfl | trivial⟩ | exact Or.inl (by first | omega | assumption | rfl | trivial) | exact Or.inr (by first | omega | assumption | rfl | trivial)) | exact Or.inr (by first | omega | assumption | rfl | trivial | exact ⟨by first | omega | assumption | rfl | trivial, by first | omega | assumption | rfl | trivial⟩ | exact Or.inl (by first | omega | assumption | rfl | trivial) | exact Or.inr (by first | omega | assumption | rfl | trivial))))] | rw [bf (by first | rfl | omega | assumption | ((try simp only [Bool.and_eq_true, Bool.or_eq_true, decide_eq_true_eq, decide_eq_false_iff_not, beq_iff_eq, bne_iff_ne, isU64_iff, List.length_append, List.length_cons, List.length_nil, nlB_false, nlO_some, List.isEmpty_cons, Bool.and_false, Bool.false_and, and_true, true_and, List.all_cons, List.all_nil, Bool.not_eq_true', Bool.not_eq_false', beq_eq_false_iff_ne, bne_eq_false_iff_eq, ne_eq]); first | omega | assumption | rfl | trivial | exact ⟨by first | omega | assumption | rfl | trivial | exact ⟨by first | omega | assumption | rfl | trivial, by first | omega | assumption | rfl | trivial⟩ | exact Or.inl (by first | omega | assumption | rfl | trivial) | exact Or.inr (by first | omega | assumption | rfl | trivial), by first | omega | assumption | rfl | trivial | exact ⟨by first | omega | assumption | rfl | trivial, by first | omega | assumption | rfl | trivial⟩ | exact Or.inl (by first | omega | assumption | rfl | trivial) | exact Or.inr (by first | omega | assumption | rfl | trivial)⟩ | exact ⟨by first | omega | assumption | rfl | trivial, by first | omega | assumption | rfl | trivial, by first | omega | assumption | rfl | trivial⟩ | exact ⟨by first | omega | assumption | rfl | trivial, by first | omega | assumption | rfl | trivial, by first | omega | assumption | rfl | trivial, by first | omega | assumption | rfl | trivial⟩ | exact ⟨by first | omega | assumption | rfl | trivial, by first | omega | assumption | rfl | trivial, by first | omega | assumption | rfl | trivial, by first | omega | assumption | rfl | trivial, by first | omega | assumption | rfl | trivial⟩ | exact ⟨by first | omega | assumption | rfl | trivial, by first | omega | assumption | rfl | trivial, by first | omega | assumption | rfl | trivial, by first | omega | assumption | rfl | trivial, by first | omega | assumption | rfl | trivial, by first | omega | assumption | rfl | trivial⟩ | exact ⟨by first | omega | assumption | rfl | trivial, by first | omega | assumption | rfl | trivial, by first | omega | assumption | rfl | trivial, by first | omega | assumption | rfl | trivial, by first | omega | assumption | rfl | trivial, by first | omega | assumption | rfl | trivial, by first | omega | assumption | rfl | trivial⟩ | exact Or.inl (by first | omega | assumption | rfl | trivial | exact ⟨by first | omega | assumption | rfl | trivial, by first | omega | assumption | rfl | trivial⟩ | exact Or.inl (by first | omega | assumption | rfl | trivial) | exact Or.inr (by first | omega | assumption | rfl | trivial)) | exact Or.inr (by first | omega | assumption | rfl | trivial | exact ⟨by first | omega | assumption | rfl | trivial, by first | omega | assumption | rfl | trivial⟩ | exact Or.inl (by first | omega | assumption | rfl | trivial) | exact Or.inr (by first | omega | assumption | rfl | trivial))))])
      rw [hA]
    · have c24 : k = 2 ∨ k = 4 := by omega
      have hE : encC (k, x, y, n, m, u, PUnit.unit) = k :: (txts [x] ++ nums []) := by rcases c24 with rfl | rfl <;> rfl
      have hL : (encC (k, x, y, n, m, u, PUnit.unit)).length = (txts [x]).length + (nums []).length + 1 := by rw [hE]; simp only [List.length_cons, List.length_append]
      have hA : b ++ [k] ++ txts [x] ++ nums [] = b ++ encC (k, x, y, n, m, u, PUnit.unit) := by rw [hE]; simp only [List.append_assoc, List.cons_append, List.nil_append]
      refine fin ⟨?_, fun k' => ?_⟩
      rotate_left
      rw [tree]
      iterate 8 (first | rw [bt (by first | rfl | omega | assumption | ((try simp only [Bool.and_eq_true, Bool.or_eq_true, decide_eq_true_eq, decide_eq_false_iff_not, beq_iff_eq, bne_iff_ne, isU64_iff, List.length_append, List.length_cons, List.length_nil, nlB_false, nlO_some, List.isEmpty_cons, Bool.and_false, Bool.false_and, and_true, true_and, List.all_cons, List.all_nil, Bool.not_eq_true', Bool.not_eq_false', beq_eq_false_iff_ne, bne_eq_false_iff_eq, ne_eq]); first | omega | assumption | rfl | trivial | exact ⟨by first | omega | assumption | rfl | trivial | exact ⟨by first | omega | assumption | rfl | trivial, by first | omega | assumption | rfl | trivial⟩ | exact Or.inl (by first | omega | assumption | rfl | trivial) | exact Or.inr (by first | omega | assumption | rfl | trivial), by first | omega | assumption | rfl | trivial | exact ⟨by first | omega | assumption | rfl | trivial, by first | omega | assumption | rfl | trivial⟩ | exact Or.inl (by first | omega | assumption | rfl | trivial) | exact Or.inr (by first | omega | assumption | rfl | trivial)⟩ | exact ⟨by first | omega | assumption | rfl | trivial, by first | omega | assumption | rfl | trivial, by first | omega | assumption | rfl | trivial⟩ | exact ⟨by first | omega | assumption | rfl | trivial, by first | omega | assumption | rfl | trivial, by first | omega | assumption | rfl | trivial, by first | omega | assumption | rfl | trivial⟩ | exact ⟨by first | omega | assumption | rfl | trivial, by first | omega | assumption | rfl | trivial, by first | omega | assumption | rfl | trivial, by first | omega | assumption | rfl | trivial, by first | omega | assumption | rfl | trivial⟩ | exact ⟨by first | omega | assumption | rfl | trivial, by first | omega | assumption | rfl | trivial, by first | omega | assumption | rfl | trivial, by first | omega | assumption | rfl | trivial, by first | omega | assumption | rfl | trivial, by first | omega | assumption | rfl | trivial⟩ | exact ⟨by first | omega | assumption | rfl | trivial, by first | omega | assumption | rfl | trivial, by first | omega | assumption | rfl | trivial, by first | omega | assumption | rfl | trivial, by first | omega | assumption | rfl | trivial, by first | omega | assumption | rfl | trivial, by first | omega | assumption | rfl | trivial⟩ | exact Or.inl (by first | omega | assumption | rfl | trivial | exact ⟨by first | omega | assumption | rfl | trivial, by first | omega | assumption | rfl | trivial⟩ | exact Or.inl (by first | omega | assumption | rfl | trivial) | exact Or.inr (by first | omega | assumption | rfl | trivial)) | exact Or.inr (by first | omega | assumption | rfl | trivial | exact ⟨by first | omega | assumption | rfl | trivial, by first | omega | assumption | rfl | trivial⟩ | exact Or.inl (by first | omega | assumption | rfl | trivial) | exact Or.inr (by first | omega | assumption | rfl | trivial))))] | rw [bf (by first | rfl | omega | assumption | ((try simp only [Bool.and_eq_true, Bool.or_eq_true, decide_eq_true_eq, decide_eq_false_iff_not, beq_iff_eq, bne_iff_ne, isU64_iff, List.length_append, List.length_cons, List.length_nil, nlB_false, nlO_some, List.isEmpty_cons, Bool.and_false, Bool.false_and, and_true, true_and, List.all_cons, List.all_nil, Bool.not_eq_true', Bool.not_eq_false', beq_eq_false_iff_ne, bne_eq_false_iff_eq, ne_eq]); first | omega | assumption | rfl | trivial | exact ⟨by first | omega | assumption | rfl | trivial | exact ⟨by first | omega | assumption | rfl | trivial, by first | omega | assumption | rfl | trivial⟩ | exact Or.inl (by first | omega | assumption | rfl | trivial) | exact Or.inr (by first | omega | assumption | rfl | trivial), by first | omega | assumption | rfl | trivial | exact ⟨by first | omega | assumption | rfl | trivial, by first | omega | assumption | rfl | trivial⟩ | exact Or.inl (by first | omega | assumption | rfl | trivial) | exact Or.inr (by first | omega | assumption | rfl | trivial)⟩ | exact ⟨by first | omega | assumption | rfl | trivial, by first | omega | assumption | rfl | trivial, by first | omega | assumption | rfl | trivial⟩ | exact ⟨by first | omega | assumption | rfl | trivial, by first | omega | assumption | rfl | trivial, by first | omega | assumption | rfl | trivial, by first | omega | assumption | rfl | trivial⟩ | exact ⟨by first | omega | assumption | rfl | trivial, by first | omega | assumption | rfl | trivial, by first | omega | assumption | rfl | trivial, by first | omega | assumption | rfl | trivial, by first | omega | assumption | rfl | trivial⟩ | exact ⟨by first | omega | assumption | rfl | trivial, by first | omega | assumption | rfl | trivial, by first | omega | assumption | rfl | trivial, by first | omega | assumption | rfl | trivial, by first | omega | assumption | rfl | trivial, by first | omega | assumption | rfl | trivial⟩ | exact ⟨by first | omega | assumption | rfl | trivial, by first | omega | assumption | rfl | trivial, by first | omega | assumption | rfl | trivial, by first | omega | assumption | rfl | trivial, by first | omega | assumption | rfl | trivial, by first | omega | assumption | rfl | trivial, by first | omega | assumption | rfl | trivial⟩ | exact Or.inl (by first | omega | assumption | rfl | trivial | exact ⟨by first | omega | assumption | rfl | trivial, by first | omega | assumption | rfl | trivial⟩ | exact Or.inl (by first | omega | assumption | rfl | trivial) | exact Or.inr (by first | omega | assumption | rfl | trivial)) | exact Or.inr (by first | omega | assumption | rfl | trivial | exact ⟨by first | omega | assumption | rfl | trivial, by first | omega | assumption | rfl | trivial⟩ | exact Or.inl (by first | omega | assumption | rfl | trivial) | exact Or.inr (by first | omega | assumption | rfl | trivial))))])
      rw [hA]

set_option maxRecDepth 20000 in
theorem write_ok : OrcOk Try.prog 10 (.pure (writeF Ar.real)) := by
  refine pureOk (Cx.ok o_sc3 (Lw Ar.real)) mixed 10 Try.f10 (by kernel_rfl) (by kernel_rfl) (by kernel_rfl) 100 3 (by kernel_rfl) (fun i h => ?_) fun args r h => ?_
  · have hi : i = 0 ∨ i = 1 ∨ i = 2 := by omega
    rcases hi with rfl | rfl | rfl
    · refine Tells.mk (key := 6) (N := 80) (ks := [4, 5, 6, 19, 20, 21]) (F := LwF Ar.real) (by kernel_rfl) rfl fun xs H r h => ?_
      unfold LwF at h
      split at h
      · rename_i l nl n i b nb ok
        obtain ⟨hg, hr⟩ := Tr.one h
        simp only [rw_se, Bool.and_eq_true, decide_eq_true_eq] at hg hr
        dsimp only [Ty.den] at hg
        obtain ⟨⟨h1, h2⟩, ⟨h3, h4, h5, h6, h7⟩, h8⟩ := hg
        obtain ⟨j, rfl⟩ := Int.eq_ofNat_of_zero_le h4
        subst h3
        simp only [Int.toNat_natCast] at hr h6
        exact loopWrite l nl ok h1 h2 h7 _ j b nb rfl (by omega) h6 h8 r hr.symm
      · cases h
    · refine Tells.mk (key := 11) (N := 80) (ks := [4, 5, 6, 8, 9, 19, 20, 21, 46, 47, 48]) (F := Lw2F Ar.real) (by kernel_rfl) rfl fun xs H r h => ?_
      unfold Lw2F at h
      split at h
      · rename_i l nl n i ts nts m j b nb ok e1 e2
        obtain ⟨hg, hr⟩ := Tr.one h
        simp only [rw_se, Bool.and_eq_true, decide_eq_true_eq] at hg hr
        dsimp only [Ty.den] at hg
        obtain ⟨⟨h3, h4, h5, h7, h6⟩, h8⟩ := hg
        obtain ⟨j, rfl⟩ := Int.eq_ofNat_of_zero_le h4
        subst h3
        simp only [Int.toNat_natCast] at hr h6
        exact loopW2 l nl n i ts nts ok e1 e2 _ j b nb rfl (by omega) (by omega) h6 h8 r hr.symm
      · cases h
    · refine Tells.mk (key := 16) (N := 80) (ks := [4, 5, 6, 19, 20, 21, 67, 68, 69]) (F := Lw3F Ar.real) (by kernel_rfl) rfl fun xs H r h => ?_
      unfold Lw3F at h
      split at h
      · rename_i l nl n i ts nts m j b nb ok e1 e2
        obtain ⟨hg, hr⟩ := Tr.one h
        simp only [rw_se, Bool.and_eq_true, decide_eq_true_eq] at hg hr
        dsimp only [Ty.den] at hg
        obtain ⟨hu, ⟨h3, h4, h5, h7, h6⟩, h8⟩ := hg
        obtain ⟨j, rfl⟩ := Int.eq_ofNat_of_zero_le h4
        subst h3
        simp only [Int.toNat_natCast] at hr h6
        exact loopW3 l nl n i ts nts ok e1 e2 hu _ j b nb rfl (by omega) (by omega) h6 h8 r hr.symm
      · cases h
  · unfold writeF at h
    split at h
    · rename_i l nl
      obtain ⟨hg, rfl⟩ := Tr.one h
      refine ⟨rfl, rfl, ?_⟩
      show Ends _ _
      simp only [rw_se, wl, Bool.and_eq_true, decide_eq_true_eq] at hg
      obtain ⟨h1, h2, h3⟩ := hg
      rw [tWrite]
      simp only [rw_se, drop0, List.nil_append, Bool.true_and]
      rw [bd (by omega)]
      cases hc : l.all checkC
      · rw [bt (by simp)]
        simp only [writeB, writeE, hc, cond_false, cond_true]
        exact Ends_some.2 rfl
      · rw [bf (by simp), bt (by simp [h1, nlB]; omega)]
        simp only [writeB, writeE, hc, cond_false, cond_true, encs_isEmpty]
        exact Ends_some.2 rfl
    · cases h

end Go.Proofs.Ytgickaihlebgmaa.V

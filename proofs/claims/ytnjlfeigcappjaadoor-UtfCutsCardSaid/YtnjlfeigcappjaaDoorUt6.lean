/-
  Chapter 01, utf: puts and takes do what they tell.
  It speaks of the pinned program alone; no condition.
-/
import Derived.Test.YtnjlfeigcappjaaDoorUt5
namespace Go.Proofs.YtnjlfeigcappjaaDoor.V
open Go
set_option linter.unusedVariables false
set_option linter.unusedSimpArgs false

theorem ups_nil : ups ([] : List Int) = [] := rfl
theorem ub_ne (n : Int) : (ub n).isEmpty = false := by
  have := ub_pos n
  cases h : ub n with
  | nil => rw [h] at this; simp at this
  | cons _ _ => rfl
theorem ub_le4 (n : Int) : (ub n).length ≤ 4 := by
  rw [ub_len]; split
  · omega
  · split
    · omega
    · split <;> omega

def resP (out l : List Int) (nl : Bool) (pre post : List X) : Ex × List X × Hp :=
  bif l.all goodN then (.exit 0, pre ++ .dead :: .dead :: u8s (out ++ ups l) (some (nl && (ups l).isEmpty)) true :: post, [])
  else (.ret, pre ++ u8s [] (some true) true :: i64x 10 :: .dead :: post, [])
theorem resP_nil (out : List Int) (nl : Bool) (pre post : List X) : resP out [] nl pre post = (.exit 0, pre ++ .dead :: .dead :: u8s out (some nl) true :: post, []) := by
  simp [resP, ups_nil]
theorem resP_bad {c : Int} {l : List Int} (h : goodN c = false) (out : List Int) (nl : Bool) (pre post : List X) : resP out (c :: l) nl pre post = (.ret, pre ++ u8s [] (some true) true :: i64x 10 :: .dead :: post, []) := by
  simp [resP, h]
theorem resP_good {c : Int} {l : List Int} (h : goodN c = true) (out : List Int) (nl : Bool) (pre post : List X) : resP out (c :: l) nl pre post = resP (out ++ ub c) l false pre post := by
  unfold resP
  have e : (ub c ++ ups l).isEmpty = false := by
    have := ub_ne c
    cases h : ub c with
    | nil => rw [h] at this; cases this
    | cons _ _ => rfl
  rw [List.all_cons, h, Bool.true_and, ups_cons, e, List.append_assoc, Bool.and_false, Bool.false_and]

theorem loopUPut (l : List Int) (nl2 : Option Bool) (hl : l.length ≤ 17592186044416) : ∀ (q i : Nat) (z : Int) (out : List Int) (nl : Bool), l.length - i = q → i ≤ l.length → out.length ≤ 4 * i →
    LoopTo (Cx Ar.real (Out3 Ar.real) (LuPut Ar.real)) 100 (loopAt Tryd.f11 0) 22 [2, 3, 4, 7, 8, 9] [u8s [] (some true) true, i64x z, u8s out (some nl) true, i64s l nl2 false, i64x l.length, i64x i] [] (resP out (l.drop i) nl [] [.dead, .dead, .dead]) := by
  intro q
  induction q with
  | zero =>
    intro i z out nl h1 h2 h3
    have e1 : l.drop i = [] := by rw [List.drop_eq_nil_iff]; omega
    rw [e1, resP_nil]
    refine LoopTo.left (by simp) fun k => ?_
    rw [lUPut, bf (by rw [decide_eq_false_iff_not]; omega)]
    refine ⟨_, rfl, ?_⟩
    repeat' first | exact Forget.same _ | refine Forget.cons (.inl rfl) ?_ | refine Forget.cons (.inr rfl) ?_
  | succ q ih =>
    intro i z out nl h1 h2 h3
    have hi : i < l.length := by omega
    rw [drop_cons hi]
    have a1 : decide ((i : Int) < (l.length : Int)) = true := by rw [decide_eq_true_eq]; omega
    have a2 : decide ((0 : Int) ≤ (i : Int) ∧ (i : Int) < (l.length : Int)) = true := by rw [decide_eq_true_eq]; omega
    cases hg : goodN (l.getD i 0) with
    | false =>
      rw [resP_bad hg]
      refine LoopTo.left (by simp) fun k => ?_
      rw [lUPut, bt a1, bt a2, bt (by rw [rw_se, Int.toNat_natCast, hg]; rfl)]
      refine ⟨_, rfl, ?_⟩
      repeat' first | exact Forget.same _ | refine Forget.cons (.inl rfl) ?_ | refine Forget.cons (.inr rfl) ?_
    | true =>
      rw [resP_good hg]
      have hg' := goodN_iff.1 hg
      have w : Ar.real.wrap .i32 (l.getD i 0) = l.getD i 0 := by rw [rw_wrap, wi32 (by omega) (by omega)]
      have w2 : Ar.real.wrap .i64 ((i : Int) + 1) = ((i + 1 : Nat) : Int) := by rw [rw_wrap, wi64 (by omega) (by omega)]; omega
      refine LoopTo.next (fun k => ?_) (ih (i + 1) z (out ++ ub (l.getD i 0)) false (by omega) (by omega) (by have := ub_le4 (l.getD i 0); rw [List.length_append]; omega))
      rw [lUPut, bt a1, bt a2]
      simp only [Int.toNat_natCast, w, w2, rw_se]
      rw [bf (by rw [hg]; rfl), bt (by rw [hg, Bool.true_and, decide_eq_true_eq]; omega)]

theorem loopRPut (l : List Int) (nl2 : Option Bool) (hl : l.length ≤ 17592186044416) : ∀ (q i : Nat) (z : Int) (out : List Int) (nl : Bool), l.length - i = q → i ≤ l.length → out.length ≤ 4 * i →
    LoopTo (Cx Ar.real (Out3 Ar.real) (LrPut Ar.real)) 100 (loopAt Tryd.f12 0) 26 [0, 2, 3, 4, 5] [i64s l nl2 false, u8s [] (some true) true, i64x z, u8s out (some nl) true, i64x i] [] (resP out (l.drop i) nl [.dead] [.dead]) := by
  intro q
  induction q with
  | zero =>
    intro i z out nl h1 h2 h3
    have e1 : l.drop i = [] := by rw [List.drop_eq_nil_iff]; omega
    rw [e1, resP_nil]
    refine LoopTo.left (by simp) fun k => ?_
    rw [lRPut, bf (by rw [decide_eq_false_iff_not]; omega)]
    refine ⟨_, rfl, ?_⟩
    repeat' first | exact Forget.same _ | refine Forget.cons (.inl rfl) ?_ | refine Forget.cons (.inr rfl) ?_
  | succ q ih =>
    intro i z out nl h1 h2 h3
    have hi : i < l.length := by omega
    rw [drop_cons hi]
    have a1 : decide ((i : Int) < (l.length : Int)) = true := by rw [decide_eq_true_eq]; omega
    have a2 : decide ((0 : Int) ≤ (i : Int) ∧ (i : Int) < (l.length : Int)) = true := by rw [decide_eq_true_eq]; omega
    cases hg : goodN (l.getD i 0) with
    | false =>
      rw [resP_bad hg]
      refine LoopTo.left (by simp) fun k => ?_
      rw [lRPut, bt a1, bt a2, bt (by rw [rw_se, Int.toNat_natCast, hg]; rfl)]
      refine ⟨_, rfl, ?_⟩
      repeat' first | exact Forget.same _ | refine Forget.cons (.inl rfl) ?_ | refine Forget.cons (.inr rfl) ?_
    | true =>
      rw [resP_good hg]
      have w2 : Ar.real.wrap .i64 ((i : Int) + 1) = ((i + 1 : Nat) : Int) := by rw [rw_wrap, wi64 (by omega) (by omega)]; omega
      have hb := ub_le4 (l.getD i 0)
      refine LoopTo.next (fun k => ?_) (ih (i + 1) z (out ++ ub (l.getD i 0)) false (by omega) (by omega) (by rw [List.length_append]; omega))
      rw [lRPut, bt a1, bt a2]
      simp only [Int.toNat_natCast, w2, rw_se]
      rw [bf (by rw [hg]; rfl), bt a2, bt hg, bt (by rw [decide_eq_true_eq]; omega), ub_ne, Bool.and_false]

theorem uput_ok : OrcOk Tryd.prog 11 (.pure (uputF Ar.real)) := by
  refine pureOk (Cx.ok o_ut3 (LuPut Ar.real)) mixed 11 Tryd.f11 (by kernel_rfl) (by kernel_rfl) (by kernel_rfl) 100 1 (by kernel_rfl) (fun i h => ?_) fun args r h => ?_
  · obtain rfl : i = 0 := by omega
    refine Tells.mk (key := 3) (N := 22) (ks := [2, 3, 4, 7, 8, 9]) (F := LuPutF Ar.real) (by kernel_rfl) rfl fun xs H r h => ?_
    unfold LuPutF at h
    split at h
    · rename_i z out nl l nl2 n i
      replace h : (Tr.test (gPut l out i && decide (n = (l.length : Int))) (.test ((l.drop i.toNat).all goodN) _ _) .no).run some = some r := h
      have hg : (gPut l out i && decide (n = (l.length : Int))) = true := by
        cases hc : (gPut l out i && decide (n = (l.length : Int)))
        · rw [hc] at h; cases h
        · rfl
      rw [hg] at h
      simp only [gPut, Bool.and_eq_true, decide_eq_true_eq] at hg
      obtain ⟨⟨g1, g2, g3, g4⟩, rfl⟩ := hg
      obtain ⟨m, rfl⟩ := Int.eq_ofNat_of_zero_le g2
      have key := loopUPut l nl2 g1 _ m z out nl rfl (by omega) (by omega)
      rw [Int.toNat_natCast] at h
      unfold resP at key
      cases ha : (l.drop m).all goodN <;> rw [ha] at h key
      · cases h; exact key
      · cases h; exact key
    · cases h
  · unfold uputF at h
    split at h
    · rename_i l nl
      obtain ⟨hg, rfl⟩ := Tr.one h
      replace hg : l.length ≤ 17592186044416 := of_decide_eq_true hg
      refine ⟨rfl, rfl, [], ?_⟩
      rw [tUPut, bt (by simp only [rw_se, gPut, Bool.and_eq_true, decide_eq_true_eq]; refine ⟨⟨hg, ?_⟩, trivial⟩; simp)]
      simp only [rw_se, show Int.toNat 0 = 0 from rfl, List.drop_zero, List.nil_append, Bool.true_and, putL, putE]
      cases ha : l.all goodN <;> rfl
    · cases h

theorem rput_ok : OrcOk Tryd.prog 12 (.pure (uputF Ar.real)) := by
  refine pureOk (Cx.ok o_ut3 (LrPut Ar.real)) mixed 12 Tryd.f12 (by kernel_rfl) (by kernel_rfl) (by kernel_rfl) 100 1 (by kernel_rfl) (fun i h => ?_) fun args r h => ?_
  · obtain rfl : i = 0 := by omega
    refine Tells.mk (key := 3) (N := 26) (ks := [0, 2, 3, 4, 5]) (F := LrPutF Ar.real) (by kernel_rfl) rfl fun xs H r h => ?_
    unfold LrPutF at h
    split at h
    · rename_i l nl2 z out nl i
      replace h : (Tr.test (gPut l out i) (.test ((l.drop i.toNat).all goodN) _ _) .no).run some = some r := h
      have hg : gPut l out i = true := by
        cases hc : gPut l out i
        · rw [hc] at h; cases h
        · rfl
      rw [hg] at h
      simp only [gPut, decide_eq_true_eq] at hg
      obtain ⟨g1, g2, g3, g4⟩ := hg
      obtain ⟨m, rfl⟩ := Int.eq_ofNat_of_zero_le g2
      have key := loopRPut l nl2 g1 _ m z out nl rfl (by omega) (by omega)
      rw [Int.toNat_natCast] at h
      unfold resP at key
      cases ha : (l.drop m).all goodN <;> rw [ha] at h key
      · cases h; exact key
      · cases h; exact key
    · cases h
  · unfold uputF at h
    split at h
    · rename_i l nl
      obtain ⟨hg, rfl⟩ := Tr.one h
      replace hg : l.length ≤ 17592186044416 := of_decide_eq_true hg
      refine ⟨rfl, rfl, [], ?_⟩
      rw [tRPut, bt (by simp only [rw_se, gPut, decide_eq_true_eq]; refine ⟨hg, ?_⟩; simp)]
      simp only [rw_se, show Int.toNat 0 = 0 from rfl, List.drop_zero, List.nil_append, Bool.true_and, putL, putE]
      cases ha : l.all goodN <;> rfl
    · cases h

theorem o_ut4 : OOk (Out4 Ar.real) := (o_ut3.add uput_ok).add rput_ok

end Go.Proofs.YtnjlfeigcappjaaDoor.V

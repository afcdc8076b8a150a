/-
  Chapter 09, word lists: the small functions do what they tell.
  It speaks of the pinned program alone; no condition.
-/
import Derived.Test.YtaefpopjlmhmoaaDoorWo1
namespace Go.Proofs.YtaefpopjlmhmoaaDoor.V
open Go
set_option linter.unusedVariables false
set_option linter.unusedSimpArgs false

theorem idxG_ge {α : Type} (p : α → Bool) : ∀ l : List α, -1 ≤ idxG p l
  | [] => by simp [idxG]
  | x :: l => by
    have := idxG_ge p l
    simp only [idxG]
    cases p x
    · cases h : (idxG p l == -1)
      · simp only [cond_false]; omega
      · simp
    · simp
theorem idxG_at {α : Type} {p : α → Bool} {x : α} (l : List α) (h : p x = true) : idxG p (x :: l) = 0 := by simp [idxG, h]
theorem idxG_on {α : Type} {p : α → Bool} {x : α} (l : List α) (h : p x = false) : idxG p (x :: l) = if idxG p l < 0 then -1 else idxG p l + 1 := by
  have := idxG_ge p l
  simp only [idxG, h, cond_false]
  by_cases h1 : idxG p l < 0
  · have : idxG p l = -1 := by omega
    simp [this]
  · have h2 : (idxG p l == -1) = false := by rw [beq_eq_false_iff_ne]; omega
    rw [h2, if_neg h1]; rfl
theorem idxG_any {α : Type} (p : α → Bool) : ∀ l : List α, decide (idxG p l ≥ 0) = l.any p
  | [] => by simp [idxG]
  | x :: l => by
    have ih := idxG_any p l
    cases h : p x with
    | true => rw [idxG_at l h]; simp [h]
    | false =>
      rw [idxG_on l h, List.any_cons, h, Bool.false_or, ← ih]
      by_cases h1 : idxG p l < 0
      · rw [if_pos h1]
        have h2 : ¬ idxG p l ≥ 0 := by omega
        simp [h2]
      · rw [if_neg h1]
        have h2 : idxG p l ≥ 0 := by omega
        have h3 : idxG p l + 1 ≥ 0 := by omega
        simp [h2, h3]

theorem ltL_dec (a b : List Int) : R.ltL a b = decide (R.cmpL a b < 0) := rfl

theorem ow1 : OOk (Ow1 Ar.real) := (((OOk.none.add U.good_ok).add U.uput_ok).add (U.uread_ok U.o_ut8)).add L.fields_ok
theorem ow2 : OOk (Ow2 Ar.real) := (((ow1.add L.split_ok).add L.bare_ok).add R.sort_ok).add R.find_ok

theorem fit1_ok : OrcOk Tryd.prog 40 (.pure (fit1F Ar.real)) := by
  refine pureOk (Cx.ok ow2 noL) mixed 40 Tryd.f40 (by kernel_rfl) (by kernel_rfl) (by kernel_rfl) 100 0 (by kernel_rfl) (fun i h => by omega) fun args r h => ?_
  unfold fit1F at h
  split at h
  · rename_i n
    simp only [Tr.run, Option.some.injEq] at h
    subst h
    refine ⟨rfl, rfl, [], ?_⟩
    rw [tFit1]
    simp only [rw_se, wrongB]
    cases h1 : U.goodN n
    · rfl
    · rw [bt (c := (!true) == false) rfl]
      cases h2 : (n == 32)
      · rw [bt (c := false == false) rfl]
        cases h3 : (n == 9)
        · rw [bt (c := false == false) rfl]; rfl
        · rw [bf (c := true == false) rfl]; rfl
      · rw [bf (c := true == false) rfl]; rfl
  · cases h

theorem ow3 : OOk (Ow3 Ar.real) := ((ow2.add R.cmp_ok).add ins_ok).add fit1_ok

theorem loopIdxW (w : List Int) (nl : Option Bool) (z : Int) (hw : w.length ≤ 1000000) : ∀ (n i : Nat), w.length - i = n → i ≤ w.length →
    LoopTo (Cx Ar.real (Ow3 Ar.real) (LidxW Ar.real)) 100 (loopAt Tryd.f67 0) 19 [0, 1, 4, 7, 8] [i64s w nl false, .fn 40 [] [], i64x z, i64x (w.length : Int), i64x (i : Int)] []
      (bif decide (idxG wrongB (w.drop i) < 0) then (.exit 0, [.dead, .dead, .dead, .dead, .dead], []) else (.ret, [.dead, .dead, i64x ((i : Int) + idxG wrongB (w.drop i)), .dead, .dead], [])) := by
  intro n
  induction n with
  | zero =>
    intro i h1 h2
    rw [List.drop_eq_nil_iff.2 (by omega), bt (by simp [idxG])]
    refine LoopTo.left (by simp) fun k => ?_
    rw [lIdxW, bf (by rw [decide_eq_false_iff_not]; omega)]
    exact ⟨_, rfl, R.fd (R.fd (R.fd (R.fd (R.fd (Forget.same _)))))⟩
  | succ n ih =>
    intro i h1 h2
    have hi : i < w.length := by omega
    rw [R.dropG (0 : Int) hi]
    cases hp : wrongB (w.getD i 0) with
    | true =>
      rw [idxG_at _ hp, bf (by simp), Int.add_zero]
      refine LoopTo.left (by simp) fun k => ?_
      rw [lIdxW]
      simp only [Int.toNat_natCast, rw_se]
      rw [bt (by rw [decide_eq_true_eq]; omega), bt (by rw [decide_eq_true_eq]; omega), bt hp]
      exact ⟨_, rfl, R.fd (R.fd (R.fk (R.fd (R.fd (Forget.same _)))))⟩
    | false =>
      have hge := idxG_ge wrongB (w.drop (i + 1))
      have e : (bif decide (idxG wrongB (w.getD i 0 :: w.drop (i + 1)) < 0) then ((Ex.exit 0, [X.dead, .dead, .dead, .dead, .dead], []) : Ex × List X × Hp) else (.ret, [.dead, .dead, i64x ((i : Int) + idxG wrongB (w.getD i 0 :: w.drop (i + 1))), .dead, .dead], [])) =
          bif decide (idxG wrongB (w.drop (i + 1)) < 0) then (.exit 0, [.dead, .dead, .dead, .dead, .dead], []) else (.ret, [.dead, .dead, i64x (((i + 1 : Nat) : Int) + idxG wrongB (w.drop (i + 1))), .dead, .dead], []) := by
        rw [idxG_on _ hp]
        by_cases h : idxG wrongB (w.drop (i + 1)) < 0
        · rw [if_pos h, bt (by simp), bt (decide_eq_true h)]
        · rw [if_neg h, bf (by rw [decide_eq_false_iff_not]; omega), bf (decide_eq_false h), show (i : Int) + (idxG wrongB (w.drop (i + 1)) + 1) = ((i + 1 : Nat) : Int) + idxG wrongB (w.drop (i + 1)) by omega]
      rw [e]
      refine LoopTo.next (fun k => ?_) (ih (i + 1) (by omega) (by omega))
      rw [lIdxW]
      simp only [Int.toNat_natCast, rw_se, R.wi1 (show i ≤ 9000000000000000000 by omega)]
      rw [bt (by rw [decide_eq_true_eq]; omega), bt (by rw [decide_eq_true_eq]; omega), bf hp]

theorem idxW_ok : OrcOk Tryd.prog 67 (.pure (idxWF Ar.real)) := by
  refine pureOk (Cx.ok ow3 (LidxW Ar.real)) mixed 67 Tryd.f67 (by kernel_rfl) (by kernel_rfl) (by kernel_rfl) 100 1 (by kernel_rfl) (fun i h => ?_) fun args r h => ?_
  · obtain rfl : i = 0 := by omega
    refine Tells.mk (key := 2) (N := 19) (ks := [0, 1, 4, 7, 8]) (F := LidxWF Ar.real) (by kernel_rfl) rfl fun xs H r h => ?_
    unfold LidxWF at h
    split at h
    · rename_i w nl z l i
      obtain ⟨hg, rfl⟩ := R.Tr.two h
      simp only [rw_se, decide_eq_true_eq] at hg ⊢
      dsimp only [Ty.den] at hg
      obtain ⟨h1, h2, h3, h4⟩ := hg
      obtain ⟨m, rfl⟩ := Int.eq_ofNat_of_zero_le h3
      subst h2
      simp only [Int.toNat_natCast]
      exact loopIdxW w nl z h1 _ m rfl (by omega)
    · cases h
  · unfold idxWF at h
    split at h
    · rename_i w nl
      obtain ⟨hg, rfl⟩ := Tr.one h
      refine ⟨rfl, rfl, [], ?_⟩
      rw [tIdxW]
      simp only [rw_se, decide_eq_true_eq, show Int.toNat 0 = 0 from rfl, List.drop_zero] at hg ⊢
      rw [bt (by rw [decide_eq_true_eq]; exact ⟨hg, trivial, by omega, by omega⟩)]
      have hge := idxG_ge wrongB w
      by_cases he : idxG wrongB w < 0
      · rw [bt (decide_eq_true he), show idxG wrongB w = -1 by omega]
      · rw [bf (decide_eq_false he), Int.zero_add]
    · cases h

theorem wr2_ok : OrcOk Tryd.prog 35 (.pure (wr2F Ar.real)) := by
  refine pureOk (Cx.ok ow3 noL) mixed 35 Tryd.f35 (by kernel_rfl) (by kernel_rfl) (by kernel_rfl) 100 0 (by kernel_rfl) (fun i h => by omega) fun args r h => ?_
  unfold wr2F at h
  split at h
  · rename_i a na b nb
    obtain ⟨hg, rfl⟩ := Tr.one h
    refine ⟨rfl, rfl, [], ?_⟩
    rw [tWr2, bt hg]
  · cases h

theorem ow4 : OOk (Ow4 Ar.real) := (ow3.add idxW_ok).add wr2_ok

theorem ct_ok : OrcOk Tryd.prog 42 (.pure (ctF Ar.real)) := by
  refine pureOk (Cx.ok ow4 noL) mixed 42 Tryd.f42 (by kernel_rfl) (by kernel_rfl) (by kernel_rfl) 100 0 (by kernel_rfl) (fun i h => by omega) fun args r h => ?_
  unfold ctF at h
  split at h
  · rename_i w nl
    obtain ⟨hg, rfl⟩ := Tr.one h
    refine ⟨rfl, rfl, [], ?_⟩
    rw [tCt, bt hg]
    simp only [rw_se]
    rw [idxG_any]
  · cases h

theorem short_at {l : List (List Int)} (h : R.shortB l = true) {i : Nat} (hi : i < l.length) : (l.getD i (Ty.zero wTy)).length ≤ 1000 := by
  unfold R.shortB at h
  have := List.all_eq_true.1 h _ (R.memG (Ty.zero wTy) hi)
  simpa using this

theorem loopIsS (l : List (List Int)) (nl : Option Bool) (z : Bool) (hl : l.length ≤ 1000000) (hs : R.shortB l = true) : ∀ i : Nat, i < l.length →
    LoopTo (Cx Ar.real (Ow4 Ar.real) (LisS Ar.real)) 100 (loopAt Tryd.f34 0) 25 [0, 1, 4, 5] [.sl wTy l nl false, .fn 35 [] [], boolx z, i64x (i : Int)] []
      (bif srtdTo l i then (.exit 0, [.dead, .dead, .dead, .dead], []) else (.ret, [.dead, .dead, boolx false, .dead], [])) := by
  intro i
  induction i with
  | zero =>
    intro h2
    rw [bt (c := srtdTo l 0) rfl]
    refine LoopTo.left (by simp) fun k => ?_
    rw [lIsS, bf (by rw [decide_eq_false_iff_not]; omega)]
    exact ⟨_, rfl, R.fd (R.fd (R.fd (R.fd (Forget.same _))))⟩
  | succ i ih =>
    intro h2
    have hw : Ar.real.wrap .i64 (((i + 1 : Nat) : Int) - 1) = (i : Int) := by rw [rw_wrap, wi64 (by omega) (by omega)]; omega
    have e0 : ∀ j, l.getD j (Ty.zero wTy) = l.getD j [] := fun _ => rfl
    have ha := short_at hs h2
    have hb := short_at hs (show i < l.length by omega)
    have step : ∀ (k : Ex → List X → Hp → Option (Ex × List X × Hp)), stepF (Cx Ar.real (Ow4 Ar.real) (LisS Ar.real)) 100 (loopAt Tryd.f34 0) 25 [0, 1, 4, 5] [.sl wTy l nl false, .fn 35 [] [], boolx z, i64x ((i + 1 : Nat) : Int)] [] k =
        bif R.ltL (l.getD (i + 1) []) (l.getD i []) then k .ret [.sl wTy l nl false, .fn 35 [] [], boolx false, i64x ((i + 1 : Nat) : Int)] [] else k .normal [.sl wTy l nl false, .fn 35 [] [], boolx z, i64x (i : Int)] [] := by
      intro k
      rw [lIsS]
      simp only [hw, Int.toNat_natCast, rw_se]
      rw [bt (by rw [decide_eq_true_eq]; omega), bt (by rw [decide_eq_true_eq]; omega), bt (by rw [decide_eq_true_eq]; omega), bt (decide_eq_true ⟨Nat.le_trans ha (by omega), Nat.le_trans hb (by omega)⟩), ltL_dec]
      rfl
    cases hc : R.ltL (l.getD (i + 1) []) (l.getD i []) with
    | true =>
      have e : srtdTo l (i + 1) = false := by simp only [srtdTo, hc]; rfl
      rw [e, cond_false]
      refine LoopTo.left (by simp) fun k => ?_
      rw [step, bt hc]
      exact ⟨_, rfl, R.fd (R.fd (R.fk (R.fd (Forget.same _))))⟩
    | false =>
      have e : srtdTo l (i + 1) = srtdTo l i := by simp only [srtdTo, hc]; rfl
      rw [e]
      refine LoopTo.next (fun k => ?_) (ih (by omega))
      rw [step, bf hc]

theorem isS_ok : OrcOk Tryd.prog 34 (.pure (isSF Ar.real)) := by
  refine pureOk (Cx.ok ow4 (LisS Ar.real)) mixed 34 Tryd.f34 (by kernel_rfl) (by kernel_rfl) (by kernel_rfl) 100 1 (by kernel_rfl) (fun i h => ?_) fun args r h => ?_
  · obtain rfl : i = 0 := by omega
    refine Tells.mk (key := 2) (N := 25) (ks := [0, 1, 4, 5]) (F := LisSF Ar.real) (by kernel_rfl) rfl fun xs H r h => ?_
    unfold LisSF at h
    split at h
    · rename_i l nl z i
      obtain ⟨hg, rfl⟩ := R.Tr.two h
      simp only [rw_se, Bool.and_eq_true, decide_eq_true_eq] at hg ⊢
      dsimp only [Ty.den] at hg
      obtain ⟨⟨h1, h2, h3⟩, h4⟩ := hg
      by_cases hi : @LE.le Int _ 0 i
      · obtain ⟨m, rfl⟩ := Int.eq_ofNat_of_zero_le hi
        simp only [Int.toNat_natCast]
        exact loopIsS l nl z h1 h4 m (by omega)
      · have hi' : @LT.lt Int _ i 0 := Int.not_le.1 hi
        have h0 : Int.toNat i = 0 := Int.toNat_of_nonpos (Int.le_of_lt hi')
        rw [h0, bt (c := srtdTo l 0) rfl]
        refine LoopTo.left (by simp) fun k => ?_
        rw [lIsS, bf (by rw [decide_eq_false_iff_not]; exact fun h => Int.lt_irrefl _ (Int.lt_trans hi' h))]
        exact ⟨_, rfl, R.fd (R.fd (R.fd (R.fd (Forget.same _))))⟩
    · cases h
  · unfold isSF at h
    split at h
    · rename_i l nl
      obtain ⟨hg, rfl⟩ := Tr.one h
      refine ⟨rfl, rfl, [], ?_⟩
      rw [tIsS]
      simp only [rw_se, Bool.and_eq_true, decide_eq_true_eq] at hg ⊢
      have hw : Ar.real.wrap .i64 ((l.length : Int) - 1) = (l.length : Int) - 1 := by rw [rw_wrap, wi64 (by omega) (by omega)]
      have h0 : ((l.length : Int) - 1).toNat = l.length - 1 := by omega
      rw [hw, h0, bt (by rw [Bool.and_eq_true, decide_eq_true_eq]; exact ⟨⟨hg.1, by omega, by omega⟩, hg.2⟩)]
      unfold sortB
      cases srtdTo l (l.length - 1) <;> rfl
    · cases h

theorem ow5 : OOk (Ow5 Ar.real) := (ow4.add ct_ok).add isS_ok

theorem fit_ok : OrcOk Tryd.prog 15 (.pure (fitF Ar.real)) := by
  refine pureOk (Cx.ok ow5 noL) mixed 15 Tryd.f15 (by kernel_rfl) (by kernel_rfl) (by kernel_rfl) 100 0 (by kernel_rfl) (fun i h => by omega) fun args r h => ?_
  unfold fitF at h
  split at h
  · rename_i w nl
    obtain ⟨hg, rfl⟩ := Tr.one h
    refine ⟨rfl, rfl, [], ?_⟩
    rw [tFit]
    simp only [rw_se, decide_eq_true_eq, show Int.toNat 0 = 0 from rfl, fitB] at hg ⊢
    by_cases h1 : 1 ≤ w.length
    · rw [bt (by rw [decide_eq_true (show (w.length : Int) > 0 by omega)]; rfl)]
      by_cases h2 : w.length ≤ 20
      · rw [bt (by rw [decide_eq_true (show (w.length : Int) ≤ 20 by omega)]; rfl), bt (by rw [decide_eq_true_eq]; omega), decide_eq_true (show 1 ≤ w.length ∧ w.length ≤ 20 from ⟨h1, h2⟩), Bool.true_and]
        cases h3 : (w.getD 0 0 == 35)
        · rw [bt (by rw [bne, h3]; rfl), bt (decide_eq_true hg)]; rfl
        · rw [bf (by rw [bne, h3]; rfl)]; rfl
      · rw [bf (by rw [decide_eq_false (show ¬ (w.length : Int) ≤ 20 by omega)]; rfl), decide_eq_false (fun h => h2 h.2)]; rfl
    · rw [bf (by rw [decide_eq_false (show ¬ (w.length : Int) > 0 by omega)]; rfl), decide_eq_false (fun h => h1 h.1)]; rfl
  · cases h

theorem ow6 : OOk (Ow6 Ar.real) := ow5.add fit_ok

theorem wr1_ok : OrcOk Tryd.prog 32 (.pure (wr1F Ar.real)) := by
  refine pureOk (Cx.ok ow6 noL) mixed 32 Tryd.f32 (by kernel_rfl) (by kernel_rfl) (by kernel_rfl) 100 0 (by kernel_rfl) (fun i h => by omega) fun args r h => ?_
  unfold wr1F at h
  split at h
  · rename_i w nl
    obtain ⟨hg, rfl⟩ := Tr.one h
    refine ⟨rfl, rfl, [], ?_⟩
    rw [tWr1, bt hg]
    rfl
  · cases h

theorem ow7 : OOk (Ow7 Ar.real) := ow6.add wr1_ok

theorem loopIdxWW (w : List (List Int)) (nl : Option Bool) (z : Int) (hw : w.length ≤ 1000000) (hs : R.shortB w = true) : ∀ (n i : Nat), w.length - i = n → i ≤ w.length →
    LoopTo (Cx Ar.real (Ow7 Ar.real) (LidxWW Ar.real)) 100 (loopAt Tryd.f62 0) 19 [0, 1, 4, 7, 8] [.sl wTy w nl false, .fn 32 [] [], i64x z, i64x (w.length : Int), i64x (i : Int)] []
      (bif decide (idxG badB (w.drop i) < 0) then (.exit 0, [.dead, .dead, .dead, .dead, .dead], []) else (.ret, [.dead, .dead, i64x ((i : Int) + idxG badB (w.drop i)), .dead, .dead], [])) := by
  intro n
  induction n with
  | zero =>
    intro i h1 h2
    rw [List.drop_eq_nil_iff.2 (by omega), bt (by simp [idxG])]
    refine LoopTo.left (by simp) fun k => ?_
    rw [lIdxWW, bf (by rw [decide_eq_false_iff_not]; omega)]
    exact ⟨_, rfl, R.fd (R.fd (R.fd (R.fd (R.fd (Forget.same _)))))⟩
  | succ n ih =>
    intro i h1 h2
    have hi : i < w.length := by omega
    have hx := short_at hs hi
    rw [R.dropG (Ty.zero wTy) hi]
    cases hp : badB (w.getD i (Ty.zero wTy)) with
    | true =>
      rw [idxG_at _ hp, bf (by simp), Int.add_zero]
      refine LoopTo.left (by simp) fun k => ?_
      rw [lIdxWW]
      simp only [Int.toNat_natCast, rw_se]
      rw [bt (by rw [decide_eq_true_eq]; omega), bt (by rw [decide_eq_true_eq]; omega), bt (decide_eq_true (Nat.le_trans hx (by omega))), bt hp]
      exact ⟨_, rfl, R.fd (R.fd (R.fk (R.fd (R.fd (Forget.same _)))))⟩
    | false =>
      have hge := idxG_ge badB (w.drop (i + 1))
      have e : (bif decide (idxG badB (w.getD i (Ty.zero wTy) :: w.drop (i + 1)) < 0) then ((Ex.exit 0, [X.dead, .dead, .dead, .dead, .dead], []) : Ex × List X × Hp) else (.ret, [.dead, .dead, i64x ((i : Int) + idxG badB (w.getD i (Ty.zero wTy) :: w.drop (i + 1))), .dead, .dead], [])) =
          bif decide (idxG badB (w.drop (i + 1)) < 0) then (.exit 0, [.dead, .dead, .dead, .dead, .dead], []) else (.ret, [.dead, .dead, i64x (((i + 1 : Nat) : Int) + idxG badB (w.drop (i + 1))), .dead, .dead], []) := by
        rw [idxG_on _ hp]
        by_cases h : idxG badB (w.drop (i + 1)) < 0
        · rw [if_pos h, bt (by simp), bt (decide_eq_true h)]
        · rw [if_neg h, bf (by rw [decide_eq_false_iff_not]; omega), bf (decide_eq_false h), show (i : Int) + (idxG badB (w.drop (i + 1)) + 1) = ((i + 1 : Nat) : Int) + idxG badB (w.drop (i + 1)) by omega]
      rw [e]
      refine LoopTo.next (fun k => ?_) (ih (i + 1) (by omega) (by omega))
      rw [lIdxWW]
      simp only [Int.toNat_natCast, rw_se, R.wi1 (show i ≤ 9000000000000000000 by omega)]
      rw [bt (by rw [decide_eq_true_eq]; omega), bt (by rw [decide_eq_true_eq]; omega), bt (decide_eq_true (Nat.le_trans hx (by omega))), bf hp]

theorem idxWW_ok : OrcOk Tryd.prog 62 (.pure (idxWWF Ar.real)) := by
  refine pureOk (Cx.ok ow7 (LidxWW Ar.real)) mixed 62 Tryd.f62 (by kernel_rfl) (by kernel_rfl) (by kernel_rfl) 100 1 (by kernel_rfl) (fun i h => ?_) fun args r h => ?_
  · obtain rfl : i = 0 := by omega
    refine Tells.mk (key := 2) (N := 19) (ks := [0, 1, 4, 7, 8]) (F := LidxWWF Ar.real) (by kernel_rfl) rfl fun xs H r h => ?_
    unfold LidxWWF at h
    split at h
    · rename_i w nl z l i
      obtain ⟨hg, rfl⟩ := R.Tr.two h
      simp only [rw_se, Bool.and_eq_true, decide_eq_true_eq] at hg ⊢
      dsimp only [Ty.den] at hg
      obtain ⟨⟨h1, h2, h3, h4⟩, h5⟩ := hg
      obtain ⟨m, rfl⟩ := Int.eq_ofNat_of_zero_le h3
      subst h2
      simp only [Int.toNat_natCast]
      exact loopIdxWW w nl z h1 h5 _ m rfl (by omega)
    · cases h
  · unfold idxWWF at h
    split at h
    · rename_i w nl
      obtain ⟨hg, rfl⟩ := Tr.one h
      refine ⟨rfl, rfl, [], ?_⟩
      rw [tIdxWW]
      simp only [rw_se, Bool.and_eq_true, decide_eq_true_eq, show Int.toNat 0 = 0 from rfl, List.drop_zero] at hg ⊢
      rw [bt (by rw [Bool.and_eq_true, decide_eq_true_eq]; exact ⟨⟨hg.1, trivial, by omega, by omega⟩, hg.2⟩)]
      have hge := idxG_ge badB w
      by_cases he : idxG badB w < 0
      · rw [bt (decide_eq_true he), show idxG badB w = -1 by omega]
      · rw [bf (decide_eq_false he), Int.zero_add]
    · cases h

theorem ow8 : OOk (Ow8 Ar.real) := ow7.add idxWW_ok

theorem ctW_ok : OrcOk Tryd.prog 33 (.pure (ctWF Ar.real)) := by
  refine pureOk (Cx.ok ow8 noL) mixed 33 Tryd.f33 (by kernel_rfl) (by kernel_rfl) (by kernel_rfl) 100 0 (by kernel_rfl) (fun i h => by omega) fun args r h => ?_
  unfold ctWF at h
  split at h
  · rename_i w nl
    obtain ⟨hg, rfl⟩ := Tr.one h
    refine ⟨rfl, rfl, [], ?_⟩
    rw [tCtW, bt hg]
    simp only [rw_se]
    rw [idxG_any]
  · cases h

theorem word_ok : OrcOk Tryd.prog 25 (.pure (wordF Ar.real)) := by
  refine pureOk (Cx.ok ow2 noL) mixed 25 Tryd.f25 (by kernel_rfl) (by kernel_rfl) (by kernel_rfl) 100 0 (by kernel_rfl) (fun i h => by omega) fun args r h => ?_
  unfold wordF at h
  split at h
  · rename_i b nl
    obtain ⟨hg, rfl⟩ := Tr.one h
    have hg2 := hg
    simp only [L.Ok, rw_se, Bool.and_eq_true, decide_eq_true_eq] at hg2
    obtain ⟨hb, hn, hl⟩ := hg2
    rw [tWord, bt hg]
    simp only [rw_se, show Int.toNat 0 = 0 from rfl]
    have e0 : List.getD (L.fieldsL b) 0 (Ty.zero L.sT) = List.getD (L.fieldsL b) 0 [] := rfl
    rw [e0]
    unfold wordW
    by_cases h1 : (L.fieldsL b).length = 1
    · rw [bf (by rw [bne_eq_false_iff_eq]; omega), if_pos h1, bt (by rw [decide_eq_true_eq]; omega)]
      have hm : List.getD (L.fieldsL b) 0 [] ∈ L.fieldsL b := R.memG [] (by omega)
      have hq := L.fields_mem hm
      have hq1 : bytesB (List.getD (L.fieldsL b) 0 []) = true := bytesB_iff.2 fun x hx => bytesB_iff.1 hb x (hq.2 x hx).1
      have hq2 : (List.getD (L.fieldsL b) 0 []).length ≤ b.length := L.piece_len L.isBl b _ (L.full_mem hm).1
      rw [bt (by rw [Bool.and_eq_true, decide_eq_true_eq]; exact ⟨hq1, by omega⟩)]
      by_cases h2 : (U.rdL (List.getD (L.fieldsL b) 0 [])).length > 20
      · rw [bt (by rw [decide_eq_true_eq]; omega), if_pos h2]
        exact ⟨rfl, rfl, _, rfl⟩
      · rw [bf (by rw [decide_eq_false_iff_not]; omega), if_neg h2]
        exact ⟨rfl, rfl, _, rfl⟩
    · rw [bt (by rw [bne_iff_ne]; omega), if_neg h1]
      exact ⟨rfl, rfl, _, rfl⟩
  · cases h

theorem ow9 : OOk (Ow9 Ar.real) := (ow8.add ctW_ok).add word_ok

theorem fitB_good {w : List Int} (h : fitB w = true) : w.all U.goodN = true ∧ 1 ≤ w.length ∧ w.length ≤ 20 ∧ w.getD 0 0 ≠ 35 ∧ ∀ n ∈ w, n ≠ 32 ∧ n ≠ 9 ∧ n ≠ 10 := by
  unfold fitB at h
  simp only [Bool.and_eq_true, decide_eq_true_eq, Bool.not_eq_true', beq_eq_false_iff_ne, List.any_eq_false] at h
  obtain ⟨⟨h1, h2⟩, h3, h4⟩ := h
  have h5 : ∀ n ∈ w, U.goodN n = true ∧ n ≠ 32 ∧ n ≠ 9 ∧ n ≠ 10 := fun n hn => by
    have := h4 n hn
    unfold wrongB at this
    simpa using this
  exact ⟨List.all_eq_true.2 fun n hn => (h5 n hn).1, h1, h2, h3, fun n hn => (h5 n hn).2⟩

theorem ups_len : ∀ l : List Int, (U.ups l).length ≤ 4 * l.length
  | [] => by simp [U.ups]
  | n :: l => by
    have := ups_len l
    rw [U.ups_cons, List.length_append, List.length_cons]
    have h : (U.ub n).length ≤ 4 := by rw [U.ub_len]; split <;> (try split) <;> (try split) <;> omega
    omega
theorem putL_len {w : List Int} (h : fitB w = true) : U.putL w = U.ups w ∧ (U.putL w).length ≤ 80 := by
  obtain ⟨h1, _, h2, _⟩ := fitB_good h
  have e : U.putL w = U.ups w := by unfold U.putL; rw [h1]; rfl
  have := ups_len w
  exact ⟨e, by rw [e]; omega⟩

theorem joinW_cons (w : List Int) (l : List (List Int)) : joinW (w :: l) = U.putL w ++ [10] ++ joinW l := by simp [joinW]

theorem loopWr (l : List (List Int)) (nl : Option Bool) (hl : l.length ≤ 1000) (hf : ∀ w ∈ l, fitB w = true) : ∀ (n i : Nat) (out : List Int), l.length - i = n → i ≤ l.length → out.length ≤ 100 * i →
    LoopTo (Cx Ar.real (Ow9 Ar.real) (Lwr Ar.real)) 100 (loopAt Tryd.f12 0) 46 [2, 28, 29, 30] [u8s out (some out.isEmpty) true, .sl wTy l nl false, i64x (l.length : Int), i64x (i : Int)] []
      (.exit 0, [u8s (out ++ joinW (l.drop i)) (some (out ++ joinW (l.drop i)).isEmpty) true, .dead, .dead, .dead], []) := by
  intro n
  induction n with
  | zero =>
    intro i out h1 h2 h3
    rw [List.drop_eq_nil_iff.2 (by omega), show joinW [] = [] from rfl, List.append_nil]
    refine LoopTo.left (by simp) fun k => ?_
    rw [lWr, bf (by rw [decide_eq_false_iff_not]; omega)]
    exact ⟨_, rfl, R.fk (R.fd (R.fd (R.fd (Forget.same _))))⟩
  | succ n ih =>
    intro i out h1 h2 h3
    have hi : i < l.length := by omega
    have hw := hf _ (R.memG (Ty.zero wTy) hi)
    obtain ⟨p1, p2⟩ := putL_len hw
    have p3 := (fitB_good hw).2.2.1
    have h := ih (i + 1) (out ++ U.putL (l.getD i (Ty.zero wTy)) ++ [10]) (by omega) (by omega) (by simp only [List.length_append, List.length_singleton]; omega)
    rw [R.dropG (Ty.zero wTy) hi, joinW_cons, show out ++ (U.putL (l.getD i (Ty.zero wTy)) ++ [10] ++ joinW (l.drop (i + 1))) = out ++ U.putL (l.getD i (Ty.zero wTy)) ++ [10] ++ joinW (l.drop (i + 1)) by simp]
    refine LoopTo.next (fun k => ?_) h
    rw [lWr]
    simp only [Int.toNat_natCast, rw_se, R.wi1 (show i ≤ 9000000000000000000 by omega)]
    rw [bt (by rw [decide_eq_true_eq]; omega), bt (by rw [decide_eq_true_eq]; omega), bt (decide_eq_true (Nat.le_trans p3 (by omega))), bt (by rw [decide_eq_true_eq]; omega), bt (by rw [decide_eq_true_eq, List.length_append, List.length_singleton]; omega)]
    have e1 : (out ++ U.putL (l.getD i (Ty.zero wTy)) ++ [(10 : Int)]).isEmpty = false := by simp
    rw [e1]
    simp only [List.isEmpty_cons, Bool.and_false]

theorem any_bad {l : List (List Int)} (h : l.any badB = false) : ∀ w ∈ l, fitB w = true := fun w hw => by
  have := List.any_eq_false.1 h w hw
  unfold badB at this
  simpa using this

theorem write_ok : OrcOk Tryd.prog 12 (.pure (writeF Ar.real)) := by
  refine pureOk (Cx.ok ow9 (Lwr Ar.real)) mixed 12 Tryd.f12 (by kernel_rfl) (by kernel_rfl) (by kernel_rfl) 100 1 (by kernel_rfl) (fun i h => ?_) fun args r h => ?_
  · obtain rfl : i = 0 := by omega
    refine Tells.mk (key := 7) (N := 46) (ks := [2, 28, 29, 30]) (F := LwrF Ar.real) (by kernel_rfl) rfl fun xs H r h => ?_
    unfold LwrF at h
    split at h
    · rename_i out x l nl n i
      obtain ⟨hg, rfl⟩ := Tr.one h
      simp only [rw_se, Bool.and_eq_true, decide_eq_true_eq, beq_iff_eq, List.all_eq_true] at hg ⊢
      dsimp only [Ty.den] at hg
      obtain ⟨⟨h1, h2, h3, h4, h5⟩, h6, h7⟩ := hg
      obtain ⟨m, rfl⟩ := Int.eq_ofNat_of_zero_le h2
      subst h1
      subst h6
      simp only [Int.toNat_natCast]
      exact loopWr l nl (by omega) h7 _ m out rfl (by omega) (by omega)
    · cases h
  · unfold writeF at h
    split at h
    · rename_i l nl
      obtain ⟨hg, rfl⟩ := Tr.one h
      refine ⟨rfl, rfl, [], ?_⟩
      rw [tWr]
      simp only [rw_se, Bool.and_eq_true, decide_eq_true_eq] at hg ⊢
      obtain ⟨h1, h2⟩ := hg
      unfold writeW
      by_cases g1 : l.length > 300
      · rw [bt (by rw [decide_eq_true_eq]; omega), if_pos g1]; rfl
      · rw [bf (by rw [decide_eq_false_iff_not]; omega), if_neg g1, bt (by rw [Bool.and_eq_true, decide_eq_true_eq]; exact ⟨by omega, h2⟩)]
        cases g2 : l.any badB with
        | true => rw [bf (c := true == false) rfl, Bool.true_or, cond_true]; rfl
        | false =>
          rw [bt (c := false == false) rfl, bt (by rw [Bool.and_eq_true, decide_eq_true_eq]; exact ⟨h1, h2⟩), Bool.false_or]
          by_cases g3 : (R.setL l).length = l.length
          · have e1 : (((R.setL l).length : Int) != (l.length : Int)) = false := by rw [bne_eq_false_iff_eq]; omega
            rw [bt (by rw [e1]; rfl), bt (by rw [Bool.and_eq_true, decide_eq_true_eq]; exact ⟨by omega, h2⟩), decide_eq_false (show ¬ (R.setL l).length ≠ l.length from fun h => h g3), Bool.false_or]
            cases g4 : sortB l with
            | false => rw [bt (c := !false) rfl, bt (c := !false) rfl]; rfl
            | true =>
              rw [bf (c := !true) rfl, bf (c := !true) rfl, bt (by
                rw [Bool.and_eq_true, decide_eq_true_eq, Bool.and_eq_true, List.all_eq_true]
                exact ⟨⟨trivial, by omega, by omega, by omega, by omega⟩, rfl, any_bad g2⟩)]
              rfl
          · have e1 : (((R.setL l).length : Int) != (l.length : Int)) = true := by rw [bne_iff_ne]; omega
            rw [bf (by rw [e1]; rfl), decide_eq_true (show (R.setL l).length ≠ l.length from g3), Bool.true_or, cond_true]; rfl
    · cases h

end Go.Proofs.YtaefpopjlmhmoaaDoor.V

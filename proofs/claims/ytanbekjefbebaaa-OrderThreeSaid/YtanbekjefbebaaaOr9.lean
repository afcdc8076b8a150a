/-
  Chapter 03, order: where words stand, lists that are the same, few words: the functions do what they tell.
  It speaks of the pinned program alone; no condition.
-/
import Derived.Test.YtanbekjefbebaaaOr8
namespace Go.Proofs.Ytanbekjefbebaaa.V
open Go
set_option linter.unusedVariables false
set_option linter.unusedSimpArgs false

theorem short_get {l : List (List Int)} (h : shortB l = true) {i : Nat} (hi : i < l.length) : (l.getD i (Ty.zero wT)).length ≤ 1000 := by
  have := List.all_eq_true.1 h _ (memG (Ty.zero wT) hi)
  simpa using this
theorem cnt_le (l : List (List Int)) (w : List Int) : cntL l w ≤ l.length := List.countP_le_length

theorem loopRfi (l : List (List Int)) (nl : Option Bool) (w : List Int) (nw : Option Bool) (hl : l.length ≤ 1000000) (hw : w.length ≤ 1000000) (hs : shortB l = true) : ∀ (m i n : Nat) (h : Bool), l.length - i = m → i ≤ l.length → n ≤ i →
    LoopTo (Cx Ar.real (Or3 Ar.real) (Lrfi Ar.real)) 100 (loopAt Try.f14 0) 34 [0, 1, 6, 7, 8] [.sl wT l nl false, i64s w nw false, i64x (n : Int), boolx h, i64x (i : Int)] []
      (.exit 0, [.dead, .dead, i64x ((n : Int) + (cntL (l.drop i) w : Int)), boolx (h || decide (w ∈ l.drop i)), .dead], []) := by
  intro m
  induction m with
  | zero =>
    intro i n h h1 h2 h3
    rw [List.drop_eq_nil_iff.2 (show l.length ≤ i by omega)]
    refine LoopTo.left (by simp) fun k => ?_
    rw [lRfi, bf (by rw [decide_eq_false_iff_not]; omega)]
    refine ⟨_, rfl, ?_⟩
    rw [show (n : Int) + (cntL [] w : Int) = (n : Int) by simp [cntL], show (h || decide (w ∈ ([] : List (List Int)))) = h by simp]
    exact fd (fd (fk (fk (fd (Forget.same _)))))
  | succ m ih =>
    intro i n h h1 h2 h3
    have hi : i < l.length := by omega
    have hsi := short_get hs hi
    rw [dropG (Ty.zero wT) hi]
    generalize hx : l.getD i (Ty.zero wT) = x at hsi
    have e1 : cntL (x :: l.drop (i + 1)) w = (bif ltL x w then 1 else 0) + cntL (l.drop (i + 1)) w := by
      unfold cntL
      rw [List.countP_cons]
      cases ltL x w <;> simp <;> omega
    have e2 : (h || decide (w ∈ x :: l.drop (i + 1))) = ((h || decide (x = w)) || decide (w ∈ l.drop (i + 1))) := by
      rw [Bool.or_assoc]
      congr 1
      by_cases q : x = w
      · simp [q]
      · have q' : ¬ w = x := fun e => q e.symm
        simp [q, q']
    rw [e1, e2]
    have hk := wi1 (show i ≤ 9000000000000000000 by omega)
    have hn1 := wi1 (show n ≤ 9000000000000000000 by omega)
    have d1 : decide (List.length x ≤ 1000000 ∧ List.length w ≤ 1000000) = true := decide_eq_true ⟨by omega, hw⟩
    have d2 : decide (List.length x ≤ 1000000) = true := decide_eq_true (by omega)
    have d3 : decide ((0 : Int) ≤ (i : Int) ∧ (i : Int) < (l.length : Int)) = true := decide_eq_true (by omega)
    have d4 : decide ((i : Int) < (l.length : Int)) = true := decide_eq_true (by omega)
    cases hlt : ltL x w
    · have e3 : (n : Int) + (((bif false then 1 else 0) + cntL (l.drop (i + 1)) w : Nat) : Int) = (n : Int) + (cntL (l.drop (i + 1)) w : Int) := by simp
      rw [e3]
      refine LoopTo.next (fun k => ?_) (ih (i + 1) n (h || decide (x = w)) (by omega) (by omega) (by omega))
      rw [lRfi]
      cases h <;> simp only [Int.toNat_natCast, hx, rw_se, d1, d2, d3, d4, hlt, hk, cond_true, cond_false, Bool.false_or, Bool.true_or, beq_self_eq_true] <;> rfl
    · have e3 : (n : Int) + (((bif true then 1 else 0) + cntL (l.drop (i + 1)) w : Nat) : Int) = ((n + 1 : Nat) : Int) + (cntL (l.drop (i + 1)) w : Int) := by simp; omega
      rw [e3]
      refine LoopTo.next (fun k => ?_) (ih (i + 1) (n + 1) (h || decide (x = w)) (by omega) (by omega) (by omega))
      rw [lRfi]
      cases h <;> simp only [Int.toNat_natCast, hx, rw_se, d1, d2, d3, d4, hlt, hk, hn1, cond_true, cond_false, Bool.false_or, Bool.true_or, beq_self_eq_true] <;> rfl

theorem rfi_ok : OrcOk Try.prog 14 (.pure (rfindF Ar.real)) := by
  refine pureOk (Cx.ok o3 (Lrfi Ar.real)) mixed 14 Try.f14 (by kernel_rfl) (by kernel_rfl) (by kernel_rfl) 100 1 (by kernel_rfl) (fun i h => ?_) fun args r h => ?_
  · obtain rfl : i = 0 := by omega
    refine Tells.mk (key := 4) (N := 34) (ks := [0, 1, 6, 7, 8]) (F := LrfiF Ar.real) (by kernel_rfl) rfl fun xs H r h => ?_
    unfold LrfiF at h
    split at h
    · rename_i l nl w nw n hh i
      obtain ⟨hg, rfl⟩ := Tr.one h
      simp only [rw_se, Bool.and_eq_true, decide_eq_true_eq] at hg ⊢
      dsimp only [Ty.den] at hg
      obtain ⟨⟨h1, h2, h3, h4, h5, h6⟩, h7⟩ := hg
      obtain ⟨i, rfl⟩ := Int.eq_ofNat_of_zero_le h3
      obtain ⟨n, rfl⟩ := Int.eq_ofNat_of_zero_le h5
      simp only [Int.toNat_natCast]
      exact loopRfi l nl w nw h1 h2 h7 _ i n hh rfl (by omega) (by omega)
    · cases h
  · unfold rfindF at h
    split at h
    · rename_i l nl w nw
      obtain ⟨hg, rfl⟩ := Tr.one h
      refine ⟨rfl, rfl, [], ?_⟩
      rw [tRfi]
      simp only [rw_se, Bool.and_eq_true, decide_eq_true_eq, show Int.toNat 0 = 0 from rfl, List.drop_zero, Int.zero_add, Bool.false_or] at hg ⊢
      rw [bt (by rw [Bool.and_eq_true, decide_eq_true_eq]; exact ⟨⟨hg.1.1, hg.1.2, by omega, by omega, by omega, by omega⟩, hg.2⟩)]
    · cases h

theorem loopWss (a : List (List Int)) (na : Option Bool) (b : List (List Int)) (nb : Option Bool) (z : Bool) (ha : a.length ≤ 1000000) (hb : b.length = a.length) (hs : shortB a = true) : ∀ (n i : Nat), a.length - i = n → i ≤ a.length →
    LoopTo (Cx Ar.real (Or3 Ar.real) (Lwss Ar.real)) 100 (loopAt Try.f15 0) 27 [0, 1, 4, 5] [.sl wT a na false, .sl wT b nb false, boolx z, i64x (i : Int)] []
      (bif decide (a.drop i = b.drop i) then (.exit 0, [.dead, .dead, .dead, .dead], []) else (.ret, [.dead, .dead, boolx false, .dead], [])) := by
  intro n
  induction n with
  | zero =>
    intro i h1 h2
    rw [dropG_nil (by omega) (by omega), cond_true]
    refine LoopTo.left (by simp) fun k => ?_
    rw [lWss, bf (by rw [decide_eq_false_iff_not]; omega)]
    exact ⟨_, rfl, fd (fd (fd (fd (Forget.same _))))⟩
  | succ n ih =>
    intro i h1 h2
    have hi : i < a.length := by omega
    have hi' : i < b.length := by omega
    have hsi := short_get hs hi
    by_cases hc : a.getD i (Ty.zero wT) = b.getD i (Ty.zero wT)
    · rw [dropG_eq (Ty.zero wT) hi hi' hc]
      refine LoopTo.next (fun k => ?_) (ih (i + 1) (by omega) (by omega))
      rw [lWss]
      simp only [Int.toNat_natCast, wi1 (show i ≤ 9000000000000000000 by omega), rw_se]
      rw [bt (by rw [decide_eq_true_eq]; omega), bt (by rw [decide_eq_true_eq]; omega), bt (by rw [decide_eq_true_eq]; omega), bt (by rw [decide_eq_true_eq]; omega), bf (by rw [decide_eq_true hc]; rfl)]
    · rw [dropG_ne (Ty.zero wT) hi hi' hc, cond_false]
      refine LoopTo.left (by simp) fun k => ?_
      rw [lWss]
      simp only [Int.toNat_natCast, rw_se]
      rw [bt (by rw [decide_eq_true_eq]; omega), bt (by rw [decide_eq_true_eq]; omega), bt (by rw [decide_eq_true_eq]; omega), bt (by rw [decide_eq_true_eq]; omega), bt (by rw [decide_eq_false hc]; rfl)]
      exact ⟨_, rfl, fd (fd (fk (fd (Forget.same _))))⟩

theorem wss_ok : OrcOk Try.prog 15 (.pure (wsameF Ar.real)) := by
  refine pureOk (Cx.ok o3 (Lwss Ar.real)) mixed 15 Try.f15 (by kernel_rfl) (by kernel_rfl) (by kernel_rfl) 100 1 (by kernel_rfl) (fun i h => ?_) fun args r h => ?_
  · obtain rfl : i = 0 := by omega
    refine Tells.mk (key := 4) (N := 27) (ks := [0, 1, 4, 5]) (F := LwssF Ar.real) (by kernel_rfl) rfl fun xs H r h => ?_
    unfold LwssF at h
    split at h
    · rename_i a na b nb z i
      obtain ⟨hg, rfl⟩ := Tr.two h
      simp only [rw_se, Bool.and_eq_true, decide_eq_true_eq] at hg ⊢
      dsimp only [Ty.den] at hg
      obtain ⟨⟨h1, h2, h4, h5⟩, h6⟩ := hg
      obtain ⟨m, rfl⟩ := Int.eq_ofNat_of_zero_le h4
      simp only [Int.toNat_natCast]
      exact loopWss a na b nb z h1 h2 h6 _ m rfl (by omega)
    · cases h
  · unfold wsameF at h
    split at h
    · rename_i a na b nb
      obtain ⟨hg, rfl⟩ := Tr.one h
      refine ⟨rfl, rfl, [], ?_⟩
      rw [tWss]
      simp only [rw_se, Bool.and_eq_true, decide_eq_true_eq, show Int.toNat 0 = 0 from rfl, List.drop_zero] at hg ⊢
      by_cases hl : a.length = b.length
      · rw [bf (by rw [hl]; simp), bt (by rw [Bool.and_eq_true, decide_eq_true_eq]; exact ⟨⟨hg.1, hl.symm, by omega, by omega⟩, hg.2⟩)]
        by_cases he : a = b
        · rw [bt (by rw [decide_eq_true_eq]; exact he), decide_eq_true he]
        · rw [bf (by rw [decide_eq_false_iff_not]; exact he), decide_eq_false he]
      · have he : a ≠ b := fun e => hl (by rw [e])
        rw [bt (by rw [bne_iff_ne]; omega), decide_eq_false he]
    · cases h

theorem loopFew (O : OT) (l : List (List Int)) (nl : Option Bool) (m : Int) (z : Bool) (hl : l.length ≤ 9000000000000000000) : ∀ (n i : Nat), l.length - i = n → i ≤ l.length →
    LoopTo (Cx Ar.real O (Lfew Ar.real)) 100 (loopAt Try.f10 0) 22 [0, 1, 4, 5] [.sl wT l nl false, i64x m, boolx z, i64x (i : Int)] []
      (bif (l.drop i).all (fun x => decide (List.length x ≤ 100)) then (.exit 0, [.sl wT l nl false, i64x m, .dead, .dead], []) else (.ret, [.dead, .dead, boolx false, .dead], [])) := by
  intro n
  induction n with
  | zero =>
    intro i h1 h2
    rw [List.drop_eq_nil_iff.2 (show l.length ≤ i by omega), List.all_nil, cond_true]
    refine LoopTo.left (by simp) fun k => ?_
    rw [lFew, bf (by rw [decide_eq_false_iff_not]; omega)]
    exact ⟨_, rfl, fk (fk (fd (fd (Forget.same _))))⟩
  | succ n ih =>
    intro i h1 h2
    have hi : i < l.length := by omega
    rw [dropG (Ty.zero wT) hi, List.all_cons]
    generalize hx : l.getD i (Ty.zero wT) = x
    by_cases hc : List.length x ≤ 100
    · rw [decide_eq_true hc, Bool.true_and]
      refine LoopTo.next (fun k => ?_) (ih (i + 1) (by omega) (by omega))
      rw [lFew]
      simp only [Int.toNat_natCast, wi1 (show i ≤ 9000000000000000000 by omega), hx]
      rw [bt (by rw [decide_eq_true_eq]; omega), bt (by rw [decide_eq_true_eq]; omega), bf (by rw [decide_eq_false_iff_not]; omega)]
    · rw [decide_eq_false hc, Bool.false_and, cond_false]
      refine LoopTo.left (by simp) fun k => ?_
      rw [lFew]
      simp only [Int.toNat_natCast, hx]
      rw [bt (by rw [decide_eq_true_eq]; omega), bt (by rw [decide_eq_true_eq]; omega), bt (by rw [decide_eq_true_eq]; omega)]
      exact ⟨_, rfl, fd (fd (fk (fd (Forget.same _))))⟩

theorem few_ok (O : OT) (hO : OOk O) : OrcOk Try.prog 10 (.pure (fewF Ar.real)) := by
  refine pureOk (Cx.ok hO (Lfew Ar.real)) mixed 10 Try.f10 (by kernel_rfl) (by kernel_rfl) (by kernel_rfl) 100 1 (by kernel_rfl) (fun i h => ?_) fun args r h => ?_
  · obtain rfl : i = 0 := by omega
    refine Tells.mk (key := 2) (N := 22) (ks := [0, 1, 4, 5]) (F := LfewF Ar.real) (by kernel_rfl) rfl fun xs H r h => ?_
    unfold LfewF at h
    split at h
    · rename_i l nl m z i
      obtain ⟨hg, rfl⟩ := Tr.two h
      simp only [rw_se] at hg ⊢
      rw [decide_eq_true_eq] at hg
      dsimp only [Ty.den] at hg
      obtain ⟨h1, h4, h5⟩ := hg
      obtain ⟨i, rfl⟩ := Int.eq_ofNat_of_zero_le h4
      simp only [Int.toNat_natCast]
      exact loopFew O l nl m z h1 _ i rfl (by omega)
    · cases h
  · unfold fewF at h
    split at h
    · rename_i l nl m
      obtain ⟨hg, rfl⟩ := Tr.one h
      refine ⟨rfl, rfl, [], ?_⟩
      rw [tFew]
      rw [rw_se, decide_eq_true_eq] at hg
      simp only [rw_se, show Int.toNat 0 = 0 from rfl, List.drop_zero]
      rw [bt (by rw [decide_eq_true_eq]; exact ⟨hg, by omega, by omega⟩)]
      unfold fewB
      cases l.all (fun x => decide (List.length x ≤ 100))
      · rfl
      · rw [cond_true, Bool.true_and]
    · cases h

theorem o4 : OOk (Or4 Ar.real) := ((o3.add rfi_ok).add wss_ok).add (few_ok _ OOk.none)

end Go.Proofs.Ytanbekjefbebaaa.V

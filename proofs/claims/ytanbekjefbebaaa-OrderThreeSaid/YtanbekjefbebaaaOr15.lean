/-
  Chapter 03, order: CompactFunc, Find and Sort do what they tell.
  It speaks of the pinned program alone; no condition.
-/
import Derived.Test.YtanbekjefbebaaaOr14
namespace Go.Proofs.Ytanbekjefbebaaa.V
open Go
set_option linter.unusedVariables false
set_option linter.unusedSimpArgs false

theorem loopCfo (n : Nat) (l : List (List Int)) (hn : n ≤ 1000000) (hl : l.length = n) (hs : shortB l = true) : ∀ (m k : Nat), n - k = m → 1 ≤ k → k ≤ n → compL (l.take k) = l.take k →
    LoopTo (CxM Ar.real (Or5 Ar.real) (Lcf Ar.real) (fun _ => 0)) 100 (loopAt Try.f25 0) 66 [0, 1, 4, 5] [.mref wT 0 [] 0 n, .fn 26 [] [], .sl wT [] (some true) true, i64x (k : Int)] (heapW n l)
      (bif decide (compL l = l) then (.exit 0, [.mref wT 0 [] 0 n, .dead, .dead, .dead], heapW n l) else (.ret, [.dead, .dead, .mref wT 0 [] 0 (compL l).length, .dead], heapW n (compL l ++ List.replicate (l.length - (compL l).length) []))) := by
  intro m
  induction m with
  | zero =>
    intro k h1 h2 h3 h4
    obtain rfl : k = n := by omega
    have e : l.take k = l := List.take_of_length_le (by omega)
    rw [e] at h4
    rw [decide_eq_true h4, cond_true]
    refine LoopTo.left (by simp) fun K => ?_
    rw [lCfo, bf (by rw [decide_eq_false_iff_not]; omega)]
    exact ⟨_, rfl, fk (fd (fd (fd (Forget.same _))))⟩
  | succ m ih =>
    intro k h1 h2 h3 h4
    have hk : k < l.length := by omega
    have hk1 : Ar.real.wrap .i64 ((k : Int) - 1) = ((k - 1 : Nat) : Int) := by rw [rw_wrap, wi64 (by omega) (by omega)]; omega
    have hkn := wi1 (show k ≤ 9000000000000000000 by omega)
    have hsx : (l.getD k (Ty.zero wT)).length ≤ 1000 := short_get hs hk
    have c1 : decide ((k : Int) < (n : Int)) = true := decide_eq_true (by omega)
    have c2 : decide ((0 : Int) ≤ (k : Int) ∧ (k : Int) < (n : Int)) = true := decide_eq_true (by omega)
    have c3 : decide ((0 : Int) ≤ ((k - 1 : Nat) : Int) ∧ ((k - 1 : Nat) : Int) < (n : Int)) = true := decide_eq_true (by omega)
    have c4 : decide ((l.getD k (Ty.zero wT)).length ≤ 1000000) = true := decide_eq_true (by omega)
    have c5 : decide ((0 : Int) ≤ (k : Int) ∧ (k : Int) ≤ (n : Int)) = true := decide_eq_true (by omega)
    by_cases e : l.getD k [] = l.getD (k - 1) []
    · obtain ⟨q1, q2⟩ := compL_dup h2 hk h4 e
      rw [decide_eq_false q2, cond_false]
      have hg := compG_len (l.getD k []) (l.drop (k + 1))
      rw [List.length_drop] at hg
      have ht : (l.take k).length = k := by rw [List.length_take]; omega
      refine LoopTo.left (by simp) fun K => ?_
      rw [lCfo]
      simp only [hk1, hkn, Int.toNat_natCast, rw_se, c1, c2, c3, c4, c5, cond_true, Nat.zero_add, show Int.toNat 1 = 1 from rfl, Nat.add_sub_cancel, hs, Bool.and_true]
      rw [bt (decide_eq_true (show l.getD k (Ty.zero wT) = l.getD (k - 1) (Ty.zero wT) from e)), bt (by rw [decide_eq_true_eq]; refine ⟨trivial, trivial, trivial, hl, hn, ?_, ?_, ?_, ?_, ?_⟩ <;> omega)]
      generalize hG : compG (l.getD k []) (l.drop (k + 1)) = G at q1 hg
      have hK : Int.toNat ((k : Int) + (G.length : Int)) = k + G.length := by omega
      rw [bt (by rw [decide_eq_true_eq]; omega), bt (by rw [decide_eq_true_eq]; omega), hK]
      have hcl : (compL l).length = k + G.length := by rw [q1, List.length_append, ht]
      have t1 : (l.take k ++ G ++ l.drop (k + G.length)).take (k + G.length) = compL l := by
        rw [q1, List.take_left' (by rw [List.length_append, ht])]
      have t2 : (l.take k ++ G ++ l.drop (k + G.length)).drop (k + G.length + (n - (k + G.length))) = [] := by
        rw [List.drop_eq_nil_iff]
        simp only [List.length_append, ht, List.length_drop]
        omega
      rw [t1, t2, hcl, hl, List.append_nil]
      exact ⟨_, rfl, fd (fd (fk (fd (Forget.same _))))⟩
    · refine LoopTo.next (fun K => ?_) (ih (k + 1) (by omega) (by omega) (by omega) (compL_step h2 hk h4 e))
      rw [lCfo]
      simp only [hk1, hkn, Int.toNat_natCast, rw_se, c1, c2, c3, c4, c5, cond_true, Nat.zero_add]
      rw [bf (decide_eq_false (show ¬ l.getD k (Ty.zero wT) = l.getD (k - 1) (Ty.zero wT) from e))]

theorem cmpc_ok : OrcOk Try.prog 25 (.eff (cmpcF Ar.real)) := by
  refine effOk (CxM.ok o5 (Lcf Ar.real) (fun _ => 0)) mixed 25 Try.f25 (by kernel_rfl) (by kernel_rfl) (by kernel_rfl) 100 2 (by kernel_rfl) (fun i h => ?_) fun args H r H' h => ?_
  · have hi : i = 0 ∨ i = 1 := by omega
    rcases hi with rfl | rfl
    · refine Tells.mk (key := 4) (N := 66) (ks := [0, 1, 4, 5]) (F := LcfoF Ar.real) (by kernel_rfl) rfl fun xs H r h => ?_
      unfold LcfoF at h
      split at h
      · rename_i n f k m q l
        obtain ⟨hg, rfl⟩ := Tr.two h
        simp only [rw_se, Bool.and_eq_true, decide_eq_true_eq] at hg ⊢
        dsimp only [Ty.den] at hg
        obtain ⟨⟨rfl, hm, hq, h1, h2, h3, h4, h5⟩, h6⟩ := hg
        replace hm := hm.symm
        replace hq := hq.symm
        subst hm
        subst hq
        obtain ⟨k, rfl⟩ := Int.eq_ofNat_of_zero_le (show (0 : Int) ≤ k by omega)
        simp only [Int.toNat_natCast] at h5
        exact loopCfo n l h2 h1 h6 _ k rfl (by omega) (by omega) h5
      · cases h
    · refine Tells.mk (key := 9) (N := 66) (ks := [0, 1, 5, 6, 7]) (F := LcfiF Ar.real) (by kernel_rfl) rfl fun xs H r h => ?_
      unfold LcfiF at h
      split at h
      · rename_i n f k off len j m q l
        obtain ⟨hg, rfl⟩ := Tr.one h
        simp only [rw_se, Bool.and_eq_true, decide_eq_true_eq] at hg ⊢
        dsimp only [Ty.den] at hg
        obtain ⟨⟨rfl, hm, hq, h1, h2, h3, h4, h5, h6, h7⟩, h8⟩ := hg
        replace hm := hm.symm
        replace hq := hq.symm
        subst hm
        subst hq
        obtain ⟨k, rfl⟩ := Int.eq_ofNat_of_zero_le h4
        obtain ⟨j, rfl⟩ := Int.eq_ofNat_of_zero_le (show (0 : Int) ≤ j by omega)
        simp only [Int.toNat_natCast]
        exact loopCfi n off len h2 h3 _ j k l rfl (by omega) (by omega) (by omega) h1 h8
      · cases h
  · unfold cmpcF at h
    split at h
    · rename_i n f m q l
      obtain ⟨hg, he⟩ := Tr.one h
      cases he
      simp only [rw_se, Bool.and_eq_true, decide_eq_true_eq] at hg ⊢
      dsimp only [Ty.den] at hg
      obtain ⟨⟨rfl, hm, hq, h1, h2⟩, h6⟩ := hg
      replace hm := hm.symm
      replace hq := hq.symm
      subst hm
      subst hq
      have hc0 : compL l = l → compL l ++ List.replicate (l.length - (compL l).length) [] = l := fun e => by rw [e]; simp
      refine ⟨by simp [X.unown], .mref wT 0 [] 0 (compL l).length, heapW n (compL l ++ List.replicate (l.length - (compL l).length) []), rfl, ?_, HWeak.refl _, by simp, .inl rfl⟩
      rw [tCf]
      by_cases hn2 : (n : Int) < 2
      · have e : compL l = l := by
          match l, h1 with
          | [], _ => rfl
          | [x], _ => rfl
          | x :: y :: l, h1 => simp at h1; omega
        rw [bt (decide_eq_true hn2), hc0 e, e, h1]
      · have ht : compL (l.take 1) = l.take 1 := by
          cases l with
          | nil => rfl
          | cons x l => rfl
        rw [bf (decide_eq_false hn2)]
        simp only [rw_se, show Int.toNat 1 = 1 from rfl, h6, Bool.and_true]
        rw [bt (by rw [decide_eq_true_eq]; exact ⟨trivial, trivial, trivial, h1, h2, by omega, by omega, ht⟩)]
        by_cases e : compL l = l
        · rw [bt (decide_eq_true e), hc0 e, e, h1]
        · rw [bf (decide_eq_false e)]
    · rename_i nl f
      cases h
      refine ⟨by simp [X.unown], .sl wT [] nl false, H, rfl, ?_, HWeak.refl _, Nat.le_refl _, .inl rfl⟩
      rw [tCf0]
    · cases h

theorem loopSort (l : List (List Int)) (nl : Option Bool) (hl : l.length ≤ 1000) (hs : shortB l = true) : ∀ (m i : Nat), l.length - i = m → i ≤ l.length →
    LoopTo (CxM Ar.real (Or6 Ar.real) (Lsrt Ar.real) Msrt) 100 (loopAt Try.f11 0) 25 [3, 9, 10, 11] [.ps wT (l.take i), .sl wT l nl false, i64x (l.length : Int), i64x (i : Int)] []
      (.exit 0, [.ps wT l, .dead, .dead, .dead], []) := by
  intro m
  induction m with
  | zero =>
    intro i h1 h2
    obtain rfl : i = l.length := by omega
    refine LoopTo.left (by simp) fun K => ?_
    rw [lSort, bf (by rw [decide_eq_false_iff_not]; omega), List.take_length]
    exact ⟨_, rfl, fk (fd (fd (fd (Forget.same _))))⟩
  | succ m ih =>
    intro i h1 h2
    have hi : i < l.length := by omega
    have hsi := short_get hs hi
    have hk := wi1 (show i ≤ 9000000000000000000 by omega)
    have e1 : l.take i ++ [l.getD i (Ty.zero wT)] = l.take (i + 1) := by
      rw [List.getD_eq_getElem?_getD, List.getElem?_eq_getElem hi, Option.getD_some, List.take_succ_eq_append_getElem]
    refine LoopTo.next (fun K => ?_) (ih (i + 1) (by omega) (by omega))
    rw [lSort]
    simp only [Int.toNat_natCast, rw_se, hk, e1]
    rw [bt (by rw [decide_eq_true_eq]; omega), bt (by rw [decide_eq_true_eq]; omega), bt (by rw [decide_eq_true_eq]; omega), bt (by rw [decide_eq_true_eq, List.length_take]; simp; omega)]

end Go.Proofs.Ytanbekjefbebaaa.V

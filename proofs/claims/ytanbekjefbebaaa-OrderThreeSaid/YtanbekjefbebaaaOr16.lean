/-
  Chapter 03, order: Find and Sort do what they tell.
  It speaks of the pinned program alone; no condition.
-/
import Derived.Test.YtanbekjefbebaaaOr15
namespace Go.Proofs.Ytanbekjefbebaaa.V
open Go
set_option linter.unusedVariables false
set_option linter.unusedSimpArgs false

theorem o6 : OOk (Or6 Ar.real) := ((o5.add rsort_ok).add search_ok).add cmpc_ok

theorem find_ok : OrcOk Try.prog 12 (.pure (findF Ar.real)) := by
  refine pureOk (Cx.ok o6 noL) mixed 12 Try.f12 (by kernel_rfl) (by kernel_rfl) (by kernel_rfl) 100 0 (by kernel_rfl) (fun i h => by omega) fun args r h => ?_
  unfold findF at h
  split at h
  · rename_i l nl w nw
    obtain ⟨hg, rfl⟩ := Tr.one h
    simp only [rw_se, Bool.and_eq_true, decide_eq_true_eq] at hg ⊢
    obtain ⟨⟨h1, h2⟩, h3, h4⟩ := hg
    have hm := mem_cnt (w := w) (risesB_iff.1 h4)
    refine ⟨rfl, rfl, ?_⟩
    rw [tFind]
    simp only [rw_se, Int.toNat_natCast]
    rw [bt (by rw [Bool.and_eq_true, Bool.and_eq_true, decide_eq_true_eq]; exact ⟨⟨trivial, trivial, h1, h2⟩, h3, h4⟩)]
    by_cases hc : cntL l w < l.length
    · have hs : (l.getD (cntL l w) (Ty.zero wT)).length ≤ 1000 := short_get h3 hc
      have e : l.getD (cntL l w) (Ty.zero wT) = l[cntL l w] := by
        rw [List.getD_eq_getElem?_getD, List.getElem?_eq_getElem hc]; rfl
      rw [bt (by rw [decide_eq_true (show ((cntL l w : Nat) : Int) < (l.length : Int) by omega)]; rfl), bt (by rw [decide_eq_true_eq]; omega), bt (by rw [decide_eq_true_eq]; exact Nat.le_trans hs (by decide))]
      have : decide (l.getD (cntL l w) (Ty.zero wT) = w) = decide (w ∈ l) := by
        rw [e]
        by_cases q : l[cntL l w] = w
        · rw [decide_eq_true q, decide_eq_true (hm.2 ⟨hc, q⟩)]
        · rw [decide_eq_false q, decide_eq_false (fun h => q (hm.1 h).2)]
      rw [this]
      exact ⟨_, rfl⟩
    · rw [bf (by rw [decide_eq_false (show ¬ ((cntL l w : Nat) : Int) < (l.length : Int) by omega)]; rfl), decide_eq_false (fun h => hc (hm.1 h).1)]
      exact ⟨_, rfl⟩
  · cases h

theorem sort_ok : OrcOk Try.prog 11 (.pure (sortF Ar.real)) := by
  refine pureOk (CxM.ok o6 (Lsrt Ar.real) Msrt) mixed 11 Try.f11 (by kernel_rfl) (by kernel_rfl) (by kernel_rfl) 100 1 (by kernel_rfl) (fun i h => ?_) fun args r h => ?_
  · obtain rfl : i = 0 := by omega
    refine Tells.mk (key := 3) (N := 25) (ks := [3, 9, 10, 11]) (F := LsrtF Ar.real) (by kernel_rfl) rfl fun xs H r h => ?_
    unfold LsrtF at h
    split at h
    · rename_i out l nl n i
      obtain ⟨hg, rfl⟩ := Tr.one h
      simp only [rw_se, Bool.and_eq_true, decide_eq_true_eq] at hg ⊢
      dsimp only [Ty.den] at hg
      obtain ⟨⟨rfl, h1, h2, h3, rfl⟩, h4⟩ := hg
      obtain ⟨i, rfl⟩ := Int.eq_ofNat_of_zero_le h2
      exact loopSort l nl h1 h4 _ i rfl (by omega)
    · cases h
  · unfold sortF at h
    split at h
    · rename_i l nl
      obtain ⟨hg, rfl⟩ := Tr.one h
      simp only [rw_se, Bool.and_eq_true, decide_eq_true_eq] at hg ⊢
      obtain ⟨h1, h2⟩ := hg
      refine ⟨rfl, rfl, ?_⟩
      rw [tSort]
      have hsl : (srtL l).length = l.length := (List.mergeSort_perm l _).length_eq
      have hsh : shortB (srtL l) = true := by
        unfold shortB at h2 ⊢
        rw [List.all_eq_true] at h2 ⊢
        exact fun x hx => h2 x ((List.mergeSort_perm l _).mem_iff.1 hx)
      have hall : l.all (fun x => decide (List.length x ≤ 1000000)) = true := by
        unfold shortB at h2
        rw [List.all_eq_true] at h2 ⊢
        intro x hx
        have := h2 x hx
        rw [decide_eq_true_eq] at this ⊢
        omega
      simp only [rw_se, show Int.toNat 0 = 0 from rfl, List.drop_zero, List.take_zero, h2, hsh, hall, Bool.and_true, comp_srt]
      rw [bt (by rw [decide_eq_true_eq]; omega), bt (by rw [decide_eq_true_eq]; exact ⟨trivial, h1, by omega, by omega, trivial⟩)]
      cases he : l.isEmpty with
      | true =>
        have : l = [] := by simpa using he
        subst this
        exact ⟨_, rfl⟩
      | false =>
        rw [cond_false, bt (by rw [decide_eq_true_eq]; exact ⟨trivial, trivial, trivial, by omega⟩), bt (by rw [decide_eq_true_eq]; exact ⟨trivial, trivial, trivial, hsl, by omega⟩), List.take_left]
        exact ⟨_, rfl⟩
    · cases h

theorem o7 : OOk (Or7 Ar.real) := (o6.add find_ok).add sort_ok

end Go.Proofs.Ytanbekjefbebaaa.V

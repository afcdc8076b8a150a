/-
  Chapter 03, order: neighbours that are the same, struck in place; finding.
  It speaks of the pinned program alone; no condition.
-/
import Derived.Test.YtanbekjefbebaaaOr13
namespace Go.Proofs.Ytanbekjefbebaaa.V
open Go
set_option linter.unusedVariables false
set_option linter.unusedSimpArgs false

theorem compG_len : ∀ (p : List Int) (l : List (List Int)), (compG p l).length ≤ l.length
  | _, [] => by simp [compG]
  | p, x :: l => by
    have := compG_len x l
    unfold compG
    split <;> simp <;> omega
theorem compL_len (l : List (List Int)) : (compL l).length ≤ l.length := by
  cases l with
  | nil => simp [compL]
  | cons x l => have := compG_len x l; simp [compL]; omega
theorem compG_split : ∀ {p : List Int} {l : List (List Int)} {k : Nat}, k ≤ l.length → compG p (l.take k) = l.take k → compG p l = l.take k ++ compG ((p :: l).getD k []) (l.drop k)
  | p, l, 0, _, _ => by simp
  | p, [], k + 1, h, _ => by simp at h
  | p, x :: l, k + 1, h, he => by
    have hk : k ≤ l.length := by simpa using h
    rw [List.take_succ_cons] at he ⊢
    unfold compG at he
    by_cases e : x = p
    · rw [if_pos e] at he
      have h1 := compG_len x (l.take k)
      rw [he] at h1
      simp at h1
      omega
    · rw [if_neg e] at he
      have h1 := compG_split (p := x) hk (List.cons.inj he).2
      rw [compG, if_neg e, h1]
      simp
theorem compL_split {l : List (List Int)} {k : Nat} (h1 : 1 ≤ k) (hk : k ≤ l.length) (he : compL (l.take k) = l.take k) : compL l = l.take k ++ compG (l.getD (k - 1) []) (l.drop k) := by
  match l, k, h1, hk, he with
  | [], k, h1, hk, he => simp at hk; omega
  | y :: l, k + 1, h1, hk, he =>
    rw [List.take_succ_cons, compL] at he
    have := compG_split (p := y) (l := l) (k := k) (by simpa using hk) (List.cons.inj he).2
    rw [compL, this]
    simp
theorem compL_step {l : List (List Int)} {k : Nat} (h1 : 1 ≤ k) (hk : k < l.length) (he : compL (l.take k) = l.take k) (hne : l.getD k [] ≠ l.getD (k - 1) []) : compL (l.take (k + 1)) = l.take (k + 1) := by
  have hlen : (l.take (k + 1)).length = k + 1 := by rw [List.length_take]; omega
  have ht : (l.take (k + 1)).take k = l.take k := by rw [List.take_take]; congr 1; omega
  have hd : (l.take (k + 1)).drop k = [l.getD k []] := by
    rw [List.drop_take, show k + 1 - k = 1 by omega, dropG [] hk]
    simp
  have hg : (l.take (k + 1)).getD (k - 1) [] = l.getD (k - 1) [] := by
    rw [List.getD_eq_getElem?_getD, List.getD_eq_getElem?_getD, List.getElem?_take, if_pos (by omega)]
  have := compL_split (l := l.take (k + 1)) h1 (by omega) (by rw [ht]; exact he)
  rw [this, ht, hd, hg, compG, if_neg hne, compG]
  conv => rhs; rw [← List.take_append_drop k (l.take (k + 1)), ht, hd]
theorem compL_dup {l : List (List Int)} {k : Nat} (h1 : 1 ≤ k) (hk : k < l.length) (he : compL (l.take k) = l.take k) (hd : l.getD k [] = l.getD (k - 1) []) :
    compL l = l.take k ++ compG (l.getD k []) (l.drop (k + 1)) ∧ compL l ≠ l := by
  have e : compL l = l.take k ++ compG (l.getD k []) (l.drop (k + 1)) := by
    rw [compL_split h1 (by omega) he, dropG [] hk, compG, if_pos hd]
  refine ⟨e, fun h => ?_⟩
  have h2 := congrArg List.length e
  have h3 := compG_len (l.getD k []) (l.drop (k + 1))
  rw [h, List.length_append, List.length_take] at h2
  rw [List.length_drop] at h3
  omega

abbrev heapW (n : Nat) (l : List (List Int)) : Hp := [(.arr n wT, .d (.arr n wT) l)]
/-- What the inner loop leaves. -/
def innL (k off j : Nat) (l : List (List Int)) : List (List Int) := l.take k ++ compG (l.getD (off + j - 1) []) (l.drop (off + j)) ++ l.drop (k + (compG (l.getD (off + j - 1) []) (l.drop (off + j))).length)
theorem innL_end {k off j : Nat} {l : List (List Int)} (h : l.length ≤ off + j) : innL k off j l = l := by
  unfold innL
  rw [List.drop_eq_nil_iff.2 h]
  simp [compG]
theorem innL_skip {k off j : Nat} {l : List (List Int)} (h : off + j < l.length) (hj : 1 ≤ j) (e : l.getD (off + j) [] = l.getD (off + j - 1) []) : innL k off j l = innL k off (j + 1) l ∧ compG (l.getD (off + j - 1) []) (l.drop (off + j)) = compG (l.getD (off + (j + 1) - 1) []) (l.drop (off + (j + 1))) := by
  have : compG (l.getD (off + j - 1) []) (l.drop (off + j)) = compG (l.getD (off + (j + 1) - 1) []) (l.drop (off + (j + 1))) := by
    rw [dropG [] h, compG, if_pos e, show off + (j + 1) - 1 = off + j by omega]
    rfl
  exact ⟨by unfold innL; rw [this], this⟩
theorem innL_put {k off j : Nat} {l : List (List Int)} (h : off + j < l.length) (hk : k < off + j) (hne : l.getD (off + j) [] ≠ l.getD (off + j - 1) []) :
    innL k off j l = innL (k + 1) off (j + 1) (l.set k (l.getD (off + j) [])) ∧ (compG (l.getD (off + j - 1) []) (l.drop (off + j))).length = (compG ((l.set k (l.getD (off + j) [])).getD (off + (j + 1) - 1) []) ((l.set k (l.getD (off + j) [])).drop (off + (j + 1)))).length + 1 := by
  have e1 : (l.set k (l.getD (off + j) [])).getD (off + (j + 1) - 1) [] = l.getD (off + j) [] := by
    rw [show off + (j + 1) - 1 = off + j by omega, List.getD_eq_getElem?_getD, List.getElem?_set_ne (by omega), ← List.getD_eq_getElem?_getD]
  have e2 : (l.set k (l.getD (off + j) [])).drop (off + (j + 1)) = l.drop (off + (j + 1)) := by
    rw [List.drop_set_of_lt (by omega)]
  have e3 : compG (l.getD (off + j - 1) []) (l.drop (off + j)) = l.getD (off + j) [] :: compG (l.getD (off + j) []) (l.drop (off + (j + 1))) := by
    rw [dropG [] h, compG, if_neg hne]
    rfl
  refine ⟨?_, by rw [e1, e2, e3]; simp⟩
  unfold innL
  rw [e1, e2, e3]
  generalize compG (l.getD (off + j) []) (l.drop (off + (j + 1))) = G
  generalize l.getD (off + j) [] = x
  have e4 : (l.set k x).take (k + 1) = l.take k ++ [x] := by
    rw [List.take_set]
    have : (l.take (k + 1)).length = k + 1 := by rw [List.length_take]; omega
    have hs : l.take (k + 1) = l.take k ++ [l[k]'(by omega)] := by rw [List.take_succ_eq_append_getElem]
    rw [hs, List.set_append_right _ _ (by rw [List.length_take]; omega)]
    simp [List.length_take, show min k l.length = k by omega]
  have e5 : (l.set k x).drop (k + 1 + G.length) = l.drop (k + (x :: G).length) := by
    rw [List.drop_set_of_lt (by omega)]
    congr 1
    simp; omega
  rw [e4, e5]
  simp
theorem short_set {l : List (List Int)} {k : Nat} {x : List Int} (h : shortB l = true) (hx : x.length ≤ 1000) : shortB (l.set k x) = true := by
  unfold shortB at h ⊢
  rw [List.all_eq_true] at h ⊢
  intro z hz
  rcases List.mem_or_eq_of_mem_set hz with q | rfl
  · exact h z q
  · exact decide_eq_true hx

theorem loopCfi (n off len : Nat) (hn : n ≤ 1000000) (ho : off + len = n) : ∀ (m j k : Nat) (l : List (List Int)), len - j = m → 1 ≤ j → j ≤ len → k < off + j → l.length = n → shortB l = true →
    LoopTo (CxM Ar.real (Or5 Ar.real) (Lcf Ar.real) (fun _ => 0)) 100 (loopAt Try.f25 1) 66 [0, 1, 5, 6, 7] [.mref wT 0 [] 0 n, .fn 26 [] [], i64x (k : Int), .mref wT 0 [] off len, i64x (j : Int)] (heapW n l)
      (.exit 2, [.mref wT 0 [] 0 n, .dead, i64x ((k : Int) + (compG (l.getD (off + j - 1) []) (l.drop (off + j))).length), .dead, .dead], heapW n (innL k off j l)) := by
  intro m
  induction m with
  | zero =>
    intro j k l h1 h2 h3 h4 h5 h6
    obtain rfl : j = len := by omega
    rw [innL_end (by omega), List.drop_eq_nil_iff.2 (show l.length ≤ off + j by omega), compG]
    refine LoopTo.left (by simp) fun K => ?_
    rw [lCfi, bf (by rw [decide_eq_false_iff_not]; omega)]
    exact ⟨_, rfl, fk (fd (Forget.cons (.inr (by simp)) (fd (fd (Forget.same _)))))⟩
  | succ m ih =>
    intro j k l h1 h2 h3 h4 h5 h6
    have hj : j < len := by omega
    have hoj : off + j < l.length := by omega
    have hsx : (l.getD (off + j) []).length ≤ 1000 := short_get h6 hoj
    have hj1 : Ar.real.wrap .i64 ((j : Int) - 1) = ((j - 1 : Nat) : Int) := by rw [rw_wrap, wi64 (by omega) (by omega)]; omega
    have hjn := wi1 (show j ≤ 9000000000000000000 by omega)
    have hkn := wi1 (show k ≤ 9000000000000000000 by omega)
    have hidx : off + (j - 1) = off + j - 1 := by omega
    have c1 : decide ((j : Int) < (len : Int)) = true := decide_eq_true (by omega)
    have c2 : decide ((0 : Int) ≤ (j : Int) ∧ (j : Int) < (len : Int)) = true := decide_eq_true (by omega)
    have c3 : decide ((0 : Int) ≤ ((j - 1 : Nat) : Int) ∧ ((j - 1 : Nat) : Int) < (len : Int)) = true := decide_eq_true (by omega)
    have c4 : decide ((l.getD (off + j) (Ty.zero wT)).length ≤ 1000000) = true := decide_eq_true (by have : (l.getD (off + j) (Ty.zero wT)).length ≤ 1000 := hsx; omega)
    have c5 : decide ((0 : Int) ≤ (k : Int) ∧ (k : Int) < (n : Int)) = true := decide_eq_true (by omega)
    by_cases e : l.getD (off + j) [] = l.getD (off + j - 1) []
    · obtain ⟨q1, q2⟩ := innL_skip (k := k) hoj h2 e
      rw [q1, q2]
      refine LoopTo.next (fun K => ?_) (ih (j + 1) k l (by omega) (by omega) (by omega) (by omega) h5 h6)
      rw [lCfi]
      simp only [hj1, hjn, Int.toNat_natCast, hidx, rw_se, c1, c2, c3, c4, cond_true]
      rw [bf (by rw [decide_eq_true (show l.getD (off + j) (Ty.zero wT) = l.getD (off + j - 1) (Ty.zero wT) from e)]; rfl)]
    · obtain ⟨q1, q2⟩ := innL_put (k := k) hoj h4 e
      rw [q1, q2]
      have hs := short_set (k := k) h6 hsx
      have e5 : ((k : Int) + (((compG ((l.set k (l.getD (off + j) [])).getD (off + (j + 1) - 1) []) ((l.set k (l.getD (off + j) [])).drop (off + (j + 1)))).length + 1 : Nat) : Int)) = ((k + 1 : Nat) : Int) + ((compG ((l.set k (l.getD (off + j) [])).getD (off + (j + 1) - 1) []) ((l.set k (l.getD (off + j) [])).drop (off + (j + 1)))).length : Int) := by omega
      rw [e5]
      refine LoopTo.next (fun K => ?_) (ih (j + 1) (k + 1) (l.set k (l.getD (off + j) [])) (by omega) (by omega) (by omega) (by omega) (by rw [List.length_set]; exact h5) hs)
      rw [lCfi]
      simp only [hj1, hjn, hkn, Int.toNat_natCast, hidx, rw_se, c1, c2, c3, c4, c5, cond_true, Nat.zero_add]
      rw [bt (by rw [decide_eq_false (show ¬ l.getD (off + j) (Ty.zero wT) = l.getD (off + j - 1) (Ty.zero wT) from e)]; rfl)]
      rfl

end Go.Proofs.Ytanbekjefbebaaa.V

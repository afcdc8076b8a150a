/-
  Chapter 10, automata: TrieApart answers true, whatever it is given.
  It speaks of the pinned program alone; no condition.
-/
import Derived.Test.YtnbfiifkaddehaaTr17
namespace Go.Proofs.Ytnbfiifkaddehaa.V
open Go
set_option linter.unusedVariables false
set_option linter.unusedSimpArgs false

theorem op1 : OOk (Op1 Ar.real) := (((OOk.none.add awake_ok).add small_ok).add make_ok).add com_ok

/-! ### How many states: the statement's reckoning -/
theorem comL_comm : ∀ a b : List Int, R.comL a b = R.comL b a
  | [], [] => rfl
  | [], _ :: _ => rfl
  | _ :: _, [] => rfl
  | x :: a, y :: b => by
    rw [R.comL, R.comL, comL_comm a b]
    by_cases h : x = y
    · rw [if_pos h, if_pos h.symm]
    · rw [if_neg h, if_neg fun e => h e.symm]
theorem comL_mono {v p u : List Int} (h1 : R.ltL v p = true) (h2 : R.ltL p u = true) : R.comL v u ≤ R.comL p u := by
  have e := comL_take v u
  have hl := R.comL_le v u
  have hp : p.take (R.comL v u) = u.take (R.comL v u) := by
    rcases ltL_take (R.comL v u) v p h1 with a | a
    · rw [← a, e]
    · rcases ltL_take (R.comL v u) p u h2 with b | b
      · exact b
      · rw [← e] at b
        rw [R.ltL_asym a] at b
        cases b
  have hlen := congrArg List.length hp
  rw [List.length_take, List.length_take, Nat.min_eq_left hl.2] at hlen
  exact comL_max (by omega) hl.2 hp

theorem Fits.sub {a b : List (List Int)} (h : Fits b) (hs : a.Sublist b) : Fits a :=
  ⟨Nat.le_trans hs.length_le h.len, fun w hw => h.fit w (hs.subset hw), List.Pairwise.sublist hs h.ris⟩

theorem cntR_eq : ∀ (r D : List (List Int)), Fits (D ++ r) → cntR D.getLast? r ((kL D).length : Int) = ((kL (D ++ r)).length : Int)
  | [], D, _ => by
    rw [List.append_nil]
    cases D.getLast? <;> rfl
  | u :: r, D, h => by
    have hD : Fits D := h.sub (List.sublist_append_left _ _)
    have hDu : Fits (D ++ [u]) := h.sub (by rw [show D ++ u :: r = (D ++ [u]) ++ r by simp]; exact List.sublist_append_left _ _)
    have hmem : ∀ x, x ∈ D ++ [u] ↔ x ∈ D ∨ x = u := fun x => by rw [List.mem_append, List.mem_singleton]
    have ih := cntR_eq r (D ++ [u]) (by rw [List.append_assoc]; exact h)
    rw [List.append_assoc, List.singleton_append, List.getLast?_concat] at ih
    rw [← ih]
    cases hlast : D.getLast? with
    | none =>
      have : D = [] := List.getLast?_eq_none_iff.1 hlast
      subst this
      have hk := begs_more hD.begs hDu.begs hmem (m := 0) (fun v hv => by simp at hv) (.inl rfl) (Nat.zero_le _)
      rw [cntR, hk]
      congr 1 <;> omega
    | some p =>
      obtain ⟨D', rfl⟩ := List.getLast?_eq_some_iff.1 hlast
      have hr := (List.pairwise_append.1 hDu.ris)
      have hpu : R.ltL p u = true := hr.2.2 p (by simp) u (by simp)
      have hk := begs_more hD.begs hDu.begs hmem (m := R.comL p u) (fun v hv => ?_) (.inr ⟨p, by simp, rfl⟩) (R.comL_le p u).2
      · rw [cntR, hk, comL_comm u p]
        congr 1
        have := (R.comL_le p u).2
        omega
      · rcases List.mem_append.1 hv with hv | hv
        · exact comL_mono ((List.pairwise_append.1 hD.ris).2.2 v hv p (by simp)) hpu
        · rw [List.mem_singleton.1 hv]
          exact Nat.le_refl _

theorem cntR_made {l : List (List Int)} (h : Fits l) : cntR none l 1 = ((kL l).length : Int) := cntR_eq l [] h

theorem prevAt_succ {l : List (List Int)} {i : Nat} : prevAt l (i + 1) = some (l.getD i []) := by
  unfold prevAt
  rw [if_neg (by omega), Nat.add_sub_cancel]

theorem loopAp0 (l : List (List Int)) (nl : Option Bool) (z up : Bool) (p : List Sta) (np : Option Bool) (f g : Int) (hl : l.length ≤ 1000) (hs : R.shortB l = true) : ∀ (d i n : Nat), l.length - i = d → i ≤ l.length → n ≤ 1 + 1000 * i →
    LoopTo (Cap Ar.real) 100 (loopAt Try.f5 0) 138 [0, 2, 3, 4, 6, 7, 8, 9] [.sl wTy l nl false, boolx z, boolx up, .sl staT p np false, i64x (n : Int), i64x f, i64x g, i64x (i : Int)] []
      (.exit 0, [.sl wTy l nl false, boolx z, boolx up, .sl staT p np false, i64x (cntR (prevAt l i) (l.drop i) n), i64x f, i64x g, .dead], []) := by
  intro d
  induction d with
  | zero =>
    intro i n h1 h2 h3
    have e : cntR (prevAt l i) [] (n : Int) = (n : Int) := by cases prevAt l i <;> rfl
    rw [List.drop_eq_nil_iff.2 (by omega), e]
    refine LoopTo.left (by simp) fun K => ?_
    rw [lAp0, bf (nlti (by omega))]
    exact ⟨_, rfl, R.fk (R.fk (R.fk (R.fk (R.fk (R.fk (R.fk (R.fd (Forget.same _))))))))⟩
  | succ d ih =>
    intro i n h1 h2 h3
    have hi : i < l.length := by omega
    have hx := short_at2 hs hi
    have T : ∀ K : Ex → List X → Hp → Option (Ex × List X × Hp), _ := fun K => lAp0 Ar.real (Ex × List X × Hp) l nl z up p np (n : Int) f g (i : Int) K
    have hw1 : Ar.real.wrap .i64 ((n : Int) + ((l.getD i []).length : Int)) = ((n + (l.getD i []).length : Nat) : Int) := by rw [rw_wrap, wi64 (by omega) (by omega)]; omega
    simp only [Int.toNat_natCast, rw_se, hw1, R.wi1 (show i ≤ 9000000000000000000 by omega)] at T
    rw [R.dropG [] hi]
    by_cases h0 : i = 0
    · subst h0
      have e : cntR (prevAt l 0) (l.getD 0 [] :: l.drop (0 + 1)) (n : Int) = cntR (prevAt l (0 + 1)) (l.drop (0 + 1)) ((n + (l.getD 0 []).length : Nat) : Int) := by
        rw [prevAt_succ, show prevAt l 0 = none from rfl, cntR]; rfl
      rw [e]
      refine LoopTo.next (fun K => ?_) (ih 1 _ (by omega) (by omega) (by omega))
      rw [T, bt (lti hi), bt (rng hi), bf (by simp)]
    · obtain ⟨j, rfl⟩ : ∃ j, i = j + 1 := ⟨i - 1, by omega⟩
      have hj : j < l.length := by omega
      have hy := short_at2 hs hj
      have hwk : Ar.real.wrap .i64 (((j + 1 : Nat) : Int) - 1) = (j : Int) := by rw [rw_wrap, wi64 (by omega) (by omega)]; omega
      have hc := (R.comL_le (l.getD (j + 1) []) (l.getD j [])).1
      have hw2 : Ar.real.wrap .i64 (((n + (l.getD (j + 1) []).length : Nat) : Int) - (R.comL (l.getD (j + 1) []) (l.getD j []) : Int)) = ((n + (l.getD (j + 1) []).length - R.comL (l.getD (j + 1) []) (l.getD j []) : Nat) : Int) := by rw [rw_wrap, wi64 (by omega) (by omega)]; omega
      have e : cntR (prevAt l (j + 1)) (l.getD (j + 1) [] :: l.drop (j + 1 + 1)) (n : Int) = cntR (prevAt l (j + 1 + 1)) (l.drop (j + 1 + 1)) ((n + (l.getD (j + 1) []).length - R.comL (l.getD (j + 1) []) (l.getD j []) : Nat) : Int) := by
        rw [prevAt_succ, prevAt_succ, cntR]
        congr 1
        omega
      rw [e]
      refine LoopTo.next (fun K => ?_) (ih (j + 1 + 1) _ (by omega) (by omega) (by omega))
      simp only [hwk, Int.toNat_natCast, hw2] at T
      rw [T, bt (lti hi), bt (rng hi), bt (by rw [decide_eq_true_eq]; omega), bt (rng hi), bt (rng hj), bt (by rw [decide_eq_true_eq]; omega)]

/-! ### Where arcs lead -/
theorem into_get {n : Nat} {P : List Int} {t : Nat} (h : t < n) : (intoL n P).getD t 0 = if ((t : Nat) : Int) ∈ P then 1 else 0 := by
  unfold intoL
  rw [List.getD_eq_getElem?_getD, List.getElem?_map, List.getElem?_range h]
  rfl
theorem into_set {n : Nat} {P : List Int} {t : Nat} (h : t < n) : (intoL n P).set t 1 = intoL n (P ++ [(t : Int)]) := by
  unfold intoL
  apply List.ext_getElem (by simp)
  intro j h1 h2
  have hj : j < n := by simpa using h2
  rw [List.getElem_set, List.getElem_map, List.getElem_map, List.getElem_range]
  by_cases e : t = j
  · subst e
    simp
  · rw [if_neg e]
    have : ((j : Nat) : Int) ∈ P ++ [(t : Int)] ↔ ((j : Nat) : Int) ∈ P := by
      rw [List.mem_append, List.mem_singleton]
      exact ⟨fun h => h.elim id fun h => absurd (Int.ofNat.inj h).symm e, .inl⟩
    simp only [this]
theorem tos_cons (s : Sta) (a : List Sta) : tosL (s :: a) = s.2.1.map (fun t => t.2.1) ++ tosL a := rfl
theorem tos_append (a b : List Sta) : tosL (a ++ b) = tosL a ++ tosL b := by unfold tosL; rw [List.flatMap_append]
theorem tos_take {a : List Sta} {i : Nat} (h : i < a.length) : tosL (a.take (i + 1)) = tosL (a.take i) ++ (a.getD i staZ).2.1.map fun t => t.2.1 := by
  rw [List.take_add_one, List.getElem?_eq_getElem h, tos_append, List.getD_eq_getElem?_getD, List.getElem?_eq_getElem h]
  simp [tosL]
theorem okA_iff {a : List Sta} : okA a = true ↔ (tosL a).Nodup ∧ ∀ i, i < a.length → ∀ t ∈ (a.getD i staZ).2.1, (i : Int) < t.2.1 ∧ t.2.1 < (a.length : Int) := by
  unfold okA
  simp only [Bool.and_eq_true, decide_eq_true_eq, List.all_eq_true, List.mem_range]

theorem loopAp2 (l : List (List Int)) (nl : Option Bool) (z up : Bool) (p : List Sta) (np : Option Bool) (n f g : Int) (i : Nat) (hi : i < p.length) (hp : p.length ≤ 1000000) (ha : okA p = true) (hs : shortS p = true) : ∀ (d k : Nat), (p.getD i staZ).2.1.length - k = d → k ≤ (p.getD i staZ).2.1.length →
    LoopTo (Cap Ar.real) 100 (loopAt Try.f5 2) 138 [0, 2, 3, 4, 6, 7, 8, 10, 11, 12] [.sl wTy l nl false, boolx z, boolx up, .sl staT p np false, i64x n, i64x f, i64x g, .mref (.int .i64) 0 [] 0 p.length, i64x (i : Int), i64x (k : Int)] (inH p.length (intoL p.length (tosTo p i k)))
      (.exit 4, [.sl wTy l nl false, boolx z, boolx up, .sl staT p np false, i64x n, i64x f, i64x g, .mref (.int .i64) 0 [] 0 p.length, i64x (i : Int), .dead], inH p.length (intoL p.length (tosL (p.take (i + 1))))) := by
  have hx : (p.getD i staZ).2.1.length ≤ 1000000 := short_arcs hs hi
  obtain ⟨hnd, hrg⟩ := okA_iff.1 ha
  intro d
  induction d with
  | zero =>
    intro k h1 h2
    have e : tosTo p i k = tosL (p.take (i + 1)) := by
      unfold tosTo
      rw [List.take_of_length_le (l := (p.getD i staZ).2.1) (i := k) (by omega), tos_take hi]
    rw [e]
    refine LoopTo.left (by simp) fun K => ?_
    have T := lAp2 Ar.real (Ex × List X × Hp) l nl z up p np n f g p.length (i : Int) (k : Int) (intoL p.length (tosL (p.take (i + 1)))) K
    simp only [Int.toNat_natCast] at T
    rw [T, bt (rng hi), bf (nlti (show (p.getD i staZ).2.1.length ≤ k by omega))]
    exact ⟨_, rfl, R.fk (R.fk (R.fk (R.fk (R.fk (R.fk (R.fk (R.fk (R.fk (R.fd (Forget.same _))))))))))⟩
  | succ d ih =>
    intro k h1 h2
    have hk : k < (p.getD i staZ).2.1.length := by omega
    obtain ⟨t1, t2⟩ := hrg i hi _ (R.memG arcZ hk)
    obtain ⟨t, ht⟩ := Int.eq_ofNat_of_zero_le (show (0 : Int) ≤ ((p.getD i staZ).2.1.getD k arcZ).2.1 by omega)
    have htl : t < p.length := by omega
    have hnext : tosTo p i (k + 1) = tosTo p i k ++ [(t : Int)] := by
      unfold tosTo
      rw [List.take_add_one, List.getElem?_eq_getElem hk, List.map_append, ← List.append_assoc]
      congr 1
      rw [List.getD_eq_getElem?_getD, List.getElem?_eq_getElem hk] at ht
      simpa using ht
    have hsplit : ∃ rest, tosL p = tosTo p i k ++ [(t : Int)] ++ rest := by
      refine ⟨((p.getD i staZ).2.1.drop (k + 1)).map (fun t => t.2.1) ++ tosL (p.drop (i + 1)), ?_⟩
      rw [← hnext]
      conv => lhs; rw [← List.take_append_drop (i + 1) p]
      rw [tos_append, tos_take hi]
      unfold tosTo
      conv => lhs; rw [← List.take_append_drop (k + 1) (p.getD i staZ).2.1, List.map_append]
      simp only [List.append_assoc, List.take_append_drop]
    have hni : (t : Int) ∉ tosTo p i k := by
      obtain ⟨rest, hr⟩ := hsplit
      rw [hr] at hnd
      intro hh
      exact (List.nodup_append.1 (List.nodup_append.1 hnd).1).2.2 _ hh _ (List.mem_singleton.2 rfl) rfl
    have T : ∀ K : Ex → List X → Hp → Option (Ex × List X × Hp), _ := fun K => lAp2 Ar.real (Ex × List X × Hp) l nl z up p np n f g p.length (i : Int) (k : Int) (intoL p.length (tosTo p i k)) K
    have hg0 : (intoL p.length (tosTo p i k)).getD t 0 = 0 := by rw [into_get htl, if_neg hni]
    have hw0 : Ar.real.wrap .i64 (0 + 1) = 1 := by rw [rw_wrap, wi64 (by omega) (by omega)]; rfl
    simp only [Int.toNat_natCast, ht, Nat.zero_add, hg0, hw0, into_set htl, R.wi1 (show k ≤ 9000000000000000000 by omega)] at T
    have h := ih (k + 1) (by omega) (by omega)
    rw [hnext] at h
    refine LoopTo.next (fun K => ?_) h
    rw [T, bt (rng hi), bt (lti hk), bt (rng hi), bt (rng hk), bt (by rw [decide_eq_false (show ¬ (t : Int) ≤ (i : Int) by omega)]; rfl), bt (by rw [decide_eq_false (show ¬ (t : Int) ≥ (p.length : Int) by omega)]; rfl), bt (rng htl), bf (by decide), bt (rng htl), bt (rng htl)]

theorem finN_drop {p : List Sta} {i : Nat} (h : i < p.length) : finN (p.drop i) = (if (p.getD i staZ).1 then 1 else 0) + finN (p.drop (i + 1)) := by
  rw [R.dropG staZ h]
  unfold finN
  rw [List.countP_cons]
  split <;> simp_all <;> omega

theorem loopAp1 (l : List (List Int)) (nl : Option Bool) (z up : Bool) (p : List Sta) (np : Option Bool) (n : Int) (hp : p.length ≤ 1000000) (ha : okA p = true) (hs : shortS p = true) : ∀ (d i f g : Nat), p.length - i = d → i ≤ p.length → f ≤ i → g ≤ 1000000 * i →
    LoopTo (Cap Ar.real) 100 (loopAt Try.f5 1) 138 [0, 2, 3, 4, 6, 7, 8, 10, 11] [.sl wTy l nl false, boolx z, boolx up, .sl staT p np false, i64x n, i64x (f : Int), i64x (g : Int), .mref (.int .i64) 0 [] 0 p.length, i64x (i : Int)] (inH p.length (intoL p.length (tosL (p.take i))))
      (.exit 2, [.sl wTy l nl false, .dead, boolx up, .sl staT p np false, i64x n, i64x ((f : Int) + finN (p.drop i)), i64x ((g : Int) + ((tosL (p.drop i)).length : Int)), .dead, .dead], inH p.length (intoL p.length (tosL p))) := by
  intro d
  induction d with
  | zero =>
    intro i f g h1 h2 h3 h4
    have e1 : finN (p.drop i) = 0 := by rw [List.drop_eq_nil_iff.2 (by omega)]; rfl
    have e2 : (tosL (p.drop i)).length = 0 := by rw [List.drop_eq_nil_iff.2 (by omega)]; rfl
    rw [e1, e2, Int.add_zero, show (g : Int) + ((0 : Nat) : Int) = (g : Int) by omega, List.take_of_length_le (by omega)]
    refine LoopTo.left (by simp) fun K => ?_
    rw [lAp1, bf (nlti (by omega))]
    exact ⟨_, rfl, R.fk (R.fd (R.fk (R.fk (R.fk (R.fk (R.fk (R.fd (R.fd (Forget.same _)))))))))⟩
  | succ d ih =>
    intro i f g h1 h2 h3 h4
    have hi : i < p.length := by omega
    have hx : (p.getD i staZ).2.1.length ≤ 1000000 := short_arcs hs hi
    have T : ∀ K : Ex → List X → Hp → Option (Ex × List X × Hp), _ := fun K => lAp1 Ar.real (Ex × List X × Hp) l nl z up p np n (f : Int) (g : Int) p.length (i : Int) (intoL p.length (tosL (p.take i))) K
    have hw1 : Ar.real.wrap .i64 ((g : Int) + (((p.getD i staZ).2.1.length : Nat) : Int)) = ((g + (p.getD i staZ).2.1.length : Nat) : Int) := by rw [rw_wrap, wi64 (by omega) (by omega)]; omega
    have hto : tosTo p i 0 = tosL (p.take i) := by unfold tosTo; simp
    simp only [Int.toNat_natCast, rw_se, show Int.toNat 0 = 0 from rfl, hto, hw1, R.wi1 (show i ≤ 9000000000000000000 by omega), R.wi1 (show f ≤ 9000000000000000000 by omega)] at T
    have ht : ((tosL (p.drop i)).length : Int) = (((p.getD i staZ).2.1.length : Nat) : Int) + ((tosL (p.drop (i + 1))).length : Int) := by
      rw [R.dropG staZ hi, tos_cons, List.length_append, List.length_map]; omega
    have hx' : (p.getD i staZ).2.1.length ≤ 1000000 := hx
    have hG : (decide (True ∧ True ∧ True ∧ p.length ≤ 1000000 ∧ (0 : Int) ≤ (i : Int) ∧ (i : Int) < (p.length : Int) ∧ (0 : Int) ≤ 0 ∧ (0 : Int) ≤ (((p.getD i staZ).2.1.length : Nat) : Int) ∧ True) && (okA p && shortS p)) = true := by
      rw [ha, hs, Bool.and_self, Bool.and_true, decide_eq_true_eq]
      exact ⟨trivial, trivial, trivial, hp, by omega, by omega, by omega, by omega, trivial⟩
    rw [finN_drop hi, ht]
    cases hf : (p.getD i staZ).1 with
    | true =>
      have h := ih (i + 1) (f + 1) (g + (p.getD i staZ).2.1.length) (by omega) (by omega) (by omega) (by omega)
      rw [show ((f + 1 : Nat) : Int) + finN (p.drop (i + 1)) = (f : Int) + ((if true = true then 1 else 0) + finN (p.drop (i + 1))) by simp; omega, show ((g + (p.getD i staZ).2.1.length : Nat) : Int) + ((tosL (p.drop (i + 1))).length : Int) = (g : Int) + ((((p.getD i staZ).2.1.length : Nat) : Int) + ((tosL (p.drop (i + 1))).length : Int)) by omega] at h
      refine LoopTo.next (fun K => ?_) h
      rw [T, bt (lti hi), bt (rng hi), bt hf, bt (rng hi)]
      exact bt hG
    | false =>
      have h := ih (i + 1) f (g + (p.getD i staZ).2.1.length) (by omega) (by omega) (by omega) (by omega)
      rw [show (f : Int) + finN (p.drop (i + 1)) = (f : Int) + ((if false = true then 1 else 0) + finN (p.drop (i + 1))) by simp, show ((g + (p.getD i staZ).2.1.length : Nat) : Int) + ((tosL (p.drop (i + 1))).length : Int) = (g : Int) + ((((p.getD i staZ).2.1.length : Nat) : Int) + ((tosL (p.drop (i + 1))).length : Int)) by omega] at h
      refine LoopTo.next (fun K => ?_) h
      rw [T, bt (lti hi), bt (rng hi), bf hf, bt (rng hi)]
      exact bt hG

theorem inOf_eq {H : Hp} {q : Nat × Nat × List Int} (h : inOf H = some q) : H = [(.arr q.1 (.int .i64), .d (.arr q.2.1 (.int .i64)) q.2.2)] := by
  unfold inOf at h
  split at h
  · cases h; rfl
  · cases h

theorem apart_core {l : List (List Int)} (h : Fits l) : okA (autoL (kL l) l) = true ∧ finN (autoL (kL l) l) = (l.length : Int) := by
  constructor
  · rw [okA_iff]
    refine ⟨tos_nodup h.begs.nod, fun i hi t ht => ?_⟩
    rw [autoL_len] at hi ⊢
    rw [autoL_get hi] at ht
    obtain ⟨_, k1, k2, _⟩ := goA_ok h hi t ht
    exact ⟨k1, k2⟩
  · unfold finN autoL
    rw [List.countP_map]
    have := finals_len h.begs h.ris
    rw [show ((fun s : Sta => s.1) ∘ staOf2 (kL l) l) = fun p => decide (p ∈ l) from rfl, this]

theorem apart_ok : OrcOk Try.prog 5 (.pure (LawFb [.slice (.slice (.int .i64))])) := by
  refine law_pureB (CxM.ok op1 (Lap Ar.real) Map) mixed 5 Try.f5 _ (by kernel_rfl) (by kernel_rfl) (by kernel_rfl) 100 3 (by kernel_rfl) (fun i h => ?_) (fun args h hbd => ?_)
  · have hi : i = 0 ∨ i = 1 ∨ i = 2 := by omega
    rcases hi with rfl | rfl | rfl
    · refine Tells.mk (key := 11) (N := 138) (ks := [0, 2, 3, 4, 6, 7, 8, 9]) (F := Lap0F Ar.real) (by kernel_rfl) rfl fun xs H r h => ?_
      unfold Lap0F at h
      split at h
      · rename_i l nl z up x n f g i
        split at h
        · rename_i p hp
          cases staOf_eq hp
          obtain ⟨hg, rfl⟩ := Tr.one h
          simp only [rw_se, Bool.and_eq_true, decide_eq_true_eq] at hg ⊢
          dsimp only [Ty.den] at hg
          obtain ⟨⟨h1, h2, h3, h4, h5⟩, h6⟩ := hg
          obtain ⟨i, rfl⟩ := Int.eq_ofNat_of_zero_le h2
          obtain ⟨n, rfl⟩ := Int.eq_ofNat_of_zero_le h4
          simp only [Int.toNat_natCast]
          exact loopAp0 l nl z up p.1 p.2 f g h1 h6 _ i n rfl (by omega) (by omega)
        · cases h
      · cases h
    · refine Tells.mk (key := 18) (N := 138) (ks := [0, 2, 3, 4, 6, 7, 8, 10, 11]) (F := Lap1F Ar.real) (by kernel_rfl) rfl fun xs H r h => ?_
      unfold Lap1F at h
      split at h
      · rename_i l nl z up x n f g c i
        split at h
        · rename_i p q hp hq
          cases staOf_eq hp
          have e := inOf_eq hq
          obtain ⟨hg, rfl⟩ := Tr.one h
          simp only [rw_se, Bool.and_eq_true, decide_eq_true_eq] at hg ⊢
          dsimp only [Ty.den] at hg
          obtain ⟨⟨h1, h2, h3, h4, h5, h6, h7, h8, h9, h10, h11⟩, h12, h13⟩ := hg
          obtain ⟨i, rfl⟩ := Int.eq_ofNat_of_zero_le h5
          obtain ⟨f, rfl⟩ := Int.eq_ofNat_of_zero_le h7
          obtain ⟨g, rfl⟩ := Int.eq_ofNat_of_zero_le h9
          rw [h1, h2, h3, h11, Int.toNat_natCast] at e
          subst e
          subst h3
          simp only [Int.toNat_natCast]
          exact loopAp1 l nl z up p.1 p.2 n h4 h12 h13 _ i f g rfl (by omega) (by omega) (by omega)
        · cases h
      · cases h
    · refine Tells.mk (key := 24) (N := 138) (ks := [0, 2, 3, 4, 6, 7, 8, 10, 11, 12]) (F := Lap2F Ar.real) (by kernel_rfl) rfl fun xs H r h => ?_
      unfold Lap2F at h
      split at h
      · rename_i l nl z up x n f g c i k
        split at h
        · rename_i p q hp hq
          cases staOf_eq hp
          have e := inOf_eq hq
          obtain ⟨hg, rfl⟩ := Tr.one h
          simp only [rw_se, Bool.and_eq_true, decide_eq_true_eq] at hg ⊢
          dsimp only [Ty.den] at hg
          obtain ⟨⟨h1, h2, h3, h4, h5, h6, h7, h8, h11⟩, h12, h13⟩ := hg
          obtain ⟨i, rfl⟩ := Int.eq_ofNat_of_zero_le h5
          obtain ⟨k, rfl⟩ := Int.eq_ofNat_of_zero_le h7
          rw [h1, h2, h3, h11, Int.toNat_natCast, Int.toNat_natCast] at e
          subst e
          subst h3
          simp only [Int.toNat_natCast] at h8 ⊢
          exact loopAp2 l nl z up p.1 p.2 n f g i (by omega) h4 h12 h13 _ k rfl (by omega)
        · cases h
      · cases h
  · obtain ⟨x, _, rfl, h1, k1⟩ := h.cons
    obtain rfl := k1.nil
    obtain ⟨l, nl, rfl⟩ := arg_words h1
    have hl := bd_words hbd.1
    have T := tAp Ar.real l (some nl)
    simp only [rw_se, show Int.toNat 0 = 0 from rfl, List.drop_zero, List.take_zero, Int.toNat_natCast, List.length_replicate, Int.zero_add] at T
    rw [bt (decide_eq_true hl)] at T
    cases g1 : R.fewB l 60 with
    | false =>
      rw [g1, bt (c := !false) rfl] at T
      exact ⟨[], T⟩
    | true =>
      rw [g1, bf (c := !true) rfl] at T
      obtain ⟨l1, l2⟩ := few60 g1
      by_cases e : (writeW l).2 = 0
      · have hf := Fits.of e
        obtain ⟨a1, a2⟩ := auto_short hf
        obtain ⟨b1, b2⟩ := apart_core hf
        have hpos : 0 < (kL l).length := List.length_pos_of_mem hf.begs.nil
        have hlen := autoL_len (kL l) l
        have hrep : List.replicate (autoL (kL l) l).length (0 : Int) = intoL (autoL (kL l) l).length (tosL []) := by
          unfold intoL
          rw [show tosL [] = [] from rfl]
          apply List.ext_getElem (by simp)
          intro j h1 h2
          simp
        rw [bt (decide_eq_true e), mkL_auto hf, show prevAt l 0 = none from rfl, cntR_made hf, b2, tos_len hf.begs] at T
        rw [bt (by rw [l2, Bool.and_true, decide_eq_true_eq]; exact ⟨by omega, by omega, by omega, by omega, by omega⟩), bt (by rw [decide_eq_true_eq]; exact ⟨by omega, trivial, by omega, by omega⟩), bf (by
          rw [Bool.eq_false_iff, ne_eq, List.isEmpty_iff]
          intro hh
          have := congrArg List.length hh
          rw [List.length_replicate, hlen, List.length_nil] at this
          omega), bt (by
          rw [b1, a2, Bool.and_self, Bool.and_true, decide_eq_true_eq]
          exact ⟨trivial, trivial, trivial, by omega, by omega, by omega, by omega, by omega, by omega, by omega, hrep⟩), bt (by rw [hlen]; simp), bt (by simp)] at T
        have hw : Ar.real.wrap .i64 (((kL l).length : Int) - 1) = ((kL l).length : Int) - 1 := by
          have := hf.klen
          rw [rw_wrap, wi64 (by omega) (by omega)]
        rw [hw, show ((((kL l).length - 1 : Nat) : Int) == ((kL l).length : Int) - 1) = true from by rw [beq_iff_eq]; omega] at T
        exact ⟨_, T⟩
      · rw [bf (decide_eq_false e), bt (by rw [bne_iff_ne]; exact e)] at T
        exact ⟨[], T⟩

end Go.Proofs.Ytnbfiifkaddehaa.V

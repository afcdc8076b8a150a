/-
  Chapter 03, order: the statement OrderSorts.
  It speaks of the pinned program alone; no condition.
-/
import Derived.Test.YtanbekjefbebaaaOr20
namespace Go.Proofs.Ytanbekjefbebaaa.V
open Go
set_option linter.unusedVariables false
set_option linter.unusedSimpArgs false

theorem turnL_succ (l : List (List Int)) (f i : Nat) : turnL l f (i + 1) = turnL l f i ++ [l.getD ((i + f) % l.length) []] := by
  simp [turnL, List.range_succ]
theorem turnL_len (l : List (List Int)) (f i : Nat) : (turnL l f i).length = i := by simp [turnL]
theorem turnL_mem {l : List (List Int)} {f : Nat} {z : List Int} : z ∈ turnL l f l.length ↔ z ∈ l := by
  unfold turnL
  rw [List.mem_map]
  constructor
  · rintro ⟨j, hj, rfl⟩
    have hj : j < l.length := by simpa using hj
    exact memG [] (Nat.mod_lt _ (by omega))
  · intro hz
    obtain ⟨q, hq, rfl⟩ := List.getElem_of_mem hz
    have hn : 0 < l.length := by omega
    have hf : f % l.length < l.length := Nat.mod_lt _ hn
    refine ⟨(q + l.length - f % l.length) % l.length, by simpa using Nat.mod_lt _ hn, ?_⟩
    have e : ((q + l.length - f % l.length) % l.length + f) % l.length = q := by
      rw [Nat.mod_add_mod]
      have h1 := Nat.mod_add_div f l.length
      have h2 : q + l.length - f % l.length + f = q + l.length * (f / l.length + 1) := by
        rw [Nat.mul_add, Nat.mul_one]
        omega
      rw [h2, Nat.add_mul_mod_self_left, Nat.mod_eq_of_lt hq]
    rw [e, List.getD_eq_getElem?_getD, List.getElem?_eq_getElem hq]
    rfl

theorem loopOsa (l : List (List Int)) (nl : Option Bool) (f : Nat) (z up : Bool) (ns : Option Bool) (hl : l.length ≤ 200) (hf : f < 256) (hs : shortB l = true) : ∀ (m i : Nat), l.length - i = m → i ≤ l.length →
    LoopTo (Cx Ar.real (Or8 Ar.real) (Los Ar.real)) 100 (loopAt Try.f5 0) 134 [0, 1, 4, 5, 6, 7, 8] [.sl wT l nl false, u8x (f : Int), boolx z, boolx up, .sl wT (setL l) ns false, .sl wT (turnL l f i) (some (turnL l f i).isEmpty) true, i64x (i : Int)] []
      (.exit 0, [.sl wT l nl false, .dead, boolx z, boolx up, .sl wT (setL l) ns false, .sl wT (turnL l f l.length) (some l.isEmpty) true, .dead], []) := by
  intro m
  induction m with
  | zero =>
    intro i h1 h2
    obtain rfl : i = l.length := by omega
    have e : (turnL l f l.length).isEmpty = l.isEmpty := by
      cases l with
      | nil => rfl
      | cons x l => simp [turnL, List.range_succ]
    refine LoopTo.left (by simp) fun k => ?_
    rw [lOsa, bf (by rw [decide_eq_false_iff_not]; omega), e]
    exact ⟨_, rfl, fk (fd (fk (fk (fk (fk (fd (Forget.same _))))))) ⟩
  | succ m ih =>
    intro i h1 h2
    have hi : i < l.length := by omega
    have hsi : (l.getD i (Ty.zero wT)).length ≤ 1000 := short_get hs hi
    have hlen := setL_len l
    have hmem : l.getD i (Ty.zero wT) ∈ setL l := setL_mem.2 (memG _ hi)
    have hk := wi1 (show i ≤ 9000000000000000000 by omega)
    have w1 : Ar.real.wrap .i64 (f : Int) = (f : Int) := by rw [rw_wrap, wi64 (by omega) (by omega)]
    have w2 : Ar.real.wrap .i64 ((i : Int) + (f : Int)) = ((i + f : Nat) : Int) := by rw [rw_wrap, wi64 (by omega) (by omega)]; rfl
    have w3 : Int.tmod ((i + f : Nat) : Int) (l.length : Int) = (((i + f) % l.length : Nat) : Int) := ntmod _ _
    have hq : (i + f) % l.length < l.length := Nat.mod_lt _ (by omega)
    have hn := ih (i + 1) (by omega) (by omega)
    rw [turnL_succ] at hn
    have he : (turnL l f i ++ [l.getD ((i + f) % l.length) []]).isEmpty = false := by simp
    rw [he] at hn
    refine LoopTo.next (fun k => ?_) hn
    rw [lOsa]
    simp only [Int.toNat_natCast, w1, w2, w3, hk, rw_se, setL_short hs, rises_set, Bool.and_self, Bool.and_true, List.length_singleton, turnL_len]
    rw [bt (by rw [decide_eq_true_eq]; omega), bf (by rw [decide_eq_false_iff_not]; omega), bt (by rw [decide_eq_true_eq]; omega), bt (by rw [decide_eq_true_eq]; omega), bt (by rw [decide_eq_true_eq]; omega), bt (by rw [decide_eq_true_eq]; omega), bf (by rw [decide_eq_true hmem]; rfl)]
    simp
    rfl

theorem loopOsc (l : List (List Int)) (nl : Option Bool) (z up : Bool) (s : List (List Int)) (ns : Option Bool) (t : List (List Int)) (nt : Option Bool) (i : Nat) (n : Int) (is : Bool) (hl : l.length ≤ 200) (hs : shortB l = true) (hi : i < s.length) : ∀ (m j : Nat) (h : Bool), l.length - j = m → j ≤ l.length →
    LoopTo (Cx Ar.real (Or8 Ar.real) (Los Ar.real)) 100 (loopAt Try.f5 2) 134 [0, 4, 5, 6, 7, 11, 12, 13, 14, 15] [.sl wT l nl false, boolx z, boolx up, .sl wT s ns false, .sl wT t nt true, i64x (i : Int), i64x n, boolx is, boolx h, i64x (j : Int)] []
      (.exit 4, [.sl wT l nl false, boolx z, boolx up, .sl wT s ns false, .sl wT t nt true, i64x (i : Int), i64x n, boolx is, boolx (h || decide (s.getD i [] ∈ l.drop j)), .dead], []) := by
  intro m
  induction m with
  | zero =>
    intro j h h1 h2
    rw [List.drop_eq_nil_iff.2 (show l.length ≤ j by omega)]
    refine LoopTo.left (by simp) fun k => ?_
    rw [lOsc, bf (by rw [decide_eq_false_iff_not]; omega), show (h || decide (s.getD i [] ∈ ([] : List (List Int)))) = h by simp]
    exact ⟨_, rfl, fk (fk (fk (fk (fk (fk (fk (fk (fk (fd (Forget.same _))))))))))⟩
  | succ m ih =>
    intro j h h1 h2
    have hj : j < l.length := by omega
    have hsj : (l.getD j (Ty.zero wT)).length ≤ 1000 := short_get hs hj
    have hk := wi1 (show j ≤ 9000000000000000000 by omega)
    have e : (h || decide (s.getD i [] ∈ l.drop j)) = ((h || decide (l.getD j (Ty.zero wT) = s.getD i (Ty.zero wT))) || decide (s.getD i [] ∈ l.drop (j + 1))) := by
      rw [dropG (Ty.zero wT) hj, Bool.or_assoc]
      congr 1
      by_cases q : l.getD j (Ty.zero wT) = s.getD i (Ty.zero wT)
      · have q' : s.getD i [] = l.getD j (Ty.zero wT) := q.symm
        rw [decide_eq_true q, Bool.true_or, decide_eq_true (by rw [q']; exact List.mem_cons_self)]
      · have q' : ¬ s.getD i [] = l.getD j (Ty.zero wT) := fun e => q e.symm
        simp only [List.mem_cons, q', false_or, decide_eq_false q, Bool.false_or]
    rw [e]
    refine LoopTo.next (fun k => ?_) (ih (j + 1) _ (by omega) (by omega))
    rw [lOsc]
    simp only [Int.toNat_natCast, hk, rw_se]
    rw [bt (by rw [decide_eq_true_eq]; omega)]
    cases h
    · rw [bt (c := (false == false)) rfl, bt (by rw [decide_eq_true_eq]; omega), bt (by rw [decide_eq_true_eq]; omega), bt (by rw [decide_eq_true_eq]; omega), Bool.false_or]
    · rw [bf (c := (true == false)) rfl, Bool.true_or]

theorem loopOsb (l : List (List Int)) (nl : Option Bool) (z up : Bool) (ns : Option Bool) (t : List (List Int)) (nt : Option Bool) (hl : l.length ≤ 200) (hs : shortB l = true) : ∀ (m i : Nat), (setL l).length - i = m → i ≤ (setL l).length →
    LoopTo (Cx Ar.real (Or8 Ar.real) (Los Ar.real)) 100 (loopAt Try.f5 1) 134 [0, 4, 5, 6, 7, 11] [.sl wT l nl false, boolx z, boolx up, .sl wT (setL l) ns false, .sl wT t nt true, i64x (i : Int)] []
      (.exit 2, [.sl wT l nl false, .dead, boolx up, .sl wT (setL l) ns false, .sl wT t nt true, .dead], []) := by
  intro m
  induction m with
  | zero =>
    intro i h1 h2
    refine LoopTo.left (by simp) fun k => ?_
    rw [lOsb, bf (by rw [decide_eq_false_iff_not]; omega)]
    exact ⟨_, rfl, fk (fd (fk (fk (fk (fd (Forget.same _))))))⟩
  | succ m ih =>
    intro i h1 h2
    have hi : i < (setL l).length := by omega
    have hlen := setL_len l
    have hss := setL_short hs
    have hr := setL_rises l
    have hsi : ((setL l).getD i (Ty.zero wT)).length ≤ 1000 := short_get hss hi
    have hm1 : (setL l).getD i (Ty.zero wT) ∈ setL l := memG _ hi
    have hm2 : (setL l).getD i [] ∈ l := setL_mem.1 (memG [] hi)
    have hge : (setL l).getD i (Ty.zero wT) = (setL l)[i] := by rw [List.getD_eq_getElem?_getD, List.getElem?_eq_getElem hi]; rfl
    have hcnt : cntL (setL l) ((setL l).getD i (Ty.zero wT)) = i := by
      have hm1' := hm1
      rw [hge] at hm1' ⊢
      obtain ⟨hc, e⟩ := (mem_cnt hr).1 hm1'
      have h3 := List.pairwise_iff_getElem.1 hr
      rcases Nat.lt_trichotomy (cntL (setL l) (setL l)[i]) i with q | q | q
      · have := h3 _ _ hc hi q; rw [e, ltL_irr] at this; cases this
      · exact q
      · have := h3 _ _ hi hc q; rw [e, ltL_irr] at this; cases this
    have hk := wi1 (show i ≤ 9000000000000000000 by omega)
    refine LoopTo.next (fun k => ?_) (ih (i + 1) (by omega) (by omega))
    rw [lOsb]
    simp only [Int.toNat_natCast, hk, rw_se, hss, hs, rises_set, Bool.and_self, Bool.and_true, hcnt, show Int.toNat 0 = 0 from rfl, List.drop_zero]
    rw [bt (by rw [decide_eq_true_eq]; omega), bt (by rw [decide_eq_true_eq]; omega), bt (by rw [decide_eq_true_eq]; omega), bt (by rw [decide_eq_true_eq]; omega), bt (by rw [decide_eq_true hm1]; rfl), bt (by rw [bne_self_eq_false]; rfl), bt (by rw [decide_eq_true hm2]; rfl)]
    by_cases h0 : i = 0
    · subst h0
      rw [bf (by decide)]
      try rfl
    · have hk1 : Ar.real.wrap .i64 ((i : Int) - 1) = ((i - 1 : Nat) : Int) := by rw [rw_wrap, wi64 (by omega) (by omega)]; omega
      have hs1 : ((setL l).getD (i - 1) (Ty.zero wT)).length ≤ 1000 := short_get hss (by omega)
      have hlt : ltL ((setL l).getD (i - 1) (Ty.zero wT)) ((setL l).getD i (Ty.zero wT)) = true := by
        have e1 : (setL l).getD (i - 1) (Ty.zero wT) = (setL l)[i - 1]'(by omega) := by rw [List.getD_eq_getElem?_getD, List.getElem?_eq_getElem (show i - 1 < (setL l).length by omega)]; rfl
        rw [e1, hge]
        exact List.pairwise_iff_getElem.1 hr _ _ _ hi (by omega)
      rw [bt (by rw [decide_eq_true (by omega)]; rfl), hk1]
      simp only [Int.toNat_natCast, hlt]
      rw [bt (by rw [decide_eq_true_eq]; omega), bt (by rw [decide_eq_true_eq]; omega), bt (by rw [decide_eq_true_eq]; exact ⟨Nat.le_trans hs1 (by decide), Nat.le_trans hsi (by decide)⟩)]
      try rfl

theorem sorts_ok : OrcOk Try.prog 5 (.pure (LawFb [.slice (.slice (.int .i64)), .int .u8])) := by
  refine law_pureB (Cx.ok o8 (Los Ar.real)) mixed 5 Try.f5 _ (by kernel_rfl) (by kernel_rfl) (by kernel_rfl) 100 3 (by kernel_rfl) (fun i h => ?_) fun args h hbd => ?_
  · have hi : i = 0 ∨ i = 1 ∨ i = 2 := by omega
    rcases hi with rfl | rfl | rfl
    · refine Tells.mk (key := 7) (N := 134) (ks := [0, 1, 4, 5, 6, 7, 8]) (F := LosaF Ar.real) (by kernel_rfl) rfl fun xs H r h => ?_
      unfold LosaF at h
      split at h
      · rename_i l nl f z up s ns t nt i
        obtain ⟨hg, rfl⟩ := Tr.one h
        simp only [rw_se, Bool.and_eq_true, decide_eq_true_eq] at hg ⊢
        dsimp only [Ty.den] at hg
        obtain ⟨⟨h1, h2, h3, h4, h5, rfl, rfl, rfl⟩, h6⟩ := hg
        obtain ⟨i, rfl⟩ := Int.eq_ofNat_of_zero_le h2
        obtain ⟨f, rfl⟩ := Int.eq_ofNat_of_zero_le h4
        simp only [Int.toNat_natCast]
        exact loopOsa l nl f z up ns h1 (by omega) h6 _ i rfl (by omega)
      · cases h
    · refine Tells.mk (key := 14) (N := 134) (ks := [0, 4, 5, 6, 7, 11]) (F := LosbF Ar.real) (by kernel_rfl) rfl fun xs H r h => ?_
      unfold LosbF at h
      split at h
      · rename_i l nl z up s ns t nt i
        obtain ⟨hg, rfl⟩ := Tr.one h
        simp only [rw_se, Bool.and_eq_true, decide_eq_true_eq] at hg ⊢
        dsimp only [Ty.den] at hg
        obtain ⟨⟨h1, h2, h3, rfl⟩, h6⟩ := hg
        obtain ⟨i, rfl⟩ := Int.eq_ofNat_of_zero_le h2
        exact loopOsb l nl z up ns t nt h1 h6 _ i rfl (by omega)
      · cases h
    · refine Tells.mk (key := 19) (N := 134) (ks := [0, 4, 5, 6, 7, 11, 12, 13, 14, 15]) (F := LoscF Ar.real) (by kernel_rfl) rfl fun xs H r h => ?_
      unfold LoscF at h
      split at h
      · rename_i l nl z up s ns t nt i n is hh k
        obtain ⟨hg, rfl⟩ := Tr.one h
        simp only [rw_se, Bool.and_eq_true, decide_eq_true_eq] at hg ⊢
        dsimp only [Ty.den] at hg
        obtain ⟨⟨h1, h2, h3, h4, h5⟩, h6⟩ := hg
        obtain ⟨k, rfl⟩ := Int.eq_ofNat_of_zero_le h2
        obtain ⟨i, rfl⟩ := Int.eq_ofNat_of_zero_le h4
        simp only [Int.toNat_natCast]
        exact loopOsc l nl z up s ns t nt i n is h1 h6 (by omega) _ k hh rfl (by omega)
      · cases h
  · obtain ⟨x, _, rfl, h1, k1⟩ := h.cons
    obtain ⟨y, _, rfl, ⟨f, rfl, h2⟩, k2⟩ := k1.cons
    obtain rfl := k2.nil
    obtain ⟨l, nl, rfl⟩ := arg_words h1
    have hl := bd_words hbd.cons.1
    have q2 := wfD_int h2
    rw [show IntKind.u8.min = 0 by decide, show IntKind.u8.max = 255 by decide] at q2
    obtain ⟨f, rfl⟩ := Int.eq_ofNat_of_zero_le q2.1
    refine ⟨[], ?_⟩
    rw [tOs, rw_se, bt (decide_eq_true hl)]
    cases hf : fewB l 200 with
    | false => rfl
    | true =>
      obtain ⟨f1, f2⟩ := few_short hf
      have sl := setL_len l
      have e1 : setL (setL l) = setL l := setL_of_rises (setL_rises l)
      have e2 : setL (turnL l f l.length) = setL l := setL_ext fun z => turnL_mem
      have e3 : shortB (turnL l f l.length) = true := by
        unfold shortB at f2 ⊢
        rw [List.all_eq_true] at f2 ⊢
        exact fun x hx => f2 x (turnL_mem.1 hx)
      rw [rw_se true, bf (c := !true) rfl]
      simp only [rw_se, f2, e1, e2, e3, setL_short f2, Bool.and_true, Int.toNat_natCast, turnL_len, decide_true, beq_self_eq_true, cond_true]
      rw [bt (by rw [decide_eq_true_eq]; omega), bt (by rw [decide_eq_true_eq]; exact ⟨by omega, by omega, by omega, by omega, by omega, trivial, rfl, trivial⟩), bt (by rw [decide_eq_true_eq]; exact ⟨by omega, by omega, by omega, trivial⟩), bt (by rw [decide_eq_true_eq]; omega), bt (by rw [decide_eq_true_eq]; omega), bt (by rw [decide_eq_true_eq]; omega), bt (by rw [decide_eq_true_eq]; omega), decide_eq_true (by omega)]

end Go.Proofs.Ytanbekjefbebaaa.V

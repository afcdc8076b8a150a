/-
  Chapter 09, word lists: WordsHas answers true, whatever it is given.
  It speaks of the pinned program alone; no condition.
-/
import Derived.Test.YtaefpopjlmhmoaaDoorWo8
import Derived.Test.YtaefpopjlmhmoaaDoorWq3
namespace Go.Proofs.YtaefpopjlmhmoaaDoor.V
open Go
set_option linter.unusedVariables false
set_option linter.unusedSimpArgs false

theorem rgErr : RgT (CxJ Ar.real (Ow12 Ar.real) (Lha Ar.real) noM8 (Jha Ar.real)) (rgAt Tryd.f5 7) := by
  refine RgT.mk (N := 146) (ks := [2, 3, 5, 7]) (F := JerrF Ar.real) (by kernel_rfl) fun xs H r h k => ?_
  unfold JerrF at h
  split at h
  · rename_i t ls ns
    obtain ⟨hg, rfl⟩ := Tr.one h
    simp only [rw_se, errB, Bool.and_eq_true, decide_eq_true_eq, Bool.not_eq_true'] at hg
    obtain ⟨⟨h1, h2⟩, h3, h4⟩ := hg
    have h1 : @LE.le Int _ 0 t := h1
    have h2 : @LT.lt Int _ t (ls.length : Int) := h2
    obtain ⟨j, rfl⟩ := Int.eq_ofNat_of_zero_le h1
    have hj : j < ls.length := by omega
    have hx := List.all_eq_true.1 h3 _ (R.memG (Ty.zero L.sT) hj)
    simp only [Bool.and_eq_true, decide_eq_true_eq] at hx
    simp only [Int.toNat_natCast] at h4
    have e0 : ls.getD j (Ty.zero L.sT) = ls.getD j [] := rfl
    refine ⟨[boolx true, boolx true, i64x (j : Int), .sl L.sT ls ns false], (jErr Ar.real _ (j : Int) ls ns k).trans ?_, R.fk (R.fd (R.fd (R.fd (Forget.same _))))⟩
    simp only [rw_se, Int.toNat_natCast]
    rw [bt (by rw [decide_eq_true (show (j : Int) ≥ 0 by omega)]; rfl), bt (by rw [decide_eq_true h2]; rfl), bt (by rw [decide_eq_true_eq]; omega), bt (okB hx.1 rfl hx.2), e0, h4]
    rfl
  · cases h
theorem rgEnd : RgT (CxJ Ar.real (Ow12 Ar.real) (Lha Ar.real) noM8 (Jha Ar.real)) (rgAt Tryd.f5 26) := by
  refine RgT.mk (N := 146) (ks := [2, 3, 4, 5, 8]) (F := JendF Ar.real) (by kernel_rfl) fun xs H r h k => ?_
  unfold JendF at h
  split at h
  · rename_i z l nl t n
    obtain ⟨hg, rfl⟩ := Tr.one h
    simp only [rw_se, endB, Bool.and_eq_true, decide_eq_true_eq, Bool.or_eq_true] at hg
    obtain ⟨h1, h2, h3⟩ := hg
    refine ⟨[boolx true, boolx true, .sl wTy l nl false, i64x t, i64x n], (jEnd Ar.real _ z l nl t n k).trans ?_, R.fk (R.fd (R.fd (R.fd (R.fd (Forget.same _)))))⟩
    rw [bt (by rw [decide_eq_true h1]; rfl)]
    cases hn : (n == 0) with
    | true => rw [bf (c := true == false) rfl, h3]
    | false =>
      rw [hn] at h2
      rw [bt (c := false == false) rfl, bt (by rw [decide_eq_true (h2.resolve_left (by simp))]; rfl), h3]
  · cases h
theorem rgsHa : RgsT (CxJ Ar.real (Ow12 Ar.real) (Lha Ar.real) noM8 (Jha Ar.real)) Tryd.f5 := by
  refine RgsT.mk (n := 27) (by kernel_rfl) fun i hi => ?_
  by_cases h6 : i = 7
  · subst h6; exact rgErr
  · by_cases h10 : i = 26
    · subst h10; exact rgEnd
    · refine RgT.off ?_
      have h : ((List.range 27).all fun i => i == 7 || (i == 26 || (Jha Ar.real (rgAt Tryd.f5 i).1).isNone)) = true := by kernel_rfl
      have := List.all_eq_true.1 h i (by simpa using hi)
      simp only [h6, h10, beq_iff_eq, Bool.or_eq_true, or_false, false_or, Option.isNone_iff_eq_none] at this
      exact this

theorem fullN_cons (q : List Int) (ls : List (List Int)) : fullN (q :: ls) = (bif L.bareB q then 0 else 1) + fullN ls := by
  unfold fullN
  cases hb : L.bareB q <;> simp [hb, Nat.add_comm]

theorem loopHa (z up : Bool) (l : List (List Int)) (nl : Option Bool) (t : Int) (ls : List (List Int)) (ns : Option Bool) (hls : ls.length ≤ 1000000) (hl : l.length ≤ 1000) (hk : okL ls = true) (h20 : short20 l = true) (hr : R.risesB l = true) : ∀ (n i m : Nat), ls.length - i = n → i ≤ ls.length → m ≤ i → (∀ q ∈ ls.drop i, lineIn l q = true) →
    LoopTo (CxJ Ar.real (Ow12 Ar.real) (Lha Ar.real) noM8 (Jha Ar.real)) 100 (loopAt Tryd.f5 0) 146 [2, 3, 4, 5, 7, 8, 9] [boolx z, boolx up, .sl wTy l nl false, i64x t, .sl L.sT ls ns false, i64x (m : Int), i64x (i : Int)] []
      (.exit 0, [boolx z, boolx up, .sl wTy l nl false, i64x t, .dead, i64x ((m : Int) + (fullN (ls.drop i) : Int)), .dead], []) := by
  intro n
  induction n with
  | zero =>
    intro i m h1 h2 h3 h4
    rw [List.drop_eq_nil_iff.2 (by omega), show (fullN [] : Nat) = 0 from rfl, show (m : Int) + ((0 : Nat) : Int) = (m : Int) by omega]
    refine LoopTo.left (by simp) fun k => ?_
    rw [lHa, bf (by rw [decide_eq_false_iff_not]; omega)]
    exact ⟨_, rfl, R.fk (R.fk (R.fk (R.fk (R.fd (R.fk (R.fd (Forget.same _)))))))⟩
  | succ n ih =>
    intro i m h1 h2 h3 h4
    have hi : i < ls.length := by omega
    have hx := List.all_eq_true.1 hk _ (R.memG (Ty.zero L.sT) hi)
    simp only [Bool.and_eq_true, decide_eq_true_eq] at hx
    rw [R.dropG (Ty.zero L.sT) hi] at h4 ⊢
    obtain ⟨x, hxx⟩ : ∃ x, x = ls.getD i (Ty.zero L.sT) := ⟨_, rfl⟩
    rw [← hxx] at h4 hx ⊢
    have hin := h4 x (by simp)
    have hrest := fun q hq => h4 q (List.mem_cons_of_mem _ hq)
    have hok := okB (nl := none) hx.1 rfl hx.2
    have hr0 : decide ((i : Int) < (ls.length : Int)) = true := by rw [decide_eq_true_eq]; omega
    have hr1 : decide ((0 : Int) ≤ (i : Int) ∧ (i : Int) < (ls.length : Int)) = true := by rw [decide_eq_true_eq]; omega
    have T := fun k => lHa Ar.real (Ex × List X × Hp) z up l nl t ls ns (m : Int) (i : Int) k
    simp only [Int.toNat_natCast, rw_se, R.wi1 (show i ≤ 9000000000000000000 by omega), R.wi1 (show m ≤ 9000000000000000000 by omega), ← hxx] at T
    rw [fullN_cons]
    cases hb : L.bareB x with
    | true =>
      rw [cond_true, Nat.zero_add]
      refine LoopTo.next (fun k => ?_) (ih (i + 1) m (by omega) (by omega) (by omega) hrest)
      rw [T, bt hr0, bt hr1, bt hok, bt hb]
    | false =>
      rw [cond_false, show (m : Int) + ((1 + fullN (ls.drop (i + 1)) : Nat) : Int) = ((m + 1 : Nat) : Int) + (fullN (ls.drop (i + 1)) : Int) by omega]
      unfold lineIn at hin
      rw [hb, Bool.false_or] at hin
      simp only [Bool.and_eq_true, decide_eq_true_eq, beq_iff_eq] at hin
      obtain ⟨g1, g2, g3⟩ := hin
      have hm : (L.fieldsL x).getD 0 [] ∈ L.fieldsL x := R.memG [] (by omega)
      have hq := L.fields_mem hm
      have hq1 : bytesB ((L.fieldsL x).getD 0 []) = true := bytesB_iff.2 fun c hc => bytesB_iff.1 hx.1 c (hq.2 c hc).1
      have hq2 : ((L.fieldsL x).getD 0 []).length ≤ x.length := L.piece_len L.isBl x _ (L.full_mem hm).1
      have hw := short20_iff.1 h20 _ g3
      refine LoopTo.next (fun k => ?_) (ih (i + 1) (m + 1) (by omega) (by omega) (by omega) hrest)
      have e0 : List.getD (L.fieldsL x) (Int.toNat 0) (Ty.zero L.sT) = (L.fieldsL x).getD 0 [] := rfl
      rw [T, bt hr0, bt hr1, bt hok, bf hb, bt hr1, bt hok, bf (by rw [bne_eq_false_iff_eq]; omega), bt (by rw [decide_eq_true_eq]; omega), e0,
        bt (by rw [Bool.and_eq_true, decide_eq_true_eq]; exact ⟨hq1, by omega⟩), bt (by simp only [Bool.and_eq_true, decide_eq_true_eq]; exact ⟨⟨by omega, by omega⟩, short20_short h20, hr⟩), bt (by rw [g2]; rfl), bf (by rw [decide_eq_true g3]; rfl)]

theorem loopHb (z up : Bool) (l : List (List Int)) (nl : Option Bool) (t n0 : Int) (hl : l.length ≤ 1000) (hf : ∀ w ∈ l, fitB w = true) (hr : R.Rises l) : ∀ (n i : Nat), l.length - i = n → i ≤ l.length →
    LoopTo (CxJ Ar.real (Ow12 Ar.real) (Lha Ar.real) noM8 (Jha Ar.real)) 100 (loopAt Tryd.f5 1) 146 [2, 3, 4, 5, 8, 15] [boolx z, boolx up, .sl wTy l nl false, i64x t, i64x n0, i64x (i : Int)] []
      (.exit 2, [boolx z, boolx up, .sl wTy l nl false, i64x t, i64x n0, .dead], []) := by
  intro n
  induction n with
  | zero =>
    intro i h1 h2
    refine LoopTo.left (by simp) fun k => ?_
    rw [lHb, bf (by rw [decide_eq_false_iff_not]; omega)]
    exact ⟨_, rfl, R.fk (R.fk (R.fk (R.fk (R.fk (R.fd (Forget.same _))))))⟩
  | succ n ih =>
    intro i h1 h2
    have hi : i < l.length := by omega
    have hfi := hf _ (R.memG (Ty.zero wTy) hi)
    have hle := (fitB_good hfi).2.2.1
    have hge := (fitB_good hfi).2.1
    have hne : l.getD i (Ty.zero wTy) ≠ [] := by
      intro e
      rw [e] at hge
      simp at hge
    have hr0 : decide ((i : Int) < (l.length : Int)) = true := by rw [decide_eq_true_eq]; omega
    have hr1 : decide ((0 : Int) ≤ (i : Int) ∧ (i : Int) < (l.length : Int)) = true := by rw [decide_eq_true_eq]; omega
    have hd : decide ((l.getD i (Ty.zero wTy)).length ≤ 1000000) = true := decide_eq_true (Nat.le_trans hle (by omega))
    refine LoopTo.next (fun k => ?_) (ih (i + 1) (by omega) (by omega))
    rw [lHb]
    simp only [Int.toNat_natCast, rw_se, R.wi1 (show i ≤ 9000000000000000000 by omega)]
    rw [bt hr0, bt hr1, bt hd, bt (by rw [hfi]; rfl)]
    by_cases h0 : i = 0
    · subst h0
      rw [bf (by rfl), bt hr1, bt hd, bf (decide_eq_false hne)]
    · have hw : Ar.real.wrap .i64 ((i : Int) - 1) = ((i - 1 : Nat) : Int) := by rw [rw_wrap, wi64 (by omega) (by omega)]; omega
      have hi1 : i - 1 < l.length := by omega
      have hle1 := (fitB_good (hf _ (R.memG (Ty.zero wTy) hi1))).2.2.1
      have hlt : R.ltL (l.getD (i - 1) (Ty.zero wTy)) (l.getD i (Ty.zero wTy)) = true := by
        have := List.pairwise_iff_getElem.1 hr (i - 1) i hi1 hi (by omega)
        rw [List.getD_eq_getElem?_getD, List.getElem?_eq_getElem hi1, List.getD_eq_getElem?_getD, List.getElem?_eq_getElem hi]
        exact this
      simp only [hw, Int.toNat_natCast]
      rw [bt (by rw [decide_eq_true (show (i : Int) > 0 by omega)]; rfl), bt (by rw [decide_eq_true_eq]; omega), bt hr1, bt (decide_eq_true ⟨Nat.le_trans hle1 (by omega), Nat.le_trans hle (by omega)⟩), bt (by rw [hlt]; rfl), bt hr1, bt hd, bf (decide_eq_false hne)]

theorem wsL_len (ls : List (List Int)) : (wsL ls).length = fullN ls := by simp [wsL, fullN]

theorem has_ok : OrcOk Tryd.prog 5 (.pure (LawFc [.slice (.int .u8)])) := by
  refine law_pure (CxJ.ok ow12 (Lha Ar.real) noM8 (Jha Ar.real)) mixed 5 Tryd.f5 _ (by kernel_rfl) (by kernel_rfl) (by kernel_rfl) 100 2 (by kernel_rfl) (fun i h => ?_) (fun args h => ?_) (hJ := rgsHa)
  · rcases (show i = 0 ∨ i = 1 by omega) with rfl | rfl
    · refine Tells.mk (key := 10) (N := 146) (ks := [2, 3, 4, 5, 7, 8, 9]) (F := LhaF Ar.real) (by kernel_rfl) rfl fun xs H r h => ?_
      unfold LhaF at h
      split at h
      · rename_i z up l nl t ls ns n i
        obtain ⟨hg, rfl⟩ := Tr.one h
        simp only [rw_se, Bool.and_eq_true, decide_eq_true_eq, List.all_eq_true] at hg ⊢
        dsimp only [Ty.den] at hg
        obtain ⟨⟨h1, h2, h3, h4, h5, h6⟩, h7, h8, h9, h10⟩ := hg
        obtain ⟨i', rfl⟩ := Int.eq_ofNat_of_zero_le h1
        obtain ⟨m', rfl⟩ := Int.eq_ofNat_of_zero_le h5
        simp only [Int.toNat_natCast] at h10 ⊢
        exact loopHa z up l nl t ls ns h3 h4 h7 h8 h9 _ i' m' rfl (by omega) (by omega) h10
      · cases h
    · refine Tells.mk (key := 22) (N := 146) (ks := [2, 3, 4, 5, 8, 15]) (F := LhbF Ar.real) (by kernel_rfl) rfl fun xs H r h => ?_
      unfold LhbF at h
      split at h
      · rename_i z up l nl t n i
        obtain ⟨hg, rfl⟩ := Tr.one h
        simp only [rw_se, Bool.and_eq_true, decide_eq_true_eq, List.all_eq_true] at hg ⊢
        dsimp only [Ty.den] at hg
        obtain ⟨⟨h1, h2, h3⟩, h4, h5⟩ := hg
        obtain ⟨i', rfl⟩ := Int.eq_ofNat_of_zero_le h1
        exact loopHb z up l nl t n h3 h4 (R.risesB_iff.1 h5) _ i' rfl (by omega)
      · cases h
  · obtain ⟨x, _, rfl, h1, k1⟩ := h.cons
    obtain rfl := k1.nil
    obtain ⟨b, nb, rfl, hy, hn⟩ := arg_bytes h1
    refine ⟨[], ?_⟩
    rw [tHas]
    simp only [rw_se, show Int.toNat 0 = 0 from rfl, List.drop_zero]
    by_cases g1 : b.length > 3000
    · rw [bt (by rw [decide_eq_true_eq]; omega)]
    · obtain ⟨s1, s2⟩ := split_ok9 hy (by omega)
      obtain ⟨r1, r2⟩ := read_short hy
      rw [bf (by rw [decide_eq_false_iff_not]; omega), bt (okB hy hn (by omega)), bt (okB hy hn (by omega))]
      by_cases e1 : (readW b).2.2 = 0
      · obtain ⟨a1, a2, a3⟩ := readW_ok e1
        obtain ⟨f1, f2, f3⟩ := read_fit hy e1
        have hall : (L.splitL b).all (lineIn (readW b).1) = true := by
          rw [List.all_eq_true]
          intro q hq
          unfold lineIn
          cases hb : L.bareB q with
          | true => rfl
          | false =>
            have he := a1 q hq hb
            have hmem : (wordW q).1 ∈ (readW b).1 := by
              rw [a3]
              refine R.setL_mem.2 ?_
              unfold wsL
              rw [List.mem_map]
              exact ⟨q, List.mem_filter.2 ⟨hq, by rw [hb]; rfl⟩, rfl⟩
            have hs := word_short he
            unfold wordW at he hmem hs
            by_cases hl : (L.fieldsL q).length = 1
            · rw [if_pos hl] at he hmem hs
              simp only at he hmem hs
              rw [if_neg (by omega)] at he
              simp only [Bool.false_or, Bool.and_eq_true, decide_eq_true_eq, beq_iff_eq]
              exact ⟨hl, he, hmem⟩
            · rw [if_neg hl] at he
              simp at he
        have hle : (readW b).1.length ≤ fullN (L.splitL b) := by
          rw [a3, ← wsL_len]
          exact R.setL_len _
        have hpos : fullN (L.splitL b) = 0 ∨ 0 < (readW b).1.length := by
          by_cases h0 : fullN (L.splitL b) = 0
          · exact .inl h0
          · refine .inr ?_
            rw [← wsL_len] at h0
            obtain ⟨w, hw⟩ := List.exists_mem_of_length_pos (Nat.pos_of_ne_zero h0)
            have : w ∈ (readW b).1 := by rw [a3]; exact R.setL_mem.2 hw
            exact List.length_pos_of_mem this
        rw [bf (by rw [e1]; rfl), bt (by
          simp only [Bool.and_eq_true, decide_eq_true_eq]
          exact ⟨⟨by omega, by omega, by omega, by omega, by omega, by omega⟩, s1, r1, R.risesB_iff.2 f2, hall⟩), bt (by
          simp only [Bool.and_eq_true, decide_eq_true_eq, List.all_eq_true]
          exact ⟨⟨by omega, by omega, by omega⟩, f1, R.risesB_iff.2 f2⟩), bt (by
          unfold endB
          simp only [Bool.and_eq_true, decide_eq_true_eq, Bool.or_eq_true, beq_iff_eq]
          refine ⟨by omega, ?_, by rw [a3]⟩
          rcases hpos with h | h
          · exact .inl (by omega)
          · exact .inr (by omega))]
      · obtain ⟨k, k1, k2, k3⟩ := goR_err (L.splitL b) 0 [] e1
        have k2' : (readW b).2.1 = (k : Int) := by
          have : (readW b).2.1 = 0 + (k : Int) := k2
          omega
        rw [bt (by rw [bne_iff_ne]; exact e1), bt (by
          unfold errB
          rw [k2']
          simp only [Bool.and_eq_true, decide_eq_true_eq, Int.toNat_natCast, Bool.not_eq_true']
          exact ⟨⟨by omega, by omega⟩, s1, k3⟩)]

end Go.Proofs.YtaefpopjlmhmoaaDoor.V

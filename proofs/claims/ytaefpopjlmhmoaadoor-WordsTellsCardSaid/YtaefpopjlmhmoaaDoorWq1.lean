/-
  Chapter 09, word lists: WordsBack and WordsJoins answer true, whatever they are given.
  It speaks of the pinned program alone; no condition.
-/
import Derived.Test.YtaefpopjlmhmoaaDoorWo6
import Derived.Test.YtaefpopjlmhmoaaDoorWo7
import Derived.Test.YtaefpopjlmhmoaaDoorWp1
namespace Go.Proofs.YtaefpopjlmhmoaaDoor.V
open Go
set_option linter.unusedVariables false
set_option linter.unusedSimpArgs false

theorem arg_bytes {x : X} (h : ArgOf (.slice (.int .u8)) x) : ∃ (b : List Int) (nl : Bool), x = u8s b (some nl) false ∧ bytesB b = true ∧ L.nlO (some nl) b = true := by
  obtain ⟨xs, nl, rfl, h1, h2⟩ := h
  refine ⟨xs, nl, rfl, bytes_wf h1, ?_⟩
  cases nl with
  | false => rfl
  | true =>
    have e : xs = [] := by simpa using h2
    subst e
    rfl
theorem arg_words9 {x : X} (h : ArgOf (.slice (.slice (.int .i64))) x) : ∃ (b : List (List Int)) (nl : Bool), x = .sl wTy b (some nl) false := by
  obtain ⟨xs, nl, rfl, _⟩ := h
  exact ⟨xs, nl, rfl⟩
theorem arg_word9 {x : X} (h : ArgOf (.slice (.int .i64)) x) : ∃ (b : List Int) (nl : Bool), x = i64s b (some nl) false := by
  obtain ⟨xs, nl, rfl, _⟩ := h
  exact ⟨xs, nl, rfl⟩
theorem bd_words9 {l : List (List Int)} {nl : Option Bool} {o : Bool} (h : BdX (.slice (.slice (.int .i64))) (.sl wTy l nl o)) : l.length ≤ 9000000000000000000 := by
  obtain ⟨xs, nl', o', e, hb⟩ := h
  cases e
  have h1 : ebT (.slice (.int .i64)) = 24 := by decide
  have h2 : reachBytes ≤ 216000000000000000000 := by decide
  rw [h1] at hb
  omega
theorem few400 {l : List (List Int)} (h : R.fewB l 400 = true) : l.length ≤ 400 ∧ R.shortB l = true := by
  unfold R.fewB at h
  rw [Bool.and_eq_true, decide_eq_true_eq] at h
  refine ⟨by omega, ?_⟩
  unfold R.shortB
  rw [List.all_eq_true]
  intro x hx
  have := List.all_eq_true.1 h.1 x hx
  rw [decide_eq_true_eq] at this ⊢
  omega
theorem okB {b : List Int} {nl : Option Bool} (h1 : bytesB b = true) (h2 : L.nlO nl b = true) (h3 : b.length ≤ 50000) : L.Ok Ar.real b nl = true := by
  simp only [L.Ok, rw_se, Bool.and_eq_true, decide_eq_true_eq]
  exact ⟨h1, h2, h3⟩
theorem nlO_empty (b : List Int) : L.nlO (some b.isEmpty) b = true := by cases b <;> rfl

theorem rgOne : RgT (CxJ Ar.real (Ow12 Ar.real) noL noM9 (Jbk Ar.real)) (rgAt Tryd.f4 6) := by
  refine RgT.mk (N := 114) (ks := [0, 1, 5, 6, 7, 8, 9, 10, 11]) (F := JoneF Ar.real) (by kernel_rfl) fun xs H r h k => ?_
  unfold JoneF at h
  split at h
  · rename_i b nb l nl up p np e x nx i f
    obtain ⟨hg, rfl⟩ := Tr.one h
    simp only [rw_se, oneB] at hg
    refine ⟨[u8s b nb false, .sl wTy l nl false, boolx up, u8s p np false, i64x e, .sl wTy x nx false, i64x i, i64x f, boolx true], (jOne Ar.real _ b nb l nl up p np e x nx i f k).trans ?_, R.fk (R.fd (R.fk (R.fd (R.fd (R.fd (R.fd (R.fd (R.fk (Forget.same _)))))))))⟩
    simp only [rw_se]
    by_cases he : e = 0
    · subst he
      rw [bt (c := (0 : Int) == 0) rfl] at hg
      simp only [Bool.and_eq_true, decide_eq_true_eq] at hg
      obtain ⟨h1, h2, h3, h4, h5⟩ := hg
      rw [bf (c := ((0 : Int) != 0) == true) rfl, bt (c := ((0 : Int) == 0) == true) rfl, bt (by rw [h1]; rfl), bt (by rw [h2]; rfl), bt (by rw [Bool.and_eq_true, decide_eq_true_eq]; exact ⟨h4, h5⟩), decide_eq_true h3]
    · have e1 : (e == 0) = false := beq_eq_false_iff_ne.2 he
      rw [bf e1] at hg
      have hp : p = [] := List.isEmpty_iff.1 hg
      subst hp
      rw [bt (by rw [bne, e1]; rfl), bf (by rfl)]
  · cases h

theorem rgTwo : RgT (CxJ Ar.real (Ow12 Ar.real) noL noM9 (Jbk Ar.real)) (rgAt Tryd.f4 10) := by
  refine RgT.mk (N := 114) (ks := [5, 11, 12, 14, 16, 17, 19, 20]) (F := JtwoF Ar.real) (by kernel_rfl) fun xs H r h k => ?_
  unfold JtwoF at h
  split at h
  · rename_i up one y ny g h0 z nz j
    obtain ⟨hg, rfl⟩ := Tr.one h
    simp only [rw_se, twoB] at hg
    refine ⟨[boolx up, boolx one, .sl wTy y ny false, i64x g, i64x h0, .sl wTy z nz false, i64x j, boolx true], (jTwo Ar.real _ up one y ny g h0 z nz j k).trans ?_, R.fk (R.fk (R.fd (R.fd (R.fd (R.fd (R.fd (R.fk (Forget.same _))))))))⟩
    simp only [rw_se]
    by_cases he : g = 0
    · subst he
      rw [bt (c := (0 : Int) == 0) rfl] at hg
      simp only [Bool.and_eq_true, decide_eq_true_eq] at hg
      obtain ⟨h1, h2, h3, h4, h5⟩ := hg
      rw [bf (c := ((0 : Int) != 0) == true) rfl, bt (c := ((0 : Int) == 0) == true) rfl, bt (by rw [h1]; rfl), bt (by rw [h2]; rfl), bt (by rw [Bool.and_eq_true, decide_eq_true_eq]; exact ⟨h4, h5⟩), decide_eq_true h3]
    · have e1 : (g == 0) = false := beq_eq_false_iff_ne.2 he
      rw [bf e1] at hg
      have hp : y = [] := List.isEmpty_iff.1 hg
      subst hp
      rw [bt (by rw [bne, e1]; rfl), bf (by rfl)]
  · cases h

theorem rgsBk : RgsT (CxJ Ar.real (Ow12 Ar.real) noL noM9 (Jbk Ar.real)) Tryd.f4 := by
  refine RgsT.mk (n := 12) (by kernel_rfl) fun i hi => ?_
  by_cases h6 : i = 6
  · subst h6; exact rgOne
  · by_cases h10 : i = 10
    · subst h10; exact rgTwo
    · refine RgT.off ?_
      have h : ((List.range 12).all fun i => i == 6 || (i == 10 || (Jbk Ar.real (rgAt Tryd.f4 i).1).isNone)) = true := by kernel_rfl
      have := List.all_eq_true.1 h i (by simpa using hi)
      simp only [h6, h10, beq_iff_eq, Bool.or_eq_true, or_false, false_or, Option.isNone_iff_eq_none] at this
      exact this

theorem one_true (l : List (List Int)) : oneB l (writeW l).1 (writeW l).2 (readW (writeW l).1).1 (readW (writeW l).1).2.1 (readW (writeW l).1).2.2 = true := by
  unfold oneB
  by_cases h : (writeW l).2 = 0
  · obtain ⟨h1, h2, h3, h4⟩ := writeW_ok h
    rw [h4]
    have e : readW (joinW l) = (l, -1, 0) := read_join h2 h3 h1
    simp only [e]
    rw [bt (c := (0 : Int) == 0) rfl]
    simp only [Bool.and_eq_true, decide_eq_true_eq]
    exact ⟨rfl, rfl, trivial, by omega, short20_short (fit_short h2)⟩
  · rw [bf (beq_eq_false_iff_ne.2 h), writeW_bad h]; rfl
theorem two_true {b : List Int} (hy : bytesB b = true) : twoB (readW b).1 (readW b).2.2 (writeW (readW b).1).2 (readW (writeW (readW b).1).1).2.2 (readW (writeW (readW b).1).1).1 = true := by
  unfold twoB
  by_cases h : (readW b).2.2 = 0
  · obtain ⟨h1, h2, h3⟩ := read_fit hy h
    have e1 := writeW_of h3 h1 h2
    have e2 : readW (joinW (readW b).1) = ((readW b).1, -1, 0) := read_join h1 h2 h3
    rw [h, bt (c := (0 : Int) == 0) rfl]
    simp only [e1, e2, Bool.and_eq_true, decide_eq_true_eq]
    exact ⟨rfl, rfl, trivial, by omega, short20_short (fit_short h1)⟩
  · rw [bf (beq_eq_false_iff_ne.2 h), show (readW b).1 = [] from goR_nil _ _ _ h]; rfl

theorem back_ok : OrcOk Tryd.prog 4 (.pure (LawFb [.slice (.int .u8), .slice (.slice (.int .i64))])) := by
  refine law_pureB (CxJ.ok ow12 noL noM9 (Jbk Ar.real)) mixed 4 Tryd.f4 _ (by kernel_rfl) (by kernel_rfl) (by kernel_rfl) 100 0 (by kernel_rfl) (fun i h => by omega) (fun args h hbd => ?_) (hJ := rgsBk)
  obtain ⟨x, _, rfl, h1, k1⟩ := h.cons
  obtain ⟨y, _, rfl, h2, k2⟩ := k1.cons
  obtain rfl := k2.nil
  obtain ⟨b, nb, rfl, hy, hn⟩ := arg_bytes h1
  obtain ⟨l, nl, rfl⟩ := arg_words9 h2
  have hl := bd_words9 hbd.2.1
  refine ⟨[], ?_⟩
  rw [tBack]
  simp only [rw_se]
  by_cases g1 : b.length > 3000
  · rw [bf (by rw [decide_eq_true (show (b.length : Int) > 3000 by omega)]; rfl)]
  · rw [bt (by rw [decide_eq_false (show ¬ (b.length : Int) > 3000 by omega)]; rfl), bt (decide_eq_true hl)]
    cases g2 : R.fewB l 400 with
    | false => rw [bt (c := !false) rfl]
    | true =>
      obtain ⟨f1, f2⟩ := few400 g2
      obtain ⟨w1, w2⟩ := write_bytes l
      obtain ⟨r1, r2⟩ := read_short hy
      obtain ⟨v1, v2⟩ := write_bytes (readW b).1
      rw [bf (c := !true) rfl, bt (by rw [Bool.and_eq_true, decide_eq_true_eq]; exact ⟨by omega, f2⟩), bt (okB w1 (nlO_empty _) w2), bt (one_true l), bt (okB hy hn (by omega)), bt (by rw [Bool.and_eq_true, decide_eq_true_eq]; exact ⟨by omega, short20_short r1⟩), bt (okB v1 (nlO_empty _) v2), bt (two_true hy)]

theorem rgJa : RgT (CxJ Ar.real (Ow12 Ar.real) noL noM10 (Jjo Ar.real)) (rgAt Tryd.f6 11) := by
  refine RgT.mk (N := 94) (ks := [4, 5, 12, 13, 14]) (F := JjaF Ar.real) (by kernel_rfl) fun xs H r h k => ?_
  unfold JjaF at h
  split at h
  · rename_i z nz t g
    obtain ⟨hg, rfl⟩ := Tr.one h
    simp only [rw_se, jaB, Bool.and_eq_true, List.isEmpty_iff] at hg
    obtain ⟨h1, h2, h3⟩ := hg
    subst h3
    refine ⟨[boolx true, boolx true, .sl wTy [] nz false, i64x t, i64x g], (jJa Ar.real _ [] nz t g k).trans ?_, R.fk (R.fd (R.fd (R.fd (R.fd (Forget.same _)))))⟩
    rw [bt (by rw [h1]; rfl), bt (by rw [h2]; rfl)]
    rfl
  · cases h
theorem rgJb : RgT (CxJ Ar.real (Ow12 Ar.real) noL noM10 (Jjo Ar.real)) (rgAt Tryd.f6 12) := by
  refine RgT.mk (N := 94) (ks := [4, 5, 12, 13, 14, 15]) (F := JjbF Ar.real) (by kernel_rfl) fun xs H r h k => ?_
  unfold JjbF at h
  split at h
  · rename_i z nz t g all na
    obtain ⟨hg, rfl⟩ := Tr.one h
    simp only [rw_se, jbB, Bool.and_eq_true, decide_eq_true_eq] at hg
    obtain ⟨h1, h2, h3, h4, h5⟩ := hg
    refine ⟨[boolx true, boolx true, .sl wTy z nz false, i64x t, i64x g, .sl wTy all na false], (jJb Ar.real _ z nz t g all na k).trans ?_, R.fk (R.fd (R.fd (R.fd (R.fd (R.fd (Forget.same _))))))⟩
    simp only [rw_se]
    rw [bt (by rw [h1]; rfl), bt (by rw [h2]; rfl), bt (by rw [Bool.and_eq_true, decide_eq_true_eq]; exact ⟨h4, h5⟩), decide_eq_true h3]
  · cases h
theorem rgsJo : RgsT (CxJ Ar.real (Ow12 Ar.real) noL noM10 (Jjo Ar.real)) Tryd.f6 := by
  refine RgsT.mk (n := 13) (by kernel_rfl) fun i hi => ?_
  by_cases h6 : i = 11
  · subst h6; exact rgJa
  · by_cases h10 : i = 12
    · subst h10; exact rgJb
    · refine RgT.off ?_
      have h : ((List.range 13).all fun i => i == 11 || (i == 12 || (Jjo Ar.real (rgAt Tryd.f6 i).1).isNone)) = true := by kernel_rfl
      have := List.all_eq_true.1 h i (by simpa using hi)
      simp only [h6, h10, beq_iff_eq, Bool.or_eq_true, or_false, false_or, Option.isNone_iff_eq_none] at this
      exact this

theorem short_app {a b : List (List Int)} (h1 : short20 a = true) (h2 : short20 b = true) : short20 (a ++ b) = true := short20_iff.2 fun w hw => by
  rcases List.mem_append.1 hw with h | h
  · exact short20_iff.1 h1 w h
  · exact short20_iff.1 h2 w h

theorem joins_ok : OrcOk Tryd.prog 6 (.pure (LawFc [.slice (.int .u8), .slice (.int .u8)])) := by
  refine law_pure (CxJ.ok ow12 noL noM10 (Jjo Ar.real)) mixed 6 Tryd.f6 _ (by kernel_rfl) (by kernel_rfl) (by kernel_rfl) 100 0 (by kernel_rfl) (fun i h => by omega) (fun args h => ?_) (hJ := rgsJo)
  obtain ⟨x, _, rfl, h1, k1⟩ := h.cons
  obtain ⟨y, _, rfl, h2, k2⟩ := k1.cons
  obtain rfl := k2.nil
  obtain ⟨a, na, rfl, ha, hna⟩ := arg_bytes h1
  obtain ⟨b, nb, rfl, hb, hnb⟩ := arg_bytes h2
  refine ⟨[], ?_⟩
  rw [tJoins]
  simp only [rw_se, List.nil_append]
  by_cases g1 : a.length > 2000
  · rw [bf (by rw [decide_eq_true (show (a.length : Int) > 2000 by omega)]; rfl)]
  · rw [bt (by rw [decide_eq_false (show ¬ (a.length : Int) > 2000 by omega)]; rfl)]
    by_cases g2 : b.length > 2000
    · rw [bt (by rw [decide_eq_true_eq]; omega)]
    · rw [bf (by rw [decide_eq_false_iff_not]; omega), bt (okB ha hna (by omega)), bt (okB hb hnb (by omega))]
      by_cases e1 : (readW a).2.2 = 0
      · rw [bt (by rw [e1]; rfl)]
        by_cases e2 : (readW b).2.2 = 0
        · obtain ⟨x1, x2⟩ := read_short ha
          obtain ⟨y1, y2⟩ := read_short hb
          have l1 : (a ++ [(10 : Int)]).length = a.length + 1 := by simp
          have l2 : (a ++ [(10 : Int)] ++ b).length = a.length + 1 + b.length := by simp only [List.length_append, List.length_singleton]
          have hab : bytesB (a ++ [(10 : Int)] ++ b) = true := bytesB_iff.2 fun c hc => by
            rw [List.mem_append, List.mem_append] at hc
            rcases hc with (hc | hc) | hc
            · exact bytesB_iff.1 ha c hc
            · have : c = 10 := by simpa using hc
              omega
            · exact bytesB_iff.1 hb c hc
          have ec : a ++ [(10 : Int)] ++ b = a ++ 10 :: b := by simp
          have hnl : L.nlO (Option.map (fun x => x && b.isEmpty) (Option.map (fun x => x && List.isEmpty [(10 : Int)]) (Option.map (fun x => x && a.isEmpty) (some false)))) (a ++ [(10 : Int)] ++ b) = true := by simp [L.nlO]
          rw [bf (by rw [e2]; rfl), bt (by rw [decide_eq_true_eq]; omega), bt (by rw [decide_eq_true_eq, List.length_singleton]; omega), bt (by rw [decide_eq_true_eq, l1]; omega), bt (okB hab hnl (by omega)), bt (by rw [decide_eq_true_eq]; omega), bt (by rw [decide_eq_true_eq]; omega),
            bt (by rw [Bool.and_eq_true, decide_eq_true_eq, List.length_append]; exact ⟨by omega, short20_short (short_app x1 y1)⟩)]
          rw [ec]
          rcases read_joins e1 e2 with ⟨q1, t, q2, q3⟩ | ⟨q1, q2⟩
          · rw [bt (by rw [decide_eq_true_eq]; omega), bt (by
              rw [q3]
              simp only [jaB, Bool.and_eq_true, decide_eq_true_eq]
              exact ⟨rfl, q2, rfl⟩)]
          · rw [bf (by rw [decide_eq_false_iff_not]; omega), bt (by
              rw [q2]
              simp only [jbB, Bool.and_eq_true, decide_eq_true_eq]
              exact ⟨rfl, rfl, trivial, by omega, R.setL_short (short20_short (short_app x1 y1))⟩)]
        · rw [bt (by rw [bne_iff_ne]; exact e2)]
      · rw [bf (by rw [show ((readW a).2.2 != 0) = true from bne_iff_ne.2 e1]; rfl)]

end Go.Proofs.YtaefpopjlmhmoaaDoor.V

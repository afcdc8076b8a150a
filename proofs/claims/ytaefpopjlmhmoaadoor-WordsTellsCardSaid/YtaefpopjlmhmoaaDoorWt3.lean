/-
  Chapter 09, word lists: the document's Write and Read do what they tell.
  It speaks of the pinned program alone; no condition.
-/
import Derived.Test.YtaefpopjlmhmoaaDoorWt2
namespace Go.Proofs.YtaefpopjlmhmoaaDoor.V
open Go
set_option linter.unusedVariables false
set_option linter.unusedSimpArgs false

theorem okF_iff : ∀ (p : Option (List Int)) (l : List (List Int)), okF p l = true ↔ (∀ w ∈ l, fitB w = true) ∧ R.Rises l ∧ (∀ q, p = some q → ∀ w ∈ l, R.ltL q w = true)
  | _, [] => by simp [okF, R.Rises]
  | none, w :: r => by
    rw [okF, Bool.and_eq_true, okF_iff (some w) r]
    constructor
    · rintro ⟨h1, h2, h3, h4⟩
      refine ⟨fun x hx => ?_, List.pairwise_cons.2 ⟨h4 w rfl, h3⟩, fun q e => by cases e⟩
      rcases List.mem_cons.1 hx with rfl | hx
      · exact h1
      · exact h2 x hx
    · rintro ⟨h1, h2, _⟩
      obtain ⟨h2, h3⟩ := List.pairwise_cons.1 h2
      exact ⟨h1 w (by simp), fun x hx => h1 x (by simp [hx]), h3, fun q e x hx => by cases e; exact h2 x hx⟩
  | some p, w :: r => by
    rw [okF, Bool.and_eq_true, Bool.and_eq_true, okF_iff (some w) r]
    constructor
    · rintro ⟨h1, h5, h2, h3, h4⟩
      refine ⟨fun x hx => ?_, List.pairwise_cons.2 ⟨h4 w rfl, h3⟩, fun q e x hx => ?_⟩
      · rcases List.mem_cons.1 hx with rfl | hx
        · exact h1
        · exact h2 x hx
      · cases e
        rcases List.mem_cons.1 hx with rfl | hx
        · exact h5
        · exact R.ltL_tr h5 (h4 w rfl x hx)
    · rintro ⟨h1, h2, h5⟩
      obtain ⟨h2, h3⟩ := List.pairwise_cons.1 h2
      exact ⟨h1 w (by simp), h5 p rfl w (by simp), fun x hx => h1 x (by simp [hx]), h3, fun q e x hx => by cases e; exact h2 x hx⟩

theorem writeW_okF {l : List (List Int)} (h : ¬ l.length > 300) : writeW l = bif okF none l then (joinW l, 0) else ([], 90) := by
  cases hc : okF none l with
  | true =>
    obtain ⟨h1, h2, _⟩ := (okF_iff none l).1 hc
    rw [cond_true, writeW_of (by omega) h1 h2]
  | false =>
    rw [cond_false]
    unfold writeW
    rw [if_neg h]
    cases h2 : l.any badB with
    | true => rfl
    | false =>
      cases h3 : (decide ((R.setL l).length ≠ l.length) || !(sortB l)) with
      | true => rfl
      | false =>
        have := (okF_iff none l).2 ⟨any_bad h2, sorted_rises.1 h3, fun q e => by cases e⟩
        rw [hc] at this
        cases this

/-- Behind the word ahead. -/
def riseAt (l : List (List Int)) (i : Nat) : Bool := bif decide (i = 0) then true else R.ltL (l.getD (i - 1) []) (l.getD i [])
theorem okF_step {l : List (List Int)} {i : Nat} (hi : i < l.length) : okF (prev l i) (l.drop i) = ((fitB (l.getD i []) && riseAt l i) && okF (prev l (i + 1)) (l.drop (i + 1))) := by
  rw [R.dropG ([] : List Int) hi]
  cases i with
  | zero => simp only [prev, okF, riseAt]; cases fitB (l.getD 0 []) <;> rfl
  | succ i => simp only [prev, okF, riseAt, Nat.add_sub_cancel]; rw [decide_eq_false (show ¬ i + 1 = 0 by omega), cond_false, Bool.and_assoc]

theorem stepRwr (l : List (List Int)) (nl : Option Bool) (e : Int) (out : List Int) (i : Nat) (hi : i < l.length) (hl : l.length ≤ 1000) (hs : R.shortB l = true) (ho : out.length ≤ 100 * i) (k : Ex → List X → Hp → Option (Ex × List X × Hp)) :
    stepF (Cx Ar.real (Ot4 Ar.real) (Lrwr Ar.real)) 100 (loopAt Tryd.f13 0) 56 [0, 2, 3, 4, 5] [.sl wTy l nl false, u8s [] (some true) true, i64x e, u8s out (some out.isEmpty) true, i64x (i : Int)] [] k =
      bif fitB (l.getD i []) && riseAt l i then k .normal [.sl wTy l nl false, u8s [] (some true) true, i64x e, u8s (out ++ U.putL (l.getD i []) ++ [10]) (some (out ++ U.putL (l.getD i []) ++ [10]).isEmpty) true, i64x ((i + 1 : Nat) : Int)] []
      else k .ret [.sl wTy l nl false, u8s [] (some true) true, i64x 90, u8s out (some out.isEmpty) true, i64x (i : Int)] [] := by
  have e0 : ∀ j, l.getD j (Ty.zero wTy) = l.getD j [] := fun _ => rfl
  have hr0 : decide ((i : Int) < (l.length : Int)) = true := by rw [decide_eq_true_eq]; omega
  have hr1 : decide ((0 : Int) ≤ (i : Int) ∧ (i : Int) < (l.length : Int)) = true := by rw [decide_eq_true_eq]; omega
  have hb : (l.getD i []).length ≤ 1000 := short_at hs hi
  have e1 : (out ++ U.putL (l.getD i []) ++ [(10 : Int)]).isEmpty = false := by simp
  have hmin : 0 < i → Ar.real.wrap .i64 ((i : Int) - 1) = ((i - 1 : Nat) : Int) := fun h => by rw [rw_wrap, wi64 (by omega) (by omega)]; omega
  rcases Nat.eq_zero_or_pos i with rfl | hp
  · have T := lRwr Ar.real (Ex × List X × Hp) l nl e out out.isEmpty ((0 : Nat) : Int) k
    simp only [Int.toNat_natCast, rw_se, R.wi1 (show (0 : Nat) ≤ 9000000000000000000 by omega), e0] at T
    rw [T, bt hr0, bt hr1, bt (by rw [decide_eq_true_eq]; omega)]
    have er : riseAt l 0 = true := rfl
    rw [er, Bool.and_true]
    cases hf : fitB (l.getD 0 []) with
    | false => rw [bf (c := (!false) == false) rfl]; rfl
    | true =>
      obtain ⟨p1, p2⟩ := putL_len hf
      rw [bt (c := (!true) == false) rfl, bf (by rw [decide_eq_false (by omega)]; rfl), bt hr1, bt (by rw [decide_eq_true_eq]; omega), bt (by rw [decide_eq_true_eq]; omega), bt (by rw [decide_eq_true_eq, List.length_append, List.length_singleton]; omega), e1]
      simp only [List.isEmpty_cons, Bool.and_false, cond_true]
  · have T := lRwr Ar.real (Ex × List X × Hp) l nl e out out.isEmpty (i : Int) k
    simp only [hmin hp, Int.toNat_natCast, rw_se, R.wi1 (show i ≤ 9000000000000000000 by omega), e0] at T
    have ha : (l.getD (i - 1) []).length ≤ 1000 := short_at hs (show i - 1 < l.length by omega)
    rw [T, bt hr0, bt hr1, bt (by rw [decide_eq_true_eq]; omega)]
    have er : riseAt l i = R.ltL (l.getD (i - 1) []) (l.getD i []) := by unfold riseAt; rw [decide_eq_false (by omega), cond_false]
    rw [er]
    cases hf : fitB (l.getD i []) with
    | false => rw [bf (c := (!false) == false) rfl]; rfl
    | true =>
      obtain ⟨p1, p2⟩ := putL_len hf
      rw [bt (c := (!true) == false) rfl, bt (by rw [decide_eq_true (by omega)]; rfl), bt (by rw [decide_eq_true_eq]; omega), bt hr1, bt (by rw [decide_eq_true_eq]; omega)]
      cases hc : R.ltL (l.getD (i - 1) []) (l.getD i []) with
      | false => rw [bt (c := !false) rfl]; rfl
      | true =>
        rw [bf (c := !true) rfl, bt hr1, bt (by rw [decide_eq_true_eq]; omega), bt (by rw [decide_eq_true_eq]; omega), bt (by rw [decide_eq_true_eq, List.length_append, List.length_singleton]; omega), e1]
        simp only [List.isEmpty_cons, Bool.and_false, Bool.and_self, cond_true]

theorem loopRwr (l : List (List Int)) (nl : Option Bool) (e : Int) (hl : l.length ≤ 1000) (hs : R.shortB l = true) : ∀ (n i : Nat) (out : List Int), l.length - i = n → i ≤ l.length → out.length ≤ 100 * i →
    LoopTo (Cx Ar.real (Ot4 Ar.real) (Lrwr Ar.real)) 100 (loopAt Tryd.f13 0) 56 [0, 2, 3, 4, 5] [.sl wTy l nl false, u8s [] (some true) true, i64x e, u8s out (some out.isEmpty) true, i64x (i : Int)] []
      (bif okF (prev l i) (l.drop i) then (.exit 0, [.dead, .dead, .dead, u8s (out ++ joinW (l.drop i)) (some (out ++ joinW (l.drop i)).isEmpty) true, .dead], []) else (.ret, [.dead, u8s [] (some true) true, i64x 90, .dead, .dead], [])) := by
  intro n
  induction n with
  | zero =>
    intro i out h1 h2 h3
    have hn : ∀ p, okF p [] = true := fun p => by cases p <;> rfl
    rw [List.drop_eq_nil_iff.2 (by omega), hn, cond_true, show joinW [] = [] from rfl, List.append_nil]
    refine LoopTo.left (by simp) fun k => ?_
    rw [lRwr, bf (by rw [decide_eq_false_iff_not]; omega)]
    exact ⟨_, rfl, R.fd (R.fd (R.fd (R.fk (R.fd (Forget.same _)))))⟩
  | succ n ih =>
    intro i out h1 h2 h3
    have hi : i < l.length := by omega
    have T := stepRwr l nl e out i hi hl hs h3
    rw [okF_step hi]
    cases hc : (fitB (l.getD i []) && riseAt l i) with
    | false =>
      rw [Bool.false_and, cond_false]
      refine LoopTo.left (by simp) fun k => ?_
      rw [T, hc, cond_false]
      exact ⟨_, rfl, R.fd (R.fk (R.fk (R.fd (R.fd (Forget.same _)))))⟩
    | true =>
      have hf : fitB (l.getD i []) = true := by
        rw [Bool.and_eq_true] at hc; exact hc.1
      obtain ⟨p1, p2⟩ := putL_len hf
      have h := ih (i + 1) (out ++ U.putL (l.getD i []) ++ [10]) (by omega) (by omega) (by simp only [List.length_append, List.length_singleton]; omega)
      rw [Bool.true_and, show joinW (l.drop i) = U.putL (l.getD i []) ++ [10] ++ joinW (l.drop (i + 1)) by rw [R.dropG ([] : List Int) hi, joinW_cons], show out ++ (U.putL (l.getD i []) ++ [10] ++ joinW (l.drop (i + 1))) = out ++ U.putL (l.getD i []) ++ [10] ++ joinW (l.drop (i + 1)) by simp]
      refine LoopTo.next (fun k => ?_) h
      rw [T, hc, cond_true]

theorem rwrite_ok : OrcOk Tryd.prog 13 (.pure (writeF Ar.real)) := by
  refine pureOk (Cx.ok ot4 (Lrwr Ar.real)) mixed 13 Tryd.f13 (by kernel_rfl) (by kernel_rfl) (by kernel_rfl) 100 1 (by kernel_rfl) (fun i h => ?_) fun args r h => ?_
  · obtain rfl : i = 0 := by omega
    refine Tells.mk (key := 5) (N := 56) (ks := [0, 2, 3, 4, 5]) (F := LrwrF Ar.real) (by kernel_rfl) rfl fun xs H r h => ?_
    unfold LrwrF at h
    split at h
    · rename_i l nl e out x i
      obtain ⟨hg, rfl⟩ := R.Tr.two h
      simp only [rw_se, Bool.and_eq_true, decide_eq_true_eq, beq_iff_eq] at hg ⊢
      dsimp only [Ty.den] at hg
      obtain ⟨⟨h1, h2, h3, h4⟩, h5, h6⟩ := hg
      obtain ⟨m, rfl⟩ := Int.eq_ofNat_of_zero_le h1
      subst h5
      simp only [Int.toNat_natCast]
      exact loopRwr l nl e h3 h6 _ m out rfl (by omega) (by omega)
    · cases h
  · unfold writeF at h
    split at h
    · rename_i l nl
      obtain ⟨hg, rfl⟩ := Tr.one h
      refine ⟨rfl, rfl, [], ?_⟩
      rw [tRwr]
      simp only [rw_se, Bool.and_eq_true, decide_eq_true_eq, show Int.toNat 0 = 0 from rfl, List.drop_zero, List.nil_append] at hg ⊢
      obtain ⟨h1, h2⟩ := hg
      by_cases g1 : l.length > 300
      · rw [bt (by rw [decide_eq_true_eq]; omega)]
        unfold writeW
        rw [if_pos g1]; rfl
      · rw [bf (by rw [decide_eq_false_iff_not]; omega), bt (by rw [Bool.and_eq_true, decide_eq_true_eq]; exact ⟨⟨by omega, by omega, by omega, by omega⟩, by rw [h2]; rfl⟩), writeW_okF g1, show prev l 0 = none from rfl]
        cases okF none l <;> rfl
    · cases h

theorem rdL_bad {b : List Int} (h : U.rdE b ≠ 0) : U.rdL b = [] := by
  unfold U.rdE U.validU at h
  unfold U.rdL
  cases hr : U.readU b with
  | none => rfl
  | some l => rw [hr] at h; exact absurd rfl h

theorem stepRrd (z3 z4 : Int) (ls : List (List Int)) (nl : Option Bool) (out : List (List Int)) (i : Nat) (hi : i < ls.length) (hl : ls.length ≤ 1000000) (hk : okL ls = true) (h3 : out.length ≤ 300) (h4 : short20 out = true) (k : Ex → List X → Hp → Option (Ex × List X × Hp)) :
    stepF (Cx Ar.real (Ot4 Ar.real) (Lrrd Ar.real)) 100 (loopAt Tryd.f11 0) 79 [2, 3, 4, 5, 6, 7] [.sl wTy [] (some true) true, i64x z3, i64x z4, .sl L.sT ls nl false, .sl wTy out (some out.isEmpty) true, i64x (i : Int)] [] k =
      bif L.bareB (ls.getD i []) then k .normal [.sl wTy [] (some true) true, i64x z3, i64x z4, .sl L.sT ls nl false, .sl wTy out (some out.isEmpty) true, i64x ((i + 1 : Nat) : Int)] []
      else if (wordW (ls.getD i [])).2.1 ≠ 0 then k .ret [.sl wTy [] (some true) true, i64x (i : Int), i64x (wordW (ls.getD i [])).2.1, .sl L.sT ls nl false, .sl wTy out (some out.isEmpty) true, i64x (i : Int)] []
      else if (R.insL out (wordW (ls.getD i [])).1).length > 300 then k .ret [.sl wTy [] (some true) true, i64x (i : Int), i64x 81, .sl L.sT ls nl false, .sl wTy (R.insL out (wordW (ls.getD i [])).1) (some (R.insL out (wordW (ls.getD i [])).1).isEmpty) true, i64x (i : Int)] []
      else k .normal [.sl wTy [] (some true) true, i64x z3, i64x z4, .sl L.sT ls nl false, .sl wTy (R.insL out (wordW (ls.getD i [])).1) (some (R.insL out (wordW (ls.getD i [])).1).isEmpty) true, i64x ((i + 1 : Nat) : Int)] [] := by
  obtain ⟨x, hxx⟩ : ∃ x, x = ls.getD i [] := ⟨_, rfl⟩
  have hx := List.all_eq_true.1 hk _ (R.memG ([] : List Int) hi)
  simp only [Bool.and_eq_true, decide_eq_true_eq] at hx
  rw [← hxx] at hx ⊢
  have hok : L.Ok Ar.real x none = true := by
    simp only [L.Ok, rw_se, Bool.and_eq_true, decide_eq_true_eq]
    exact ⟨hx.1, rfl, hx.2⟩
  have hr0 : decide ((i : Int) < (ls.length : Int)) = true := by rw [decide_eq_true_eq]; omega
  have hr1 : decide ((0 : Int) ≤ (i : Int) ∧ (i : Int) < (ls.length : Int)) = true := by rw [decide_eq_true_eq]; omega
  have hxe : ls.getD i (Ty.zero L.sT) = x := hxx.symm
  obtain ⟨q, hq⟩ : ∃ q, q = List.getD (L.fieldsL x) 0 [] := ⟨_, rfl⟩
  have hqe : List.getD (L.fieldsL x) 0 (Ty.zero (Ty.slice (Ty.int IntKind.u8))) = q := hq.symm
  have T := lRrd Ar.real (Ex × List X × Hp) z3 z4 ls nl out out.isEmpty (i : Int) k
  simp only [Int.toNat_natCast, rw_se, R.wi1 (show i ≤ 9000000000000000000 by omega), hxe, show Int.toNat 0 = 0 from rfl, hqe] at T
  rw [T, bt hr0, bt hr1, bt hok]
  clear T
  cases hb : L.bareB x with
  | true => rfl
  | false =>
    rw [cond_false, cond_false, bt hr1, bt hok]
    by_cases h1 : (L.fieldsL x).length = 1
    · have hw : wordW x = (U.rdL q, if (U.rdL q).length > 20 then 90 else U.rdE q, ()) := by
        unfold wordW; rw [if_pos h1, ← hq]
      rw [bf (by rw [bne_eq_false_iff_eq]; omega), bt (by rw [decide_eq_true_eq]; omega)]
      have hm : q ∈ L.fieldsL x := by rw [hq]; exact R.memG [] (by omega)
      have hqm := L.fields_mem hm
      have hq1 : bytesB q = true := bytesB_iff.2 fun c hc => bytesB_iff.1 hx.1 c (hqm.2 c hc).1
      have hq2 : q.length ≤ x.length := L.piece_len L.isBl x _ (L.full_mem hm).1
      rw [bt (by rw [Bool.and_eq_true, decide_eq_true_eq]; exact ⟨hq1, by omega⟩)]
      by_cases h2 : U.rdE q = 0
      · rw [bf (by rw [bne_eq_false_iff_eq]; exact h2)]
        by_cases h5 : (U.rdL q).length > 20
        · rw [bt (by rw [decide_eq_true_eq]; omega), hw, if_pos h5]
          rfl
        · have hw2 : wordW x = (U.rdL q, 0, ()) := by rw [hw, if_neg h5, h2]
          rw [hw2]
          have e00 : ¬ ((U.rdL q, (0 : Int), ()).2.1 ≠ 0) := fun h => h rfl
          rw [if_neg e00]
          show _ = if (R.insL out (U.rdL q)).length > 300 then k .ret [.sl wTy [] (some true) true, i64x (i : Int), i64x 81, .sl L.sT ls nl false, .sl wTy (R.insL out (U.rdL q)) (some (R.insL out (U.rdL q)).isEmpty) true, i64x (i : Int)] []
            else k .normal [.sl wTy [] (some true) true, i64x z3, i64x z4, .sl L.sT ls nl false, .sl wTy (R.insL out (U.rdL q)) (some (R.insL out (U.rdL q)).isEmpty) true, i64x ((i + 1 : Nat) : Int)] []
          obtain ⟨w, hwe⟩ : ∃ w, w = U.rdL q := ⟨_, rfl⟩
          rw [← hwe] at h5 ⊢
          have hcnt := R.cnt_le out w
          rw [bf (by rw [decide_eq_false_iff_not]; omega), bt (by rw [Bool.and_eq_true, decide_eq_true_eq]; exact ⟨⟨by omega, by omega⟩, short20_short h4⟩)]
          by_cases hin : w ∈ out
          · have hi2 : R.insL out w = out := by unfold R.insL; rw [if_pos hin]
            rw [bf (by rw [decide_eq_true hin]; rfl), hi2, if_neg (by omega), bf (by rw [decide_eq_false_iff_not]; omega)]
          · have hi2 : R.insL out w = out.take (R.cntL out w) ++ [w] ++ out.drop (R.cntL out w) := by
              unfold R.insL; rw [if_neg hin]; simp
            have hlen : (R.insL out w).length = out.length + 1 := by
              rw [hi2]; simp only [List.length_append, List.length_take, List.length_drop, List.length_singleton]; omega
            have hc1 : decide ((0 : Int) ≤ (R.cntL out w : Int) ∧ (R.cntL out w : Int) ≤ (out.length : Int)) = true := by rw [decide_eq_true_eq]; omega
            rw [bt (by rw [decide_eq_false hin]; rfl), bt hc1, bt (by rw [decide_eq_true_eq]; simp only [List.length_drop]; omega), bt hc1, bt (by rw [decide_eq_true_eq]; simp only [List.length_take]; omega),
              bt (by rw [decide_eq_true_eq]; simp only [List.length_append, List.length_nil, List.length_take, List.length_singleton]; omega),
              bt (by rw [decide_eq_true_eq]; simp only [List.length_append, List.length_nil, List.length_take, List.length_drop, List.length_singleton]; omega)]
            have e5 : ([] ++ out.take (R.cntL out w) ++ [w] ++ ([] ++ out.drop (R.cntL out w))) = R.insL out w := by rw [hi2]; simp
            rw [e5, R.insL_ne]
            by_cases h6 : (R.insL out w).length > 300
            · rw [if_pos h6, bt (by rw [decide_eq_true_eq]; omega)]; rfl
            · rw [if_neg h6, bf (by rw [decide_eq_false_iff_not]; omega)]; rfl
      · have h6 := rdL_bad h2
        have hw2 : wordW x = ([], U.rdE q, ()) := by rw [hw, h6]; rfl
        rw [bt (by rw [bne_iff_ne]; exact h2), hw2, if_pos (show (([] : List Int), U.rdE q, ()).2.1 ≠ 0 from h2)]
    · rw [bt (by rw [bne_iff_ne]; omega)]
      have hw : wordW x = ([], 71, ()) := by unfold wordW; rw [if_neg h1]
      rw [hw]
      rfl

def resRr (r : List (List Int) × Int × Int) : Ex × List X × Hp :=
  bif decide (r.2.2 = 0) then (.exit 0, [.dead, .dead, .dead, .dead, .sl wTy r.1 (some r.1.isEmpty) true, .dead], [])
  else (.ret, [.sl wTy [] (some true) true, i64x r.2.1, i64x r.2.2, .dead, .dead, .dead], [])

theorem loopRrd (z3 z4 : Int) (ls : List (List Int)) (nl : Option Bool) (hl : ls.length ≤ 1000000) (hk : okL ls = true) : ∀ (n i : Nat) (out : List (List Int)), ls.length - i = n → i ≤ ls.length → out.length ≤ 300 → short20 out = true →
    LoopTo (Cx Ar.real (Ot4 Ar.real) (Lrrd Ar.real)) 100 (loopAt Tryd.f11 0) 79 [2, 3, 4, 5, 6, 7] [.sl wTy [] (some true) true, i64x z3, i64x z4, .sl L.sT ls nl false, .sl wTy out (some out.isEmpty) true, i64x (i : Int)] [] (resRr (goR (ls.drop i) (i : Int) out)) := by
  intro n
  induction n with
  | zero =>
    intro i out h1 h2 h3 h4
    rw [List.drop_eq_nil_iff.2 (by omega)]
    refine LoopTo.left (e := .exit 0) (by simp) fun k => ?_
    rw [lRrd, bf (by rw [decide_eq_false_iff_not]; omega)]
    exact ⟨_, rfl, R.fd (R.fd (R.fd (R.fd (R.fk (R.fd (Forget.same _))))))⟩
  | succ n ih =>
    intro i out h1 h2 h3 h4
    have hi : i < ls.length := by omega
    have T := stepRrd z3 z4 ls nl out i hi hl hk h3 h4
    rw [R.dropG ([] : List Int) hi]
    cases hb : L.bareB (ls.getD i []) with
    | true =>
      have e : goR (ls.getD i [] :: ls.drop (i + 1)) (i : Int) out = goR (ls.drop (i + 1)) ((i + 1 : Nat) : Int) out := by
        rw [goR, hb]; rfl
      rw [e]
      refine LoopTo.next (fun k => ?_) (ih (i + 1) out (by omega) (by omega) h3 h4)
      rw [T, hb, cond_true]
    | false =>
      by_cases he : (wordW (ls.getD i [])).2.1 = 0
      · have hw := word_short he
        by_cases hg : (R.insL out (wordW (ls.getD i [])).1).length > 300
        · have e : goR (ls.getD i [] :: ls.drop (i + 1)) (i : Int) out = ([], (i : Int), 81) := by
            rw [goR, hb, cond_false, if_neg (fun h => h he), if_pos hg]
          rw [e]
          refine LoopTo.left (e := .ret) (by simp) fun k => ?_
          rw [T, hb, cond_false, if_neg (fun h => h he), if_pos hg]
          exact ⟨_, rfl, R.fk (R.fk (R.fk (R.fd (R.fd (R.fd (Forget.same _))))))⟩
        · have e : goR (ls.getD i [] :: ls.drop (i + 1)) (i : Int) out = goR (ls.drop (i + 1)) ((i + 1 : Nat) : Int) (R.insL out (wordW (ls.getD i [])).1) := by
            rw [goR, hb, cond_false, if_neg (fun h => h he), if_neg hg]; rfl
          rw [e]
          refine LoopTo.next (fun k => ?_) (ih (i + 1) _ (by omega) (by omega) (by omega) (short20_ins h4 hw))
          rw [T, hb, cond_false, if_neg (fun h => h he), if_neg hg]
      · have e : goR (ls.getD i [] :: ls.drop (i + 1)) (i : Int) out = ([], (i : Int), (wordW (ls.getD i [])).2.1) := by
          rw [goR, hb, cond_false, if_pos he]
        rw [e, resRr, bf (decide_eq_false he)]
        refine LoopTo.left (e := .ret) (by simp) fun k => ?_
        rw [T, hb, cond_false, if_pos he]
        exact ⟨_, rfl, R.fk (R.fk (R.fk (R.fd (R.fd (R.fd (Forget.same _))))))⟩

theorem rread_ok : OrcOk Tryd.prog 11 (.pure (readF Ar.real)) := by
  refine pureWk (Cx.ok ot4 (Lrrd Ar.real)) mixed 11 Tryd.f11 (by kernel_rfl) (by kernel_rfl) (by kernel_rfl) 100 1 (by kernel_rfl) (fun i h => ?_) fun args r h => ?_
  · obtain rfl : i = 0 := by omega
    refine Tells.mk (key := 4) (N := 79) (ks := [2, 3, 4, 5, 6, 7]) (F := LrrdF Ar.real) (by kernel_rfl) rfl fun xs H r h => ?_
    unfold LrrdF at h
    split at h
    · rename_i z3 z4 ls nl out x i
      obtain ⟨hg, rfl⟩ := R.Tr.two h
      simp only [rw_se, Bool.and_eq_true, decide_eq_true_eq, beq_iff_eq] at hg ⊢
      dsimp only [Ty.den] at hg
      obtain ⟨⟨h1, h2, h3, h4⟩, h5, h6, h7, h8⟩ := hg
      obtain ⟨m, rfl⟩ := Int.eq_ofNat_of_zero_le h1
      subst h5
      simp only [Int.toNat_natCast]
      exact loopRrd z3 z4 ls nl h3 h6 _ m out rfl (by omega) h4 h7
    · cases h
  · unfold readF at h
    split at h
    · rename_i b nl
      obtain ⟨hg, rfl⟩ := Tr.one h
      have hg2 := hg
      simp only [L.Ok, rw_se, Bool.and_eq_true, decide_eq_true_eq] at hg2
      obtain ⟨hb, hn, hl⟩ := hg2
      obtain ⟨s1, s2⟩ := split_ok9 hb hl
      rw [tRrd, bt hg]
      simp only [rw_se, show Int.toNat 0 = 0 from rfl, List.drop_zero]
      rw [bt (by
        simp only [Bool.and_eq_true, decide_eq_true_eq]
        exact ⟨⟨by omega, by omega, by omega, by omega⟩, rfl, s1, rfl, by decide⟩)]
      unfold readW
      by_cases he : (goR (L.splitL b) 0 []).2.2 = 0
      · rw [bt (decide_eq_true he), goR_at _ _ _ he, he]
        exact ⟨rfl, _, _, rfl, rfl, .inr ⟨_, _, rfl, rfl, Wk1.sl (.inl rfl) (fun h => h), Wk1.same _, Wk1.same _, trivial⟩⟩
      · rw [bf (decide_eq_false he), goR_nil _ _ _ he]
        exact ⟨rfl, _, _, rfl, rfl, .inr ⟨_, _, rfl, rfl, Wk1.sl (.inl rfl) (fun h => h), Wk1.same _, Wk1.same _, trivial⟩⟩
    · cases h

def Ot5 (A : Ar) : OT := Oadd (Oadd (Ot4 A) 13 (.pure (writeF A))) 11 (.pure (readF A))
theorem ot5 : OOk (Ot5 Ar.real) := (ot4.add rwrite_ok).add rread_ok

end Go.Proofs.YtaefpopjlmhmoaaDoor.V

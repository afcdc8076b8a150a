/-
  Chapter 10, automata: TrieHas answers true, whatever it is given.
  It speaks of the pinned program alone; no condition.
-/
import Derived.Test.YtnbfiifkaddehaaTr15
namespace Go.Proofs.Ytnbfiifkaddehaa.V
open Go
set_option linter.unusedVariables false
set_option linter.unusedSimpArgs false

theorem oh1 : OOk (Oh1 Ar.real) := ((((((OOk.none.add awake_ok).add small_ok).add make_ok).add write_ok).add walk_ok).add com_ok).add check_ok

theorem tailU {R : Type} {p : List Sta} {u : List Int} (r n : Option R) : (bif (!(walkL p 0 u).2) == false then bif decide ((walkL p 0 u).1 < 0) == false then bif decide ((walkL p 0 u).1 ≥ (p.length : Int)) == false then bif decide (0 ≤ (walkL p 0 u).1 ∧ (walkL p 0 u).1 < (p.length : Int)) then bif !(p.getD (walkL p 0 u).1.toNat staZ).1 then r else n else none else r else r else r) = bif okU p u then n else r := by
  unfold okU
  cases h1 : (walkL p 0 u).2 with
  | false => rw [bf (c := (!false) == false) rfl]; rfl
  | true =>
    rw [bt (c := (!true) == false) rfl]
    by_cases h2 : (walkL p 0 u).1 < 0
    · rw [bf (by rw [decide_eq_true h2]; rfl), decide_eq_false (show ¬ 0 ≤ (walkL p 0 u).1 by omega)]; rfl
    · rw [bt (by rw [decide_eq_false h2]; rfl), decide_eq_true (show 0 ≤ (walkL p 0 u).1 by omega)]
      by_cases h3 : (walkL p 0 u).1 ≥ (p.length : Int)
      · rw [bf (by rw [decide_eq_true h3]; rfl), decide_eq_false (show ¬ (walkL p 0 u).1 < (p.length : Int) by omega)]; rfl
      · rw [bt (by rw [decide_eq_false h3]; rfl), bt (by rw [decide_eq_true_eq]; omega), decide_eq_true (show (walkL p 0 u).1 < (p.length : Int) by omega)]
        cases (p.getD (walkL p 0 u).1.toNat staZ).1 <;> rfl

theorem com_dec (u w : List Int) (n : Nat) : ((R.comL u w : Int) == (n : Int)) = decide (R.comL u w = n) := by
  by_cases h : R.comL u w = n
  · rw [decide_eq_true h, beq_iff_eq]; omega
  · rw [decide_eq_false h, beq_eq_false_iff_ne]; omega

theorem stepHas (l : List (List Int)) (nl : Option Bool) (w : List Int) (nw : Option Bool) (z up : Bool) (p : List Sta) (np : Option Bool) (a : Int) (s b c : Bool) (i : Nat) (hl : l.length ≤ 1000) (hw : w.length ≤ 1000) (hs : R.shortB l = true) (hp : p.length ≤ 1000000) (hps : shortS p = true) (hi : i < l.length) (K : Ex → List X → Hp → Option (Ex × List X × Hp)) :
    stepF (Cx Ar.real (Oh1 Ar.real) (Lhs Ar.real)) 100 (loopAt Try.f4 0) 152 [0, 1, 4, 5, 6, 10, 11, 12, 13, 14] [.sl wTy l nl false, i64s w nw false, boolx z, boolx up, .sl staT p np false, i64x a, boolx s, boolx b, boolx c, i64x (i : Int)] [] K =
      bif okU p (l.getD i []) then K .normal [.sl wTy l nl false, i64s w nw false, boolx z, boolx up, .sl staT p np false, i64x a, boolx s, boolx (b || decide (R.comL (l.getD i []) w = w.length)), boolx (c || (decide (R.comL (l.getD i []) w = w.length) && decide (R.comL (l.getD i []) w = (l.getD i []).length))), i64x ((i + 1 : Nat) : Int)] []
      else K .ret [.sl wTy l nl false, i64s w nw false, boolx false, boolx up, .sl staT p np false, i64x a, boolx s, boolx (b || decide (R.comL (l.getD i []) w = w.length)), boolx (c || (decide (R.comL (l.getD i []) w = w.length) && decide (R.comL (l.getD i []) w = (l.getD i []).length))), i64x (i : Int)] [] := by
  have hx := short_at2 hs hi
  have T := lHas Ar.real (Ex × List X × Hp) l nl w nw z up p np a s b c (i : Int) K
  simp only [Int.toNat_natCast, rw_se, com_dec, R.wi1 (show i ≤ 9000000000000000000 by omega)] at T
  have hg1 : decide ((l.getD i []).length ≤ 1000000 ∧ w.length ≤ 1000000) = true := by rw [decide_eq_true_eq]; omega
  have hg2 : (decide (p.length ≤ 1000000 ∧ (l.getD i []).length ≤ 1000000) && shortS p) = true := by rw [hps, Bool.and_true, decide_eq_true_eq]; omega
  rw [T, bt (lti hi), bt (rng hi), bt hg1]
  cases b <;> cases c <;> cases decide (R.comL (l.getD i []) w = w.length)
  · rw [bt (c := false == false) rfl, bt (c := false == false) rfl, bf (c := false == true) rfl, bt (rng hi), bt hg2, tailU]; rfl
  · rw [bt (c := false == false) rfl, bt (c := false == false) rfl, bt (c := true == true) rfl, bt (rng hi), bt (rng hi), bt hg2, tailU]; rfl
  · rw [bt (c := false == false) rfl, bf (c := true == false) rfl, bt (rng hi), bt hg2, tailU]; rfl
  · rw [bt (c := false == false) rfl, bf (c := true == false) rfl, bt (rng hi), bt hg2, tailU]; rfl
  · rw [bf (c := true == false) rfl, bt (c := false == false) rfl, bf (c := false == true) rfl, bt (rng hi), bt hg2, tailU]; rfl
  · rw [bf (c := true == false) rfl, bt (c := false == false) rfl, bt (c := true == true) rfl, bt (rng hi), bt (rng hi), bt hg2, tailU]; rfl
  · rw [bf (c := true == false) rfl, bf (c := true == false) rfl, bt (rng hi), bt hg2, tailU]; rfl
  · rw [bf (c := true == false) rfl, bf (c := true == false) rfl, bt (rng hi), bt hg2, tailU]; rfl

theorem loopHas (l : List (List Int)) (nl : Option Bool) (w : List Int) (nw : Option Bool) (z up : Bool) (p : List Sta) (np : Option Bool) (a : Int) (s : Bool) (hl : l.length ≤ 1000) (hw : w.length ≤ 1000) (hs : R.shortB l = true) (hp : p.length ≤ 1000000) (hps : shortS p = true) : ∀ (d i : Nat) (b c : Bool), l.length - i = d → i ≤ l.length →
    LoopTo (Cx Ar.real (Oh1 Ar.real) (Lhs Ar.real)) 100 (loopAt Try.f4 0) 152 [0, 1, 4, 5, 6, 10, 11, 12, 13, 14] [.sl wTy l nl false, i64s w nw false, boolx z, boolx up, .sl staT p np false, i64x a, boolx s, boolx b, boolx c, i64x (i : Int)] []
      (bif (l.drop i).all (okU p) then (.exit 0, [.dead, .dead, .dead, boolx up, .sl staT p np false, i64x a, boolx s, boolx (b || beginsB w (l.drop i)), boolx (c || endsB w (l.drop i)), .dead], []) else (.ret, [.dead, .dead, boolx false, .dead, .dead, .dead, .dead, .dead, .dead, .dead], [])) := by
  intro d
  induction d with
  | zero =>
    intro i b c h1 h2
    rw [List.drop_eq_nil_iff.2 (by omega), List.all_nil, cond_true, show beginsB w [] = false from rfl, show endsB w [] = false from rfl, Bool.or_false, Bool.or_false]
    refine LoopTo.left (by simp) fun K => ?_
    rw [lHas, bf (nlti (by omega))]
    exact ⟨_, rfl, R.fd (R.fd (R.fd (R.fk (R.fk (R.fk (R.fk (R.fk (R.fk (R.fd (Forget.same _))))))))))⟩
  | succ d ih =>
    intro i b c h1 h2
    have hi : i < l.length := by omega
    have T := stepHas l nl w nw z up p np a s b c i hl hw hs hp hps hi
    rw [R.dropG [] hi, List.all_cons]
    have eb : beginsB w (l.getD i [] :: l.drop (i + 1)) = (decide (R.comL (l.getD i []) w = w.length) || beginsB w (l.drop (i + 1))) := rfl
    have ec : endsB w (l.getD i [] :: l.drop (i + 1)) = ((decide (R.comL (l.getD i []) w = w.length) && decide (R.comL (l.getD i []) w = (l.getD i []).length)) || endsB w (l.drop (i + 1))) := rfl
    cases hc : okU p (l.getD i []) with
    | true =>
      rw [Bool.true_and, eb, ec, ← Bool.or_assoc, ← Bool.or_assoc]
      exact LoopTo.next (fun K => (T K).trans (bt hc)) (ih (i + 1) _ _ (by omega) (by omega))
    | false =>
      rw [Bool.false_and, cond_false]
      exact LoopTo.left (by simp) fun K => ⟨_, (T K).trans (bf hc), R.fd (R.fd (R.fk (R.fd (R.fd (R.fd (R.fd (R.fd (R.fd (R.fd (Forget.same _))))))))))⟩

theorem begs_idx0 {l K : List (List Int)} (h : Begs l K) : K.idxOf [] = 0 := idx_nil h.sh h.nil h.nod
theorem walk_made {l : List (List Int)} (h : Fits l) (w : List Int) : walkL (autoL (kL l) l) 0 w = if w ∈ kL l then ((((kL l).idxOf w : Nat) : Int), true) else (0, false) := by
  have h1 := walk_auto h.begs w [] h.begs.nil
  rw [begs_idx0 h.begs, List.nil_append] at h1
  exact h1

theorem has_ok : OrcOk Try.prog 4 (.pure (LawFb [.slice (.slice (.int .i64)), .slice (.int .i64)])) := by
  refine law_pureB (Cx.ok oh1 (Lhs Ar.real)) mixed 4 Try.f4 _ (by kernel_rfl) (by kernel_rfl) (by kernel_rfl) 100 1 (by kernel_rfl) (fun i h => ?_) (fun args h hbd => ?_)
  · obtain rfl : i = 0 := by omega
    refine Tells.mk (key := 12) (N := 152) (ks := [0, 1, 4, 5, 6, 10, 11, 12, 13, 14]) (F := LhsF Ar.real) (by kernel_rfl) rfl fun xs H r h => ?_
    unfold LhsF at h
    split at h
    · rename_i l nl w nw z up x a s b c i
      split at h
      · rename_i p hp
        cases staOf_eq hp
        obtain ⟨hg, rfl⟩ := R.Tr.two h
        simp only [rw_se, Bool.and_eq_true, decide_eq_true_eq] at hg ⊢
        dsimp only [Ty.den] at hg
        obtain ⟨⟨h1, h2, h3, h4, h5⟩, h6, h7⟩ := hg
        obtain ⟨i, rfl⟩ := Int.eq_ofNat_of_zero_le h3
        simp only [Int.toNat_natCast]
        exact loopHas l nl w nw z up p.1 p.2 a s h1 h2 h6 h5 h7 _ i b c rfl (by omega)
      · cases h
    · cases h
  · obtain ⟨x, _, rfl, h1, k1⟩ := h.cons
    obtain ⟨y, _, rfl, h2, k2⟩ := k1.cons
    obtain rfl := k2.nil
    obtain ⟨l, nl, rfl⟩ := arg_words h1
    obtain ⟨w, nw, rfl⟩ := arg_word h2
    have hl := bd_words hbd.1
    refine ⟨[], ?_⟩
    rw [tHas]
    simp only [rw_se, show Int.toNat 0 = 0 from rfl, List.drop_zero, Bool.false_or]
    rw [bt (decide_eq_true hl)]
    cases g1 : R.fewB l 60 with
    | false => rw [bf (c := (!false) == false) rfl]
    | true =>
      rw [bt (c := (!true) == false) rfl]
      by_cases g2 : (w.length : Int) > 100
      · rw [bt (decide_eq_true g2)]
      · rw [bf (decide_eq_false g2)]
        obtain ⟨l1, l2⟩ := few60 g1
        by_cases e : (writeW l).2 = 0
        · have hf := Fits.of e
          obtain ⟨a1, a2⟩ := auto_short hf
          rw [bt (decide_eq_true e), mkL_auto hf]
          have hG1 : (decide ((autoL (kL l) l).length ≤ 1000000 ∧ w.length ≤ 1000000) && shortS (autoL (kL l) l)) = true := by rw [a2, Bool.and_true, decide_eq_true_eq]; omega
          have hG2 : (decide (l.length ≤ 1000 ∧ w.length ≤ 1000 ∧ (0 : Int) ≤ 0 ∧ (0 : Int) ≤ (l.length : Int) ∧ (autoL (kL l) l).length ≤ 1000000) && (R.shortB l && shortS (autoL (kL l) l))) = true := by
            rw [a2, l2, Bool.and_self, Bool.and_true, decide_eq_true_eq]; omega
          have hG3 : (decide ((autoL (kL l) l).length ≤ 1000000) && shortS (autoL (kL l) l)) = true := by rw [a2, Bool.and_true, decide_eq_true_eq]; omega
          have hlen := autoL_len (kL l) l
          have hall : l.all (okU (autoL (kL l) l)) = true := by
            rw [List.all_eq_true]
            intro u hu
            have hk : u ∈ kL l := (hf.begs.mem u).2 (.inr ⟨u, hu, List.prefix_refl u⟩)
            have hlt := List.idxOf_lt_length_iff.2 hk
            unfold okU
            rw [walk_made hf, if_pos hk]
            dsimp only
            rw [Int.toNat_natCast, autoL_idx hk, decide_eq_true (show (0 : Int) ≤ ((kL l).idxOf u : Int) by omega), decide_eq_true (show ((kL l).idxOf u : Int) < ((autoL (kL l) l).length : Int) by omega)]
            simp [staOf2, hu]
          have hbeg : (((w.length : Int) == 0) || beginsB w l) = decide (w ∈ kL l) := by
            have : ((((w.length : Int) == 0) || beginsB w l) = true) ↔ w ∈ kL l := by
              rw [Bool.or_eq_true, hf.begs.mem]
              unfold beginsB
              rw [List.any_eq_true, beq_iff_eq]
              refine or_congr ?_ ?_
              · constructor
                · intro h; exact List.length_eq_zero_iff.1 (by omega)
                · rintro rfl; rfl
              · simp only [decide_eq_true_eq, comL_pre]
            by_cases hk : w ∈ kL l
            · rw [decide_eq_true hk]; exact this.2 hk
            · rw [decide_eq_false hk, Bool.eq_false_iff]; exact fun hh => hk (this.1 hh)
          have hend : endsB w l = decide (w ∈ l) := by
            have : endsB w l = true ↔ w ∈ l := by
              unfold endsB
              rw [List.any_eq_true]
              constructor
              · rintro ⟨u, hu, hh⟩
                rw [Bool.and_eq_true, decide_eq_true_eq, decide_eq_true_eq] at hh
                have := comL_take u w
                rw [hh.1, List.take_length, ← hh.1, hh.2, List.take_length] at this
                exact this ▸ hu
              · intro hu
                refine ⟨w, hu, ?_⟩
                have := comL_pre.2 (List.prefix_refl w)
                rw [this]; simp
            by_cases hk : w ∈ l
            · rw [decide_eq_true hk]; exact this.2 hk
            · rw [decide_eq_false hk, Bool.eq_false_iff]; exact fun hh => hk (this.1 hh)
          rw [bt hG1, bt hG2, bt hall, bt hG3, bt (by rw [check_auto hf]; rfl), hbeg, hend, walk_made hf]
          by_cases hk : w ∈ kL l
          · have hlt := List.idxOf_lt_length_iff.2 hk
            rw [if_pos hk, decide_eq_true hk]
            dsimp only
            rw [bt (c := (true == true) == true) rfl, bt (c := true == true) rfl, bt (by rw [decide_eq_true (show ((kL l).idxOf w : Int) < ((autoL (kL l) l).length : Int) by omega)]; rfl), bt (by rw [decide_eq_true_eq]; omega), Int.toNat_natCast, autoL_idx hk]
            simp [staOf2]
          · have hnl : w ∉ l := fun hw => hk ((hf.begs.mem w).2 (.inr ⟨w, hw, List.prefix_refl w⟩))
            rw [if_neg hk, decide_eq_false hk, decide_eq_false hnl]
            rfl
        · rw [bf (decide_eq_false e), bt (by rw [bne_iff_ne]; exact e)]
          simp

end Go.Proofs.Ytnbfiifkaddehaa.V

/-
  Chapter 09, word lists: words.Read does what it tells.
  It speaks of the pinned program alone; no condition.
-/
import Derived.Test.YtaefpopjlmhmoaaDoorWo3
namespace Go.Proofs.YtaefpopjlmhmoaaDoor.V
open Go
set_option linter.unusedVariables false
set_option linter.unusedSimpArgs false

theorem word_short {b : List Int} (h : (wordW b).2.1 = 0) : (wordW b).1.length ≤ 20 := by
  unfold wordW at h ⊢
  split at h
  · rename_i h1
    simp only at h
    split at h
    · simp at h
    · rename_i h2
      rw [if_pos h1]
      simp only
      omega
  · simp at h

theorem short20_iff {l : List (List Int)} : short20 l = true ↔ ∀ w ∈ l, w.length ≤ 20 := by simp [short20]
theorem short20_short {l : List (List Int)} (h : short20 l = true) : R.shortB l = true := by
  unfold R.shortB
  rw [List.all_eq_true]
  intro w hw
  rw [decide_eq_true_eq]
  exact Nat.le_trans (short20_iff.1 h w hw) (by omega)
theorem short20_ins {l : List (List Int)} {w : List Int} (h : short20 l = true) (hw : w.length ≤ 20) : short20 (R.insL l w) = true := by
  rw [short20_iff] at h ⊢
  intro z hz
  rcases R.insL_mem.1 hz with hz | rfl
  · exact h z hz
  · exact hw
theorem rises_ins {l : List (List Int)} {w : List Int} (h : R.risesB l = true) : R.risesB (R.insL l w) = true := R.risesB_iff.2 (R.insL_rises (R.risesB_iff.1 h))

theorem frontB_nil (H : Hp) : frontB H [] := by cases H <;> exact trivial

theorem rgW1 (d dh : Nat) : RgOk Tryd.prog (Crd Ar.real) d dh (rgAt Tryd.f10 1) := by
  refine rgOk_lend (CxJ.ok ow9 (Lrd Ar.real) Mrd (Jrd Ar.real)) [5] (N := 58) (ks := [0, 5]) (F := JnilF Ar.real) (by kernel_rfl) (by kernel_rfl) (fun xs H r h => ?_) d dh
  unfold JnilF at h
  split at h
  · simp only [Tr.run, Option.some.injEq] at h
    subst h
    exact ⟨_, jR1 _ _ _ _ _, Forget.same _⟩
  · cases h
theorem rgW9 (d dh : Nat) : RgOk Tryd.prog (Crd Ar.real) d dh (rgAt Tryd.f10 9) := by
  refine rgOk_lend (CxJ.ok ow9 (Lrd Ar.real) Mrd (Jrd Ar.real)) [5] (N := 58) (ks := [5, 6, 7, 8, 9, 10, 14, 15]) (F := JfindF Ar.real) (by kernel_rfl) (by kernel_rfl) (fun xs H r h => ?_) d dh
  unfold JfindF at h
  split at h
  · rename_i out ls nl j n i v
    obtain ⟨w, e, u⟩ := v
    obtain ⟨hg, rfl⟩ := Tr.one h
    refine ⟨_, (jR9 _ _ _ _ _ _ _ _ e w _).trans ?_, Forget.same _⟩
    rw [bt hg]
  · cases h
theorem rgW12 (d dh : Nat) : RgOk Tryd.prog (Crd Ar.real) d dh (rgAt Tryd.f10 12) := by
  refine rgOk_lend (CxJ.ok ow9 (Lrd Ar.real) Mrd (Jrd Ar.real)) [5] (N := 58) (ks := [5, 6, 7, 8, 48, 14, 15]) (F := JlenF Ar.real) (by kernel_rfl) (by kernel_rfl) (fun xs H r h => ?_) d dh
  unfold JlenF at h
  split at h
  · rename_i out ls nl j n i v
    obtain ⟨w, e, u⟩ := v
    simp only [Tr.run, Option.some.injEq] at h
    subst h
    exact ⟨_, jR12 _ _ _ _ _ _ _ _ e w _, Forget.same _⟩
  · cases h
theorem rgsRd : RgsW Tryd.prog (Crd Ar.real) Tryd.f10 := by
  refine RgsW.mk (n := 18) (by kernel_rfl) fun i hi d dh => ?_
  by_cases h1 : i = 1
  · subst h1; exact rgW1 d dh
  · by_cases h9 : i = 9
    · subst h9; exact rgW9 d dh
    · by_cases h12 : i = 12
      · subst h12; exact rgW12 d dh
      · refine RgOk.off ?_
        have h : ((List.range 18).all fun i => i == 1 || (i == 9 || (i == 12 || (Jrd Ar.real (rgAt Tryd.f10 i).1).isNone))) = true := by kernel_rfl
        have := List.all_eq_true.1 h i (by simpa using hi)
        simp only [h1, h9, h12, beq_iff_eq, Bool.or_eq_true, or_false, false_or, Option.isNone_iff_eq_none] at this
        exact this

/-- What the loop comes to. -/
def resR (r : List (List Int) × Int × Int) : Ex × List X × Hp :=
  bif decide (r.2.2 = 0) then (.exit 0, [.dead, .dead, .dead, .ps wTy r.1, .dead, .dead, .dead], [])
  else (.ret, [.sl wTy [] (some true) true, i64x r.2.1, i64x r.2.2, .dead, .dead, .dead, .dead], [])

theorem loopRd (ls : List (List Int)) (nl : Option Bool) (hl : ls.length ≤ 1000000) (hk : okL ls = true) : ∀ (n i : Nat) (out : List (List Int)), ls.length - i = n → i ≤ ls.length → out.length ≤ 300 → short20 out = true → R.risesB out = true →
    LoopTo (Crd Ar.real) 100 (loopAt Tryd.f10 0) 58 [2, 3, 4, 5, 6, 14, 15] [.dead, .dead, .dead, .ps wTy out, .sl L.sT ls nl false, i64x (ls.length : Int), i64x (i : Int)] [] (resR (goR (ls.drop i) (i : Int) out)) := by
  intro n
  induction n with
  | zero =>
    intro i out h1 h2 h3 h4 h5
    rw [List.drop_eq_nil_iff.2 (by omega)]
    refine LoopTo.left (e := .exit 0) (by simp) fun k => ?_
    rw [lRd, bf (by rw [decide_eq_false_iff_not]; omega)]
    exact ⟨_, rfl, R.fk (R.fk (R.fk (R.fk (R.fd (R.fd (R.fd (Forget.same _))))))) ⟩
  | succ n ih =>
    intro i out h1 h2 h3 h4 h5
    have hi : i < ls.length := by omega
    have hx := List.all_eq_true.1 hk _ (R.memG (Ty.zero L.sT) hi)
    simp only [Bool.and_eq_true, decide_eq_true_eq] at hx
    have hok : L.Ok Ar.real (ls.getD i (Ty.zero L.sT)) none = true := by
      simp only [L.Ok, rw_se, Bool.and_eq_true, decide_eq_true_eq]
      exact ⟨hx.1, rfl, hx.2⟩
    have hs := short20_short h4
    rw [R.dropG (Ty.zero L.sT) hi]
    have hr1 : decide ((0 : Int) ≤ (i : Int) ∧ (i : Int) < (ls.length : Int)) = true := by rw [decide_eq_true_eq]; omega
    have hr0 : decide ((i : Int) < (ls.length : Int)) = true := by rw [decide_eq_true_eq]; omega
    have hwi := R.wi1 (show i ≤ 9000000000000000000 by omega)
    obtain ⟨x, hxx⟩ : ∃ x, x = ls.getD i (Ty.zero L.sT) := ⟨_, rfl⟩
    have T := fun k => lRd Ar.real (Ex × List X × Hp) out ls nl (ls.length : Int) (i : Int) k
    simp only [Int.toNat_natCast, rw_se, hwi, ← hxx] at T
    rw [← hxx] at hok
    rw [← hxx]
    cases hb : L.bareB x with
    | true =>
      have e : goR (x :: ls.drop (i + 1)) (i : Int) out = goR (ls.drop (i + 1)) ((i + 1 : Nat) : Int) out := by
        rw [goR, hb]; rfl
      rw [e]
      refine LoopTo.next (fun k => ?_) (ih (i + 1) out (by omega) (by omega) h3 h4 h5)
      rw [T, bt hr0, bt hr1, bt hok, bt hb]
    | false =>
      by_cases he : (wordW x).2.1 = 0
      · have hw := word_short he
        have hq : (decide (out.length ≤ 1000000 ∧ (wordW x).1.length ≤ 1000000) && (R.shortB out && R.risesB out)) = true := by
          simp only [Bool.and_eq_true, decide_eq_true_eq]
          exact ⟨⟨by omega, by omega⟩, hs, h5⟩
        have he2 : ((wordW x).2.1 == 0) = true := by rw [he]; rfl
        have he3 : ((wordW x).2.1 != 0) = false := by rw [he]; rfl
        have hcnt := R.cnt_le out (wordW x).1
        by_cases hm : (wordW x).1 ∈ out
        · have hin : R.insL out (wordW x).1 = out := by unfold R.insL; rw [if_pos hm]
          have e : goR (x :: ls.drop (i + 1)) (i : Int) out = goR (ls.drop (i + 1)) ((i + 1 : Nat) : Int) out := by
            rw [goR, hb, cond_false, if_neg (fun h => h he), hin, if_neg (by omega)]; rfl
          rw [e]
          refine LoopTo.weak (H1 := [(tdT, .d tdT (wordW x))]) (fun k => ?_) (Forget.same _) (HWeak.of (H' := []) (frontB_nil _) rfl) (by simp) (.inr rfl) (ih (i + 1) out (by omega) (by omega) h3 h4 h5)
          rw [T, bt hr0, bt hr1, bt hok, bf hb, bt hr1, bt hok, bt he2, bt hq, bf (by rw [decide_eq_true hm]; rfl), bf (by rw [decide_eq_false_iff_not]; omega), bf he3]
        · have hin : R.insL out (wordW x).1 = out.take (R.cntL out (wordW x).1) ++ [(wordW x).1] ++ out.drop (R.cntL out (wordW x).1) := by
            unfold R.insL; rw [if_neg hm]; simp
          have hlen : (R.insL out (wordW x).1).length = out.length + 1 := by
            rw [hin]; simp only [List.length_append, List.length_take, List.length_drop, List.length_singleton]; omega
          have T2 : ∀ k : Ex → List X → Hp → Option (Ex × List X × Hp), stepF (Crd Ar.real) 100 (loopAt Tryd.f10 0) 58 [2, 3, 4, 5, 6, 14, 15] [.dead, .dead, .dead, .ps wTy out, .sl L.sT ls nl false, i64x (ls.length : Int), i64x (i : Int)] [] k =
              bif decide (((R.insL out (wordW x).1).length : Int) > 300) then k .ret [.sl wTy [] (some true) true, i64x (i : Int), i64x 81, .ps wTy (R.insL out (wordW x).1), .sl L.sT ls nl false, i64x (ls.length : Int), i64x (i : Int)] [(tdT, .agg [i64s (wordW x).1 none false, i64x 81])]
              else k .normal [.dead, .dead, .dead, .ps wTy (R.insL out (wordW x).1), .sl L.sT ls nl false, i64x (ls.length : Int), i64x ((i + 1 : Nat) : Int)] [(tdT, .d tdT (wordW x))] := by
            intro k
            rw [T, bt hr0, bt hr1, bt hok, bf hb, bt hr1, bt hok, bt he2, bt hq, bt (by rw [decide_eq_false hm]; rfl), bt (by rw [decide_eq_true_eq]; exact ⟨by omega, by omega, rfl, by omega⟩), ← hin, bf he3]
          by_cases hg : (R.insL out (wordW x).1).length > 300
          · have e : goR (x :: ls.drop (i + 1)) (i : Int) out = ([], (i : Int), 81) := by
              rw [goR, hb, cond_false, if_neg (fun h => h he), if_pos hg]
            rw [e]
            refine LoopTo.end (e := .ret) (by simp) (fun k => (T2 k).trans (bt (by rw [decide_eq_true_eq]; omega))) (R.fk (R.fk (R.fk (R.fd (R.fd (R.fd (R.fd (Forget.same _)))))))) (HWeak.of (H' := []) (frontB_nil _) rfl) (by simp) (.inr rfl)
          · have e : goR (x :: ls.drop (i + 1)) (i : Int) out = goR (ls.drop (i + 1)) ((i + 1 : Nat) : Int) (R.insL out (wordW x).1) := by
              rw [goR, hb, cond_false, if_neg (fun h => h he), if_neg hg]; rfl
            rw [e]
            refine LoopTo.weak (fun k => (T2 k).trans (bf (by rw [decide_eq_false_iff_not]; omega))) (Forget.same _) (HWeak.of (H' := []) (frontB_nil _) rfl) (by simp) (.inr rfl) (ih (i + 1) _ (by omega) (by omega) (by omega) (short20_ins h4 hw) (rises_ins h5))
      · have e : goR (x :: ls.drop (i + 1)) (i : Int) out = ([], (i : Int), (wordW x).2.1) := by
          rw [goR, hb, cond_false, if_pos he]
        have he2 : ((wordW x).2.1 == 0) = false := by rw [beq_eq_false_iff_ne]; exact he
        have he3 : ((wordW x).2.1 != 0) = true := by rw [bne_iff_ne]; exact he
        rw [e, resR, bf (decide_eq_false he)]
        refine LoopTo.end (e := .ret) (ys := [.sl wTy [] (some true) true, i64x (i : Int), i64x (wordW x).2.1, .ps wTy out, .sl L.sT ls nl false, i64x (ls.length : Int), i64x (i : Int)]) (H1 := [(tdT, .d tdT (wordW x))]) (by simp) (fun k => ?_) (R.fk (R.fk (R.fk (R.fd (R.fd (R.fd (R.fd (Forget.same _)))))))) (HWeak.of (H' := []) (frontB_nil _) rfl) (by simp) (.inr rfl)
        rw [T, bt hr0, bt hr1, bt hok, bf hb, bt hr1, bt hok, bf he2, bt he3]

theorem goR_nil : ∀ (ls : List (List Int)) (i : Int) (out : List (List Int)), (goR ls i out).2.2 ≠ 0 → (goR ls i out).1 = []
  | [], _, _, h => absurd rfl h
  | l :: ls, i, out, h => by
    rw [goR] at h ⊢
    cases hb : L.bareB l with
    | true => rw [hb, cond_true] at h; rw [cond_true]; exact goR_nil ls _ _ h
    | false =>
      rw [hb, cond_false] at h
      rw [cond_false]
      split at h
      · rename_i h1; rw [if_pos h1]
      · rename_i h1
        rw [if_neg h1]
        split at h
        · rename_i h2; rw [if_pos h2]
        · rename_i h2; rw [if_neg h2]; exact goR_nil ls _ _ h
theorem goR_at : ∀ (ls : List (List Int)) (i : Int) (out : List (List Int)), (goR ls i out).2.2 = 0 → (goR ls i out).2.1 = -1
  | [], _, _, h => rfl
  | l :: ls, i, out, h => by
    rw [goR] at h ⊢
    cases hb : L.bareB l with
    | true => rw [hb, cond_true] at h; rw [cond_true]; exact goR_at ls _ _ h
    | false =>
      rw [hb, cond_false] at h
      rw [cond_false]
      split at h
      · rename_i h1; exact absurd h h1
      · rename_i h1
        rw [if_neg h1]
        split at h
        · simp at h
        · rename_i h2; rw [if_neg h2]; exact goR_at ls _ _ h

theorem split_ok9 {b : List Int} (hb : bytesB b = true) (hl : b.length ≤ 50000) : okL (L.splitL b) = true ∧ (L.splitL b).length ≤ 50001 := by
  refine ⟨?_, by have := L.split_len b; omega⟩
  unfold okL
  rw [List.all_eq_true]
  intro q hq
  rw [Bool.and_eq_true, decide_eq_true_eq]
  refine ⟨bytesB_iff.2 fun x hx => bytesB_iff.1 hb x (L.split_mem hq x hx).1, ?_⟩
  have := L.piece_len L.isEnd b q (L.dropE_mem hq)
  omega

/-- A function of its arguments alone, some of whose regions are told; less is told of its result than its text does. -/
theorem pureWkW {P : Program} {C : Ctx} (hC : COk P C) (hmix : P.follows .mixedOrders = true) (f : Nat) (fn : Func) (hf : P.funcs[f]? = some fn) (hname : (fn.name == "runtime.NumGoroutine") = false) (hb : fn.body.isSome = true) (fuel n : Nat)
    (hn : (loopsAll (bodyOf fn)).length = n) (hL : ∀ i, i < n → Tells C fuel (loopAt fn i)) {F : List X → Option X}
    (hF : ∀ args r, F args = some r → argsB args = true ∧ ∃ x H', bodyX C fuel fn args [] = some (x, H') ∧ resB x = true ∧ Wk x r) (hJ : RgsW P C fn) (hR : RfsOk C fn := by exact RfsOk.none (by kernel_rfl)) : PureOk P f F := by
  have h0 : PureOk P f fun args => if (F args).isSome then (bodyX C fuel fn args []).map (·.1) else none := by
    refine pureOkW hC hmix f fn hf hname hb fuel n hn hL (fun args r h => ?_) hJ hR
    split at h
    · rename_i hs
      obtain ⟨r0, hr0⟩ := Option.isSome_iff_exists.1 hs
      obtain ⟨k1, x, H', k2, k3, k4⟩ := hF args r0 hr0
      rw [k2] at h
      simp only [Option.map_some, Option.some.injEq] at h
      subst h
      exact ⟨k1, k3, H', k2⟩
    · cases h
  refine h0.wk fun args r h => ?_
  obtain ⟨k1, x, H', k2, k3, k4⟩ := hF args r h
  exact ⟨x, by simp [h, k2], k4⟩

theorem read_ok : OrcOk Tryd.prog 10 (.pure (readF Ar.real)) := by
  refine pureWkW (CxJ.ok ow9 (Lrd Ar.real) Mrd (Jrd Ar.real)) mixed 10 Tryd.f10 (by kernel_rfl) (by kernel_rfl) (by kernel_rfl) 100 1 (by kernel_rfl) (fun i h => ?_) (fun args r h => ?_) rgsRd
  · obtain rfl : i = 0 := by omega
    refine Tells.mk (key := 4) (N := 58) (ks := [2, 3, 4, 5, 6, 14, 15]) (F := LrdF Ar.real) (by kernel_rfl) rfl fun xs H r h => ?_
    unfold LrdF at h
    split at h
    · rename_i out ls nl n i
      obtain ⟨hg, rfl⟩ := R.Tr.two h
      simp only [rw_se, Bool.and_eq_true, decide_eq_true_eq] at hg ⊢
      dsimp only [Ty.den] at hg
      obtain ⟨⟨h1, h2, h3, h4, h5⟩, h6, h7, h8⟩ := hg
      obtain ⟨m, rfl⟩ := Int.eq_ofNat_of_zero_le h2
      subst h1
      simp only [Int.toNat_natCast]
      exact loopRd ls nl (by omega) h6 _ m out rfl (by omega) h5 h7 h8
    · cases h
  · unfold readF at h
    split at h
    · rename_i b nl
      obtain ⟨hg, rfl⟩ := Tr.one h
      have hg2 := hg
      simp only [L.Ok, rw_se, Bool.and_eq_true, decide_eq_true_eq] at hg2
      obtain ⟨hb, hn, hl⟩ := hg2
      obtain ⟨s1, s2⟩ := split_ok9 hb hl
      rw [tRd, bt hg]
      simp only [rw_se, show Int.toNat 0 = 0 from rfl, List.drop_zero]
      rw [bt (by
        simp only [Bool.and_eq_true, decide_eq_true_eq]
        exact ⟨⟨trivial, by omega, by omega, by omega, by omega⟩, s1, rfl, by decide⟩)]
      unfold readW
      by_cases he : (goR (L.splitL b) 0 []).2.2 = 0
      · rw [bt (decide_eq_true he), goR_at _ _ _ he, he]
        exact ⟨rfl, _, _, rfl, rfl, Wk.same _⟩
      · rw [bf (decide_eq_false he), goR_nil _ _ _ he]
        exact ⟨rfl, _, _, rfl, rfl, .inr ⟨_, _, rfl, rfl, Wk1.sl (.inl rfl) (fun h => h), Wk1.same _, Wk1.same _, trivial⟩⟩
    · cases h

end Go.Proofs.YtaefpopjlmhmoaaDoor.V

/-
  Chapter 09, word lists: WordsCuts answers true, whatever it is given.
  It speaks of the pinned program alone; no condition.
-/
import Derived.Test.YtaefpopjlmhmoaaDoorWo9
import Derived.Test.YtaefpopjlmhmoaaDoorWq1
namespace Go.Proofs.YtaefpopjlmhmoaaDoor.V
open Go
set_option linter.unusedVariables false
set_option linter.unusedSimpArgs false

theorem goR_app : ∀ (a b : List (List Int)) (i : Int) (out : List (List Int)), goR (a ++ b) i out = if (goR a i out).2.2 = 0 then goR b (i + a.length) (goR a i out).1 else goR a i out
  | [], b, i, out => by simp [goR]
  | l :: a, b, i, out => by
    have e : (i + 1 : Int) + a.length = i + ((l :: a).length : Nat) := by simp only [List.length_cons]; omega
    rw [List.cons_append, goR, goR]
    cases hb : L.bareB l with
    | true =>
      rw [cond_true, cond_true, goR_app a b (i + 1) out, e]
    | false =>
      rw [cond_false, cond_false]
      by_cases h1 : (wordW l).2.1 ≠ 0
      · rw [if_pos h1, if_pos h1, if_neg h1]
      · rw [if_neg h1, if_neg h1]
        by_cases h2 : (R.insL out (wordW l).1).length > 300
        · rw [if_pos h2, if_pos h2, if_neg (by simp)]
        · rw [if_neg h2, if_neg h2, goR_app a b (i + 1) _, e]
theorem goR_err : ∀ (ls : List (List Int)) (i : Int) (out : List (List Int)), (goR ls i out).2.2 ≠ 0 → ∃ k : Nat, k < ls.length ∧ (goR ls i out).2.1 = i + k ∧ L.bareB (ls.getD k []) = false
  | [], _, _, h => absurd rfl h
  | l :: ls, i, out, h => by
    have next : ∀ o, (goR ls (i + 1) o).2.2 ≠ 0 → ∃ k : Nat, k < (l :: ls).length ∧ (goR ls (i + 1) o).2.1 = i + k ∧ L.bareB ((l :: ls).getD k []) = false := fun o ho => by
      obtain ⟨k, h1, h2, h3⟩ := goR_err ls (i + 1) o ho
      exact ⟨k + 1, by simp only [List.length_cons]; omega, by rw [h2]; omega, by simpa using h3⟩
    rw [goR] at h ⊢
    cases hb : L.bareB l with
    | true =>
      rw [hb, cond_true] at h
      rw [cond_true]
      exact next out h
    | false =>
      rw [hb, cond_false] at h
      rw [cond_false]
      by_cases h1 : (wordW l).2.1 ≠ 0
      · rw [if_pos h1]
        exact ⟨0, by simp, by simp, by simpa using hb⟩
      · rw [if_neg h1] at h ⊢
        by_cases h2 : (R.insL out (wordW l).1).length > 300
        · rw [if_pos h2]
          exact ⟨0, by simp, by simp, by simpa using hb⟩
        · rw [if_neg h2] at h ⊢
          exact next _ h
theorem goR_mem : ∀ (ls : List (List Int)) (i : Int) (out : List (List Int)), (goR ls i out).2.2 = 0 → ∀ w ∈ out, w ∈ (goR ls i out).1
  | [], _, _, _, w, hw => hw
  | l :: ls, i, out, h, w, hw => by
    rw [goR] at h ⊢
    cases hb : L.bareB l with
    | true =>
      rw [hb, cond_true] at h
      rw [cond_true]
      exact goR_mem ls _ _ h w hw
    | false =>
      rw [hb, cond_false] at h
      rw [cond_false]
      by_cases h1 : (wordW l).2.1 ≠ 0
      · rw [if_pos h1] at h
        exact absurd h h1
      · rw [if_neg h1] at h ⊢
        by_cases h2 : (R.insL out (wordW l).1).length > 300
        · rw [if_pos h2] at h; simp at h
        · rw [if_neg h2] at h ⊢
          exact goR_mem ls _ _ h w (R.insL_mem.2 (.inl hw))

/-- The first lines of a list. -/
def firstB (b : List Int) (k : Nat) : List Int := L.joinE ((L.splitL b).take k)
theorem first_split (b : List Int) (k : Nat) : L.splitL (firstB b k) = (L.splitL b).take k :=
  L.split_joinE fun q hq c hc => (L.split_mem (b := b) (List.mem_of_mem_take hq) c hc).2
theorem joinE_len : ∀ l : List (List Int), (L.joinE l).length ≤ L.sumL l
  | [] => by simp [L.joinE]
  | q :: l => by
    have := joinE_len l
    simp only [L.joinE, L.sumL, List.length_append, List.length_cons, List.map_cons, List.sum_cons] at this ⊢
    omega
theorem sum_take : ∀ (l : List (List Int)) (k : Nat), L.sumL (l.take k) ≤ L.sumL l
  | [], _ => by simp
  | q :: l, 0 => by simp [L.sumL]
  | q :: l, k + 1 => by
    have := sum_take l k
    simp only [L.sumL, List.take_succ_cons, List.map_cons, List.sum_cons] at this ⊢
    omega
theorem joinE_bytes : ∀ {l : List (List Int)}, (∀ q ∈ l, bytesB q = true) → bytesB (L.joinE l) = true
  | [], _ => rfl
  | q :: l, h => by
    have ih := joinE_bytes (l := l) fun v hv => h v (by simp [hv])
    rw [L.joinE, bytesB_iff]
    intro c hc
    rw [List.mem_append] at hc
    rcases hc with hc | hc
    · exact bytesB_iff.1 (h q (by simp)) c hc
    · rcases List.mem_cons.1 hc with rfl | hc
      · omega
      · exact bytesB_iff.1 ih c hc
theorem first_ok {b : List Int} (hy : bytesB b = true) (hl : b.length ≤ 2000) (k : Nat) : bytesB (firstB b k) = true ∧ (firstB b k).length ≤ 2001 := by
  refine ⟨joinE_bytes fun q hq => bytesB_iff.2 fun c hc => bytesB_iff.1 hy c (L.split_mem (List.mem_of_mem_take hq) c hc).1, ?_⟩
  have h1 := joinE_len ((L.splitL b).take k)
  have h2 := sum_take (L.splitL b) k
  unfold firstB
  rcases L.split_sum b with h | h <;> omega

/-- What is told of the first lines. -/
theorem cuts_law (b : List Int) (k : Nat) :
    ((readW b).2.2 ≠ 0 ∧ (readW b).2.1 < k → readW (firstB b k) = readW b) ∧ (¬ ((readW b).2.2 ≠ 0 ∧ (readW b).2.1 < k) → (readW (firstB b k)).2.2 = 0 ∧ (readW (firstB b k)).2.1 = -1 ∧ ((readW b).2.2 = 0 → ∀ w ∈ (readW (firstB b k)).1, w ∈ (readW b).1)) := by
  have e1 : readW b = goR ((L.splitL b).take k ++ (L.splitL b).drop k) 0 [] := by rw [List.take_append_drop]; rfl
  have e2 : readW (firstB b k) = goR ((L.splitL b).take k) 0 [] := by unfold readW; rw [first_split]
  rw [goR_app] at e1
  rw [e2]
  by_cases h : (goR ((L.splitL b).take k) 0 []).2.2 = 0
  · rw [if_pos h] at e1
    refine ⟨fun ⟨h1, h2⟩ => ?_, fun _ => ⟨h, goR_at _ _ _ h, fun h3 w hw => ?_⟩⟩
    · exfalso
      rw [e1] at h1 h2
      obtain ⟨j, j1, j2, j3⟩ := goR_err _ _ _ h1
      rw [j2, List.length_take] at h2
      rw [List.length_drop] at j1
      omega
    · rw [e1] at h3 ⊢
      exact goR_mem _ _ _ h3 w hw
  · rw [if_neg h] at e1
    refine ⟨fun _ => e1.symm, fun hn => ?_⟩
    exfalso
    apply hn
    rw [e1]
    obtain ⟨j, j1, j2, j3⟩ := goR_err _ _ _ h
    refine ⟨h, ?_⟩
    rw [j2]
    rw [List.length_take] at j1
    omega

theorem loopCa (b : List Int) (nb : Option Bool) (z up : Bool) (ls : List (List Int)) (ns : Option Bool) (m : Nat) (hm : m ≤ ls.length) (hl : ls.length ≤ 50001) (hk : okL ls = true) : ∀ (n i : Nat) (out : List Int), m - i = n → i ≤ m → out.length ≤ 50001 * i →
    LoopTo (Cx Ar.real (Ow12 Ar.real) (Lca Ar.real)) 100 (loopAt Tryd.f7 0) 105 [0, 4, 5, 6, 7, 8, 9] [u8s b nb false, boolx z, boolx up, .sl L.sT ls ns false, i64x (m : Int), u8s out (some out.isEmpty) true, i64x (i : Int)] []
      (.exit 0, [u8s b nb false, boolx z, boolx up, .dead, i64x (m : Int), u8s (out ++ L.joinE ((ls.drop i).take (m - i))) (some (out ++ L.joinE ((ls.drop i).take (m - i))).isEmpty) true, .dead], []) := by
  intro n
  induction n with
  | zero =>
    intro i out h1 h2 h3
    rw [show m - i = 0 by omega, List.take_zero, show L.joinE [] = [] from rfl, List.append_nil]
    refine LoopTo.left (by simp) fun k => ?_
    rw [lCa, bf (by rw [decide_eq_false_iff_not]; omega)]
    exact ⟨_, rfl, R.fk (R.fk (R.fk (R.fd (R.fk (R.fk (R.fd (Forget.same _)))))))⟩
  | succ n ih =>
    intro i out h1 h2 h3
    have hi : i < ls.length := by omega
    have hx := List.all_eq_true.1 hk _ (R.memG (Ty.zero L.sT) hi)
    simp only [Bool.and_eq_true, decide_eq_true_eq] at hx
    obtain ⟨x, hxx⟩ : ∃ x, x = ls.getD i (Ty.zero L.sT) := ⟨_, rfl⟩
    have hxl : x.length ≤ 50000 := by rw [hxx]; exact hx.2
    have h := ih (i + 1) (out ++ x ++ [10]) (by omega) (by omega) (by simp only [List.length_append, List.length_singleton]; omega)
    rw [R.dropG (Ty.zero L.sT) hi, show m - i = (m - (i + 1)) + 1 by omega, List.take_succ_cons, L.joinE, ← hxx, show out ++ (x ++ 10 :: L.joinE ((ls.drop (i + 1)).take (m - (i + 1)))) = out ++ x ++ [10] ++ L.joinE ((ls.drop (i + 1)).take (m - (i + 1))) by simp]
    refine LoopTo.next (fun k => ?_) h
    rw [lCa]
    simp only [Int.toNat_natCast, rw_se, R.wi1 (show i ≤ 9000000000000000000 by omega), ← hxx]
    rw [bt (by rw [decide_eq_true_eq]; omega), bt (by rw [decide_eq_true_eq]; omega), bt (by rw [decide_eq_true_eq]; omega), bt (by rw [decide_eq_true_eq, List.length_append, List.length_singleton]; omega)]
    have e1 : (out ++ x ++ [(10 : Int)]).isEmpty = false := by simp
    rw [e1]
    simp only [List.isEmpty_cons, Bool.and_false]

theorem loopCb (z up : Bool) (x : List (List Int)) (nx : Option Bool) (e : Int) (y : List (List Int)) (ny : Option Bool) (t f : Int) (hy : y.length ≤ 1000) (hx : x.length ≤ 1000) (h1 : short20 x = true) (h2 : R.risesB x = true) (h3 : short20 y = true) (h4 : e ≠ 0 ∨ ∀ w ∈ y, w ∈ x) : ∀ (n m : Nat), y.length - m = n → m ≤ y.length →
    LoopTo (Cx Ar.real (Ow12 Ar.real) (Lca Ar.real)) 100 (loopAt Tryd.f7 1) 105 [4, 5, 10, 12, 13, 14, 15, 16] [boolx z, boolx up, .sl wTy x nx false, i64x e, .sl wTy y ny false, i64x t, i64x f, i64x (m : Int)] []
      (.exit 2, [boolx z, boolx up, .dead, .dead, .dead, i64x t, i64x f, .dead], []) := by
  intro n
  induction n with
  | zero =>
    intro m g1 g2
    refine LoopTo.left (by simp) fun k => ?_
    rw [lCb, bf (by rw [decide_eq_false (show ¬ (m : Int) < (y.length : Int) by omega)]; rfl)]
    exact ⟨_, rfl, R.fk (R.fk (R.fd (R.fd (R.fd (R.fk (R.fk (R.fd (Forget.same _))))))))⟩
  | succ n ih =>
    intro m g1 g2
    have hm : m < y.length := by omega
    by_cases he : e = 0
    · have hin := h4.resolve_left (fun h => h he) _ (R.memG (Ty.zero wTy) hm)
      have hw := short20_iff.1 h3 _ (R.memG (Ty.zero wTy) hm)
      refine LoopTo.next (fun k => ?_) (ih (m + 1) (by omega) (by omega))
      rw [lCb]
      simp only [Int.toNat_natCast, rw_se, R.wi1 (show m ≤ 9000000000000000000 by omega)]
      rw [bt (by rw [decide_eq_true (show (m : Int) < (y.length : Int) by omega)]; rfl), bt (by rw [he]; rfl), bt (by rw [decide_eq_true_eq]; omega),
        bt (by simp only [Bool.and_eq_true, decide_eq_true_eq]; exact ⟨⟨by omega, Nat.le_trans hw (by omega)⟩, short20_short h1, h2⟩), bf (by rw [decide_eq_true hin]; rfl)]
    · refine LoopTo.left (by simp) fun k => ?_
      rw [lCb, bt (by rw [decide_eq_true (show (m : Int) < (y.length : Int) by omega)]; rfl), bf (by simpa using he)]
      exact ⟨_, rfl, R.fk (R.fk (R.fd (R.fd (R.fd (R.fk (R.fk (R.fd (Forget.same _))))))))⟩

theorem cuts_ok : OrcOk Tryd.prog 7 (.pure (LawFc [.slice (.int .u8), .int .u16])) := by
  refine law_pure (Cx.ok ow12 (Lca Ar.real)) mixed 7 Tryd.f7 _ (by kernel_rfl) (by kernel_rfl) (by kernel_rfl) 100 2 (by kernel_rfl) (fun i h => ?_) (fun args h => ?_)
  · rcases (show i = 0 ∨ i = 1 by omega) with rfl | rfl
    · refine Tells.mk (key := 8) (N := 105) (ks := [0, 4, 5, 6, 7, 8, 9]) (F := LcaF Ar.real) (by kernel_rfl) rfl fun xs H r h => ?_
      unfold LcaF at h
      split at h
      · rename_i b nb z up ls ns m out x i
        obtain ⟨hg, rfl⟩ := Tr.one h
        simp only [rw_se, Bool.and_eq_true, decide_eq_true_eq, beq_iff_eq] at hg ⊢
        dsimp only [Ty.den] at hg
        obtain ⟨⟨h1, h2, h3, h4, h5⟩, h6, h7⟩ := hg
        obtain ⟨i', rfl⟩ := Int.eq_ofNat_of_zero_le h1
        obtain ⟨m', rfl⟩ := Int.eq_ofNat_of_zero_le (Int.le_trans h1 h2)
        subst h7
        have e0 : ((m' : Int) - (i' : Int)).toNat = m' - i' := by omega
        simp only [Int.toNat_natCast, e0]
        exact loopCa b nb z up ls ns m' (by omega) h4 h6 _ i' out rfl (by omega) (by omega)
      · cases h
    · refine Tells.mk (key := 16) (N := 105) (ks := [4, 5, 10, 12, 13, 14, 15, 16]) (F := LcbF Ar.real) (by kernel_rfl) rfl fun xs H r h => ?_
      unfold LcbF at h
      split at h
      · rename_i z up x nx e y ny t f m
        obtain ⟨hg, rfl⟩ := Tr.one h
        simp only [rw_se, Bool.and_eq_true, decide_eq_true_eq, Bool.or_eq_true, Bool.not_eq_true', beq_eq_false_iff_ne, List.all_eq_true] at hg ⊢
        dsimp only [Ty.den] at hg
        obtain ⟨⟨h1, h2, h3, h4⟩, h5, h6, h7, h8⟩ := hg
        obtain ⟨m', rfl⟩ := Int.eq_ofNat_of_zero_le h1
        exact loopCb z up x nx e y ny t f h3 h4 h5 h6 h7 h8 _ m' rfl (by omega)
      · cases h
  · obtain ⟨x, _, rfl, h1, k1⟩ := h.cons
    obtain ⟨y, _, rfl, h2, k2⟩ := k1.cons
    obtain rfl := k2.nil
    obtain ⟨b, nb, rfl, hy, hn⟩ := arg_bytes h1
    obtain ⟨n, rfl, hnw⟩ := h2
    have hn16 := wfD_int hnw
    have q1 : IntKind.u16.min = 0 := by decide
    have q2 : IntKind.u16.max = 65535 := by decide
    rw [q1, q2] at hn16
    obtain ⟨j, rfl⟩ := Int.eq_ofNat_of_zero_le hn16.1
    have hj : @LE.le Int _ (j : Int) 65535 := hn16.2
    refine ⟨[], ?_⟩
    rw [tCuts]
    simp only [rw_se]
    by_cases g1 : b.length > 2000
    · rw [bt (by rw [decide_eq_true_eq]; omega)]
    · rw [bf (by rw [decide_eq_false_iff_not]; omega), bt (okB hy hn (by omega))]
      obtain ⟨s1, s2⟩ := split_ok9 hy (by omega)
      have hw1 : Ar.real.wrap .i64 (j : Int) = (j : Int) := by rw [rw_wrap, wi64 (by omega) (by omega)]
      have hw2 : Ar.real.wrap .i64 (((L.splitL b).length : Int) + 1) = (((L.splitL b).length + 1 : Nat) : Int) := R.wi1 (by omega)
      have hlt : j % ((L.splitL b).length + 1) < (L.splitL b).length + 1 := Nat.mod_lt _ (by omega)
      obtain ⟨k, hk⟩ : ∃ k, k = j % ((L.splitL b).length + 1) := ⟨_, rfl⟩
      rw [← hk] at hlt
      have e0 : ((k : Int) - 0).toNat = k := by omega
      simp only [hw1, hw2, ntmod, ← hk, e0, show Int.toNat 0 = 0 from rfl, List.drop_zero, List.nil_append]
      have ef : L.joinE ((L.splitL b).take k) = firstB b k := rfl
      simp only [ef]
      obtain ⟨f1, f2⟩ := first_ok hy (by omega) k
      obtain ⟨c1, c2⟩ := cuts_law b k
      obtain ⟨r1, r2⟩ := read_short hy
      obtain ⟨p1, p2⟩ := read_short f1
      have hri : R.risesB (readW b).1 = true := by
        by_cases h : (readW b).2.2 = 0
        · exact R.risesB_iff.2 (read_fit hy h).2.1
        · rw [show (readW b).1 = [] from goR_nil _ _ _ h]; rfl
      have hc : ∀ {a1 : Prop} [Decidable a1], a1 → ((readW b).2.2 ≠ 0 ∨ ∀ w ∈ (readW (firstB b k)).1, w ∈ (readW b).1) → (decide a1 && (short20 (readW b).1 && (R.risesB (readW b).1 && (short20 (readW (firstB b k)).1 && (!((readW b).2.2 == 0) || (readW (firstB b k)).1.all fun w => decide (w ∈ (readW b).1)))))) = true := by
        intro a1 _ h1 h2
        simp only [Bool.and_eq_true, decide_eq_true_eq, Bool.or_eq_true, Bool.not_eq_true', beq_eq_false_iff_ne, List.all_eq_true]
        exact ⟨h1, r1, hri, p1, h2⟩
      rw [bf (by rw [decide_eq_false_iff_not]; omega), bt (by
        simp only [Bool.and_eq_true, decide_eq_true_eq]
        exact ⟨⟨by omega, by omega, by omega, by omega, by omega⟩, s1, rfl⟩), bt (okB hy hn (by omega)), bt (okB f1 (nlO_empty _) (by omega))]
      by_cases e1 : (readW b).2.2 = 0
      · obtain ⟨d1, d2, d3⟩ := c2 fun h => h.1 e1
        rw [bf (by rw [e1]; rfl), bt (hc ⟨by omega, by omega, by omega, by omega⟩ (.inr (d3 e1))), bt (by rw [d1]; rfl), d2]
        rfl
      · rw [bt (by rw [show ((readW b).2.2 != 0) = true from bne_iff_ne.2 e1]; rfl)]
        by_cases e2 : (readW b).2.1 < k
        · rw [bt (decide_eq_true e2), c1 ⟨e1, e2⟩, bt (by simp)]
          simp
        · obtain ⟨d1, d2, d3⟩ := c2 fun h => e2 h.2
          rw [bf (decide_eq_false e2), bt (hc ⟨by omega, by omega, by omega, by omega⟩ (.inl e1)), bt (by rw [d1]; rfl), d2]
          rfl

end Go.Proofs.YtaefpopjlmhmoaaDoor.V

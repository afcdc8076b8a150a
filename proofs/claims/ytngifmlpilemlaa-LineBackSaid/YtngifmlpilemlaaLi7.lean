/-
  Chapter 04, lines: the functions do what they tell: the walk over the pieces, lines, fields, what is the same.
  It speaks of the pinned program alone; no condition.
-/
import Derived.Test.YtngifmlpilemlaaLi6
namespace Go.Proofs.Ytngifmlpilemlaa.V
open Go
set_option linter.unusedVariables false
set_option linter.unusedSimpArgs false

abbrev CSeq : Ctx := CxG Ar.real (Ol5 Ar.real) (Lseq Ar.real) (Ys Ar.real) (fun _ => none) false
abbrev seqH (b : List Int) (nl : Option Bool) (g key : Nat) (out : List (List Int)) (x : Bool) : Hp := [(ssT, sss out (some x) true), (sT, u8s b nl false), (.any, .fn g [] []), (.unit, .rnd key [.ptr 0 []])]

theorem seqE_step (R : Type) {b : List Int} {nl : Option Bool} (hb : bytesB b = true) (hnl : nlO nl b = true) (hl : b.length ≤ 100000) {i n : Nat} (hi : i ≤ b.length) (hn : (n : Int) = (bif decide (idxP isEnd (b.drop i) < 0) then (b.length : Int) - i else idxP isEnd (b.drop i))) (hin : i + n ≤ b.length)
    {out : List (List Int)} (ho : out.length ≤ 1000000) (x : Bool) (k : Ex → List X → Hp → Option R) :
    stepF CSeq 100 (loopAt Try.f16 0) 34 [0, 1, 2, 4] [.yld 3, .ptr 1 [], .ptr 2 [], i64x i] (seqH b nl 12 7 out x) k =
      k .normal [.yld 3, .ptr 1 [], .ptr 2 [], i64x ((i + n + 1 : Nat) : Int)] (seqH b nl 12 7 (out ++ [(b.take (i + n)).drop i]) false) := by
  have w1 : Ar.real.wrap .i64 ((i : Int) + (n : Int)) = ((i + n : Nat) : Int) := by rw [rw_wrap, wi64 (by omega) (by omega)]; rfl
  have w2 : Ar.real.wrap .i64 ((n : Int) + 1) = ((n + 1 : Nat) : Int) := wnext (by omega)
  have w3 : Ar.real.wrap .i64 ((i : Int) + ((n + 1 : Nat) : Int)) = ((i + n + 1 : Nat) : Int) := by rw [rw_wrap, wi64 (by omega) (by omega)]; omega
  rw [lSeqE, bt (by rw [decide_eq_true_eq]; omega), bt (by rw [decide_eq_true_eq]; omega)]
  simp only [rw_se, Int.toNat_natCast]
  rw [bt (by rw [Bool.and_eq_true, decide_eq_true_eq]; exact ⟨bytes_drop hb i, by rw [List.length_drop]; omega⟩)]
  have fin : ∀ c1 c2 : Bool, nlO nl ((b.take (i + n)).drop i) = true := fun _ _ => seq_end b nl hb hnl i n hin
  cases hd : decide (idxP isEnd (b.drop i) < 0) with
  | true =>
    rw [hd] at hn
    simp only [cond_true] at hn ⊢
    have w0 : Ar.real.wrap .i64 ((b.length : Int) - i) = (n : Int) := by rw [← hn, rw_wrap, wi64 (by omega) (by omega)]
    rw [w0, w1, w2, w3, Int.toNat_natCast, bt (by rw [decide_eq_true_eq]; omega), bt (by rw [decide_eq_true_eq]; omega),
      bt (by rw [Bool.and_eq_true, decide_eq_true_eq]; exact ⟨⟨by rw [List.length_drop, List.length_take]; omega, ho⟩, fin true true⟩)]
  | false =>
    rw [hd] at hn
    simp only [cond_false] at hn ⊢
    rw [← hn, w1, w2, w3, Int.toNat_natCast, bt (by rw [decide_eq_true_eq]; omega), bt (by rw [decide_eq_true_eq]; omega),
      bt (by rw [Bool.and_eq_true, decide_eq_true_eq]; exact ⟨⟨by rw [List.length_drop, List.length_take]; omega, ho⟩, fin true true⟩)]

theorem seqB_step (R : Type) {b : List Int} {nl : Option Bool} (hb : bytesB b = true) (hnl : nlO nl b = true) (hl : b.length ≤ 100000) {i n : Nat} (hi : i ≤ b.length) (hn : (n : Int) = (bif decide (idxP isBl (b.drop i) < 0) then (b.length : Int) - i else idxP isBl (b.drop i))) (hin : i + n ≤ b.length)
    {out : List (List Int)} (ho : out.length ≤ 1000000) (x : Bool) (k : Ex → List X → Hp → Option R) :
    stepF CSeq 100 (loopAt Try.f16 0) 34 [0, 1, 2, 4] [.yld 3, .ptr 1 [], .ptr 2 [], i64x i] (seqH b nl 14 9 out x) k =
      k .normal [.yld 3, .ptr 1 [], .ptr 2 [], i64x ((i + n + 1 : Nat) : Int)] (seqH b nl 14 9 (out ++ full [(b.take (i + n)).drop i]) (x && ((b.take (i + n)).drop i).isEmpty)) := by
  have w1 : Ar.real.wrap .i64 ((i : Int) + (n : Int)) = ((i + n : Nat) : Int) := by rw [rw_wrap, wi64 (by omega) (by omega)]; rfl
  have w2 : Ar.real.wrap .i64 ((n : Int) + 1) = ((n + 1 : Nat) : Int) := wnext (by omega)
  have w3 : Ar.real.wrap .i64 ((i : Int) + ((n + 1 : Nat) : Int)) = ((i + n + 1 : Nat) : Int) := by rw [rw_wrap, wi64 (by omega) (by omega)]; omega
  rw [lSeqB, bt (by rw [decide_eq_true_eq]; omega), bt (by rw [decide_eq_true_eq]; omega)]
  simp only [rw_se, Int.toNat_natCast]
  rw [bt (by rw [Bool.and_eq_true, decide_eq_true_eq]; exact ⟨bytes_drop hb i, by rw [List.length_drop]; omega⟩)]
  have fin : ∀ c1 c2 : Bool, nlO nl ((b.take (i + n)).drop i) = true := fun _ _ => seq_end b nl hb hnl i n hin
  cases hd : decide (idxP isBl (b.drop i) < 0) with
  | true =>
    rw [hd] at hn
    simp only [cond_true] at hn ⊢
    have w0 : Ar.real.wrap .i64 ((b.length : Int) - i) = (n : Int) := by rw [← hn, rw_wrap, wi64 (by omega) (by omega)]
    rw [w0, w1, w2, w3, Int.toNat_natCast, bt (by rw [decide_eq_true_eq]; omega), bt (by rw [decide_eq_true_eq]; omega),
      bt (by rw [Bool.and_eq_true, decide_eq_true_eq]; exact ⟨⟨by rw [List.length_drop, List.length_take]; omega, ho⟩, fin true true⟩)]
  | false =>
    rw [hd] at hn
    simp only [cond_false] at hn ⊢
    rw [← hn, w1, w2, w3, Int.toNat_natCast, bt (by rw [decide_eq_true_eq]; omega), bt (by rw [decide_eq_true_eq]; omega),
      bt (by rw [Bool.and_eq_true, decide_eq_true_eq]; exact ⟨⟨by rw [List.length_drop, List.length_take]; omega, ho⟩, fin true true⟩)]

theorem full_cons (q : List Int) (l : List (List Int)) : full (q :: l) = full [q] ++ full l := by
  unfold full
  rw [← List.filter_append]
  rfl

theorem loopSeqE {b : List Int} {nl : Option Bool} (hb : bytesB b = true) (hnl : nlO nl b = true) (hl : b.length ≤ 100000) : ∀ (m i : Nat) (out : List (List Int)) (x : Bool), b.length + 1 - i ≤ m → i ≤ b.length + 1 → out.length + (b.length + 1 - i) ≤ 1000000 →
    LoopTo CSeq 100 (loopAt Try.f16 0) 34 [0, 1, 2, 4] [.yld 3, .ptr 1 [], .ptr 2 [], i64x i] (seqH b nl 12 7 out x)
      (.exit 0, [.yld 3, .ptr 1 [], .ptr 2 [], .dead], seqH b nl 12 7 (out ++ tk 7 (pcs isEnd b i)) (x && (tk 7 (pcs isEnd b i)).isEmpty)) := by
  have done : ∀ (out : List (List Int)) (x : Bool), LoopTo CSeq 100 (loopAt Try.f16 0) 34 [0, 1, 2, 4] [.yld 3, .ptr 1 [], .ptr 2 [], i64x ((b.length + 1 : Nat) : Int)] (seqH b nl 12 7 out x)
      (.exit 0, [.yld 3, .ptr 1 [], .ptr 2 [], .dead], seqH b nl 12 7 (out ++ tk 7 (pcs isEnd b (b.length + 1))) (x && (tk 7 (pcs isEnd b (b.length + 1))).isEmpty)) := by
    intro out x
    rw [pcs_done isEnd b (b.length + 1) (by omega)]
    refine LoopTo.left (by simp) fun k => ⟨[.yld 3, .ptr 1 [], .ptr 2 [], i64x ((b.length + 1 : Nat) : Int)], ?_, ?_⟩
    · rw [lSeqE, bf (by rw [decide_eq_false_iff_not]; omega)]
      simp [tk, seqH, sss, u8s]
    · repeat' first | exact Forget.same _ | refine Forget.cons (.inl rfl) ?_ | refine Forget.cons (.inr rfl) ?_
  intro m
  induction m with
  | zero =>
    intro i out x h1 h2 h3
    obtain rfl : i = b.length + 1 := by omega
    exact done out x
  | succ m ih =>
    intro i out x h1 h2 h3
    by_cases hi : i ≤ b.length
    · obtain ⟨n, hn, hin, hp⟩ := pcs_step isEnd b i hi
      refine LoopTo.next (fun k => seqE_step _ hb hnl hl hi hn hin (by omega) x k) ?_
      have := ih (i + n + 1) (out ++ [(b.take (i + n)).drop i]) false (by omega) (by omega) (by rw [List.length_append, List.length_singleton]; omega)
      rw [hp]
      have e1 : out ++ [(b.take (i + n)).drop i] ++ tk 7 (pcs isEnd b (i + n + 1)) = out ++ tk 7 ((b.take (i + n)).drop i :: pcs isEnd b (i + n + 1)) := by simp [tk]
      have e2 : (x && (tk 7 ((b.take (i + n)).drop i :: pcs isEnd b (i + n + 1))).isEmpty) = (false && (tk 7 (pcs isEnd b (i + n + 1))).isEmpty) := by simp [tk]
      rw [e1] at this
      rw [e2]
      exact this
    · obtain rfl : i = b.length + 1 := by omega
      exact done out x

theorem loopSeqB {b : List Int} {nl : Option Bool} (hb : bytesB b = true) (hnl : nlO nl b = true) (hl : b.length ≤ 100000) : ∀ (m i : Nat) (out : List (List Int)) (x : Bool), b.length + 1 - i ≤ m → i ≤ b.length + 1 → out.length + (b.length + 1 - i) ≤ 1000000 →
    LoopTo CSeq 100 (loopAt Try.f16 0) 34 [0, 1, 2, 4] [.yld 3, .ptr 1 [], .ptr 2 [], i64x i] (seqH b nl 14 9 out x)
      (.exit 0, [.yld 3, .ptr 1 [], .ptr 2 [], .dead], seqH b nl 14 9 (out ++ tk 9 (pcs isBl b i)) (x && (tk 9 (pcs isBl b i)).isEmpty)) := by
  have done : ∀ (out : List (List Int)) (x : Bool), LoopTo CSeq 100 (loopAt Try.f16 0) 34 [0, 1, 2, 4] [.yld 3, .ptr 1 [], .ptr 2 [], i64x ((b.length + 1 : Nat) : Int)] (seqH b nl 14 9 out x)
      (.exit 0, [.yld 3, .ptr 1 [], .ptr 2 [], .dead], seqH b nl 14 9 (out ++ tk 9 (pcs isBl b (b.length + 1))) (x && (tk 9 (pcs isBl b (b.length + 1))).isEmpty)) := by
    intro out x
    rw [pcs_done isBl b (b.length + 1) (by omega)]
    refine LoopTo.left (by simp) fun k => ⟨[.yld 3, .ptr 1 [], .ptr 2 [], i64x ((b.length + 1 : Nat) : Int)], ?_, ?_⟩
    · rw [lSeqB, bf (by rw [decide_eq_false_iff_not]; omega)]
      simp [tk, full, seqH, sss, u8s]
    · repeat' first | exact Forget.same _ | refine Forget.cons (.inl rfl) ?_ | refine Forget.cons (.inr rfl) ?_
  intro m
  induction m with
  | zero =>
    intro i out x h1 h2 h3
    obtain rfl : i = b.length + 1 := by omega
    exact done out x
  | succ m ih =>
    intro i out x h1 h2 h3
    by_cases hi : i ≤ b.length
    · obtain ⟨n, hn, hin, hp⟩ := pcs_step isBl b i hi
      refine LoopTo.next (fun k => seqB_step _ hb hnl hl hi hn hin (by omega) x k) ?_
      have hlf : (full [(b.take (i + n)).drop i]).length ≤ 1 := by
        unfold full
        exact List.length_filter_le _ _
      have := ih (i + n + 1) (out ++ full [(b.take (i + n)).drop i]) (x && ((b.take (i + n)).drop i).isEmpty) (by omega) (by omega) (by rw [List.length_append]; omega)
      rw [hp]
      have e0 : tk 9 ((b.take (i + n)).drop i :: pcs isBl b (i + n + 1)) = full [(b.take (i + n)).drop i] ++ tk 9 (pcs isBl b (i + n + 1)) := full_cons _ _
      have e1 : out ++ full [(b.take (i + n)).drop i] ++ tk 9 (pcs isBl b (i + n + 1)) = out ++ tk 9 ((b.take (i + n)).drop i :: pcs isBl b (i + n + 1)) := by rw [e0, List.append_assoc]
      have e2 : (x && (tk 9 ((b.take (i + n)).drop i :: pcs isBl b (i + n + 1))).isEmpty) = ((x && ((b.take (i + n)).drop i).isEmpty) && (tk 9 (pcs isBl b (i + n + 1))).isEmpty) := by
        rw [e0]
        cases he : ((b.take (i + n)).drop i).isEmpty <;> simp [full, he]
      rw [e1] at this
      rw [e2]
      exact this
    · obtain rfl : i = b.length + 1 := by omega
      exact done out x

theorem cases_pk {p : Int → Bool} {g key : Nat} (hp : pOf g = some p) (hk : kOf key = some g) : (g = 12 ∧ p = isEnd ∧ key = 7) ∨ (g = 14 ∧ p = isBl ∧ key = 9) := by
  unfold kOf at hk
  split at hk
  · cases hk
    cases hp
    exact .inl ⟨rfl, rfl, rfl⟩
  · cases hk
    cases hp
    exact .inr ⟨rfl, rfl, rfl⟩
  · cases hk

theorem seq_ok : OrcOk Try.prog 16 (.eff (seqF Ar.real)) := by
  show EffOk Try.prog _ _
  refine effOk (CxG.ok o5 (Lseq Ar.real) y_ok (fun _ => none) false) mixed 16 Try.f16 (by kernel_rfl) (by kernel_rfl) (by kernel_rfl) 100 1 (by kernel_rfl) (fun i h => ?_) fun args H r H' h => ?_
  · obtain rfl : i = 0 := by omega
    refine Tells.mk (key := 1) (by kernel_rfl) rfl fun xs H r h => ?_
    unfold LseqF at h
    split at h
    · rename_i i out x b nl g key
      split at h
      · rename_i p hp
        obtain ⟨hg, rfl⟩ := Tr.one h
        simp only [rw_se, Bool.and_eq_true, decide_eq_true_eq] at hg
        obtain ⟨hb, hn, hk, h1, h2, h3⟩ := hg
        obtain ⟨i, rfl⟩ : ∃ n : Nat, i = (n : Int) := Int.eq_ofNat_of_zero_le h2
        have h3 : (i : Int) ≤ (b.length : Int) + 1 := h3
        have h1 : b.length + out.length ≤ 100000 := h1
        simp only [rw_se, Int.toNat_natCast]
        rcases cases_pk hp hk with ⟨rfl, rfl, rfl⟩ | ⟨rfl, rfl, rfl⟩
        · exact loopSeqE hb hn (by omega) _ i out x (Nat.le_refl _) (by omega) (by omega)
        · exact loopSeqB hb hn (by omega) _ i out x (Nat.le_refl _) (by omega) (by omega)
      · cases h
    · cases h
  · unfold seqF at h
    split at h
    · rename_i out x b nl g key
      split at h
      · rename_i p hp
        obtain ⟨hg, hr⟩ := Tr.one h
        cases hr
        simp only [rw_se, Bool.and_eq_true, decide_eq_true_eq] at hg
        obtain ⟨hb, hn, hk, h1⟩ := hg
        have h1 : b.length + out.length ≤ 100000 := h1
        refine ⟨fun x hx e xs nl' own he => ?_, .tup [], _, rfl, ?_, HWeak.refl _, Nat.le_refl _, .inl rfl⟩
        · subst he
          simp at hx
        · have e0 : ∀ p, pcs p b 0 = cut p b := fun p => by simp [pcs]
          rcases cases_pk hp hk with ⟨rfl, rfl, rfl⟩ | ⟨rfl, rfl, rfl⟩
          · rw [tSeqE]
            simp only [rw_se, Int.toNat_zero, e0]
            rw [bt (by simp only [Bool.and_eq_true, decide_eq_true_eq]; exact ⟨hb, hn, hk, h1, by omega, by omega⟩)]
          · rw [tSeqB]
            simp only [rw_se, Int.toNat_zero, e0]
            rw [bt (by simp only [Bool.and_eq_true, decide_eq_true_eq]; exact ⟨hb, hn, hk, h1, by omega, by omega⟩)]
      · cases h
    · cases h

theorem o6 : OOk (Ol6 Ar.real) := (o5.add pieces_ok).add seq_ok

end Go.Proofs.Ytngifmlpilemlaa.V

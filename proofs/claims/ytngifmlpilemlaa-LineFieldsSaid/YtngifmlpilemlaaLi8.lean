/-
  Chapter 04, lines: the functions do what they tell: lines, fields, what is bare, what is the same, the calls at the head.
  It speaks of the pinned program alone; no condition.
-/
import Derived.Test.YtngifmlpilemlaaLi7
namespace Go.Proofs.Ytngifmlpilemlaa.V
open Go
set_option linter.unusedVariables false
set_option linter.unusedSimpArgs false

theorem rfs7 {A : Ar} {O : OT} : RfsOk (CxG A O noL noY k7 false) Try.f7 := by
  intro q hq key rd h1 h2
  have e : rfOf (bodyOf Try.f7) = [(.tmp 6, rd7.ps, rd7.assign, rd7.body)] := by kernel_rfl
  rw [e, List.mem_singleton] at hq
  subst hq
  have e2 : rounds 7 = some rd7 := by kernel_rfl
  have h1 : some 7 = some key := h1
  cases h1
  rw [e2] at h2
  cases h2
  exact ⟨rfl, rfl, rfl⟩
theorem rfs9 {A : Ar} {O : OT} : RfsOk (CxG A O noL noY k9 false) Try.f9 := by
  intro q hq key rd h1 h2
  have e : rfOf (bodyOf Try.f9) = [(.tmp 5, rd9.ps, rd9.assign, rd9.body)] := by kernel_rfl
  rw [e, List.mem_singleton] at hq
  subst hq
  have e2 : rounds 9 = some rd9 := by kernel_rfl
  have h1 : some 9 = some key := h1
  cases h1
  rw [e2] at h2
  cases h2
  exact ⟨rfl, rfl, rfl⟩

theorem len_zero {α : Type} (x : List α) : ((x.length : Int) == 0) = x.isEmpty := by
  cases x with
  | nil => rfl
  | cons y x =>
    simp only [List.length_cons, List.isEmpty_cons, beq_eq_false_iff_ne]
    omega

theorem split_core (b : List Int) (nl : Option Bool) (hb : bytesB b = true) (hn : nlO nl b = true) (hl : b.length ≤ 50000) : ∃ H', bodyX (CxG Ar.real (Ol6 Ar.real) noL noY k7 false) 100 Try.f7 [u8s b nl false] [] = some (sss (splitL b) (some false) false, H') := by
  have hne : (cut isEnd b).length ≠ 0 := fun e => cut_ne isEnd b (List.eq_nil_of_length_eq_zero e)
  have hlen := cut_len isEnd b
  have hemp : (cut isEnd b).isEmpty = false := by
    cases h : cut isEnd b with
    | nil => exact absurd h (cut_ne isEnd b)
    | cons => rfl
  have w : Ar.real.wrap .i64 (((cut isEnd b).length : Int) - 1) = (((cut isEnd b).length - 1 : Nat) : Int) := by rw [rw_wrap, wi64 (by omega) (by omega)]; omega
  rw [tSplit]
  simp only [rw_se, tk, List.nil_append, w, Int.toNat_natCast, hemp, Bool.and_false, len_zero]
  rw [bt (by simp only [Bool.and_eq_true, decide_eq_true_eq]; exact ⟨hb, hn, rfl, by omega⟩), bt (by rw [decide_eq_true_eq]; omega)]
  unfold splitL dropE
  show ∃ H', (bif ((cut isEnd b).getD ((cut isEnd b).length - 1) []).isEmpty then _ else _) = _
  cases he : ((cut isEnd b).getD ((cut isEnd b).length - 1) []).isEmpty with
  | true =>
    rw [bt rfl, bt rfl, bt (by rw [decide_eq_true_eq]; omega)]
    exact ⟨_, rfl⟩
  | false =>
    rw [bf rfl, bf rfl]
    exact ⟨_, rfl⟩

theorem split_ok : OrcOk Try.prog 7 (.pure (splitF Ar.real)) := by
  refine pureOk (CxG.ok o6 noL YOk.none k7 false) mixed 7 Try.f7 (by kernel_rfl) (by kernel_rfl) (by kernel_rfl) 100 0 (by kernel_rfl) (fun i h => by omega) (fun args r h => ?_) rfs7
  unfold splitF at h
  split at h
  · rename_i b nl
    obtain ⟨hg, rfl⟩ := Tr.one h
    simp only [Ok, rw_se, Bool.and_eq_true, decide_eq_true_eq] at hg
    obtain ⟨hb, hn, hl⟩ := hg
    obtain ⟨H', hH⟩ := split_core b nl hb hn hl
    exact ⟨rfl, rfl, H', hH⟩
  · cases h

theorem fields_core (b : List Int) (nl : Option Bool) (hb : bytesB b = true) (hn : nlO nl b = true) (hl : b.length ≤ 50000) : ∃ H', bodyX (CxG Ar.real (Ol6 Ar.real) noL noY k9 false) 100 Try.f9 [u8s b nl false] [] = some (sss (fieldsL b) (some (fieldsL b).isEmpty) false, H') := by
  rw [tFields]
  simp only [rw_se, tk, List.nil_append, Bool.true_and]
  rw [bt (by simp only [Bool.and_eq_true, decide_eq_true_eq]; exact ⟨hb, hn, rfl, by omega⟩)]
  exact ⟨_, rfl⟩

theorem fields_ok : OrcOk Try.prog 9 (.pure (fieldsF Ar.real)) := by
  refine pureOk (CxG.ok o6 noL YOk.none k9 false) mixed 9 Try.f9 (by kernel_rfl) (by kernel_rfl) (by kernel_rfl) 100 0 (by kernel_rfl) (fun i h => by omega) (fun args r h => ?_) rfs9
  unfold fieldsF at h
  split at h
  · rename_i b nl
    obtain ⟨hg, rfl⟩ := Tr.one h
    simp only [Ok, rw_se, Bool.and_eq_true, decide_eq_true_eq] at hg
    obtain ⟨hb, hn, hl⟩ := hg
    obtain ⟨H', hH⟩ := fields_core b nl hb hn hl
    exact ⟨rfl, rfl, H', hH⟩
  · cases h

theorem o7 : OOk (Ol7 Ar.real) := (o6.add split_ok).add fields_ok

theorem full_mem {l : List (List Int)} {q : List Int} (h : q ∈ full l) : q ∈ l ∧ q ≠ [] := by
  unfold full at h
  rw [List.mem_filter] at h
  refine ⟨h.1, ?_⟩
  rintro rfl
  simp at h

theorem bare_core (b : List Int) (nl : Option Bool) (hb : bytesB b = true) (hn : nlO nl b = true) (hl : b.length ≤ 50000) : bodyX (Cx Ar.real (Ol7 Ar.real) noL) 100 Try.f10 [u8s b nl false] [] = some (boolx (bareB b), []) := by
  rw [tBare, bt (by simp only [Ok, rw_se, Bool.and_eq_true, decide_eq_true_eq]; exact ⟨hb, hn, hl⟩)]
  simp only [rw_se, len_zero, Int.toNat_zero]
  unfold bareB
  cases hf : fieldsL b with
  | nil => rfl
  | cons q qs =>
    have hq := (full_mem (l := cut isBl b) (q := q) (by show q ∈ fieldsL b; rw [hf]; simp)).2
    have hql : 0 < q.length := List.length_pos_iff.2 hq
    rw [bt (c := (q :: qs).isEmpty == false) rfl, bt (by rw [decide_eq_true_eq]; simp only [List.length_cons]; omega)]
    simp only [List.getD_cons_zero, List.isEmpty_cons, Bool.false_or]
    rw [bt (by rw [decide_eq_true_eq]; omega)]

theorem bare_ok : OrcOk Try.prog 10 (.pure (bareF Ar.real)) := by
  refine pureOk (Cx.ok o7 noL) mixed 10 Try.f10 (by kernel_rfl) (by kernel_rfl) (by kernel_rfl) 100 0 (by kernel_rfl) (fun i h => by omega) fun args r h => ?_
  unfold bareF at h
  split at h
  · rename_i b nl
    obtain ⟨hg, rfl⟩ := Tr.one h
    simp only [Ok, rw_se, Bool.and_eq_true, decide_eq_true_eq] at hg
    obtain ⟨hb, hn, hl⟩ := hg
    exact ⟨rfl, rfl, [], bare_core b nl hb hn hl⟩
  · cases h

theorem bytesBB_at {l : List (List Int)} (h : bytesBB l = true) (i : Nat) : bytesB (l.getD i []) = true := by
  rw [List.getD_eq_getElem?_getD]
  cases e : l[i]? with
  | none => rfl
  | some q => exact List.all_eq_true.1 h q (List.mem_of_getElem? e)

theorem drop_cons' {α : Type} (d : α) {b : List α} {i : Nat} (h : i < b.length) : b.drop i = b.getD i d :: b.drop (i + 1) := by
  rw [List.drop_eq_getElem_cons h, List.getD_eq_getElem?_getD, List.getElem?_eq_getElem h]
  rfl

theorem loopSame {a b : List (List Int)} (ha : bytesBB a = true) (hb : bytesBB b = true) (hl : a.length ≤ 100000) (he : a.length = b.length) (nl nl2 : Option Bool) (x : Bool) : ∀ (n i : Nat), a.length - i = n → i ≤ a.length →
    LoopTo (Cx Ar.real (Ol7 Ar.real) (Lsame Ar.real)) 100 (loopAt Try.f8 0) 28 [0, 1, 4, 5] [sss a nl false, sss b nl2 false, boolx x, i64x i] []
      (bif a.drop i == b.drop i then (.exit 0, [sss a nl false, sss b nl2 false, boolx x, .dead], []) else (.ret, [sss a nl false, sss b nl2 false, boolx false, .dead], [])) := by
  have hfd : ∀ (u v w y : X), Forget [u, v, w, y] [u, v, w, .dead] := fun u v w y => by
    repeat' first | exact Forget.same _ | refine Forget.cons (.inl rfl) ?_ | refine Forget.cons (.inr rfl) ?_
  intro n
  induction n with
  | zero =>
    intro i h1 h2
    obtain rfl : i = a.length := by omega
    rw [List.drop_length, show b.drop a.length = [] by rw [he]; exact List.drop_length, bt (by decide)]
    refine LoopTo.left (by simp) fun k => ⟨_, ?_, hfd _ _ _ (i64x a.length)⟩
    rw [lSame, bf (by simp)]
  | succ n ih =>
    intro i h1 h2
    have hi : i < a.length := by omega
    rw [drop_cons' [] hi, drop_cons' [] (b := b) (by omega)]
    have hs : (Ar.real.seq (strOf (a.getD i [])) (strOf (b.getD i []))) = (a.getD i [] == b.getD i []) := by
      rw [seq_str (bytesB_iff.1 (bytesBB_at ha i)) (bytesB_iff.1 (bytesBB_at hb i))]
      cases h : (a.getD i [] == b.getD i [])
      · rw [decide_eq_false (by simpa using h)]
      · rw [decide_eq_true (by simpa using h)]
    have key : ∀ (R : Type) (k : Ex → List X → Hp → Option R), stepF (Cx Ar.real (Ol7 Ar.real) (Lsame Ar.real)) 100 (loopAt Try.f8 0) 28 [0, 1, 4, 5] [sss a nl false, sss b nl2 false, boolx x, i64x i] [] k =
        bif a.getD i [] == b.getD i [] then k .normal [sss a nl false, sss b nl2 false, boolx x, i64x ((i + 1 : Nat) : Int)] [] else k .ret [sss a nl false, sss b nl2 false, boolx false, i64x i] [] := by
      intro R k
      rw [lSame, bt (by rw [decide_eq_true_eq]; omega), bt (by rw [decide_eq_true_eq]; omega), bt (by rw [decide_eq_true_eq]; omega), Int.toNat_natCast, wnext (by omega)]
      show (bif !Ar.real.seq (strOf (a.getD i [])) (strOf (b.getD i [])) then _ else _) = _
      rw [hs]
      cases (a.getD i [] == b.getD i []) <;> rfl
    cases hq : (a.getD i [] == b.getD i []) with
    | true =>
      have e : (a.getD i [] :: a.drop (i + 1) == b.getD i [] :: b.drop (i + 1)) = (a.drop (i + 1) == b.drop (i + 1)) := by
        rw [List.cons_beq_cons, hq, Bool.true_and]
      rw [e]
      exact LoopTo.next (fun k => by rw [key, hq]; rfl) (ih (i + 1) (by omega) (by omega))
    | false =>
      have e : (a.getD i [] :: a.drop (i + 1) == b.getD i [] :: b.drop (i + 1)) = false := by
        rw [List.cons_beq_cons, hq, Bool.false_and]
      rw [e, bf rfl]
      exact LoopTo.left (by simp) fun k => ⟨_, by rw [key, hq]; rfl, hfd _ _ _ _⟩

theorem same_ok : OrcOk Try.prog 8 (.pure (sameF Ar.real)) := by
  refine pureOk (Cx.ok o7 (Lsame Ar.real)) mixed 8 Try.f8 (by kernel_rfl) (by kernel_rfl) (by kernel_rfl) 100 1 (by kernel_rfl) (fun i h => ?_) fun args r h => ?_
  · obtain rfl : i = 0 := by omega
    refine Tells.mk (key := 4) (by kernel_rfl) rfl fun xs H r h => ?_
    unfold LsameF at h
    split at h
    · rename_i a nl b nl2 x i
      obtain ⟨hg, h⟩ := Tr.run_test h
      simp only [rw_se, Bool.and_eq_true, decide_eq_true_eq] at hg
      obtain ⟨ha, hb, h1, h2, h3, h4⟩ := hg
      obtain ⟨i, rfl⟩ : ∃ n : Nat, i = (n : Int) := Int.eq_ofNat_of_zero_le h3
      have h4 : (i : Int) ≤ (List.length a : Int) := h4
      have hr : r = (bif a.drop i == b.drop i then (Ex.exit 0, [sss a nl false, sss b nl2 false, boolx x, .dead], []) else (.ret, [sss a nl false, sss b nl2 false, boolx false, .dead], [])) := by
        simp only [rw_se, Int.toNat_natCast, Tr.run] at h
        cases hd : (a.drop i == b.drop i) <;> rw [hd] at h <;> simpa using h.symm
      rw [hr]
      exact loopSame ha hb h1 h2 nl nl2 x _ i rfl (by omega)
    · cases h
  · unfold sameF at h
    split at h
    · rename_i a nl b nl2
      obtain ⟨hg, rfl⟩ := Tr.one h
      simp only [rw_se, Bool.and_eq_true, decide_eq_true_eq] at hg
      obtain ⟨ha, hb, h1, h2⟩ := hg
      refine ⟨rfl, rfl, [], ?_⟩
      rw [tSame]
      simp only [rw_se, Int.toNat_zero, List.drop_zero]
      by_cases hl : List.length a = List.length b
      · rw [bf (by simp [hl]), bt (by simp only [Bool.and_eq_true, decide_eq_true_eq]; exact ⟨ha, hb, h1, hl, by omega, by omega⟩)]
        cases hq : (a == b) <;> rfl
      · rw [bt (by rw [bne_iff_ne]; omega)]
        have : (a == b) = false := by
          rw [beq_eq_false_iff_ne]
          rintro rfl
          exact hl rfl
        rw [this]
    · cases h

theorem o8 : OOk (Ol8 Ar.real) := (o7.add bare_ok).add same_ok

end Go.Proofs.Ytngifmlpilemlaa.V

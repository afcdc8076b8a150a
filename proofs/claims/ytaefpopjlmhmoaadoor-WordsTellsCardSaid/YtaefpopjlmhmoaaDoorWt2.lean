/-
  Chapter 09, word lists: the document's answer: its small functions do what they tell.
  It speaks of the pinned program alone; no condition.
-/
import Derived.Test.YtaefpopjlmhmoaaDoorWt1
namespace Go.Proofs.YtaefpopjlmhmoaaDoor.V
open Go
set_option linter.unusedVariables false
set_option linter.unusedSimpArgs false

theorem blank_ok : OrcOk Tryd.prog 60 (.pure (blankF Ar.real)) := by
  refine pureOk (Cx.ok ow12 noL) mixed 60 Tryd.f60 (by kernel_rfl) (by kernel_rfl) (by kernel_rfl) 100 0 (by kernel_rfl) (fun i h => by omega) fun args r h => ?_
  unfold blankF at h
  split at h
  · rename_i c
    simp only [Tr.run, Option.some.injEq] at h
    subst h
    refine ⟨rfl, rfl, [], ?_⟩
    rw [tBlank]
    simp only [rw_se, L.isBl]
    cases h1 : (c == 32)
    · rw [bt (c := false == false) rfl]; rfl
    · rw [bf (c := true == false) rfl]; rfl
  · cases h

theorem drop_mid {b : List Int} {f i : Nat} (h1 : f ≤ i) (h2 : i ≤ b.length) : b.drop f = (b.take i).drop f ++ b.drop i := by
  have e : (b.take i ++ b.drop i).drop f = (b.take i).drop f ++ b.drop i := List.drop_append_of_le_length (by rw [List.length_take]; omega)
  rw [List.take_append_drop] at e
  exact e
theorem mid_succ {b : List Int} {f i : Nat} (h1 : f ≤ i) (h2 : i < b.length) : (b.take (i + 1)).drop f = (b.take i).drop f ++ [b.getD i 0] := by
  rw [take_succ h2]
  exact List.drop_append_of_le_length (by rw [List.length_take]; omega)
theorem mid_all {b : List Int} {f : Nat} : (b.take b.length).drop f = b.drop f := by rw [List.take_length]

theorem loopRsp (b : List Int) (nl : Option Bool) (hb : b.length ≤ 50000) : ∀ (n i f : Nat) (out : List (List Int)), b.length - i = n → i ≤ b.length → f ≤ i → out.length ≤ i → out ++ L.cut L.isEnd (b.drop f) = L.cut L.isEnd b → (∀ c ∈ (b.take i).drop f, L.isEnd c = false) →
    LoopTo (Cx Ar.real (Ow12 Ar.real) (Lrsp Ar.real)) 100 (loopAt Tryd.f27 0) 37 [0, 3, 4, 5] [u8s b nl false, .sl L.sT out (some out.isEmpty) true, i64x (f : Int), i64x (i : Int)] []
      (.exit 0, [u8s b nl false, .sl L.sT (cutInit b) (some (cutInit b).isEmpty) true, i64x ((b.length : Int) - ((cutLast b).length : Int)), .dead], []) := by
  intro n
  induction n with
  | zero =>
    intro i f out h1 h2 h3 h4 h5 h6
    obtain rfl : i = b.length := by omega
    rw [mid_all] at h6
    rw [cut_none _ _ h6] at h5
    have e1 : cutInit b = out := by
      unfold cutInit
      rw [← h5, show (out ++ [b.drop f]).length - 1 = out.length by simp, List.take_left']
      rfl
    have e2 : cutLast b = b.drop f := by
      unfold cutLast
      rw [← h5, show (out ++ [b.drop f]).length - 1 = out.length by simp]
      simp [List.getD_eq_getElem?_getD]
    have e3 : (b.length : Int) - ((b.drop f).length : Int) = (f : Int) := by rw [List.length_drop]; omega
    rw [e1, e2, e3]
    refine LoopTo.left (by simp) fun k => ?_
    rw [lRsp, bf (by rw [decide_eq_false_iff_not]; omega)]
    exact ⟨_, rfl, R.fk (R.fk (R.fk (R.fd (Forget.same _))))⟩
  | succ n ih =>
    intro i f out h1 h2 h3 h4 h5 h6
    have hi : i < b.length := by omega
    have hr0 : decide ((i : Int) < (b.length : Int)) = true := by rw [decide_eq_true_eq]; omega
    have hr1 : decide ((0 : Int) ≤ (i : Int) ∧ (i : Int) < (b.length : Int)) = true := by rw [decide_eq_true_eq]; omega
    have T := fun k => lRsp Ar.real (Ex × List X × Hp) b nl out out.isEmpty (f : Int) (i : Int) k
    simp only [Int.toNat_natCast, R.wi1 (show i ≤ 9000000000000000000 by omega)] at T
    cases hc : (b.getD i 0 == 10) with
    | true =>
      have hce : L.isEnd (b.getD i 0) = true := hc
      have hcut : L.cut L.isEnd (b.drop f) = (b.take i).drop f :: L.cut L.isEnd (b.drop (i + 1)) := by
        rw [drop_mid h3 (by omega), drop_cons hi]
        exact L.cut_app L.isEnd _ hce _ _ h6
      have h5' : (out ++ [(b.take i).drop f]) ++ L.cut L.isEnd (b.drop (i + 1)) = L.cut L.isEnd b := by rw [← h5, hcut]; simp
      have h := ih (i + 1) (i + 1) (out ++ [(b.take i).drop f]) (by omega) (by omega) (Nat.le_refl _) (by simp only [List.length_append, List.length_singleton]; omega) h5' (by
        rw [List.drop_eq_nil_iff.2 (by rw [List.length_take]; omega)]
        intro c hc; simp at hc)
      refine LoopTo.next (fun k => ?_) h
      rw [T, bt hr0, bt hr1, bt hc, bt (by rw [decide_eq_true_eq]; omega), bt (by rw [decide_eq_true_eq]; omega), bt (by rw [decide_eq_true_eq, List.length_singleton]; omega)]
      have e1 : (out ++ [(b.take i).drop f]).isEmpty = false := by simp
      rw [e1]
      simp only [List.isEmpty_cons, Bool.and_false]
    | false =>
      refine LoopTo.next (fun k => ?_) (ih (i + 1) f out (by omega) (by omega) (by omega) (by omega) h5 (by
        rw [mid_succ h3 hi]
        intro c hcm
        rcases List.mem_append.1 hcm with hcm | hcm
        · exact h6 c hcm
        · rw [List.mem_singleton.1 hcm]; exact hc))
      rw [T, bt hr0, bt hr1, bf hc]

theorem cut_tail (p : Int → Bool) : ∀ b : List Int, ∃ q l, b = q ++ l ∧ (L.cut p b).getD ((L.cut p b).length - 1) [] = l
  | [] => ⟨[], [], rfl, rfl⟩
  | x :: b => by
    obtain ⟨q, l, e1, e2⟩ := cut_tail p b
    have hne := L.cut_ne p b
    simp only [L.cut]
    cases hx : p x with
    | true =>
      rw [cond_true]
      refine ⟨x :: q, l, by rw [e1]; rfl, ?_⟩
      cases hc : L.cut p b with
      | nil => exact absurd hc hne
      | cons u us =>
        rw [hc] at e2
        rw [← e2]
        simp
    | false =>
      rw [cond_false]
      cases hc : L.cut p b with
      | nil => exact absurd hc hne
      | cons u us =>
        rw [hc] at e2
        cases us with
        | nil =>
          have e3 : u = l := by simpa using e2
          have hall : ∀ b : List Int, ∀ u, L.cut p b = [u] → u = b := by
            intro b
            induction b with
            | nil => intro u h; simpa [L.cut] using h.symm
            | cons y b ih =>
              intro u h
              simp only [L.cut] at h
              cases hy : p y with
              | true => rw [hy, cond_true] at h; simp at h; exact absurd h.2 (L.cut_ne p b)
              | false =>
                rw [hy, cond_false] at h
                cases hb : L.cut p b with
                | nil => exact absurd hb (L.cut_ne p b)
                | cons v vs =>
                  rw [hb] at h
                  simp at h
                  obtain ⟨h1, h2⟩ := h
                  subst h2
                  rw [← h1, ih v hb]
          exact ⟨[], x :: u, by rw [hall b u hc]; rfl, by simp⟩
        | cons v vs =>
          refine ⟨x :: q, l, by rw [e1]; rfl, ?_⟩
          rw [← e2]
          simp

theorem rsplit_ok : OrcOk Tryd.prog 27 (.pure (rsplitF Ar.real)) := by
  refine pureWk (Cx.ok ow12 (Lrsp Ar.real)) mixed 27 Tryd.f27 (by kernel_rfl) (by kernel_rfl) (by kernel_rfl) 100 1 (by kernel_rfl) (fun i h => ?_) fun args r h => ?_
  · obtain rfl : i = 0 := by omega
    refine Tells.mk (key := 4) (N := 37) (ks := [0, 3, 4, 5]) (F := LrspF Ar.real) (by kernel_rfl) rfl fun xs H r h => ?_
    unfold LrspF at h
    split at h
    · rename_i b nl out x f i
      obtain ⟨hg, rfl⟩ := Tr.one h
      simp only [rw_se, Bool.and_eq_true, decide_eq_true_eq, beq_iff_eq, List.all_eq_true, Bool.not_eq_true'] at hg ⊢
      dsimp only [Ty.den] at hg
      obtain ⟨⟨h1, h2, h3, h4, h5⟩, h6, h7, h8⟩ := hg
      obtain ⟨f', rfl⟩ := Int.eq_ofNat_of_zero_le h1
      obtain ⟨i', rfl⟩ := Int.eq_ofNat_of_zero_le (Int.le_trans h1 h2)
      subst h6
      simp only [Int.toNat_natCast] at h7 h8
      exact loopRsp b nl h4 _ i' f' out rfl (by omega) (by omega) (by omega) h7 h8
    · cases h
  · unfold rsplitF at h
    split at h
    · rename_i b nl
      obtain ⟨hg, rfl⟩ := Tr.one h
      simp only [L.Ok, rw_se, Bool.and_eq_true, decide_eq_true_eq] at hg
      obtain ⟨hb, hn, hl⟩ := hg
      obtain ⟨q, l, e1, e2⟩ := cut_tail L.isEnd b
      have e2' : cutLast b = l := e2
      have ec : cutInit b ++ [cutLast b] = L.cut L.isEnd b := by
        obtain ⟨u, v, hu⟩ := L.cut_last L.isEnd b
        unfold cutInit cutLast
        rw [hu, show (u ++ [v]).length - 1 = u.length by simp, List.take_left']
        · simp [List.getD_eq_getElem?_getD]
        · rfl
      have hs : L.splitL b = bif (cutLast b).isEmpty then cutInit b else cutInit b ++ [cutLast b] := by
        unfold L.splitL
        rw [← ec, L.dropE_cat]
      have hlen := L.cut_len L.isEnd b
      have hil : (cutInit b).length ≤ b.length := by
        have := congrArg List.length ec
        rw [List.length_append, List.length_singleton] at this
        omega
      have hll : l.length ≤ b.length := by rw [e1, List.length_append]; omega
      have hd : b.drop (b.length - l.length) = l := by
        have : b.length - l.length = q.length := by rw [e1, List.length_append]; omega
        rw [this]
        conv => lhs; rw [e1]
        exact List.drop_left' rfl
      have e0 : ((b.length : Int) - (l.length : Int)).toNat = b.length - l.length := by omega
      rw [tRsp]
      simp only [rw_se, show Int.toNat 0 = 0 from rfl, List.drop_zero, List.nil_append]
      rw [bt (by
        simp only [Bool.and_eq_true, decide_eq_true_eq, List.take_zero, List.all_nil]
        exact ⟨⟨by omega, by omega, by omega, hl, by omega⟩, rfl, trivial, trivial⟩)]
      have ef : List.getD (L.cut L.isEnd b) ((L.cut L.isEnd b).length - 1) [] = l := e2
      have hlast : cutLast b = l := e2
      simp only [hlast]
      by_cases hne : l = []
      · rw [bf (by rw [decide_eq_false_iff_not, hne]; simp)]
        refine ⟨rfl, _, _, rfl, rfl, .inl ?_⟩
        rw [hs, hlast, hne]
        exact Wk1.sl (.inl rfl) (fun h => h)
      · have hpos := List.length_pos_iff.2 hne
        rw [bt (by rw [decide_eq_true_eq]; omega), bt (by rw [decide_eq_true_eq]; omega), bt (by rw [decide_eq_true_eq, List.length_singleton]; omega), e0, hd]
        refine ⟨rfl, _, _, rfl, rfl, .inl ?_⟩
        rw [hs, hlast, show l.isEmpty = false by cases l with | nil => exact absurd rfl hne | cons _ _ => rfl]
        exact Wk1.sl (.inl rfl) (fun h => by cases h)
    · cases h

theorem ot1 : OOk (Ot1 Ar.real) := (ow12.add blank_ok).add rsplit_ok

theorem full_cons (q : List Int) (l : List (List Int)) : L.full (q :: l) = if q = [] then L.full l else q :: L.full l := by
  unfold L.full
  cases q <;> simp

theorem loopRfd (b : List Int) (nl : Option Bool) (hb : b.length ≤ 50000) : ∀ (n i f : Nat) (out : List (List Int)), b.length - i = n → i ≤ b.length → f ≤ i → out.length ≤ i → out ++ L.full (L.cut L.isBl (b.drop f)) = L.fieldsL b → (∀ c ∈ (b.take i).drop f, L.isBl c = false) →
    LoopTo (Cx Ar.real (Ot1 Ar.real) (Lrfd Ar.real)) 100 (loopAt Tryd.f29 0) 36 [0, 3, 4, 5] [u8s b nl false, .sl L.sT out (some out.isEmpty) true, i64x (f : Int), i64x (i : Int)] []
      (.exit 0, [.dead, .sl L.sT (L.fieldsL b) (some (L.fieldsL b).isEmpty) true, .dead, .dead], []) := by
  intro n
  induction n with
  | zero =>
    intro i f out h1 h2 h3 h4 h5 h6
    obtain rfl : i = b.length := by omega
    have hfin : ∀ out', out' = L.fieldsL b → LoopTo (Cx Ar.real (Ot1 Ar.real) (Lrfd Ar.real)) 100 (loopAt Tryd.f29 0) 36 [0, 3, 4, 5] [u8s b nl false, .sl L.sT out' (some out'.isEmpty) true, i64x ((b.length + 1 : Nat) : Int), i64x ((b.length + 1 : Nat) : Int)] []
        (.exit 0, [.dead, .sl L.sT (L.fieldsL b) (some (L.fieldsL b).isEmpty) true, .dead, .dead], []) := by
      intro out' e
      rw [e]
      refine LoopTo.left (by simp) fun k => ?_
      rw [lRfd, bf (by rw [decide_eq_false_iff_not]; omega)]
      exact ⟨_, rfl, R.fd (R.fk (R.fd (R.fd (Forget.same _))))⟩
    have T := fun k => lRfd Ar.real (Ex × List X × Hp) b nl out out.isEmpty (f : Int) (b.length : Int) k
    simp only [Int.toNat_natCast, R.wi1 (show b.length ≤ 9000000000000000000 by omega), mid_all] at T
    rw [mid_all] at h6
    rw [cut_none _ _ h6, full_cons] at h5
    by_cases hf : f < b.length
    · have hne : b.drop f ≠ [] := by
        intro e
        have := congrArg List.length e
        rw [List.length_drop, List.length_nil] at this
        omega
      rw [if_neg hne] at h5
      refine LoopTo.next (fun k => ?_) (hfin (out ++ [b.drop f]) h5)
      rw [T, bt (by rw [decide_eq_true_eq]; omega), bf (by simp), bt (by rw [decide_eq_true_eq]; omega), bt (by rw [decide_eq_true_eq]; omega), bt (by rw [decide_eq_true_eq]; omega), bt (by rw [decide_eq_true_eq, List.length_singleton]; omega)]
      have e1 : (out ++ [b.drop f]).isEmpty = false := by simp
      rw [e1]
      simp only [List.isEmpty_cons, Bool.and_false]
    · have hnil : b.drop f = [] := List.drop_eq_nil_iff.2 (by omega)
      rw [if_pos hnil] at h5
      refine LoopTo.next (fun k => ?_) (hfin out (by rw [← h5]; simp [L.full]))
      rw [T, bt (by rw [decide_eq_true_eq]; omega), bf (by simp), bf (by rw [decide_eq_false_iff_not]; omega)]
  | succ n ih =>
    intro i f out h1 h2 h3 h4 h5 h6
    have hi : i < b.length := by omega
    have hr0 : decide ((i : Int) ≤ (b.length : Int)) = true := by rw [decide_eq_true_eq]; omega
    have hr1 : decide ((0 : Int) ≤ (i : Int) ∧ (i : Int) < (b.length : Int)) = true := by rw [decide_eq_true_eq]; omega
    have hne : (((i : Int) == (b.length : Int)) == false) = true := by
      have : ((i : Int) == (b.length : Int)) = false := by rw [beq_eq_false_iff_ne]; omega
      rw [this]; rfl
    have T := fun k => lRfd Ar.real (Ex × List X × Hp) b nl out out.isEmpty (f : Int) (i : Int) k
    simp only [Int.toNat_natCast, rw_se, R.wi1 (show i ≤ 9000000000000000000 by omega)] at T
    cases hc : L.isBl (b.getD i 0) with
    | true =>
      have hcut : L.cut L.isBl (b.drop f) = (b.take i).drop f :: L.cut L.isBl (b.drop (i + 1)) := by
        rw [drop_mid h3 (by omega), drop_cons hi]
        exact L.cut_app L.isBl _ hc _ _ h6
      rw [hcut, full_cons] at h5
      have hmid : ∀ c ∈ (b.take (i + 1)).drop (i + 1), L.isBl c = false := by
        rw [List.drop_eq_nil_iff.2 (by rw [List.length_take]; omega)]
        intro c hc; simp at hc
      have hml : ((b.take i).drop f).length = i - f := by rw [List.length_drop, List.length_take]; omega
      by_cases hf : f < i
      · have hpne : (b.take i).drop f ≠ [] := by
          intro e
          rw [e] at hml
          simp at hml
          omega
        rw [if_neg hpne] at h5
        have h := ih (i + 1) (i + 1) (out ++ [(b.take i).drop f]) (by omega) (by omega) (Nat.le_refl _) (by simp only [List.length_append, List.length_singleton]; omega) (by rw [← h5]; simp) hmid
        refine LoopTo.next (fun k => ?_) h
        rw [T, bt hr0, bt hne, bt hr1, bt hc, bt (by rw [decide_eq_true_eq]; omega), bt (by rw [decide_eq_true_eq]; omega), bt (by rw [decide_eq_true_eq]; omega), bt (by rw [decide_eq_true_eq, List.length_singleton]; omega)]
        have e1 : (out ++ [(b.take i).drop f]).isEmpty = false := by simp
        rw [e1]
        simp only [List.isEmpty_cons, Bool.and_false]
      · have hpe : (b.take i).drop f = [] := List.eq_nil_of_length_eq_zero (by omega)
        rw [if_pos hpe] at h5
        refine LoopTo.next (fun k => ?_) (ih (i + 1) (i + 1) out (by omega) (by omega) (Nat.le_refl _) (by omega) h5 hmid)
        rw [T, bt hr0, bt hne, bt hr1, bt hc, bf (by rw [decide_eq_false_iff_not]; omega)]
    | false =>
      refine LoopTo.next (fun k => ?_) (ih (i + 1) f out (by omega) (by omega) (by omega) (by omega) h5 (by
        rw [mid_succ h3 hi]
        intro c hcm
        rcases List.mem_append.1 hcm with hcm | hcm
        · exact h6 c hcm
        · rw [List.mem_singleton.1 hcm]; exact hc))
      rw [T, bt hr0, bt hne, bt hr1, bf hc]

theorem rfields_ok : OrcOk Tryd.prog 29 (.pure (rfieldsF Ar.real)) := by
  refine pureWk (Cx.ok ot1 (Lrfd Ar.real)) mixed 29 Tryd.f29 (by kernel_rfl) (by kernel_rfl) (by kernel_rfl) 100 1 (by kernel_rfl) (fun i h => ?_) fun args r h => ?_
  · obtain rfl : i = 0 := by omega
    refine Tells.mk (key := 4) (N := 36) (ks := [0, 3, 4, 5]) (F := LrfdF Ar.real) (by kernel_rfl) rfl fun xs H r h => ?_
    unfold LrfdF at h
    split at h
    · rename_i b nl out x f i
      obtain ⟨hg, rfl⟩ := Tr.one h
      simp only [rw_se, Bool.and_eq_true, decide_eq_true_eq, beq_iff_eq, List.all_eq_true, Bool.not_eq_true'] at hg ⊢
      dsimp only [Ty.den] at hg
      obtain ⟨⟨h1, h2, h3, h4, h5⟩, h6, h7, h8⟩ := hg
      obtain ⟨f', rfl⟩ := Int.eq_ofNat_of_zero_le h1
      obtain ⟨i', rfl⟩ := Int.eq_ofNat_of_zero_le (Int.le_trans h1 h2)
      subst h6
      simp only [Int.toNat_natCast] at h7 h8
      exact loopRfd b nl h4 _ i' f' out rfl (by omega) (by omega) (by omega) h7 h8
    · cases h
  · unfold rfieldsF at h
    split at h
    · rename_i b nl
      obtain ⟨hg, rfl⟩ := Tr.one h
      simp only [L.Ok, rw_se, Bool.and_eq_true, decide_eq_true_eq] at hg
      obtain ⟨hb, hn, hl⟩ := hg
      rw [tRfd]
      simp only [rw_se, show Int.toNat 0 = 0 from rfl, List.drop_zero, List.nil_append]
      rw [bt (by
        simp only [Bool.and_eq_true, decide_eq_true_eq, List.take_zero, List.all_nil]
        exact ⟨⟨by omega, by omega, by omega, hl, by omega⟩, rfl, rfl, trivial⟩)]
      exact ⟨rfl, _, _, rfl, rfl, .inl (Wk1.sl (.inl rfl) (fun h => h))⟩
    · cases h

theorem ot2 : OOk (Ot2 Ar.real) := (ot1.add rfields_ok).add U.rgood_ok

theorem rbare_ok : OrcOk Tryd.prog 28 (.pure (rbareF Ar.real)) := by
  refine pureOk (Cx.ok ot2 noL) mixed 28 Tryd.f28 (by kernel_rfl) (by kernel_rfl) (by kernel_rfl) 100 0 (by kernel_rfl) (fun i h => by omega) fun args r h => ?_
  unfold rbareF at h
  split at h
  · rename_i b nl
    obtain ⟨hg, rfl⟩ := Tr.one h
    refine ⟨rfl, rfl, [], ?_⟩
    rw [tRbare, bt hg]
    simp only [rw_se, show Int.toNat 0 = 0 from rfl, L.bareB]
    cases hf : L.fieldsL b with
    | nil => rfl
    | cons q qs =>
      have hq := (L.fields_mem (b := b) (q := q) (by rw [hf]; simp)).1
      have hql : 0 < q.length := List.length_pos_iff.2 hq
      have e0 : List.getD (q :: qs) 0 (Ty.zero (.slice (.int .u8))) = q := rfl
      have e1 : List.getD (q :: qs) 0 [] = q := rfl
      rw [e0, e1, bt (by
        have : (((q :: qs).length : Int) == 0) = false := by rw [beq_eq_false_iff_ne, List.length_cons]; omega
        rw [this]; rfl), bt (by rw [decide_eq_true_eq, List.length_cons]; omega), bt (by rw [decide_eq_true_eq]; omega)]
      rfl
  · cases h

theorem loopRfit (w : List Int) (nl : Option Bool) (z : Bool) (hw : w.length ≤ 1000000) : ∀ (n i : Nat), w.length - i = n → i ≤ w.length →
    LoopTo (Cx Ar.real (Ot2 Ar.real) (Lrfit Ar.real)) 100 (loopAt Tryd.f16 0) 51 [0, 2, 3] [i64s w nl false, boolx z, i64x (i : Int)] []
      (bif List.any (w.drop i) wrongB then (.ret, [.dead, boolx false, .dead], []) else (.exit 0, [i64s w nl false, .dead, .dead], [])) := by
  intro n
  induction n with
  | zero =>
    intro i h1 h2
    rw [List.drop_eq_nil_iff.2 (by omega), bf (by rfl)]
    refine LoopTo.left (by simp) fun k => ?_
    rw [lRfit, bf (by rw [decide_eq_false_iff_not]; omega)]
    exact ⟨_, rfl, R.fk (R.fd (R.fd (Forget.same _)))⟩
  | succ n ih =>
    intro i h1 h2
    have hi : i < w.length := by omega
    have hr0 : decide ((i : Int) < (w.length : Int)) = true := by rw [decide_eq_true_eq]; omega
    have hr1 : decide ((0 : Int) ≤ (i : Int) ∧ (i : Int) < (w.length : Int)) = true := by rw [decide_eq_true_eq]; omega
    have T : ∀ k : Ex → List X → Hp → Option (Ex × List X × Hp), stepF (Cx Ar.real (Ot2 Ar.real) (Lrfit Ar.real)) 100 (loopAt Tryd.f16 0) 51 [0, 2, 3] [i64s w nl false, boolx z, i64x (i : Int)] [] k =
        bif wrongB (w.getD i 0) then k .ret [i64s w nl false, boolx false, i64x (i : Int)] [] else k .normal [i64s w nl false, boolx z, i64x ((i + 1 : Nat) : Int)] [] := by
      intro k
      rw [lRfit]
      simp only [Int.toNat_natCast, rw_se, R.wi1 (show i ≤ 9000000000000000000 by omega)]
      rw [bt hr0, bt hr1]
      unfold wrongB
      cases g1 : U.goodN (w.getD i 0) with
      | false => rw [bf (c := (!false) == false) rfl]; rfl
      | true =>
        rw [bt (c := (!true) == false) rfl, bt hr1]
        cases g2 : (w.getD i 0 == 9) with
        | true => rw [bf (c := true == false) rfl]; simp
        | false =>
          rw [bt (c := false == false) rfl, bt hr1]
          cases g3 : (w.getD i 0 == 10) with
          | true => rw [bf (c := true == false) rfl]; simp
          | false =>
            rw [bt (c := false == false) rfl, bt hr1]
            cases g4 : (w.getD i 0 == 32) <;> rfl
    rw [R.dropG (0 : Int) hi, List.any_cons]
    cases hc : wrongB (w.getD i 0) with
    | true =>
      rw [Bool.true_or, cond_true]
      refine LoopTo.left (by simp) fun k => ?_
      rw [T, bt hc]
      exact ⟨_, rfl, R.fd (R.fk (R.fd (Forget.same _)))⟩
    | false =>
      rw [Bool.false_or]
      refine LoopTo.next (fun k => ?_) (ih (i + 1) (by omega) (by omega))
      rw [T, bf hc]

theorem rfit_ok : OrcOk Tryd.prog 16 (.pure (fitF Ar.real)) := by
  refine pureOk (Cx.ok ot2 (Lrfit Ar.real)) mixed 16 Tryd.f16 (by kernel_rfl) (by kernel_rfl) (by kernel_rfl) 100 1 (by kernel_rfl) (fun i h => ?_) fun args r h => ?_
  · obtain rfl : i = 0 := by omega
    refine Tells.mk (key := 2) (N := 51) (ks := [0, 2, 3]) (F := LrfitF Ar.real) (by kernel_rfl) rfl fun xs H r h => ?_
    unfold LrfitF at h
    split at h
    · rename_i w nl z i
      obtain ⟨hg, rfl⟩ := R.Tr.two h
      simp only [rw_se, decide_eq_true_eq] at hg ⊢
      dsimp only [Ty.den] at hg
      obtain ⟨h1, h2, h3⟩ := hg
      obtain ⟨m, rfl⟩ := Int.eq_ofNat_of_zero_le h1
      simp only [Int.toNat_natCast]
      exact loopRfit w nl z h3 _ m rfl (by omega)
    · cases h
  · unfold fitF at h
    split at h
    · rename_i w nl
      obtain ⟨hg, rfl⟩ := Tr.one h
      refine ⟨rfl, rfl, [], ?_⟩
      rw [tRfit]
      simp only [rw_se, decide_eq_true_eq, show Int.toNat 0 = 0 from rfl, List.drop_zero, fitB] at hg ⊢
      rw [bt (by rw [decide_eq_true_eq]; omega)]
      cases hc : w.any wrongB with
      | true => rw [cond_true]; simp
      | false =>
        rw [cond_false]
        by_cases h1 : 1 ≤ w.length
        · rw [bt (by rw [decide_eq_true (show (w.length : Int) ≥ 1 by omega)]; rfl)]
          by_cases h2 : w.length ≤ 20
          · rw [bt (by rw [decide_eq_true (show (w.length : Int) ≤ 20 by omega)]; rfl), bt (by rw [decide_eq_true_eq]; omega), decide_eq_true (show 1 ≤ w.length ∧ w.length ≤ 20 from ⟨h1, h2⟩)]
            simp [bne]
          · rw [bf (by rw [decide_eq_false (show ¬ (w.length : Int) ≤ 20 by omega)]; rfl), decide_eq_false (fun h => h2 h.2)]; rfl
        · rw [bf (by rw [decide_eq_false (show ¬ (w.length : Int) ≥ 1 by omega)]; rfl), decide_eq_false (fun h => h1 h.1)]; rfl
    · cases h

theorem ot3 : OOk (Ot3 Ar.real) := ((ot2.add rbare_ok).add rfit_ok).add R.rless_ok
theorem ot4 : OOk (Ot4 Ar.real) := ((ot3.add U.rput_ok).add (U.rread_ok U.o_ut8)).add R.rfi_ok

end Go.Proofs.YtaefpopjlmhmoaaDoor.V

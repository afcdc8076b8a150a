/-
  Chapter 01, utf: reads, and whether two lists are one, are as they tell; the calls whose answers are fixed.
  It speaks of the pinned program alone; no condition.
-/
import Derived.Test.YtnjlfeigcappjaaDoorUt13
namespace Go.Proofs.YtnjlfeigcappjaaDoor.V
open Go
set_option linter.unusedVariables false
set_option linter.unusedSimpArgs false

theorem rdL_cons {b r : List Int} {n : Int} (hy : ∀ x ∈ b, 0 ≤ x ∧ x < 256) (hne : b ≠ []) (ht : takeU b = some (n, r)) (hv : validU r = true) : rdL b = n :: rdL r := by
  unfold rdL
  rw [readU_step hy hne, ht]
  show ((readU r).map (n :: ·)).getD [] = n :: (readU r).getD []
  unfold validU at hv
  cases h : readU r with
  | none => rw [h] at hv; cases hv
  | some l => rfl
theorem rdL_nil : rdL [] = [] := rfl

theorem loopURead (s : ByteArray) : ∀ (q p : Nat) (out : List Int) (nl : Bool), s.size - p = q → p ≤ s.size → out.length + (s.size - p) ≤ 1000000 → validU ((bytesOf s).drop p) = true →
    LoopTo (Cx Ar.real (Out8 Ar.real) (LuRead Ar.real)) 100 (loopAt Tryd.f15 0) 22 [4, 12] [i64s out (some nl) true, .ptr 0 []] [(.unit, .tup [.d .str s, .d (.int .i64) (p : Int)])]
      (.exit 0, [i64s (out ++ rdL ((bytesOf s).drop p)) (some (nl && (rdL ((bytesOf s).drop p)).isEmpty)) true, .dead], [(.unit, iterX s (s.size : Int))]) := by
  intro q
  induction q using Nat.strongRecOn with
  | _ q ih =>
    intro p out nl h1 h2 h3 hv
    by_cases hp : p < s.size
    · have hy : ∀ x ∈ (bytesOf s).drop p, 0 ≤ x ∧ x < 256 := fun x hx => bytesOf_byte s x (List.mem_of_mem_drop hx)
      have hne : (bytesOf s).drop p ≠ [] := by
        intro e
        have := congrArg List.length e
        rw [List.length_drop, bytesOf_len] at this
        simp at this
        omega
      have hst := valid_step hy hne
      rw [hv] at hst
      cases ht : takeU ((bytesOf s).drop p) with
      | none => rw [ht] at hst; cases hst
      | some v =>
        obtain ⟨n, r⟩ := v
        rw [ht] at hst
        obtain ⟨d1, d2, d3, d4⟩ := decode_ok s p n r h2 ht
        have hpos := ub_pos n
        have hg := goodN_iff.1 d4
        rw [rdL_cons hy hne ht hst.symm]
        have e1 : runeAt s (p : Int) = n := by
          unfold runeAt
          rw [Int.toNat_natCast, d1]
          simp only
          omega
        have e2 : (p : Int) + widthAt s (p : Int) = ((p + (ub n).length : Nat) : Int) := by
          unfold widthAt
          rw [Int.toNat_natCast, d1]
          omega
        have w : Ar.real.wrap .i64 n = n := by rw [rw_wrap, wi64 (by omega) (by omega)]
        have e3 : (out ++ n :: rdL r, (nl && (n :: rdL r).isEmpty)) = ((out ++ [n]) ++ rdL ((bytesOf s).drop (p + (ub n).length)), (false && (rdL ((bytesOf s).drop (p + (ub n).length))).isEmpty)) := by
          rw [← d3]; simp
        rw [Prod.mk.injEq] at e3
        rw [e3.1, e3.2]
        refine LoopTo.next (fun k => ?_) (ih (s.size - (p + (ub n).length)) (by omega) (p + (ub n).length) (out ++ [n]) false rfl d2 (by rw [List.length_append]; simp only [List.length_cons, List.length_nil]; omega) (by rw [← d3]; exact hst.symm))
        rw [lURead, bt (by rw [decide_eq_true_eq]; omega)]
        simp only [e1, e2, w]
        rw [bt (by rw [decide_eq_true_eq]; simp only [List.length_cons, List.length_nil]; omega)]
        simp only [List.isEmpty_cons, Bool.and_false]
    · have e : p = s.size := by omega
      subst e
      have hd : (bytesOf s).drop s.size = [] := by rw [List.drop_eq_nil_iff, bytesOf_len]; exact Nat.le_refl _
      rw [hd, rdL_nil]
      refine LoopTo.left (by simp) fun k => ?_
      rw [lURead, bf (by rw [decide_eq_false_iff_not]; omega)]
      simp only [List.append_nil, List.isEmpty_nil, Bool.and_true]
      exact ⟨_, rfl, Forget.cons (.inr rfl) (Forget.cons (.inl rfl) (Forget.same _))⟩

theorem strOf_size (b : List Int) : (strOf b).size = b.length := by
  have : (strOf b).size = (strOf b).data.toList.length := by rw [Array.length_toList]; rfl
  rw [this, strOfNums_data, List.length_map]

theorem uread_ok (o8 : OOk (Out8 Ar.real)) : OrcOk Tryd.prog 15 (.pure (ureadF Ar.real)) := by
  refine pureOk (Cx.ok o8 (LuRead Ar.real)) mixed 15 Tryd.f15 (by kernel_rfl) (by kernel_rfl) (by kernel_rfl) 100 1 (by kernel_rfl) (fun i h => ?_) fun args r h => ?_
  · obtain rfl : i = 0 := by omega
    refine Tells.mk (key := 5) (N := 22) (ks := [4, 12]) (F := LuReadF Ar.real) (by kernel_rfl) rfl fun xs H r h => ?_
    unfold LuReadF at h
    split at h
    · rename_i out nl s p
      obtain ⟨hg, rfl⟩ := Tr.one h
      simp only [rw_se, Bool.and_eq_true, decide_eq_true_eq] at hg ⊢
      dsimp only [Ty.den] at hg
      obtain ⟨⟨g1, g2, g3⟩, g4⟩ := hg
      obtain ⟨m, rfl⟩ := Int.eq_ofNat_of_zero_le g1
      rw [Int.toNat_natCast] at g4
      have := loopURead s _ m out nl rfl (by have : (m : Int) ≤ (s.size : Int) := g2; omega) (by have : (out.length : Int) + ((s.size : Int) - (m : Int)) ≤ 1000000 := g3; have : (m : Int) ≤ (s.size : Int) := g2; omega) g4
      simp only [sg, Int.toNat_natCast]
      exact this
    · cases h
  · unfold ureadF at h
    split at h
    · rename_i b nl
      obtain ⟨hg, rfl⟩ := Tr.one h
      rw [rw_se] at hg
      have hg' := hg
      rw [Bool.and_eq_true, decide_eq_true_eq, bytesB_iff] at hg'
      refine ⟨rfl, rfl, ?_⟩
      rw [tURead, bt (by rw [rw_se]; exact hg)]
      simp only [rw_se, sg, show Int.toNat 0 = 0 from rfl, List.drop_zero, bytesOf_str hg'.1, strOf_size, List.nil_append, Bool.true_and]
      cases hv : validU b with
      | false =>
        refine ⟨[], ?_⟩
        have : rdL b = [] := by
          unfold validU at hv
          unfold rdL
          cases h : readU b with
          | none => rfl
          | some _ => rw [h] at hv; cases hv
        rw [bt (by rfl), this]
        simp only [rdE, hv]
        rfl
      | true =>
        rw [bf (by rfl), bt (by rw [Bool.and_true, decide_eq_true_eq]; refine ⟨Int.le_refl _, ?_, ?_⟩ <;> omega)]
        simp only [rdE, hv]
        exact ⟨_, rfl⟩
    · cases h

def resR (b out : List Int) (nl2 : Bool) : Ex × List X × Hp :=
  bif validU b then (.exit 0, [.dead, .dead, .dead, i64s (out ++ rdL b) (some (nl2 && (rdL b).isEmpty)) true], []) else (.ret, [.dead, i64s [] (some true) true, i64x 10, .dead], [])
theorem loopRRead (nl : Option Bool) (z : Int) : ∀ (n : Nat) (b out : List Int) (nl2 : Bool), b.length ≤ n → out.length + b.length ≤ 1000000 → (∀ x ∈ b, 0 ≤ x ∧ x < 256) →
    LoopTo (Cx Ar.real (Out8 Ar.real) (LrRead Ar.real)) 100 (loopAt Tryd.f16 0) 28 [0, 2, 3, 4] [u8s b nl false, i64s [] (some true) true, i64x z, i64s out (some nl2) true] [] (resR b out nl2) := by
  have base : ∀ (out : List Int) (nl2 : Bool), LoopTo (Cx Ar.real (Out8 Ar.real) (LrRead Ar.real)) 100 (loopAt Tryd.f16 0) 28 [0, 2, 3, 4] [u8s [] nl false, i64s [] (some true) true, i64x z, i64s out (some nl2) true] [] (resR [] out nl2) := by
    intro out nl2
    have e : resR [] out nl2 = (.exit 0, [.dead, .dead, .dead, i64s out (some nl2) true], []) := by simp [resR, valid_nil, rdL_nil]
    rw [e]
    refine LoopTo.left (by simp) fun k => ?_
    rw [lRRead, bf (by decide)]
    refine ⟨_, rfl, ?_⟩
    repeat' first | exact Forget.same _ | refine Forget.cons (.inl rfl) ?_ | refine Forget.cons (.inr rfl) ?_
  intro n
  induction n with
  | zero =>
    intro b out nl2 h1 h2 hy
    have : b = [] := by cases b with | nil => rfl | cons _ _ => simp at h1
    subst this
    exact base out nl2
  | succ n ih =>
    intro b out nl2 h1 h2 hy
    by_cases hb : b = []
    · subst hb
      exact base out nl2
    · have hpos : 0 < b.length := List.length_pos_iff.2 hb
      have hst := valid_step hy hb
      have hyB := bytesB_iff.2 hy
      cases ht : takeU b with
      | none =>
        rw [ht] at hst
        have e : resR b out nl2 = (.ret, [.dead, i64s [] (some true) true, i64x 10, .dead], []) := by unfold resR; rw [show validU b = false from hst]; rfl
        have eE : uE b = 10 := by simp [uE, ht]
        rw [e]
        refine LoopTo.left (by simp) fun k => ?_
        rw [lRRead, bt (by rw [decide_eq_true_eq]; omega)]
        simp only [rw_se, eE]
        rw [bt hyB, bt (by decide)]
        refine ⟨_, rfl, ?_⟩
        repeat' first | exact Forget.same _ | refine Forget.cons (.inl rfl) ?_ | refine Forget.cons (.inr rfl) ?_
      | some v =>
        obtain ⟨c, r⟩ := v
        rw [ht] at hst
        obtain ⟨_, g2, _⟩ := try_of hy ht
        have hu := ub_pos c
        obtain ⟨_, g4⟩ := takeU_some hy ht
        have eE : uE b = 0 := by simp [uE, ht]
        have eN : uN b = c := by simp [uN, ht]
        have eL : uL b = ((ub c).length : Int) := by simp only [uL, ht]; omega
        have hr : b.drop (ub c).length = r := by conv => lhs; rw [g4]; simp
        have hyr : ∀ x ∈ r, 0 ≤ x ∧ x < 256 := fun x hx => hy x (by rw [g4]; simp [hx])
        have e : resR b out nl2 = resR r (out ++ [c]) false := by
          unfold resR
          rw [show validU b = validU r from hst]
          cases hv : validU r with
          | false => rfl
          | true => rw [rdL_cons hy hb ht hv]; simp
        rw [e]
        refine LoopTo.next (fun k => ?_) (ih r (out ++ [c]) false (by omega) (by rw [List.length_append]; simp only [List.length_cons, List.length_nil]; omega) hyr)
        rw [lRRead, bt (by rw [decide_eq_true_eq]; omega)]
        simp only [rw_se, eE, eN, eL, Int.toNat_natCast, hr]
        rw [bt hyB, bf (by decide), bt (by rw [decide_eq_true_eq]; simp only [List.length_cons, List.length_nil]; omega), bt (by rw [decide_eq_true_eq]; omega)]
        simp only [List.isEmpty_cons, Bool.and_false]

theorem rread_ok (o8 : OOk (Out8 Ar.real)) : OrcOk Tryd.prog 16 (.pure (ureadF Ar.real)) := by
  refine pureOk (Cx.ok o8 (LrRead Ar.real)) mixed 16 Tryd.f16 (by kernel_rfl) (by kernel_rfl) (by kernel_rfl) 100 1 (by kernel_rfl) (fun i h => ?_) fun args r h => ?_
  · obtain rfl : i = 0 := by omega
    refine Tells.mk (key := 2) (N := 28) (ks := [0, 2, 3, 4]) (F := LrReadF Ar.real) (by kernel_rfl) rfl fun xs H r h => ?_
    unfold LrReadF at h
    split at h
    · rename_i b nl z out nl2
      replace h : (Tr.test (bytesB b && decide (out.length + b.length ≤ 1000000)) (.test (validU b) _ _) .no).run some = some r := h
      have hg : (bytesB b && decide (out.length + b.length ≤ 1000000)) = true := by
        cases hc : (bytesB b && decide (out.length + b.length ≤ 1000000))
        · rw [hc] at h; cases h
        · rfl
      rw [hg] at h
      rw [Bool.and_eq_true, decide_eq_true_eq, bytesB_iff] at hg
      have key := loopRRead nl z b.length b out nl2 (Nat.le_refl _) hg.2 hg.1
      unfold resR at key
      cases ha : validU b <;> rw [ha] at h key
      · cases h; exact key
      · cases h; exact key
    · cases h
  · unfold ureadF at h
    split at h
    · rename_i b nl
      obtain ⟨hg, rfl⟩ := Tr.one h
      rw [rw_se] at hg
      have hg' := hg
      rw [Bool.and_eq_true, decide_eq_true_eq, bytesB_iff] at hg'
      refine ⟨rfl, rfl, [], ?_⟩
      rw [tRRead, bt (by rw [rw_se, Bool.and_eq_true, decide_eq_true_eq, bytesB_iff]; exact ⟨hg'.1, by omega⟩)]
      simp only [rw_se, List.nil_append, Bool.true_and]
      cases hv : validU b with
      | false =>
        have : rdL b = [] := by
          unfold validU at hv
          unfold rdL
          cases h : readU b with
          | none => rfl
          | some _ => rw [h] at hv; cases hv
        rw [this]
        simp only [rdE, hv]
        rfl
      | true =>
        simp only [rdE, hv]
        rfl
    · cases h

/-! Two lists. -/
theorem loopSame (a b : List Int) (nl nl2 : Option Bool) (x : Bool) (hl : a.length ≤ 9223372036854775806) (hab : a.length = b.length) : ∀ (q i : Nat), a.length - i = q → i ≤ a.length →
    LoopTo (Cx Ar.real (Out7 Ar.real) (Lsame Ar.real)) 100 (loopAt Tryd.f17 0) 26 [0, 1, 4, 5] [i64s a nl false, i64s b nl2 false, boolx x, i64x i] []
      (bif decide (a.drop i = b.drop i) then (.exit 0, [.dead, .dead, .dead, .dead], []) else (.ret, [.dead, .dead, boolx false, .dead], [])) := by
  intro q
  induction q with
  | zero =>
    intro i h1 h2
    have e1 : a.drop i = [] := by rw [List.drop_eq_nil_iff]; omega
    have e2 : b.drop i = [] := by rw [List.drop_eq_nil_iff]; omega
    rw [e1, e2]
    refine LoopTo.left (by simp) fun k => ?_
    rw [lSame, bf (by rw [decide_eq_false_iff_not]; omega)]
    exact ⟨_, rfl, forget_dead _ 4⟩
  | succ q ih =>
    intro i h1 h2
    have hi : i < a.length := by omega
    have hi2 : i < b.length := by omega
    have a1 : decide ((i : Int) < (a.length : Int)) = true := by rw [decide_eq_true_eq]; omega
    have a2 : decide ((0 : Int) ≤ (i : Int) ∧ (i : Int) < (a.length : Int)) = true := by rw [decide_eq_true_eq]; omega
    have a3 : decide ((0 : Int) ≤ (i : Int) ∧ (i : Int) < (b.length : Int)) = true := by rw [decide_eq_true_eq]; omega
    rw [drop_cons hi, drop_cons hi2]
    by_cases he : a.getD i 0 = b.getD i 0
    · have e : decide (a.getD i 0 :: a.drop (i + 1) = b.getD i 0 :: b.drop (i + 1)) = decide (a.drop (i + 1) = b.drop (i + 1)) := by
        rw [he]
        by_cases h : a.drop (i + 1) = b.drop (i + 1)
        · rw [decide_eq_true h, h, decide_eq_true rfl]
        · rw [decide_eq_false h, decide_eq_false (fun e => h (List.cons.inj e).2)]
      rw [e]
      have w2 : Ar.real.wrap .i64 ((i : Int) + 1) = ((i + 1 : Nat) : Int) := by rw [rw_wrap, wi64 (by omega) (by omega)]; omega
      refine LoopTo.next (fun k => ?_) (ih (i + 1) (by omega) (by omega))
      rw [lSame, bt a1, bt a2, bt a3]
      simp only [Int.toNat_natCast, w2]
      rw [bf (by rw [he]; simp)]
    · have e : decide (a.getD i 0 :: a.drop (i + 1) = b.getD i 0 :: b.drop (i + 1)) = false := by
        rw [decide_eq_false_iff_not]
        intro h
        exact he (List.cons.inj h).1
      rw [e]
      refine LoopTo.left (by simp) fun k => ?_
      rw [lSame, bt a1, bt a2, bt a3]
      simp only [Int.toNat_natCast]
      rw [bt (by rw [bne_iff_ne]; exact he)]
      refine ⟨_, rfl, ?_⟩
      repeat' first | exact Forget.same _ | refine Forget.cons (.inl rfl) ?_ | refine Forget.cons (.inr rfl) ?_

theorem same_ok : OrcOk Tryd.prog 17 (.pure (sameF Ar.real)) := by
  refine pureOk (Cx.ok o_ut7 (Lsame Ar.real)) mixed 17 Tryd.f17 (by kernel_rfl) (by kernel_rfl) (by kernel_rfl) 100 1 (by kernel_rfl) (fun i h => ?_) fun args r h => ?_
  · obtain rfl : i = 0 := by omega
    refine Tells.mk (key := 4) (N := 26) (ks := [0, 1, 4, 5]) (F := LsameF Ar.real) (by kernel_rfl) rfl fun xs H r h => ?_
    unfold LsameF at h
    split at h
    · rename_i a nl b nl2 x i
      replace h : (Tr.test (decide (a.length ≤ 9223372036854775806 ∧ a.length = b.length ∧ (0 : Int) ≤ i ∧ i ≤ (a.length : Int))) (.test (decide (a.drop i.toNat = b.drop i.toNat)) _ _) .no).run some = some r := h
      by_cases hg : a.length ≤ 9223372036854775806 ∧ a.length = b.length ∧ (0 : Int) ≤ i ∧ i ≤ (a.length : Int)
      · rw [decide_eq_true hg] at h
        obtain ⟨g1, g2, g3, g4⟩ := hg
        obtain ⟨m, rfl⟩ := Int.eq_ofNat_of_zero_le g3
        have key := loopSame a b nl nl2 x g1 g2 _ m rfl (by have : (m : Int) ≤ (a.length : Int) := g4; omega)
        rw [Int.toNat_natCast] at h
        cases ha : decide (a.drop m = b.drop m) <;> rw [ha] at h key
        · cases h; exact key
        · cases h; exact key
      · rw [decide_eq_false hg] at h
        cases h
    · cases h
  · unfold sameF at h
    split at h
    · rename_i a nl b nl2
      obtain ⟨hg, rfl⟩ := Tr.one h
      replace hg : a.length ≤ 9223372036854775806 := of_decide_eq_true hg
      refine ⟨rfl, rfl, [], ?_⟩
      rw [tSame]
      simp only [rw_se, show Int.toNat 0 = 0 from rfl, List.drop_zero]
      by_cases hl : a.length = b.length
      · rw [bf (by rw [hl]; simp), bt (by rw [decide_eq_true_eq]; exact ⟨hg, hl, by decide, by omega⟩)]
        cases decide (a = b) <;> rfl
      · rw [bt (by rw [bne_iff_ne]; omega)]
        have : decide (a = b) = false := by
          rw [decide_eq_false_iff_not]
          rintro rfl
          exact hl rfl
        rw [this]
    · cases h

theorem o_ut8 : OOk (Out8 Ar.real) := (o_ut7.add valid_ok).add same_ok
theorem o_ut9 : OOk (Out9 Ar.real) := (o_ut8.add (uread_ok o_ut8)).add (rread_ok o_ut8)

end Go.Proofs.YtnjlfeigcappjaaDoor.V

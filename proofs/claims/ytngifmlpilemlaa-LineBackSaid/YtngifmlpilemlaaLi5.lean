/-
  Chapter 04, lines: the functions do what they tell: bytes, pieces.
  It speaks of the pinned program alone; no condition.
-/
import Derived.Test.YtngifmlpilemlaaLi4
import Derived.Lib.BytesEntry
namespace Go.Proofs.Ytngifmlpilemlaa.V
open Go
set_option linter.unusedVariables false
set_option linter.unusedSimpArgs false

theorem Tr.run_test {α : Type} {c : Bool} {a : Tr α} {r : α} (h : (Tr.test c a .no).run some = some r) : c = true ∧ a.run some = some r := by
  cases c
  · cases h
  · exact ⟨rfl, h⟩

theorem o_no : OOk noO := fun _ _ h => by cases h

theorem clone_ok0 : OrcOk Try.prog 13 (.pure (cloneF Ar.real)) := by
  refine pureOk (Cx.ok o_no noL) mixed 13 Try.f13 (by kernel_rfl) (by kernel_rfl) (by kernel_rfl) 100 0 (by kernel_rfl) (fun i h => by omega) fun args r h => ?_
  unfold cloneF at h
  split at h
  · rename_i b nl
    obtain ⟨hg, rfl⟩ := Tr.one h
    refine ⟨rfl, rfl, [], ?_⟩
    rw [tClone]
    simp only [rw_se, Bool.and_eq_true, decide_eq_true_eq] at hg
    obtain ⟨h1, h2⟩ := hg
    cases nl
    · rw [bf rfl, bt (by simp; omega)]
      simp [u8s]
    · have := nlB_nil h2 rfl
      simp [this]
  · cases h

theorem clone_ok : OrcOk Try.prog 13 (.pure (cloneG Ar.real)) := by
  have h0 : PureOk Try.prog 13 fun args => (cloneF Ar.real args).run some := clone_ok0
  refine h0.anyNl fun args r h => ?_
  unfold cloneG at h
  split at h
  · rename_i b nl
    obtain ⟨hg, rfl⟩ := Tr.one h
    simp only [rw_se, Bool.and_eq_true, decide_eq_true_eq] at hg
    obtain ⟨h1, h2⟩ := hg
    have key : ∀ x, nlB x b = true → (cloneF Ar.real [u8s b (some x) false]).run some = some (u8s b (some x) true) := by
      intro x hx
      unfold cloneF
      simp only [rw_se, Tr.run]
      rw [bt (by rw [Bool.and_eq_true, decide_eq_true_eq]; exact ⟨h1, hx⟩)]
    cases nl with
    | some x =>
      refine .inl (key x ?_)
      cases x
      · rfl
      · simpa [nlO, nlB] using h2
    | none =>
      refine .inr ⟨_, b, [], rfl, fun hb => ⟨_, key true (by simp [nlB, hb]), .inl (Wk1.sl (.inl rfl) (fun _ => rfl))⟩, _, key false rfl, .inl (Wk1.sl (.inl rfl) (fun _ => rfl))⟩
  · cases h

theorem end_ok : OrcOk Try.prog 12 (.pure endF) := by
  refine pureOk (Cx.ok o_no noL) mixed 12 Try.f12 (by kernel_rfl) (by kernel_rfl) (by kernel_rfl) 100 0 (by kernel_rfl) (fun i h => by omega) fun args r h => ?_
  unfold endF at h
  split at h
  · cases h
    exact ⟨rfl, rfl, [], tEnd _ _⟩
  · cases h

theorem o1 : OOk (Ol1 Ar.real) := (o_no.add clone_ok).add end_ok

theorem ext_ok : OrcOk Try.prog 18 (.ext (ixbF Ar.real)) := by
  intro args r h0 g w dh vs hw ha
  have h : (ixbF Ar.real args).run some = some r := h0
  clear h0
  unfold ixbF at h
  split at h
  · rename_i xs nl c
    obtain ⟨hg, rfl⟩ := Tr.one h
    simp only [rw_se, Bool.and_eq_true, decide_eq_true_eq] at hg
    obtain ⟨rfl, h1, h2⟩ := hg
    simp only [RepXs] at ha
    obtain ⟨v1, us, rfl, k1, v2, us2, rfl, k2, rfl⟩ := ha
    rw [RepX.int_iff] at k2
    subst k2
    have hrun : ∀ v, (Extern.BytealgIndexByte.indexByte #[v1, .int .u8 c]).run Try.prog w = .ok v w → (callFunc 18 #[v1, .int .u8 c]).run Try.prog w = .ok (.value v) w := by
      intro v hv
      rw [run_callFunc_extern (fn := Try.f18) (e := Extern.BytealgIndexByte.indexByte) (by kernel_rfl) (by kernel_rfl) (by kernel_rfl) (by kernel_rfl) (by kernel_rfl), hv]
      rfl
    simp only [RepX] at k1
    obtain ⟨a, cp, rfl, k3, k4, _⟩ := k1
    obtain ⟨A, cs, rfl, hs, _⟩ := k4 0 (by simp)
    obtain ⟨b, o, sp⟩ := A
    simp only at hs
    subst hs
    obtain ⟨cs, q1, q2, q3⟩ := Run.cells k4 (by decide)
    have hcs := Parts.ints [32, 9] cs q1
    refine ⟨_, hrun _ (Lib.run_indexByteSlice w b o 2 cp [32, 9] rfl (fun i hi => ?_) c), ?_⟩
    · subst hcs
      obtain ⟨e1, _⟩ := q3 _ rfl i (by simpa using hi)
      refine e1.trans ?_
      have h01 : i = 0 ∨ i = 1 := by omega
      rcases h01 with rfl | rfl <;> rfl
    · rw [RepX.int_iff, rw_se]
      congr 1
      obtain ⟨n, rfl⟩ : ∃ n : Nat, c = (n : Int) := Int.eq_ofNat_of_zero_le h1
      have hn : (n : Int) < 256 := h2
      have e : ∀ m : Nat, m < 256 → ((UInt8.ofNat m == n.toUInt8) = ((n : Int) == (m : Int))) := by
        intro m hm
        rw [Bool.eq_iff_iff, beq_iff_eq, beq_iff_eq, ← UInt8.toNat_inj]
        simp only [UInt8.toNat_ofNat', Nat.toUInt8_eq]
        omega
      show Lib.indexByte [UInt8.ofNat 32, UInt8.ofNat 9] n.toUInt8 = _
      simp only [Lib.indexByte, e 32 (by decide), e 9 (by decide)]
      rw [show ((32 : Nat) : Int) = 32 from rfl, show ((9 : Nat) : Int) = 9 from rfl]
      cases h3 : (n : Int) == 32 <;> cases h4 : (n : Int) == 9 <;> rfl
  · cases h

theorem o2 : OOk (Ol2 Ar.real) := o1.add ext_ok

theorem ixb_ok : OrcOk Try.prog 15 (.pure (ixbF Ar.real)) := by
  refine pureOk (Cx.ok o2 noL) mixed 15 Try.f15 (by kernel_rfl) (by kernel_rfl) (by kernel_rfl) 100 0 (by kernel_rfl) (fun i h => by omega) fun args r h => ?_
  unfold ixbF at h
  split at h
  · rename_i xs nl c
    obtain ⟨hg, rfl⟩ := Tr.one h
    exact ⟨rfl, rfl, [], by rw [tIxb, bt hg]⟩
  · cases h

theorem o3 : OOk (Ol3 Ar.real) := o2.add ixb_ok

theorem bl_ok : OrcOk Try.prog 14 (.pure (blF Ar.real)) := by
  refine pureOk (Cx.ok o3 noL) mixed 14 Try.f14 (by kernel_rfl) (by kernel_rfl) (by kernel_rfl) 100 0 (by kernel_rfl) (fun i h => by omega) fun args r h => ?_
  unfold blF at h
  split at h
  · rename_i c
    obtain ⟨hg, rfl⟩ := Tr.one h
    refine ⟨rfl, rfl, [], ?_⟩
    rw [tBl]
    simp only [rw_se] at hg ⊢
    rw [bt (by simp [hg])]
    congr 3
    unfold isBl
    cases h1 : c == 32 <;> cases h2 : c == 9 <;> rfl
  · cases h

theorem o4 : OOk (Ol4 Ar.real) := o3.add bl_ok

theorem byte_at {b : List Int} (h : bytesB b = true) {i : Nat} (hi : i < b.length) : 0 ≤ b.getD i 0 ∧ b.getD i 0 < 256 := by
  rw [bytesB_iff] at h
  rw [List.getD_eq_getElem?_getD, List.getElem?_eq_getElem hi]
  exact h _ (List.getElem_mem hi)

theorem idxP_cons (p : Int → Bool) {b : List Int} {i : Nat} (hi : i < b.length) :
    idxP p (b.drop i) = bif p (b.getD i 0) then 0 else bif idxP p (b.drop (i + 1)) == -1 then -1 else idxP p (b.drop (i + 1)) + 1 := by
  rw [drop_cons hi]
  rfl

theorem loopIdx (g : Nat) (p : Int → Bool) (hstep : ∀ (R : Type) (b : List Int) (nl : Option Bool) (z : Int) (i : Nat) (k : Ex → List X → Hp → Option R), bytesB b = true → i < b.length → b.length ≤ 1000000000 →
      stepF (Cx Ar.real (Ol4 Ar.real) (Lidx Ar.real)) 100 (loopAt Try.f17 0) 19 [0, 1, 4, 7, 8] [u8s b nl false, .fn g [] [], i64x z, i64x b.length, i64x i] [] k =
        bif p (b.getD i 0) then k .ret [u8s b nl false, .fn g [] [], i64x i, i64x b.length, i64x i] [] else k .normal [u8s b nl false, .fn g [] [], i64x z, i64x b.length, i64x ((i + 1 : Nat) : Int)] [])
    (hdone : ∀ (R : Type) (b : List Int) (nl : Option Bool) (z : Int) (k : Ex → List X → Hp → Option R),
      stepF (Cx Ar.real (Ol4 Ar.real) (Lidx Ar.real)) 100 (loopAt Try.f17 0) 19 [0, 1, 4, 7, 8] [u8s b nl false, .fn g [] [], i64x z, i64x b.length, i64x b.length] [] k = k (.exit 0) [u8s b nl false, .fn g [] [], i64x z, i64x b.length, i64x b.length] [])
    (b : List Int) (nl : Option Bool) (z : Int) (hb : bytesB b = true) (hl : b.length ≤ 1000000000) : ∀ (n i : Nat), b.length - i = n → i ≤ b.length →
    LoopTo (Cx Ar.real (Ol4 Ar.real) (Lidx Ar.real)) 100 (loopAt Try.f17 0) 19 [0, 1, 4, 7, 8] [u8s b nl false, .fn g [] [], i64x z, i64x b.length, i64x i] []
      (bif decide (idxP p (b.drop i) < 0) then (.exit 0, [u8s b nl false, .fn g [] [], i64x z, i64x b.length, .dead], []) else (.ret, [u8s b nl false, .fn g [] [], i64x (i + idxP p (b.drop i)), i64x b.length, .dead], [])) := by
  have hf : ∀ (u v w x : X), Forget [u, v, w, x, i64x (0 : Int)] [u, v, w, x, i64x 0] := fun _ _ _ _ => Forget.same _
  have hfd : ∀ (u v w x y : X), Forget [u, v, w, x, y] [u, v, w, x, .dead] := fun u v w x y => by
    repeat' first | exact Forget.same _ | refine Forget.cons (.inl rfl) ?_ | refine Forget.cons (.inr rfl) ?_
  intro n
  induction n with
  | zero =>
    intro i h1 h2
    obtain rfl : i = b.length := by omega
    rw [List.drop_length, show idxP p [] = -1 from rfl, bt (by decide)]
    exact LoopTo.left (by simp) fun k => ⟨_, hdone _ b nl z k, hfd _ _ _ _ _⟩
  | succ n ih =>
    intro i h1 h2
    have hi : i < b.length := by omega
    rw [idxP_cons p hi]
    cases hp : p (b.getD i 0) with
    | true =>
      rw [show (bif true then (0 : Int) else bif idxP p (b.drop (i + 1)) == -1 then -1 else idxP p (b.drop (i + 1)) + 1) = 0 from rfl, bf (by decide), Int.add_zero]
      exact LoopTo.left (by simp) fun k => ⟨_, by rw [hstep _ b nl z i k hb hi hl, hp]; rfl, hfd _ _ _ _ _⟩
    | false =>
      refine LoopTo.next (fun k => by rw [hstep _ b nl z i k hb hi hl, hp]; rfl) ?_
      have := ih (i + 1) (by omega) (by omega)
      have hge := idxP_ge p (b.drop (i + 1))
      cases he : idxP p (b.drop (i + 1)) == -1 with
      | true =>
        have he' : idxP p (b.drop (i + 1)) = -1 := by simpa using he
        rw [he', bt (by decide)] at this
        simpa only [cond_false, cond_true, decide_true, Int.reduceNeg, show decide ((-1 : Int) < 0) = true from rfl] using this
      | false =>
        have he' : idxP p (b.drop (i + 1)) ≠ -1 := by simpa using he
        rw [bf (by rw [decide_eq_false_iff_not]; omega)] at this
        simp only [cond_false]
        rw [bf (by rw [decide_eq_false_iff_not]; omega)]
        have e : ((i + 1 : Nat) : Int) + idxP p (b.drop (i + 1)) = (i : Int) + (idxP p (b.drop (i + 1)) + 1) := by omega
        rw [e] at this
        exact this

theorem wnext {i : Nat} (h : i < 4000000000000) : Ar.real.wrap .i64 ((i : Int) + 1) = ((i + 1 : Nat) : Int) := by
  rw [rw_wrap, wi64 (by omega) (by omega)]; rfl

theorem stepE (R : Type) (b : List Int) (nl : Option Bool) (z : Int) (i : Nat) (k : Ex → List X → Hp → Option R) (hb : bytesB b = true) (hi : i < b.length) (hl : b.length ≤ 1000000000) :
    stepF (Cx Ar.real (Ol4 Ar.real) (Lidx Ar.real)) 100 (loopAt Try.f17 0) 19 [0, 1, 4, 7, 8] [u8s b nl false, .fn 12 [] [], i64x z, i64x b.length, i64x i] [] k =
      bif isEnd (b.getD i 0) then k .ret [u8s b nl false, .fn 12 [] [], i64x i, i64x b.length, i64x i] [] else k .normal [u8s b nl false, .fn 12 [] [], i64x z, i64x b.length, i64x ((i + 1 : Nat) : Int)] [] := by
  rw [lIdxE, bt (by rw [decide_eq_true_eq]; omega), bt (by rw [decide_eq_true_eq]; omega), Int.toNat_natCast, wnext (by omega)]
  rfl
theorem stepB (R : Type) (b : List Int) (nl : Option Bool) (z : Int) (i : Nat) (k : Ex → List X → Hp → Option R) (hb : bytesB b = true) (hi : i < b.length) (hl : b.length ≤ 1000000000) :
    stepF (Cx Ar.real (Ol4 Ar.real) (Lidx Ar.real)) 100 (loopAt Try.f17 0) 19 [0, 1, 4, 7, 8] [u8s b nl false, .fn 14 [] [], i64x z, i64x b.length, i64x i] [] k =
      bif isBl (b.getD i 0) then k .ret [u8s b nl false, .fn 14 [] [], i64x i, i64x b.length, i64x i] [] else k .normal [u8s b nl false, .fn 14 [] [], i64x z, i64x b.length, i64x ((i + 1 : Nat) : Int)] [] := by
  have h0 := byte_at hb hi
  rw [lIdxB, bt (by rw [decide_eq_true_eq]; omega), bt (by rw [decide_eq_true_eq]; omega), Int.toNat_natCast, wnext (by omega), rw_se, bt (by rw [decide_eq_true_eq]; exact h0), rw_se]

theorem idx_ok : OrcOk Try.prog 17 (.pure (idxF Ar.real)) := by
  refine pureOk (Cx.ok o4 (Lidx Ar.real)) mixed 17 Try.f17 (by kernel_rfl) (by kernel_rfl) (by kernel_rfl) 100 1 (by kernel_rfl) (fun i h => ?_) fun args r h => ?_
  · obtain rfl : i = 0 := by omega
    refine Tells.mk (key := 2) (by kernel_rfl) rfl fun xs H r h => ?_
    unfold LidxF at h
    split at h
    · rename_i b nl g z l i
      split at h
      · rename_i p hp
        obtain ⟨hg, h⟩ := Tr.run_test h
        simp only [rw_se, Bool.and_eq_true, decide_eq_true_eq] at hg
        obtain ⟨hb, h1, rfl, h2, h3⟩ := hg
        obtain ⟨i, rfl⟩ : ∃ n : Nat, i = (n : Int) := Int.eq_ofNat_of_zero_le h2
        have h3 : (i : Int) ≤ (b.length : Int) := h3
        have hr : r = (bif decide (idxP p (b.drop i) < 0) then (Ex.exit 0, [u8s b nl false, .fn g [] [], i64x z, i64x b.length, .dead], []) else (.ret, [u8s b nl false, .fn g [] [], i64x (i + idxP p (b.drop i)), i64x b.length, .dead], [])) := by
          simp only [rw_se, Int.toNat_natCast, Tr.run] at h
          cases hd : decide (idxP p (b.drop i) < 0) <;> rw [hd] at h <;> simpa using h.symm
        rw [hr]
        have hg : (g = 12 ∧ p = isEnd) ∨ (g = 14 ∧ p = isBl) := by
          unfold pOf at hp
          split at hp
          · exact .inl ⟨rfl, by cases hp; rfl⟩
          · exact .inr ⟨rfl, by cases hp; rfl⟩
          · cases hp
        rcases hg with ⟨rfl, rfl⟩ | ⟨rfl, rfl⟩
        · exact loopIdx _ _ stepE (fun R b nl z k => by rw [lIdxE, bf (by simp)]) b nl z hb h1 _ i rfl (by omega)
        · exact loopIdx _ _ stepB (fun R b nl z k => by rw [lIdxB, bf (by simp)]) b nl z hb h1 _ i rfl (by omega)
      · cases h
    · cases h
  · unfold idxF at h
    split at h
    · rename_i b nl g
      split at h
      · rename_i p hp
        obtain ⟨hg, rfl⟩ := Tr.one h
        refine ⟨rfl, rfl, [], ?_⟩
        simp only [rw_se, Bool.and_eq_true, decide_eq_true_eq] at hg
        obtain ⟨hb, h1⟩ := hg
        have hge := idxP_ge p b
        have hg : (g = 12 ∧ p = isEnd) ∨ (g = 14 ∧ p = isBl) := by
          unfold pOf at hp
          split at hp
          · exact .inl ⟨rfl, by cases hp; rfl⟩
          · exact .inr ⟨rfl, by cases hp; rfl⟩
          · cases hp
        have fin : (bif decide (idxP p b < 0) then some (i64x (-1), ([] : Hp)) else some (i64x (0 + idxP p b), [])) = some (i64x (idxP p b), []) := by
          cases hd : decide (idxP p b < 0)
          · simp
          · have : idxP p b < 0 := by simpa using hd
            simp only [cond_true]
            congr 3
            omega
        rcases hg with ⟨rfl, rfl⟩ | ⟨rfl, rfl⟩
        · rw [tIdxE]
          simp only [rw_se, Int.toNat_zero, List.drop_zero]
          rw [bt (by simp [hb, h1])]
          exact fin
        · rw [tIdxB]
          simp only [rw_se, Int.toNat_zero, List.drop_zero]
          rw [bt (by simp [hb, h1])]
          exact fin
      · cases h
    · cases h

theorem o5 : OOk (Ol5 Ar.real) := o4.add idx_ok

end Go.Proofs.Ytngifmlpilemlaa.V

/-
  Chapter 01, utf: takes do what they tell.
  It speaks of the pinned program alone; no condition.
-/
import Derived.Test.YtnjlfeigcappjaaDoorUt6
namespace Go.Proofs.YtnjlfeigcappjaaDoor.V
open Go
set_option linter.unusedVariables false
set_option linter.unusedSimpArgs false

/-! The document's number. -/
theorem numL_cons (o c : Int) (l : List Int) : numL o (c :: l) = numL (o * 64 + c % 64) l := rfl
theorem loopNum (b : List Int) (nl : Option Bool) (n : Nat) (hy : ∀ x ∈ b, 0 ≤ x ∧ x < 256) (hn : n ≤ 4) (hb : n ≤ b.length) : ∀ (q i : Nat) (o : Int), n - i = q → 1 ≤ i → i ≤ n → 0 ≤ o → o < 256 * 64 ^ (i - 1) →
    LoopTo (Cx Ar.real (Out4 Ar.real) (Lnum Ar.real)) 100 (loopAt Tryd.f23 0) 47 [0, 1, 5, 6] [u8s b nl false, i64x n, i64x o, i64x i] [] (.exit 0, [.dead, .dead, i64x (numL o ((b.take n).drop i)), .dead], []) := by
  intro q
  induction q with
  | zero =>
    intro i o h1 h2 h3 h4 h5
    have hi : i = n := by omega
    subst hi
    have e1 : (b.take i).drop i = [] := by rw [List.drop_eq_nil_iff, List.length_take]; omega
    rw [e1]
    refine LoopTo.left (by simp) fun k => ?_
    rw [lNum, bf (by rw [decide_eq_false_iff_not]; omega)]
    refine ⟨_, rfl, ?_⟩
    repeat' first | exact Forget.same _ | refine Forget.cons (.inl rfl) ?_ | refine Forget.cons (.inr rfl) ?_
  | succ q ih =>
    intro i o h1 h2 h3 h4 h5
    have hi : i < (b.take n).length := by rw [List.length_take]; omega
    have hx := hy _ (getD_mem (show i < b.length by omega))
    have e0 : (b.take n).getD i 0 = b.getD i 0 := by
      rw [List.getD_eq_getElem?_getD, List.getD_eq_getElem?_getD, List.getElem?_take, if_pos (by omega)]
    rw [drop_cons hi, numL_cons, e0]
    have hp : (64 : Int) ^ (i + 1 - 1) = 64 ^ (i - 1) * 64 := by
      rw [show i + 1 - 1 = (i - 1) + 1 by omega, Int.pow_succ]
    have hp3 : (64 : Int) ^ (i - 1) ≤ 64 ^ 2 := by
      have : i - 1 ≤ 2 := by omega
      have h := Nat.pow_le_pow_right (show 0 < 64 by omega) this
      exact_mod_cast h
    have p2 : (64 : Int) ^ 2 = 4096 := by decide
    have hm : Int.tmod (b.getD i 0) 64 = b.getD i 0 % 64 := Int.tmod_eq_emod_of_nonneg hx.1
    have w1 : Ar.real.wrap .i64 (b.getD i 0) = b.getD i 0 := by rw [rw_wrap, wi64 (by omega) (by omega)]
    have w2 : Ar.real.wrap .i64 (o * 64) = o * 64 := by rw [rw_wrap, wi64 (by omega) (by omega)]
    have w3 : Ar.real.wrap .i64 (o * 64 + b.getD i 0 % 64) = o * 64 + b.getD i 0 % 64 := by rw [rw_wrap, wi64 (by omega) (by omega)]
    have w4 : Ar.real.wrap .i64 ((i : Int) + 1) = ((i + 1 : Nat) : Int) := by rw [rw_wrap, wi64 (by omega) (by omega)]; omega
    refine LoopTo.next (fun k => ?_) (ih (i + 1) (o * 64 + b.getD i 0 % 64) (by omega) (by omega) (by omega) (by omega) (by rw [hp]; omega))
    rw [lNum, bt (by rw [decide_eq_true_eq]; omega), bt (by rw [decide_eq_true_eq]; omega)]
    simp only [Int.toNat_natCast, w1, w2, hm, w3, w4]

theorem num_core (b : List Int) (nl : Option Bool) (n : Nat) (hy : ∀ x ∈ b, 0 ≤ x ∧ x < 256) (h1 : 1 ≤ n) (hn : n ≤ 4) (hb : n ≤ b.length) :
    bodyX (Cx Ar.real (Out4 Ar.real) (Lnum Ar.real)) 100 Tryd.f23 [u8s b nl false, i64x n] [] = some (i64x (numN b n), []) := by
  rw [tNum]
  have hx := hy _ (getD_mem (show 0 < b.length by omega))
  have a : decide ((0 : Int) ≤ 0 ∧ (0 : Int) < (b.length : Int)) = true := by rw [decide_eq_true_eq]; omega
  have w1 : Ar.real.wrap .i64 (b.getD (Int.toNat 0) 0) = b.getD 0 0 := by rw [show Int.toNat 0 = 0 from rfl, rw_wrap, wi64 (by omega) (by omega)]
  have hm : ∀ k : Int, Int.tmod (b.getD 0 0) k = b.getD 0 0 % k := fun k => Int.tmod_eq_emod_of_nonneg hx.1
  have p0 : (64 : Int) ^ (1 - 1) = 1 := by decide
  simp only [w1, hm, p0, rw_se, show Int.toNat 1 = 1 from rfl, Int.toNat_natCast]
  have g : ∀ o : Int, 0 ≤ o → o < 256 → (bytesB b && decide ((1 : Int) ≤ 1 ∧ (1 : Int) ≤ (n : Int) ∧ (n : Int) ≤ 4 ∧ (n : Int) ≤ (b.length : Int) ∧ 0 ≤ o ∧ o < 256 * 1)) = true := by
    intro o h0 h2
    rw [bytesB_iff.2 hy, Bool.true_and, decide_eq_true_eq]
    omega
  rw [bt a]
  have hc : n = 1 ∨ n = 2 ∨ n = 3 ∨ n = 4 := by omega
  rcases hc with rfl | rfl | rfl | rfl
  · rw [bf (by decide), bf (by decide), bf (by decide), bt (g _ hx.1 hx.2)]
    rfl
  · rw [bt (by decide), bt a, bf (by decide), bf (by decide), bt (g _ (by omega) (by omega))]
    rfl
  · rw [bf (by decide), bt (by decide), bt a, bf (by decide), bt (g _ (by omega) (by omega))]
    rfl
  · rw [bf (by decide), bf (by decide), bt (by decide), bt a, bt (g _ (by omega) (by omega))]
    rfl

theorem num_ok : OrcOk Tryd.prog 23 (.pure (numF Ar.real)) := by
  refine pureOk (Cx.ok o_ut4 (Lnum Ar.real)) mixed 23 Tryd.f23 (by kernel_rfl) (by kernel_rfl) (by kernel_rfl) 100 1 (by kernel_rfl) (fun i h => ?_) fun args r h => ?_
  · obtain rfl : i = 0 := by omega
    refine Tells.mk (key := 9) (N := 47) (ks := [0, 1, 5, 6]) (F := LnumF Ar.real) (by kernel_rfl) rfl fun xs H r h => ?_
    unfold LnumF at h
    split at h
    · rename_i b nl n o i
      obtain ⟨hg, rfl⟩ := Tr.one h
      simp only [rw_se, Bool.and_eq_true, decide_eq_true_eq, bytesB_iff] at hg ⊢
      dsimp only [Ty.den] at hg
      obtain ⟨g0, g1, g2, g3, g4, g5, g6⟩ := hg
      obtain ⟨m, rfl⟩ := Int.eq_ofNat_of_zero_le (Int.le_trans (by decide : (0 : Int) ≤ 1) g1)
      obtain ⟨n', rfl⟩ := Int.eq_ofNat_of_zero_le (Int.le_trans (Int.le_trans (by decide : (0 : Int) ≤ 1) g1) g2)
      exact loopNum b nl n' g0 (by omega) (by omega) _ m o rfl (by omega) (by omega) g5 (by simpa using g6)
    · cases h
  · unfold numF at h
    split at h
    · rename_i b nl n
      obtain ⟨hg, rfl⟩ := Tr.one h
      simp only [rw_se, Bool.and_eq_true, decide_eq_true_eq, bytesB_iff] at hg ⊢
      dsimp only [Ty.den] at hg
      obtain ⟨g0, g1, g2, g3⟩ := hg
      obtain ⟨n', rfl⟩ := Int.eq_ofNat_of_zero_le (Int.le_trans (by decide : (0 : Int) ≤ 1) g1)
      exact ⟨rfl, rfl, [], num_core b nl n' g0 (by omega) (by omega) (by omega)⟩
    · cases h

/-! The document's taking, by trying. -/
theorem numN_ub {n : Int} (h : goodN n = true) (r : List Int) : numN (ub n ++ r) (ub n).length = n := by
  rw [goodN_iff] at h
  unfold ub
  split
  · rfl
  · split
    · show numL ((192 + n / 64) % 32) [128 + n % 64] = n
      simp only [numL, List.foldl_cons, List.foldl_nil]
      omega
    · split
      · show numL ((224 + n / 4096) % 16) [128 + n / 64 % 64, 128 + n % 64] = n
        simp only [numL, List.foldl_cons, List.foldl_nil]
        omega
      · show numL ((240 + n / 262144) % 8) [128 + n / 4096 % 64, 128 + n / 64 % 64, 128 + n % 64] = n
        simp only [numL, List.foldl_cons, List.foldl_nil]
        omega

theorem try_some {b : List Int} {m : Nat} (h : tryB b m = true) : takeU b = some (numN b m, b.drop m) ∧ 1 ≤ m ∧ m ≤ b.length := by
  simp only [tryB, Bool.and_eq_true, decide_eq_true_eq] at h
  obtain ⟨⟨h1, h2⟩, h3, h4⟩ := h
  refine ⟨?_, h1, h2⟩
  have := takeU_ub h3 (b.drop m)
  rw [h4, List.take_append_drop] at this
  exact this
theorem try_of {b r : List Int} {n : Int} (hb : ∀ x ∈ b, 0 ≤ x ∧ x < 256) (h : takeU b = some (n, r)) : tryB b (ub n).length = true ∧ b.length = (ub n).length + r.length ∧ goodN n = true := by
  obtain ⟨h1, h2⟩ := takeU_some hb h
  have hn := numN_ub h1 r
  have hl : b.length = (ub n).length + r.length := by rw [h2, List.length_append]
  rw [← h2] at hn
  refine ⟨?_, hl, h1⟩
  simp only [tryB, Bool.and_eq_true, decide_eq_true_eq]
  refine ⟨⟨ub_pos n, by omega⟩, by rw [hn]; exact h1, ?_⟩
  rw [hn]
  conv => rhs; rw [h2]
  simp

def resT (b : List Int) : Ex × List X × Hp :=
  bif (takeU b).isSome then (.ret, [.dead, i64x (uN b), i64x (uL b), i64x 0, .dead], []) else (.exit 0, [.dead, .dead, .dead, .dead, .dead], [])
theorem loopRTake (b : List Int) (nl : Option Bool) (x y z : Int) (hy : ∀ x ∈ b, 0 ≤ x ∧ x < 256) : ∀ (q n : Nat), 5 - n = q → 1 ≤ n → n ≤ 5 → (∀ m, m < n → tryB b m = false) →
    LoopTo (Cx Ar.real (Out5 Ar.real) (LrTake Ar.real)) 100 (loopAt Tryd.f14 0) 34 [0, 2, 3, 4, 5] [u8s b nl false, i64x x, i64x y, i64x z, i64x n] [] (resT b) := by
  have no : ∀ n : Nat, (n = 5 ∨ b.length < n) → (∀ m, m < n → tryB b m = false) → takeU b = none := by
    intro n hn hm
    cases ht : takeU b with
    | none => rfl
    | some p =>
      obtain ⟨v, r⟩ := p
      obtain ⟨h1, h2, _⟩ := try_of hy ht
      have h4 := ub_le4 v
      have := hm (ub v).length (by omega)
      rw [h1] at this
      cases this
  have stop : ∀ n : Nat, (n = 5 ∨ b.length < n) → (∀ m, m < n → tryB b m = false) → resT b = (.exit 0, [.dead, .dead, .dead, .dead, .dead], []) := by
    intro n h1 h2
    unfold resT
    rw [no n h1 h2]
    rfl
  intro q
  induction q with
  | zero =>
    intro n h1 h2 h3 h4
    rw [stop n (by omega) h4]
    refine LoopTo.left (by simp) fun k => ?_
    rw [lRTake, bf (by rw [decide_eq_false (by omega)]; rfl)]
    exact ⟨_, rfl, forget_dead _ 5⟩
  | succ q ih =>
    intro n h1 h2 h3 h4
    have a1 : (decide ((n : Int) ≤ 4) == true) = true := by rw [decide_eq_true (by omega)]; rfl
    by_cases hl : n ≤ b.length
    · have w4 : Ar.real.wrap .i64 ((n : Int) + 1) = ((n + 1 : Nat) : Int) := by rw [rw_wrap, wi64 (by omega) (by omega)]; omega
      have a2 : decide ((n : Int) ≤ (b.length : Int)) = true := by rw [decide_eq_true_eq]; omega
      have a3 : (bytesB b && decide ((1 : Int) ≤ (n : Int) ∧ (n : Int) ≤ 4 ∧ (n : Int) ≤ (b.length : Int))) = true := by
        rw [bytesB_iff.2 hy, Bool.true_and, decide_eq_true_eq]; omega
      cases hg : goodN (numN b n) with
      | false =>
        refine LoopTo.next (fun k => ?_) (ih (n + 1) (by omega) (by omega) (by omega) (fun m hm => ?_))
        · rw [lRTake, bt a1, bt a2]
          simp only [rw_se, Int.toNat_natCast, w4]
          rw [bt a3, bf (by rw [hg]; rfl)]
        · by_cases e : m = n
          · subst e
            simp [tryB, hg]
          · exact h4 m (by omega)
      | true =>
        have hs : Ar.real.seq (strOf (ub (numN b n))) (strOf (b.take n)) = decide (ub (numN b n) = b.take n) := seq_str (ub_byts hg) (fun x hx => hy x (List.mem_of_mem_take hx))
        have a4 : decide ((0 : Int) ≤ (n : Int) ∧ (n : Int) ≤ (b.length : Int)) = true := by rw [decide_eq_true_eq]; omega
        by_cases he : ub (numN b n) = b.take n
        · have ht : tryB b n = true := by
            simp only [tryB, hg, he, Bool.and_eq_true, decide_eq_true_eq]
            exact ⟨⟨h2, hl⟩, trivial, trivial⟩
          obtain ⟨t1, _⟩ := try_some ht
          have r1 : uN b = numN b n := by simp [uN, t1]
          have r2 : uL b = n := by simp only [uL, t1, List.length_drop]; omega
          have : resT b = (.ret, [.dead, i64x (numN b n), i64x n, i64x 0, .dead], []) := by
            unfold resT
            rw [r1, r2, t1]
            rfl
          rw [this]
          refine LoopTo.left (by simp) fun k => ?_
          rw [lRTake, bt a1, bt a2]
          simp only [rw_se, Int.toNat_natCast]
          rw [bt a3, bt (by rw [hg]; rfl), bt hg, bt a4, bt (by rw [hs]; exact decide_eq_true he)]
          refine ⟨_, rfl, ?_⟩
          repeat' first | exact Forget.same _ | refine Forget.cons (.inl rfl) ?_ | refine Forget.cons (.inr rfl) ?_
        · refine LoopTo.next (fun k => ?_) (ih (n + 1) (by omega) (by omega) (by omega) (fun m hm => ?_))
          · rw [lRTake, bt a1, bt a2]
            simp only [rw_se, Int.toNat_natCast, w4]
            rw [bt a3, bt (by rw [hg]; rfl), bt hg, bt a4, bf (by rw [hs]; exact decide_eq_false he)]
          · by_cases e : m = n
            · subst e
              simp [tryB, he]
            · exact h4 m (by omega)
    · rw [stop n (by omega) h4]
      refine LoopTo.left (by simp) fun k => ?_
      rw [lRTake, bt a1, bf (by rw [decide_eq_false_iff_not]; omega)]
      exact ⟨_, rfl, forget_dead _ 5⟩

/-! One sign. -/
theorem takeU_asc {b : List Int} (h : ascB b = true) : takeU b = some (b.getD 0 0, b.drop 1) := by
  cases b with
  | nil => simp [ascB] at h
  | cons c r =>
    have : c < 128 := by simpa [ascB] using h
    simp [takeU, this]

theorem loopDec (b : List Int) (nl nl2 : Option Bool) (y z : Int) (hy : ∀ x ∈ b, 0 ≤ x ∧ x < 256) :
    LoopTo (Cx Ar.real (Out5 Ar.real) (Ldec Ar.real)) 100 (loopAt Tryd.f22 0) 22 [0, 2, 3, 6, 7, 8] [u8s b nl false, i32x y, i64x z, u8s b nl2 false, i64x b.length, i64x 0] []
      (bif ascB b then (.ret, [.dead, i32x (b.getD 0 0), i64x 1, .dead, .dead, .dead], []) else (.exit 0, [.sl (.int .u8) b nl false, .dead, .dead, .dead, .dead, .dead], [])) := by
  cases b with
  | nil =>
    refine LoopTo.left (by simp [ascB]) fun k => ?_
    rw [lDec, bf (by decide)]
    refine ⟨_, rfl, ?_⟩
    repeat' first | exact Forget.same _ | refine Forget.cons (.inl rfl) ?_ | refine Forget.cons (.inr rfl) ?_
  | cons c r =>
    have hx := hy c (by simp)
    have a1 : decide ((0 : Int) < ((c :: r).length : Int)) = true := by rw [decide_eq_true_eq, List.length_cons]; omega
    have a2 : decide ((0 : Int) ≤ 0 ∧ (0 : Int) < ((c :: r).length : Int)) = true := by rw [decide_eq_true_eq, List.length_cons]; omega
    have w : Ar.real.wrap .i32 c = c := by rw [rw_wrap, wi32 (by omega) (by omega)]
    by_cases hc : c < 128
    · have : ascB (c :: r) = true := by simp [ascB, hc]
      rw [this]
      refine LoopTo.left (by simp) fun k => ?_
      rw [lDec, bt a1, bt a2]
      simp only [show Int.toNat 0 = 0 from rfl, List.getD_cons_zero, w]
      rw [bt (decide_eq_true hc)]
      refine ⟨_, rfl, ?_⟩
      repeat' first | exact Forget.same _ | refine Forget.cons (.inl rfl) ?_ | refine Forget.cons (.inr rfl) ?_
    · have : ascB (c :: r) = false := by simp [ascB]; omega
      rw [this]
      refine LoopTo.left (by simp) fun k => ?_
      rw [lDec, bt a1, bt a2]
      simp only [show Int.toNat 0 = 0 from rfl, List.getD_cons_zero, w]
      rw [bf (decide_eq_false hc)]
      refine ⟨_, rfl, ?_⟩
      repeat' first | exact Forget.same _ | refine Forget.cons (.inl rfl) ?_ | refine Forget.cons (.inr rfl) ?_

end Go.Proofs.YtnjlfeigcappjaaDoor.V

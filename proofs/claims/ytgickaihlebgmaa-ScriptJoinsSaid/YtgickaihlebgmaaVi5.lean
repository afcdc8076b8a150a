/-
  Chapter 13, varint: sizes and puts do what they tell.
  It speaks of the pinned program alone; no condition.
-/
import Derived.Test.YtgickaihlebgmaaVi4
namespace Go.Proofs.Ytgickaihlebgmaa.V
open Go
set_option linter.unusedVariables false
set_option linter.unusedSimpArgs false

theorem tab_ok (y : Nat) (h : y < 256) : (bytesOf tab0).getD y 0 = (blen y : Int) := by
  have h1 : ((List.range 256).all fun y => (bytesOf tab0).getD y 0 == (blen y : Int)) = true := by kernel_rfl
  rw [List.all_eq_true] at h1
  simpa using h1 y (by simpa using h)
theorem tab_size : tab0.size = 256 := by kernel_rfl

theorem len64_ok : OrcOk Try.prog 27 (.pure (len64F Ar.real)) := by
  refine pureOk (Cx.ok OOk.none noL) mixed 27 Try.f27 (by kernel_rfl) (by kernel_rfl) (by kernel_rfl) 100 0 (by kernel_rfl) (fun i h => by omega) fun args r h => ?_
  unfold len64F at h
  split at h
  · rename_i n
    obtain ⟨hg, rfl⟩ := Tr.one h
    refine ⟨rfl, rfl, [], ?_⟩
    rw [tLen64]
    simp only [rw_se, isU64_iff] at hg
    obtain ⟨h1, h2⟩ := hg
    obtain ⟨m, rfl⟩ := Int.eq_ofNat_of_zero_le h1
    have fd := nfdiv
    have p32 : min (Int.toNat 32) 64 = 32 := by decide
    have p16 : min (Int.toNat 16) 64 = 16 := by decide
    have p8 : min (Int.toNat 8) 64 = 8 := by decide
    have last : ∀ (y : Nat) (a : Int), y < 256 → 0 ≤ a → a ≤ 100 → (bif decide ((0 : Int) ≤ IntKind.u8.wrap (y : Int) ∧ IntKind.u8.wrap (y : Int) < ((tab0.size : Nat) : Int)) then some (X.d (Ty.int IntKind.i64) (IntKind.i64.wrap (a + IntKind.i64.wrap ((bytesOf tab0).getD (IntKind.u8.wrap (y : Int)).toNat (0 : Int)))), ([] : Hp)) else none) = some (X.d (Ty.int IntKind.i64) (a + (blen y : Int)), []) := by
      intro y a hy ha hb
      have hbl : blen y ≤ 8 := blen_le.2 (by omega)
      rw [wu8 (by omega) (by omega), tab_size, Int.toNat_natCast, tab_ok y hy, wi64 (n := (blen y : Int)) (by omega) (by omega), wi64 (by omega) (by omega)]
      have : decide ((0 : Int) ≤ (y : Int) ∧ (y : Int) < ((256 : Nat) : Int)) = true := by simp; omega
      rw [this]; rfl
    have w1 : IntKind.i64.wrap ((32 : Int) + 16) = 48 := by decide
    have w2 : IntKind.i64.wrap ((48 : Int) + 8) = 56 := by decide
    have w3 : IntKind.i64.wrap ((32 : Int) + 8) = 40 := by decide
    have w4 : IntKind.i64.wrap ((0 : Int) + 16) = 16 := by decide
    have w5 : IntKind.i64.wrap ((16 : Int) + 8) = 24 := by decide
    have w6 : IntKind.i64.wrap ((0 : Int) + 8) = 8 := by decide
    have sh : ∀ (a k : Nat), 2 ^ k ≤ a → blen a = k + blen (a / 2 ^ k) := fun a k h => blen_shift h
    simp only [rw_wrap, rw_se, rw_p2, p32, p16, p8, fd, w1, w2, w3, w4, w5, w6]
    have c32 : (2 : Nat) ^ 32 = 4294967296 := by decide
    have c16 : (2 : Nat) ^ 16 = 65536 := by decide
    have c8 : (2 : Nat) ^ 8 = 256 := by decide
    have s32 := sh m 32
    have s16 := fun a => sh a 16
    have s8 := fun a => sh a 8
    rw [c32] at s32
    simp only [c16, c8] at s16 s8
    simp only [c32, c16, c8]
    have fin : ∀ x : Int, x = (blen m : Int) → (some (X.d (Ty.int IntKind.i64) x, ([] : Hp)) = some (i64x (blen m : Int), [])) := by rintro x rfl; rfl
    by_cases g1 : 4294967296 ≤ m
    · rw [bt (by rw [decide_eq_true_eq]; omega)]
      by_cases g2 : 65536 ≤ m / 4294967296
      · rw [bt (by rw [decide_eq_true_eq]; omega)]
        by_cases g3 : 256 ≤ m / 4294967296 / 65536
        · rw [bt (by rw [decide_eq_true_eq]; omega), last _ _ (by omega) (by omega) (by omega)]
          refine fin _ ?_
          rw [s32 g1, s16 _ g2, s8 _ g3]
          omega
        · rw [bf (by rw [decide_eq_false_iff_not]; omega), last _ _ (by omega) (by omega) (by omega)]
          refine fin _ ?_
          rw [s32 g1, s16 _ g2]
          omega
      · rw [bf (by rw [decide_eq_false_iff_not]; omega)]
        by_cases g3 : 256 ≤ m / 4294967296
        · rw [bt (by rw [decide_eq_true_eq]; omega), last _ _ (by omega) (by omega) (by omega)]
          refine fin _ ?_
          rw [s32 g1, s8 _ g3]
          omega
        · rw [bf (by rw [decide_eq_false_iff_not]; omega), last _ _ (by omega) (by omega) (by omega)]
          refine fin _ ?_
          rw [s32 g1]
          omega
    · rw [bf (by rw [decide_eq_false_iff_not]; omega)]
      by_cases g2 : 65536 ≤ m
      · rw [bt (by rw [decide_eq_true_eq]; omega)]
        by_cases g3 : 256 ≤ m / 65536
        · rw [bt (by rw [decide_eq_true_eq]; omega), last _ _ (by omega) (by omega) (by omega)]
          refine fin _ ?_
          rw [s16 _ g2, s8 _ g3]
          omega
        · rw [bf (by rw [decide_eq_false_iff_not]; omega), last _ _ (by omega) (by omega) (by omega)]
          refine fin _ ?_
          rw [s16 _ g2]
          omega
      · rw [bf (by rw [decide_eq_false_iff_not]; omega)]
        by_cases g3 : 256 ≤ m
        · rw [bt (by rw [decide_eq_true_eq]; omega), last _ _ (by omega) (by omega) (by omega)]
          refine fin _ ?_
          rw [s8 _ g3]
          omega
        · rw [bf (by rw [decide_eq_false_iff_not]; omega), last _ _ (by omega) (by omega) (by omega)]
          refine fin _ ?_
          omega
  · cases h

theorem blen_or (m : Nat) : blen (m ||| 1) = blen (max m 1) := by
  have key : ∀ k, blen (m ||| 1) ≤ k ↔ blen (max m 1) ≤ k := by
    intro k
    rw [blen_le, blen_le]
    constructor
    · intro h
      have h1 : m ≤ m ||| 1 := Nat.left_le_or
      have h2 : 1 ≤ m ||| 1 := Nat.right_le_or
      omega
    · intro h
      exact Nat.or_lt_two_pow (by omega) (by omega)
  have h1 := (key (blen (m ||| 1))).1 (Nat.le_refl _)
  have h2 := (key (blen (max m 1))).2 (Nat.le_refl _)
  omega

theorem o_vi1 : OOk (Ovi1 Ar.real) := o_cl.add len64_ok

theorem size_ok : OrcOk Try.prog 17 (.pure (sizeF Ar.real)) := by
  refine pureOk (Cx.ok o_vi1 noL) mixed 17 Try.f17 (by kernel_rfl) (by kernel_rfl) (by kernel_rfl) 100 0 (by kernel_rfl) (fun i h => by omega) fun args r h => ?_
  unfold sizeF at h
  split at h
  · rename_i n
    obtain ⟨hg, rfl⟩ := Tr.one h
    refine ⟨rfl, rfl, [], ?_⟩
    rw [tSize]
    simp only [rw_se, isU64_iff] at hg ⊢
    obtain ⟨h1, h2⟩ := hg
    obtain ⟨m, rfl⟩ := Int.eq_ofNat_of_zero_le h1
    have h3 : m < 18446744073709551616 := by omega
    have hor : Ar.real.bor 64 (m : Int) 1 = ((m ||| 1 : Nat) : Int) := bor_nat (b := 1) (by simpa using h3) (by decide)
    have hlt : m ||| 1 < 18446744073709551616 := Nat.or_lt_two_pow (n := 64) (by simpa using h3) (by decide)
    have hb : blen (max m 1) ≤ 64 := blen_le.2 (by simp; omega)
    have hl := vb_length m
    rw [rw_wrap, hor, wu64 (by omega) (by omega), bt (isU64_iff.2 ⟨by omega, by omega⟩)]
    simp only [rw_wrap, Int.toNat_natCast, blen_or]
    rw [wi64 (n := (blen (max m 1) : Int) + 7) (by omega) (by omega), wi64 (n := (blen (max m 1) : Int) + 7 - 1) (by omega) (by omega)]
    have ht : Int.tdiv ((blen (max m 1) : Int) + 7 - 1) 7 = (((blen (max m 1) + 6) / 7 : Nat) : Int) := by
      rw [Int.tdiv_eq_ediv_of_nonneg (by omega)]
      omega
    rw [ht, wi64 (by omega) (by omega), ← hl]
  · cases h

theorem oneG_ok (k : Nat) : OrcOk Try.prog 30 (.pure (oneG Ar.real k)) := by
  induction k with
  | zero =>
    refine ⟨fnOk (by kernel_rfl : Try.prog.funcs[30]? = some Try.f30) (by decide) (by kernel_rfl), fun args r h => ?_⟩
    replace h : (oneG Ar.real 0 args).run some = some r := h
    unfold oneG at h
    split at h
    · obtain ⟨hg, _⟩ := Tr.one h
      simp [rw_se] at hg
    · cases h
  | succ k ih =>
    have hO : OOk (OviG Ar.real k) := (o_vi1.add size_ok).add ih
    refine pureOk (Cx.ok hO noL) mixed 30 Try.f30 (by kernel_rfl) (by kernel_rfl) (by kernel_rfl) 100 0 (by kernel_rfl) (fun i h => by omega) fun args r h => ?_
    unfold oneG at h
    split at h
    · rename_i n
      obtain ⟨hg, rfl⟩ := Tr.one h
      refine ⟨rfl, rfl, [], ?_⟩
      rw [tOne]
      simp only [rw_se, Bool.and_eq_true, decide_eq_true_eq, isU64_iff] at hg ⊢
      obtain ⟨⟨h1, h2⟩, hk⟩ := hg
      obtain ⟨m, rfl⟩ := Int.eq_ofNat_of_zero_le h1
      simp only [Int.toNat_natCast] at hk ⊢
      by_cases hs : m < 128
      · rw [bt (by rw [decide_eq_true_eq]; omega), vb_small hs, rw_wrap, wu8 (by omega) (by omega)]
      · have e1 : Ar.real.wrap .u64 (Int.tdiv (m : Int) 128) = ((m / 128 : Nat) : Int) := by
          rw [rw_wrap, Int.tdiv_eq_ediv_of_nonneg (by omega), wu64 (by omega) (by omega)]
          omega
        have e2 : Ar.real.wrap .u8 (Ar.real.wrap .u64 (128 + Int.tmod (m : Int) 128)) = ((m % 128 + 128 : Nat) : Int) := by
          rw [rw_wrap, rw_wrap, Int.tmod_eq_emod_of_nonneg (by omega), wu64 (by omega) (by omega), wu8 (by omega) (by omega)]
          omega
        have hlen := vb_len_le (n := m / 128) (by omega)
        rw [bf (by rw [decide_eq_false_iff_not]; omega), e1, e2, bt (by rw [Bool.and_eq_true, isU64_iff, decide_eq_true_eq]; simp only [Int.toNat_natCast]; omega), bt (by rw [decide_eq_true_eq]; simp only [Int.toNat_natCast, List.length_singleton]; omega)]
        rw [vb_big (n := m) (by omega)]
        simp only [Int.toNat_natCast, Bool.false_and, List.singleton_append]
    · cases h

theorem one_ok : OrcOk Try.prog 30 (.pure (oneF Ar.real)) := by
  refine PureOk.union (oneG_ok 0).1 fun args r h => ?_
  unfold oneF at h
  split at h
  · rename_i n
    refine ⟨_, oneG_ok (n.toNat + 1), ?_⟩
    obtain ⟨hg, rfl⟩ := Tr.one h
    simp only [rw_se] at hg
    unfold oneG
    simp only [rw_se, hg]
    simp [Tr.run]
  · cases h

theorem o_vi3 : OOk (Ovi3 Ar.real) := (o_vi1.add size_ok).add one_ok

theorem refPut_ok : OrcOk Try.prog 24 (.pure (putF Ar.real)) := by
  refine pureOk (Cx.ok o_vi3 noL) mixed 24 Try.f24 (by kernel_rfl) (by kernel_rfl) (by kernel_rfl) 100 0 (by kernel_rfl) (fun i h => by omega) fun args r h => ?_
  unfold putF at h
  split at h
  · rename_i b nl n
    obtain ⟨hg, rfl⟩ := Tr.one h
    refine ⟨rfl, rfl, [], ?_⟩
    rw [tRefPut]
    simp only [rw_se, Bool.and_eq_true, decide_eq_true_eq] at hg ⊢
    obtain ⟨hu, hb, hn⟩ := hg
    have h1 := isU64_iff.1 hu
    have hlen := vb_len_le (n := n.toNat) (by omega)
    rw [bt (by rw [decide_eq_true_eq]; omega), bt hu, bt (by rw [decide_eq_true_eq]; simp; omega)]
    simp
  · cases h


theorem vb_last_small (n : Nat) (h : n < 128) : (vb n).dropLast = [] ∧ (vb n).getLast?.getD 0 = (n : Int) := by rw [vb_small h]; simp
theorem vb_drop_big (n : Nat) (h : 128 ≤ n) : (vb n).dropLast = ((n % 128 + 128 : Nat) : Int) :: (vb (n / 128)).dropLast ∧ (vb n).getLast?.getD 0 = (vb (n / 128)).getLast?.getD 0 := by
  rw [vb_big h]
  have := vb_ne (n / 128)
  cases hv : vb (n / 128) with
  | nil => exact absurd hv this
  | cons a l => simp [List.dropLast]
theorem vb_join (n : Nat) : (vb n).dropLast ++ [(vb n).getLast?.getD 0] = vb n := by
  have := vb_ne n
  rw [List.getLast?_eq_some_getLast this]
  simp [List.dropLast_concat_getLast]

theorem or128 : ∀ r, r < 256 → r ||| 128 = r % 128 + 128 := by
  have h : ((List.range 256).all fun r => r ||| 128 == r % 128 + 128) = true := by kernel_rfl
  intro r hr
  simpa using (List.all_eq_true.1 h) r (by simpa using hr)

theorem loop10 : ∀ (m : Nat) (b : List Int) (nl : Bool) (l i : Int), m < 18446744073709551616 → 0 ≤ i → l = i + (vb m).length - 1 → l ≤ 10 → b.length + (vb m).length ≤ 1000000000 →
    LoopTo (Cx Ar.real (Ovi3 Ar.real) (L10 Ar.real)) 100 (loopAt Try.f29 0) 27 [1, 5, 10, 11] [u64x m, u8s b (some nl) true, i64x l, i64x i] []
      (.exit 0, [u64x ((vb m).getLast?.getD 0), u8s (b ++ (vb m).dropLast) (some (nl && (vb m).dropLast.isEmpty)) true, i64x l, i64x l], []) := by
  intro m
  induction m using Nat.strongRecOn with
  | _ m ih =>
    intro b nl l i hm hi hl hl2 hb
    by_cases hs : m < 128
    · have hlen : (vb m).length = 1 := by rw [vb_small hs]; rfl
      have e : i = l := by omega
      subst e
      obtain ⟨d1, d2⟩ := vb_last_small m hs
      refine LoopTo.done (by simp) fun k => ?_
      rw [lPut, bf (by rw [decide_eq_false_iff_not]; omega), d1, d2]
      simp
    · have hlen : (vb m).length = (vb (m / 128)).length + 1 := by rw [vb_big (by omega)]; rfl
      have hp := vb_len_pos (m / 128)
      obtain ⟨d1, d2⟩ := vb_drop_big m (by omega)
      have hb8 : Ar.real.wrap .u8 (Ar.real.bor 8 (Ar.real.wrap .u8 (m : Int)) 128) = ((m % 128 + 128 : Nat) : Int) := by
        have h1 : Ar.real.wrap .u8 (m : Int) = ((m % 256 : Nat) : Int) := by
          rw [rw_wrap, IntKind.wrap_u8]; omega
        rw [h1, show (128 : Int) = ((128 : Nat) : Int) from rfl, bor_nat (n := 8) (by omega) (by decide), or128 _ (by omega), rw_wrap, wu8 (by omega) (by omega)]
        omega
      have hsh : Int.fdiv (m : Int) (Ar.real.p2 7 64) = ((m / 128 : Nat) : Int) := by
        rw [rw_p2, show min (Int.toNat 7) 64 = 7 from rfl, nfdiv]
      have hi1 : Ar.real.wrap .i64 (i + 1) = i + 1 := by rw [rw_wrap, wi64 (by omega) (by omega)]
      have step := ih (m / 128) (by omega) (b ++ [((m % 128 + 128 : Nat) : Int)]) false l (i + 1) (by omega) (by omega) (by omega) hl2 (by simp; omega)
      rw [d1, d2]
      have e1 : b ++ ((m % 128 + 128 : Nat) : Int) :: (vb (m / 128)).dropLast = b ++ [((m % 128 + 128 : Nat) : Int)] ++ (vb (m / 128)).dropLast := by simp
      rw [e1]
      have e2 : (nl && (((m % 128 + 128 : Nat) : Int) :: (vb (m / 128)).dropLast).isEmpty) = (false && (vb (m / 128)).dropLast.isEmpty) := by simp
      rw [e2]
      refine LoopTo.next (fun k => ?_) step
      rw [lPut, bt (by rw [decide_eq_true_eq]; omega), bt (by rw [decide_eq_true_eq]; simp; omega), hb8, hsh, hi1]
      simp

theorem put_ok : OrcOk Try.prog 29 (.pure (putF Ar.real)) := by
  refine pureOk (Cx.ok o_vi3 (L10 Ar.real)) mixed 29 Try.f29 (by kernel_rfl) (by kernel_rfl) (by kernel_rfl) 100 1 (by kernel_rfl) (fun i h => ?_) fun args r h => ?_
  · obtain rfl : i = 0 := by omega
    refine Tells.mk (key := 3) (N := 27) (ks := [1, 5, 10, 11]) (F := L10F Ar.real) (by kernel_rfl) rfl fun xs H r h => ?_
    unfold L10F at h
    split at h
    · rename_i n b nl l i
      obtain ⟨hg, rfl⟩ := Tr.one h
      simp only [rw_se, Bool.and_eq_true, decide_eq_true_eq, isU64_iff] at hg ⊢
      obtain ⟨⟨h1, h2⟩, ⟨h3, h4, h5⟩, h6⟩ := hg
      obtain ⟨m, rfl⟩ := Int.eq_ofNat_of_zero_le h1
      simp only [Int.toNat_natCast] at *
      exact loop10 m b nl l i (by omega) h3 h4 h5 h6
    · cases h
  · unfold putF at h
    split at h
    · rename_i b nl n
      obtain ⟨hg, rfl⟩ := Tr.one h
      refine ⟨rfl, rfl, [], ?_⟩
      rw [tPut]
      simp only [rw_se, Bool.and_eq_true, decide_eq_true_eq] at hg ⊢
      obtain ⟨hu, hb, hn⟩ := hg
      have h1 := isU64_iff.1 hu
      obtain ⟨m, rfl⟩ := Int.eq_ofNat_of_zero_le h1.1
      simp only [Int.toNat_natCast] at *
      have hlen := vb_len_le (n := m) (by omega)
      have hpos := vb_len_pos m
      have hlast : (vb m).getLast?.getD 0 ∈ vb m := by
        rw [List.getLast?_eq_some_getLast (vb_ne m)]
        exact List.getLast_mem _
      have hbyte := vb_byte m _ hlast
      have hw : Ar.real.wrap .u8 ((vb m).getLast?.getD 0) = (vb m).getLast?.getD 0 := by rw [rw_wrap, wu8 hbyte.1 hbyte.2]
      have hw2 : Ar.real.wrap .i64 (((vb m).length : Int) - 1) = ((vb m).length : Int) - 1 := by rw [rw_wrap, wi64 (by omega) (by omega)]
      rw [bt (by simp only [Bool.and_eq_true, decide_eq_true_eq]; exact ⟨by omega, hn⟩), bt hu]
      simp only [hw, hw2]
      rw [bt (by simp only [Bool.and_eq_true, decide_eq_true_eq]; exact ⟨hu, ⟨Int.le_refl _, by omega, by omega⟩, by omega⟩), bt (by rw [decide_eq_true_eq]; simp; omega)]
      simp only [List.append_assoc, vb_join]
      simp
    · cases h

theorem o_vi4 : OOk (Ovi4 Ar.real) := (o_vi3.add put_ok).add refPut_ok


end Go.Proofs.Ytgickaihlebgmaa.V

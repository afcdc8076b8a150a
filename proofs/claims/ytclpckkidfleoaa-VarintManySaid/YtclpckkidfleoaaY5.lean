/-
  Chapter 13's program: the functions that call few others do what they tell.
  It speaks of the pinned program alone; no condition.
-/
import Derived.Test.YtclpckkidfleoaaY4
import Derived.IntWalk
namespace Go.Proofs.Ytclpckkidfleoaa.V
open Go
set_option linter.unusedVariables false
set_option linter.unusedSimpArgs false

theorem rw_wrap (k : IntKind) (n : Int) : Ar.real.wrap k n = k.wrap n := Eq.trans rfl rfl
theorem rw_se {α : Type} (x : α) : Ar.real.se x = x := Eq.trans rfl rfl
theorem rw_p2 (b : Int) (n : Nat) : Ar.real.p2 b n = 2 ^ (min (Int.toNat b) n) := Eq.trans rfl rfl
theorem rw_seq (a b : ByteArray) : Ar.real.seq a b = (a.toList == b.toList) := Eq.trans rfl rfl

theorem wu64 {n : Int} (h0 : 0 ≤ n) (h1 : n < 18446744073709551616) : IntKind.u64.wrap n = n := IntWalk.u64_in n ⟨h0, by omega⟩
theorem wu8 {n : Int} (h0 : 0 ≤ n) (h1 : n < 256) : IntKind.u8.wrap n = n := IntWalk.u8_in n ⟨h0, by omega⟩
theorem wi64 {n : Int} (h0 : -9223372036854775808 ≤ n) (h1 : n < 9223372036854775808) : IntKind.i64.wrap n = n := IntWalk.i64_in n ⟨h0, by omega⟩

theorem bt {α : Type} {c : Bool} {a b : α} (h : c = true) : (bif c then a else b) = a := by rw [h]; rfl
theorem bf {α : Type} {c : Bool} {a b : α} (h : c = false) : (bif c then a else b) = b := by rw [h]; rfl
theorem nfdiv (a b : Nat) : Int.fdiv (a : Int) (2 ^ b) = ((a / 2 ^ b : Nat) : Int) := by
  have h : ((2 : Int) ^ b) = ((2 ^ b : Nat) : Int) := by simp
  rw [h]
  exact Int.ofNat_fdiv a (2 ^ b) |>.symm

theorem clone_ok : OrcOk Try.prog 14 (.pure (cloneF Ar.real)) := by
  refine pureOk (Cx.ok OOk.none noL) mixed 14 Try.f14 (by kernel_rfl) (by kernel_rfl) (by kernel_rfl) 100 0 (by kernel_rfl) (fun i h => by omega) fun args r h => ?_
  unfold cloneF at h
  split at h
  · rename_i b nl
    obtain ⟨hg, rfl⟩ := Tr.one h
    refine ⟨rfl, rfl, [], ?_⟩
    rw [t14]
    simp only [rw_se, Bool.and_eq_true, decide_eq_true_eq] at hg
    obtain ⟨h1, h2⟩ := hg
    cases nl
    · rw [bf rfl, bt (by simp; omega)]
      simp [u8s]
    · simp at h2
      simp [h2]
  · cases h

theorem tab_ok (y : Nat) (h : y < 256) : (bytesOf tab0).getD y 0 = (blen y : Int) := by
  have h1 : ((List.range 256).all fun y => (bytesOf tab0).getD y 0 == (blen y : Int)) = true := by kernel_rfl
  rw [List.all_eq_true] at h1
  simpa using h1 y (by simpa using h)
theorem tab_size : tab0.size = 256 := by kernel_rfl

theorem len64_ok : OrcOk Try.prog 16 (.pure (len64F Ar.real)) := by
  refine pureOk (Cx.ok OOk.none noL) mixed 16 Try.f16 (by kernel_rfl) (by kernel_rfl) (by kernel_rfl) 100 0 (by kernel_rfl) (fun i h => by omega) fun args r h => ?_
  unfold len64F at h
  split at h
  · rename_i n
    obtain ⟨hg, rfl⟩ := Tr.one h
    refine ⟨rfl, rfl, [], ?_⟩
    rw [t16]
    simp only [rw_se, isU64_iff] at hg
    obtain ⟨h1, h2⟩ := hg
    obtain ⟨m, rfl⟩ := Int.eq_ofNat_of_zero_le h1
    have fd := nfdiv
    have p32 : min (Int.toNat 32) 64 = 32 := by decide
    have p16 : min (Int.toNat 16) 64 = 16 := by decide
    have p8 : min (Int.toNat 8) 64 = 8 := by decide
    have last : ∀ (y : Nat) (a : Int), y < 256 → 0 ≤ a → a ≤ 100 → (bif decide ((0 : Int) ≤ IntKind.u8.wrap (y : Int) ∧ IntKind.u8.wrap (y : Int) < ((tab0.size : Nat) : Int)) then some (X.d (Ty.int IntKind.i64) (IntKind.i64.wrap (a + IntKind.i64.wrap ((bytesOf tab0).getD (IntKind.u8.wrap (y : Int)).toNat (0 : Int)))), ([] : Hp)) else none) = some (X.d (Ty.int IntKind.i64) (a + (blen y : Int)), []) := by
      intro y a hy ha hb
      have hbl : blen y ≤ 8 := blen_le.2 (by omega)
      rw [wu8 (by omega) (by omega), tab_size, Int.toNat_natCast, tab_ok y hy, wi64 (n := (blen y : Int)) (by omega) (by omega), wi64 (by omega) (by omega)]
      have : decide ((0 : Int) ≤ (y : Int) ∧ (y : Int) < ((256 : Nat) : Int)) = true := by simp; omega
      rw [this]; rfl
    have w1 : IntKind.i64.wrap ((32 : Int) + 16) = 48 := by decide
    have w2 : IntKind.i64.wrap ((48 : Int) + 8) = 56 := by decide
    have w3 : IntKind.i64.wrap ((32 : Int) + 8) = 40 := by decide
    have w4 : IntKind.i64.wrap ((0 : Int) + 16) = 16 := by decide
    have w5 : IntKind.i64.wrap ((16 : Int) + 8) = 24 := by decide
    have w6 : IntKind.i64.wrap ((0 : Int) + 8) = 8 := by decide
    have sh : ∀ (a k : Nat), 2 ^ k ≤ a → blen a = k + blen (a / 2 ^ k) := fun a k h => blen_shift h
    simp only [rw_wrap, rw_se, rw_p2, p32, p16, p8, fd, w1, w2, w3, w4, w5, w6]
    have c32 : (2 : Nat) ^ 32 = 4294967296 := by decide
    have c16 : (2 : Nat) ^ 16 = 65536 := by decide
    have c8 : (2 : Nat) ^ 8 = 256 := by decide
    have s32 := sh m 32
    have s16 := fun a => sh a 16
    have s8 := fun a => sh a 8
    rw [c32] at s32
    simp only [c16, c8] at s16 s8
    simp only [c32, c16, c8]
    have fin : ∀ x : Int, x = (blen m : Int) → (some (X.d (Ty.int IntKind.i64) x, ([] : Hp)) = some (i64x (blen m : Int), [])) := by rintro x rfl; rfl
    by_cases g1 : 4294967296 ≤ m
    · rw [bt (by rw [decide_eq_true_eq]; omega)]
      by_cases g2 : 65536 ≤ m / 4294967296
      · rw [bt (by rw [decide_eq_true_eq]; omega)]
        by_cases g3 : 256 ≤ m / 4294967296 / 65536
        · rw [bt (by rw [decide_eq_true_eq]; omega), last _ _ (by omega) (by omega) (by omega)]
          refine fin _ ?_
          rw [s32 g1, s16 _ g2, s8 _ g3]
          omega
        · rw [bf (by rw [decide_eq_false_iff_not]; omega), last _ _ (by omega) (by omega) (by omega)]
          refine fin _ ?_
          rw [s32 g1, s16 _ g2]
          omega
      · rw [bf (by rw [decide_eq_false_iff_not]; omega)]
        by_cases g3 : 256 ≤ m / 4294967296
        · rw [bt (by rw [decide_eq_true_eq]; omega), last _ _ (by omega) (by omega) (by omega)]
          refine fin _ ?_
          rw [s32 g1, s8 _ g3]
          omega
        · rw [bf (by rw [decide_eq_false_iff_not]; omega), last _ _ (by omega) (by omega) (by omega)]
          refine fin _ ?_
          rw [s32 g1]
          omega
    · rw [bf (by rw [decide_eq_false_iff_not]; omega)]
      by_cases g2 : 65536 ≤ m
      · rw [bt (by rw [decide_eq_true_eq]; omega)]
        by_cases g3 : 256 ≤ m / 65536
        · rw [bt (by rw [decide_eq_true_eq]; omega), last _ _ (by omega) (by omega) (by omega)]
          refine fin _ ?_
          rw [s16 _ g2, s8 _ g3]
          omega
        · rw [bf (by rw [decide_eq_false_iff_not]; omega), last _ _ (by omega) (by omega) (by omega)]
          refine fin _ ?_
          rw [s16 _ g2]
          omega
      · rw [bf (by rw [decide_eq_false_iff_not]; omega)]
        by_cases g3 : 256 ≤ m
        · rw [bt (by rw [decide_eq_true_eq]; omega), last _ _ (by omega) (by omega) (by omega)]
          refine fin _ ?_
          rw [s8 _ g3]
          omega
        · rw [bf (by rw [decide_eq_false_iff_not]; omega), last _ _ (by omega) (by omega) (by omega)]
          refine fin _ ?_
          omega
  · cases h

end Go.Proofs.Ytclpckkidfleoaa.V

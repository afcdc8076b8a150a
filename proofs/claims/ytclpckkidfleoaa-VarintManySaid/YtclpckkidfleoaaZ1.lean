/-
  Chapter 13's program: the calls at the head of its statements answer as the document says; the statement on sizes.
  It speaks of the pinned program alone; no condition.
-/
import Derived.Test.YtclpckkidfleoaaY9
import Derived.Test.YtclpckkidfleoaaY6
namespace Go.Proofs.Ytclpckkidfleoaa.V
open Go
set_option linter.unusedVariables false
set_option linter.unusedSimpArgs false

theorem vb127 : vb 127 = [127] := by rw [vb_small (by decide)]; rfl
theorem vb128 : vb 128 = [128, 1] := by rw [vb_big (by decide), vb_small (by decide)]; rfl
theorem vb300 : vb 300 = [172, 2] := by rw [vb_big (by decide), vb_small (by decide)]; rfl
theorem vbmax : vb 18446744073709551615 = [255, 255, 255, 255, 255, 255, 255, 255, 255, 1] := by
  rw [vb_big (by decide), vb_big (by decide), vb_big (by decide), vb_big (by decide), vb_big (by decide), vb_big (by decide), vb_big (by decide), vb_big (by decide), vb_big (by decide), vb_small (by decide)]; rfl
theorem tk300 : takeV [172, 2, 9] = some (300, [9]) := takeV_some.2 ⟨by decide, by rw [vb300]; rfl⟩
theorem tkmax : takeV [255, 255, 255, 255, 255, 255, 255, 255, 255, 1] = some (18446744073709551615, []) := takeV_some.2 ⟨by decide, by rw [vbmax]; rfl⟩
theorem tk128 : takeV [128, 0] = none := by
  have : dec [128, 0] = some (0, []) := by decide
  unfold takeV
  rw [this]
  simp only
  rw [if_neg]
  rintro ⟨_, h⟩
  rw [vb_small (by decide)] at h
  simp at h
theorem tk200 : takeV [200] = none := by
  have : dec [200] = none := by decide
  unfold takeV
  rw [this]

theorem awake_ok : OrcOk Try.prog 7 (.pure awakeF) := by
  refine pureOk (Cx.ok o9 noL) mixed 7 Try.f7 (by kernel_rfl) (by kernel_rfl) (by kernel_rfl) 100 0 (by kernel_rfl) (fun i h => by omega) fun args r h => ?_
  unfold awakeF at h
  split at h
  · cases h
    refine ⟨rfl, rfl, [], ?_⟩
    rw [t7]
    have l2 : ({ data := #[(172 : UInt8), (2 : UInt8)] } : ByteArray) = strOf [172, 2] := rfl
    have l9 : ({ data := #[(9 : UInt8)] } : ByteArray) = strOf [9] := rfl
    have n300 : Int.toNat 300 = 300 := rfl
    have n127 : Int.toNat 127 = 127 := rfl
    have n128 : Int.toNat 128 = 128 := rfl
    have nmax : Int.toNat 18446744073709551615 = 18446744073709551615 := rfl
    simp only [rw_se, l2, l9, n300, n127, n128, nmax, vb127, vb128, vb300, vbmax, tkN, tkR, tkE, tkB, tk300, tkmax, tk128, tk200, List.nil_append]
    rw [seq_str (by decide) (by decide), seq_str (by decide) (by decide)]
    rfl
  · cases h

theorem o7 : OOk (O7 Ar.real) := o9.add awake_ok

/-- What a statement's function is owed: true, whatever it is given. -/
def LawF (g : List X → Bool) : List X → Tr X := fun args => .test (g args) (.give (boolx true)) .no

def gSizes : List X → Bool
  | [.d (.int .u64) a, .d (.int .u64) b] => isU64 a && isU64 b
  | _ => false

theorem sizes_core (a b : Int) (ha : isU64 a = true) (hb : isU64 b = true) : bodyX (Cx Ar.real (O7 Ar.real) noL) 200 Try.f5 [u64x a, u64x b] [] = some (boolx true, []) := by
  rw [t5]
  simp only [rw_se]
  have ha' := isU64_iff.1 ha
  have hb' := isU64_iff.1 hb
  have hmin : isU64 (if b < a then b else a) = true := by split <;> assumption
  have hmax : isU64 (if b > a then b else a) = true := by split <;> assumption
  have hle : ((vb (Int.toNat (if b < a then b else a))).length : Int) ≤ ((vb (Int.toNat (if b > a then b else a))).length : Int) := by
    have := vb_len_mono (a := Int.toNat (if b < a then b else a)) (b := Int.toNat (if b > a then b else a)) (by split <;> split <;> omega)
    omega
  have h10 := vb_len_le (n := a.toNat) (by omega)
  have h1 := vb_len_pos a.toNat
  have c1 : (decide (((vb (Int.toNat (if b < a then b else a))).length : Int) ≤ ((vb (Int.toNat (if b > a then b else a))).length : Int)) == true) = true := by simpa using hle
  have c2 : (decide (((vb a.toNat).length : Int) ≥ 1) == true) = true := by simp; omega
  have c3 : (decide (((vb a.toNat).length : Int) ≤ 10) == true) = true := by simp; omega
  by_cases h0 : a = 0
  · rw [bf (by simp [h0]), bt hmin, bt hmax, bt c1, bt ha, bt c2, bt ha, bt c3]
  · rw [bt (by simp [h0])]
    by_cases h2 : a ≥ 144115188075855872
    · rw [bf (by simp; omega), bt hmin, bt hmax, bt c1, bt ha, bt c2, bt ha, bt c3]
    · have hw : Ar.real.wrap .u64 (a * 128) = a * 128 := by rw [rw_wrap, wu64 (by omega) (by omega)]
      have hlen : (vb (a * 128).toNat).length = (vb a.toNat).length + 1 := by
        rw [vb_big (by omega), List.length_cons]
        congr 3
        omega
      have hw2 : Ar.real.wrap .i64 (((vb a.toNat).length : Int) + 1) = ((vb a.toNat).length : Int) + 1 := by rw [rw_wrap, wi64 (by omega) (by omega)]
      rw [bt (by simp; omega)]
      simp only [hw, hw2, hlen]
      rw [bt (isU64_iff.2 ⟨by omega, by omega⟩), bt ha, bt hmin, bt hmax, bt c1, bt ha, bt c2, bt ha, bt c3]
      simp

theorem sizes_ok : OrcOk Try.prog 5 (.pure (LawF gSizes)) := by
  refine pureOk (Cx.ok o7 noL) mixed 5 Try.f5 (by kernel_rfl) (by kernel_rfl) (by kernel_rfl) 200 0 (by kernel_rfl) (fun i h => by omega) fun args r h => ?_
  obtain ⟨hg, rfl⟩ := Tr.one h
  clear h
  unfold gSizes at hg
  split at hg
  · rename_i a b
    simp only [Bool.and_eq_true] at hg
    exact ⟨rfl, rfl, [], sizes_core a b hg.1 hg.2⟩
  · cases hg

end Go.Proofs.Ytclpckkidfleoaa.V

/-
  Chapter 13's program: what was put is taken.
  It speaks of the pinned program alone; no condition.
-/
import Derived.Test.YtclpckkidfleoaaZ3
namespace Go.Proofs.Ytclpckkidfleoaa.V
open Go
set_option linter.unusedVariables false
set_option linter.unusedSimpArgs false

theorem strOf_append (xs ys : List Int) : strOf xs ++ strOf ys = strOf (xs ++ ys) := by
  apply ByteArray.ext
  simp [strOfNums]

theorem take_cut (m j : Nat) (h : j < (vb m).length) : takeV ((vb m).take j) = none := by
  cases hv : takeV ((vb m).take j) with
  | none => rfl
  | some p =>
    obtain ⟨v, r⟩ := p
    obtain ⟨h1, h2⟩ := takeV_some.1 hv
    exfalso
    have h3 : vb m = vb v ++ (r ++ (vb m).drop j) := by
      rw [← List.append_assoc, ← h2, List.take_append_drop]
    have h4 := dec_vb m []
    rw [List.append_nil, h3, dec_vb] at h4
    simp only [Option.some.injEq, Prod.mk.injEq, List.append_eq_nil_iff, List.drop_eq_nil_iff] at h4
    omega

def gBack : List X → Bool
  | [.d (.int .u64) n, .sl (.int .u8) b (some nl) false, .d (.int .u8) c] => isU64 n && (bytesB b && ((!nl || b.isEmpty) && decide ((0 : Int) ≤ c ∧ c < (256 : Int))))
  | _ => false

theorem back_core (n : Int) (b : List Int) (nl : Bool) (c : Int) (hu : isU64 n = true) (hy : bytesB b = true) (hn : (!nl || b.isEmpty) = true) (hc : 0 ≤ c ∧ c < 256) :
    bodyX (Cx Ar.real (O7 Ar.real) noL) 200 Try.f4 [u64x n, u8s b (some nl) false, u8x c] [] = some (boolx true, []) := by
  rw [t4]
  by_cases hb : b.length > 1000
  · rw [bt (by rw [decide_eq_true_eq]; omega)]
  · rw [bf (by rw [decide_eq_false_iff_not]; omega)]
    have hu' := isU64_iff.1 hu
    obtain ⟨m, rfl⟩ := Int.eq_ofNat_of_zero_le hu'.1
    have hm : m < 18446744073709551616 := by omega
    have hy' := bytesB_iff.1 hy
    have hl := vb_len_le hm
    have hp := vb_len_pos m
    obtain ⟨cn, rfl⟩ := Int.eq_ofNat_of_zero_le hc.1
    have wc : Ar.real.wrap .i64 (cn : Int) = (cn : Int) := by rw [rw_wrap, wi64 (by omega) (by omega)]
    have tm : Int.tmod (cn : Int) ((vb m).length : Int) = ((cn % (vb m).length : Nat) : Int) := by
      rw [Int.tmod_eq_emod_of_nonneg (by omega)]; omega
    have hj : cn % (vb m).length < (vb m).length := Nat.mod_lt _ (by omega)
    have hcut := take_cut m _ hj
    have htk := takeV_vb hm b
    have e1 : tkE (vb m ++ b) = 0 := by simp [tkE, tkB, htk]
    have e2 : tkN (vb m ++ b) = (m : Int) := by simp [tkN, htk]
    have e3 : tkR (vb m ++ b) = b := by simp [tkR, htk]
    have e4 : tkE ((vb m).take (cn % (vb m).length)) = 130 := by simp [tkE, tkB, hcut]
    have hyP : bytesB (vb m ++ b) = true := bytesB_iff.2 fun x hx => by
      rcases List.mem_append.1 hx with hx | hx
      · exact vb_byte m x hx
      · exact hy' x hx
    have hyC : bytesB ((vb m).take (cn % (vb m).length)) = true := bytesB_iff.2 fun x hx => vb_byte m x (List.mem_of_mem_take hx)
    have d0 : decide ((0 : Nat) ≤ 100000) = true := by decide
    have d1 : decide (b.length ≤ 100000) = true := by rw [decide_eq_true_eq]; omega
    have d2 : decide ((vb m ++ b).length ≤ 100000) = true := by rw [decide_eq_true_eq, List.length_append]; omega
    have d3 : decide (((vb m).take (cn % (vb m).length)).length ≤ 100000) = true := by rw [decide_eq_true_eq, List.length_take]; omega
    have d4 : decide ((0 + (vb m).length) * 1 ≤ 140737488355328) = true := by rw [decide_eq_true_eq]; omega
    have d5 : decide (((vb m).length + b.length) * 1 ≤ 140737488355328) = true := by rw [decide_eq_true_eq]; omega
    have d6 : (((vb m).length : Int) == 0) = false := by simpa using vb_ne m
    have d7 : decide (((vb m).length : Int) = 0) = false := by rw [decide_eq_false_iff_not]; omega
    have d8 : decide ((0 : Int) ≤ ((cn % (vb m).length : Nat) : Int) ∧ ((cn % (vb m).length : Nat) : Int) ≤ ((vb m).length : Int)) = true := by rw [decide_eq_true_eq]; omega
    simp only [rw_se, List.nil_append, Int.toNat_natCast, hu, hy, hn, wc, tm, e1, e2, e3, e4, hyP, hyC, d0, d1, d2, d3, d4, d5, d6, d7, d8, seq_self, Bool.false_and, Bool.not_false, Bool.true_or, Bool.and_self, Bool.not_true, Bool.or_true, cond_true, cond_false, beq_self_eq_true, Bool.true_and]
    have hne : (tkE b != 0) = !tkB b := by
      unfold tkE
      cases tkB b <;> rfl
    rw [hne]
    cases hv : takeV b with
    | none =>
      have : tkB b = false := by simp [tkB, hv]
      rw [this]
      rfl
    | some p =>
      obtain ⟨v, r⟩ := p
      obtain ⟨h1, h2⟩ := takeV_some.1 hv
      have q1 : tkB b = true := by simp [tkB, hv]
      have q2 : tkN b = (v : Int) := by simp [tkN, hv]
      have q3 : tkR b = r := by simp [tkR, hv]
      have q4 : isU64 (v : Int) = true := isU64_iff.2 ⟨by omega, by omega⟩
      have hlv := vb_len_le h1
      have hbl : b.length = (vb v).length + r.length := by rw [h2]; simp
      rw [q1, q2, q3, q4, Int.toNat_natCast, strOf_append, ← h2, strOfNums_size, strOfNums_size, seq_self]
      have d9 : decide ((vb v).length + r.length ≤ 9223372036854775807) = true := by rw [decide_eq_true_eq]; omega
      rw [d9]
      rfl

theorem back_ok : OrcOk Try.prog 4 (.pure (LawF gBack)) := by
  refine pureOk (Cx.ok o7 noL) mixed 4 Try.f4 (by kernel_rfl) (by kernel_rfl) (by kernel_rfl) 200 0 (by kernel_rfl) (fun i h => by omega) fun args r h => ?_
  obtain ⟨hg, rfl⟩ := Tr.one h
  clear h
  unfold gBack at hg
  split at hg
  · rename_i n b nl c
    simp only [Bool.and_eq_true, decide_eq_true_eq] at hg
    exact ⟨rfl, rfl, [], back_core n b nl c hg.1 hg.2.1 (by simpa using hg.2.2.1) hg.2.2.2⟩
  · cases hg

theorem wf_u8 {n : Int} (h : (Lit.int .u8 n).wf = true) : 0 ≤ n ∧ n < 256 := by
  simp only [Lit.wf, Bool.and_eq_true, decide_eq_true_eq] at h
  have h1 : IntKind.u8.min = 0 := by decide
  have h2 : IntKind.u8.max = 255 := by decide
  omega

end Go.Proofs.Ytclpckkidfleoaa.V

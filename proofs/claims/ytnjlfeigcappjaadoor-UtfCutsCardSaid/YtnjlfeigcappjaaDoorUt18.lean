/-
  Chapter 01, utf: what is put, told by cases; the plain law that the statements ask.
  It speaks of the pinned program alone; no condition.
-/
import Derived.Test.YtnjlfeigcappjaaDoorUt16
namespace Go.Proofs.YtnjlfeigcappjaaDoor.V
open Go
set_option linter.unusedVariables false
set_option linter.unusedSimpArgs false

def uputT (A : Ar) : List X → Tr X
  | [.sl (.int .i64) l nl false] => .test (A.se (decide (l.length ≤ 17592186044416))) (.test (A.se (l.all goodN)) (.give (.tup [u8s (A.se (ups l)) (some (A.se (ups l).isEmpty)) false, i64x 0])) (.give (.tup [u8s [] (some true) false, i64x 10]))) .no
  | _ => .no
def OutT (A : Ar) : OT := Oadd (Out A) 11 (.pure (uputT A))

theorem uputT_ok : OrcOk Tryd.prog 11 (.pure (uputT Ar.real)) := by
  have h0 : PureOk Tryd.prog 11 fun args => (uputF Ar.real args).run some := uput_ok
  refine PureOk.wk h0 fun args r h => ?_
  unfold uputT at h
  split at h
  · rename_i l nl
    refine ⟨r, ?_, .same r⟩
    show (Tr.test (decide (l.length ≤ 17592186044416)) (.give (X.tup [u8s (putL l) (some (putL l).isEmpty) false, i64x (putE l)])) .no).run some = some r
    replace h : (Tr.test (decide (l.length ≤ 17592186044416)) (.test (l.all goodN) (.give (X.tup [u8s (ups l) (some (ups l).isEmpty) false, i64x 0])) (.give (X.tup [u8s [] (some true) false, i64x 10]))) .no).run some = some r := h
    cases hc : decide (l.length ≤ 17592186044416) <;> rw [hc] at h
    · cases h
    · cases ha : l.all goodN <;> rw [ha] at h
      · simp only [putL, putE, ha]; exact h
      · simp only [putL, putE, ha]; exact h
  · cases h

theorem o_utT : OOk (OutT Ar.real) := o_ut.add uputT_ok

/-! The plain law. -/
theorem putL_good {l : List Int} (h : l.all goodN = true) : putL l = ups l := by simp [putL, h]
theorem putL_bad {l : List Int} (h : l.all goodN = false) : putL l = [] := by simp [putL, h]
theorem putE_good {l : List Int} (h : l.all goodN = true) : putE l = 0 := by simp [putE, h]
theorem putE_bad {l : List Int} (h : l.all goodN = false) : putE l = 10 := by simp [putE, h]
theorem ups_bytes {l : List Int} (h : l.all goodN = true) : bytesB (ups l) = true := bytesB_iff.2 (ups_byts h)
theorem putL_bytes (l : List Int) : bytesB (putL l) = true := by
  cases h : l.all goodN with
  | true => rw [putL_good h]; exact ups_bytes h
  | false => rw [putL_bad h]; rfl
theorem ups_len (l : List Int) : l.length ≤ (ups l).length ∧ (ups l).length ≤ 4 * l.length := by
  induction l with
  | nil => simp [ups_nil]
  | cons c l ih =>
    have h1 := ub_pos c
    have h2 := ub_le4 c
    rw [ups_cons, List.length_append, List.length_cons]
    omega
theorem putL_len (l : List Int) : (putL l).length ≤ 4 * l.length := by
  cases h : l.all goodN with
  | true => rw [putL_good h]; exact (ups_len l).2
  | false => rw [putL_bad h]; simp
theorem valid_ups {l : List Int} (h : l.all goodN = true) : validU (ups l) = true := by
  unfold validU
  rw [readU_ups h]
  rfl
theorem rdL_ups {l : List Int} (h : l.all goodN = true) : rdL (ups l) = l := by
  unfold rdL
  rw [readU_ups h]
  rfl
theorem rdE_good {b : List Int} (h : validU b = true) : rdE b = 0 := by simp [rdE, h]
theorem rdE_bad {b : List Int} (h : validU b = false) : rdE b = 10 := by simp [rdE, h]
theorem rdL_bad {b : List Int} (h : validU b = false) : rdL b = [] := by
  unfold validU at h
  unfold rdL
  cases e : readU b with
  | none => rfl
  | some _ => rw [e] at h; cases h
theorem rdL_good {b : List Int} (hy : ∀ x ∈ b, 0 ≤ x ∧ x < 256) (h : validU b = true) : b = ups (rdL b) ∧ (rdL b).all goodN = true := by
  unfold validU at h
  cases e : readU b with
  | none => rw [e] at h; cases h
  | some l =>
    have : rdL b = l := by unfold rdL; rw [e]; rfl
    rw [this]
    exact readU_some b.length rfl hy e
theorem rdL_len {b : List Int} (hy : ∀ x ∈ b, 0 ≤ x ∧ x < 256) : (rdL b).length ≤ b.length := by
  cases h : validU b with
  | false => rw [rdL_bad h]; simp
  | true =>
    obtain ⟨h1, _⟩ := rdL_good hy h
    have := (ups_len (rdL b)).1
    rw [← h1] at this
    exact this

end Go.Proofs.YtnjlfeigcappjaaDoor.V

/-
  Chapter 13, varint, and clones: whether a slice is nil or not, be it known or not.
  It speaks of the pinned program alone; no condition.
-/
import Derived.Test.YtgickaihlebgmaaVi6
import Derived.Test.YtgickaihlebgmaaV27
namespace Go.Proofs.Ytgickaihlebgmaa.V
open Go
set_option linter.unusedVariables false
set_option linter.unusedSimpArgs false

def nlO (nl : Option Bool) (b : List Int) : Bool := match nl with
  | some x => nlB x b
  | none => true
theorem nlO_none (b : List Int) : nlO none b = true := rfl
theorem nlO_some (x : Bool) (b : List Int) : nlO (some x) b = nlB x b := rfl

def cloneG (A : Ar) : List X → Tr X
  | [.sl (.int .u8) b nl false] => .test (A.se (decide (b.length ≤ 1000000000) && nlO nl b)) (.give (.sl (.int .u8) b nl true)) .no
  | _ => .no
def putG (A : Ar) : List X → Tr X
  | [.sl (.int .u8) b nl false, .d (.int .u64) n] => .test (A.se (isU64 n && (decide (b.length ≤ 100000000) && nlO nl b))) (.give (u8s (A.se (b ++ vb n.toNat)) (some false) true)) .no
  | _ => .no
def takeG (A : Ar) : List X → Tr X
  | [.sl (.int .u8) b nl false] => .test (A.se (decide (b.length ≤ 100000000) && (bytesB b && nlO nl b))) (.give (.tup [u64x (A.se (tkN b)), u8s (A.se (tkR b)) (some (A.se (!tkB b))) false, i64x (A.se (tkE b))])) .no
  | _ => .no

theorem cloneG_ok : OrcOk Try.prog 35 (.pure (cloneG Ar.real)) := by
  refine PureOk.anyNl clone_ok fun args r h => ?_
  unfold cloneG at h
  split at h
  · rename_i b nl
    obtain ⟨hg, rfl⟩ := Tr.one h
    cases nl with
    | some x => exact .inl h
    | none =>
      refine .inr ⟨_, b, [], rfl, ?_, ?_⟩
      · rintro rfl
        exact ⟨u8s [] (some true) true, rfl, .inl (.sl (.inl rfl) id)⟩
      · simp only [rw_se, nlO_none, Bool.and_true, decide_eq_true_eq] at hg
        refine ⟨u8s b (some false) true, ?_, .inl (.sl (.inl rfl) id)⟩
        show (Tr.test (decide (b.length ≤ 1000000000) && nlB false b) (Tr.give (u8s b (some false) true)) .no).run some = _
        rw [decide_eq_true hg]
        rfl
  · cases h
theorem putG_ok (f : Nat) (h0 : OrcOk Try.prog f (.pure (putF Ar.real))) : OrcOk Try.prog f (.pure (putG Ar.real)) := by
  refine PureOk.anyNl h0 fun args r h => ?_
  unfold putG at h
  split at h
  · rename_i b nl n
    obtain ⟨hg, rfl⟩ := Tr.one h
    cases nl with
    | some x => exact .inl h
    | none =>
      simp only [rw_se, nlO_none, Bool.and_true, Bool.and_eq_true, decide_eq_true_eq] at hg
      have h2 : ∀ x, nlB x b = true → ((putF Ar.real) [.sl (.int .u8) b (some x) false, .d (.int .u64) n]).run some = some (u8s (b ++ vb n.toNat) (some false) true) := by
        intro x hx
        show (Tr.test (isU64 n && (decide (b.length ≤ 100000000) && nlB x b)) (Tr.give (u8s (b ++ vb n.toNat) (some false) true)) .no).run some = _
        rw [hg.1, decide_eq_true hg.2, hx]
        rfl
      refine .inr ⟨_, b, _, rfl, fun e => ⟨_, h2 true (by rw [e]; rfl), .same _⟩, ⟨_, h2 false rfl, .same _⟩⟩
  · cases h
theorem takeG_ok (f : Nat) (h0 : OrcOk Try.prog f (.pure (takeF Ar.real))) : OrcOk Try.prog f (.pure (takeG Ar.real)) := by
  refine PureOk.anyNl h0 fun args r h => ?_
  unfold takeG at h
  split at h
  · rename_i b nl
    obtain ⟨hg, rfl⟩ := Tr.one h
    cases nl with
    | some x => exact .inl h
    | none =>
      simp only [rw_se, nlO_none, Bool.and_true, Bool.and_eq_true, decide_eq_true_eq] at hg
      have h2 : ∀ x, nlB x b = true → ((takeF Ar.real) [.sl (.int .u8) b (some x) false]).run some = some (.tup [u64x (tkN b), u8s (tkR b) (some (!tkB b)) false, i64x (tkE b)]) := by
        intro x hx
        show (Tr.test (decide (b.length ≤ 100000000) && (bytesB b && nlB x b)) (Tr.give (X.tup [u64x (tkN b), u8s (tkR b) (some (!tkB b)) false, i64x (tkE b)])) .no).run some = _
        rw [decide_eq_true hg.1, hg.2, hx]
        rfl
      refine .inr ⟨_, b, _, rfl, fun e => ⟨_, h2 true (by rw [e]; rfl), .same _⟩, ⟨_, h2 false rfl, .same _⟩⟩
  · cases h

def OviA (A : Ar) : OT := Oadd (Oadd (Oadd (Oadd (Oadd (Oadd (fun _ => none) 35 (.pure (cloneG A))) 17 (.pure (sizeF A))) 29 (.pure (putG A))) 24 (.pure (putG A))) 36 (.pure (takeG A))) 37 (.pure (takeG A))
theorem o_viA : OOk (OviA Ar.real) := (((((OOk.none.add cloneG_ok).add size_ok).add (putG_ok _ put_ok)).add (putG_ok _ refPut_ok)).add (takeG_ok _ take_ok)).add (takeG_ok _ refTake_ok)

end Go.Proofs.Ytgickaihlebgmaa.V

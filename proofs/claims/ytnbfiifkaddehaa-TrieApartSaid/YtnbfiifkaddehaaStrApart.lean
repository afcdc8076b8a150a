/-
  A statement of the program: the given row, whatever the input.
  It is the row as given; no condition.
-/
import Derived.Test.YtnbfiifkaddehaaRows
import Derived.WalkKit
import Derived.ProofKit
import Derived.OpenShut
import Derived.ShutString
import Derived.ChangeOld
import Derived.Below
import Derived.Test.YtnbfiifkaddehaaTr18
namespace Go.Proofs.Ytnbfiifkaddehaa.TrieApart
open Go Go.ChangeShapes Go.WideShapes Go.ChangeAt Go.RowKit
open Go.Proofs.Ytnbfiifkaddehaa.V
set_option linter.unusedVariables false

theorem own : ownKnob Try.prog.godebug = none := by kernel_rfl
theorem laidOut : laidOutB Try.prog = true := by kernel_rfl

set_option maxRecDepth 100000 in
theorem lifted (os : Os) (started : os.Started) (H : Type) (enc : TypeId × Value → H) :
    ReturnsInHanded {} Try.checked os 5 .any (Rows.trieApartSpec.pre6 enc Try.prog Try.f5 Rows.trieApartRow.domain false) (Rows.trieApartSpec.post enc Try.prog Try.f5 false true false false) := by
  have e : Rows.trieApartSpec.pre6 enc Try.prog Try.f5 Rows.trieApartRow.domain false = fun w args => (Rows.trieApartSpec.pre enc Try.prog Try.f5 Rows.trieApartRow.domain false w args ∧ True) ∧ sizedMet enc Try.prog Try.f5 (OpenSpec.ofChange Rows.trieApartSpec) false w args := by
    funext w args
    simp only [ChangeSpec.pre6, and_true]
  rw [e]
  refine returnsInHanded_of_change_and (C := Try.checked) (X := fun _ _ => True) (fun _ _ _ _ h => h) own started (by kernel_rfl) Try.func5
    (by
      obtain ⟨w, tape, i, w1, w2, w3, w4, w5, w6⟩ := ChangeSpec.witness6 (enc := enc) (C := Try.checked) false ⟨#[], #[.slice none 0 0], []⟩ 8 (by kernel_rfl) (by kernel_rfl) (by kernel_rfl) (by kernel_rfl)
      exact ⟨w, tape, i, w1, w2, w3, w4, ⟨⟨w5.1, trivial⟩, w5.2⟩, w6⟩) ?_
  intro W base args ds gs before hval0 hW hcnd hwt _ _
  have hval : ∀ (j : Nat) t v, Try.f5.params[j]? = some t → args[j]? = some v → Value.okWide Try.prog W .any base t v := hval0
  have hW' := hW
  have hlt := hW.lt
  obtain ⟨p, q, hA0, hV, rfl, hfz, hnd⟩ := hW
  have hA : DataW.TrodAll enc Try.prog W 0 (fun _ => true) true Try.f5.params.toList args.toList ds p := hA0
  obtain ⟨rfl, rfl⟩ := trodVars_none hV
  rw [Try.params5] at hA hval
  have hA1 := hA
  have hlt1 : ∀ x ∈ p, x.block < W.heap.size := fun x hx => hlt x (by simp [hx])
  obtain ⟨v0, vs0, d0, ds0, p0, q0, hargs, rfl, rfl, h0, r0⟩ := trodAll_cons hA
  obtain ⟨rfl, rfl, rfl⟩ := trodAll_nil r0
  obtain rfl : args = #[v0] := by cases args; simp_all
  obtain ⟨xs, hx, hrep⟩ := open_args [.slice (.slice (.int .i64))] [23] _ _ _ (by kernel_rfl) (fun j t v e1 e2 => hval j t v (by simpa using e1) (by simpa using e2)) hA1
  have hw2 : (DataW.weightsEach Try.prog [23] [d0]).all (· ≤ reachBytes) = true := by
    have e0 : DataSpec.varTypes Try.checked.prog Rows.trieApartSpec.plain = [] := rfl
    have h := hwt
    rw [e0, Try.params5] at h
    simp only [List.append_nil] at h
    exact h
  have hbd : BdXs [.slice (.slice (.int .i64))] xs := args_bd [.slice (.slice (.int .i64))] [23] _ _ _ xs (by kernel_rfl) hx hA1 hw2 hrep
  clear hA0 hval0
  refine (law_runB Go.Proofs.Ytnbfiifkaddehaa.V.apart_ok hx hbd W (fun i t x e => by cases e) _ hrep).mono fun e W' ⟨he, bel⟩ => ?_
  subst he
  exact ⟨_, rfl, _, _, _, [], _, [], hW', trodAll_mk1 (shut_bool Try.underlying4 _), trod_still laidOut bel [23] _ _ _ (by kernel_rfl) hA1 hlt1, rfl, bel.frame _, fun h => by cases h⟩

theorem over : Rows.trieApartRow.holds Try.pinned (OpenSpec.ofChange Rows.trieApartSpec) :=
  OpenClaim.holds_of_wide 5 Try.f5 rfl rfl rfl rfl rfl rfl rfl ⟨rfl, rfl, rfl, rfl, rfl⟩ rfl rfl rfl rfl rfl (by kernel_rfl) Try.func5 (by kernel_rfl)
    (of_decide_eq_true (by kernel_rfl)) (by unfold Func.isWrapper; first | (rw [if_pos (by decide +kernel)]; kernel_rfl) | (rw [if_neg (by decide +kernel)]; exact ⟨rfl, rfl⟩))
    (fun os started H enc _ => lifted os started H enc)

theorem proved : Rows.TrieApartSaid := over
#print axioms proved
end Go.Proofs.Ytnbfiifkaddehaa.TrieApart

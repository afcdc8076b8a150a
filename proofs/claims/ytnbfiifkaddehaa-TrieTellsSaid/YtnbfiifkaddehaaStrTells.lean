/-
  A statement of the program: the given row, whatever the input.
  It is the row as given; no condition.
-/
import Derived.Test.YtnbfiifkaddehaaRows
import Derived.WalkKit
import Derived.ProofKit
import Derived.OpenShut
import Derived.ShutString
import Derived.ChangeOld
import Derived.Below
import Derived.Test.YtnbfiifkaddehaaTr14
namespace Go.Proofs.Ytnbfiifkaddehaa.TrieTells
open Go Go.ChangeShapes Go.WideShapes Go.ChangeAt Go.RowKit
open Go.Proofs.Ytnbfiifkaddehaa.V
set_option linter.unusedVariables false

theorem own : ownKnob Try.prog.godebug = none := by kernel_rfl
theorem laidOut : laidOutB Try.prog = true := by kernel_rfl

set_option maxRecDepth 100000 in
theorem lifted (os : Os) (started : os.Started) (H : Type) (enc : TypeId × Value → H) :
    ReturnsInHanded {} Try.checked os 3 .any (Rows.trieTellsSpec.pre6 enc Try.prog Try.f3 Rows.trieTellsRow.domain false) (Rows.trieTellsSpec.post enc Try.prog Try.f3 false true false false) := by
  have e : Rows.trieTellsSpec.pre6 enc Try.prog Try.f3 Rows.trieTellsRow.domain false = fun w args => (Rows.trieTellsSpec.pre enc Try.prog Try.f3 Rows.trieTellsRow.domain false w args ∧ True) ∧ sizedMet enc Try.prog Try.f3 (OpenSpec.ofChange Rows.trieTellsSpec) false w args := by
    funext w args
    simp only [ChangeSpec.pre6, and_true]
  rw [e]
  refine returnsInHanded_of_change_and (C := Try.checked) (X := fun _ _ => True) (fun _ _ _ _ h => h) own started (by kernel_rfl) Try.func3
    (by
      obtain ⟨w, tape, i, w1, w2, w3, w4, w5, w6⟩ := ChangeSpec.witness6 (enc := enc) (C := Try.checked) false ⟨#[], #[.slice none 0 0, .slice none 0 0, .int .i64 0, .int .i64 0], []⟩ 8 (by kernel_rfl) (by kernel_rfl) (by kernel_rfl) (by kernel_rfl)
      exact ⟨w, tape, i, w1, w2, w3, w4, ⟨⟨w5.1, trivial⟩, w5.2⟩, w6⟩) ?_
  intro W base args ds gs before hval0 hW hcnd hwt _ _
  have hval : ∀ (j : Nat) t v, Try.f3.params[j]? = some t → args[j]? = some v → Value.okWide Try.prog W .any base t v := hval0
  have hW' := hW
  have hlt := hW.lt
  obtain ⟨p, q, hA0, hV, rfl, hfz, hnd⟩ := hW
  have hA : DataW.TrodAll enc Try.prog W 0 (fun _ => true) true Try.f3.params.toList args.toList ds p := hA0
  obtain ⟨rfl, rfl⟩ := trodVars_none hV
  rw [Try.params3] at hA hval
  have hA1 := hA
  have hlt1 : ∀ x ∈ p, x.block < W.heap.size := fun x hx => hlt x (by simp [hx])
  obtain ⟨v0, vs0, d0, ds0, p0, q0, hargs, rfl, rfl, h0, r0⟩ := trodAll_cons hA
  obtain ⟨v1, vs1, d1, ds1, p1, q1, rfl, rfl, rfl, h1, r1⟩ := trodAll_cons r0
  obtain ⟨v2, vs2, d2, ds2, p2, q2, rfl, rfl, rfl, h2, r2⟩ := trodAll_cons r1
  obtain ⟨v3, vs3, d3, ds3, p3, q3, rfl, rfl, rfl, h3, r3⟩ := trodAll_cons r2
  obtain ⟨rfl, rfl, rfl⟩ := trodAll_nil r3
  obtain rfl : args = #[v0, v1, v2, v3] := by cases args; simp_all
  obtain ⟨xs, hx, hrep⟩ := open_args [.slice staT, .slice (.slice (.int .i64)), .int .i64, .int .i64] [22, 23, 3, 3] _ _ _ (by kernel_rfl) (fun j t v e1 e2 => hval j t v (by simpa using e1) (by simpa using e2)) hA1
  have hw2 : (DataW.weightsEach Try.prog [22, 23, 3, 3] [d0, d1, d2, d3]).all (· ≤ reachBytes) = true := by
    have e0 : DataSpec.varTypes Try.checked.prog Rows.trieTellsSpec.plain = [] := rfl
    have h := hwt
    rw [e0, Try.params3] at h
    simp only [List.append_nil] at h
    exact h
  have hbd : BdXs [.slice staT, .slice (.slice (.int .i64)), .int .i64, .int .i64] xs := args_bd [.slice staT, .slice (.slice (.int .i64)), .int .i64, .int .i64] [22, 23, 3, 3] _ _ _ xs (by kernel_rfl) hx hA1 hw2 hrep
  clear hA0 hval0
  refine (law_runB Go.Proofs.Ytnbfiifkaddehaa.V.tells_ok hx hbd W (fun i t x e => by cases e) _ hrep).mono fun e W' ⟨he, bel⟩ => ?_
  subst he
  exact ⟨_, rfl, _, _, _, [], _, [], hW', trodAll_mk1 (shut_bool Try.underlying4 _), trod_still laidOut bel [22, 23, 3, 3] _ _ _ (by kernel_rfl) hA1 hlt1, rfl, bel.frame _, fun h => by cases h⟩

theorem over : Rows.trieTellsRow.holds Try.pinned (OpenSpec.ofChange Rows.trieTellsSpec) :=
  OpenClaim.holds_of_wide 3 Try.f3 rfl rfl rfl rfl rfl rfl rfl ⟨rfl, rfl, rfl, rfl, rfl⟩ rfl rfl rfl rfl rfl (by kernel_rfl) Try.func3 (by kernel_rfl)
    (of_decide_eq_true (by kernel_rfl)) (by unfold Func.isWrapper; first | (rw [if_pos (by decide +kernel)]; kernel_rfl) | (rw [if_neg (by decide +kernel)]; exact ⟨rfl, rfl⟩))
    (fun os started H enc _ => lifted os started H enc)

theorem proved : Rows.TrieTellsSaid := over
#print axioms proved
end Go.Proofs.Ytnbfiifkaddehaa.TrieTells

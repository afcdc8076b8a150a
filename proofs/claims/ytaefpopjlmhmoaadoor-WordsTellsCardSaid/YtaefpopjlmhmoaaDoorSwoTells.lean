/-
  A statement of the program: the given tied card, whatever the input.
  It is the card as given; no condition.
-/
import Derived.Test.YtaefpopjlmhmoaaDoorTie
import Derived.Test.YtaefpopjlmhmoaaDoorCards
import Derived.WalkKit
import Derived.ProofKit
import Derived.OpenShut
import Derived.ShutString
import Derived.ChangeOld
import Derived.Below
import Derived.LaidMore
import Derived.Lay
import Derived.SevenTiedAt
import Derived.Stop.Joined
import Derived.Test.YtaefpopjlmhmoaaDoorUtab
import Derived.Test.YtaefpopjlmhmoaaDoorWt5
namespace Go.Proofs.YtaefpopjlmhmoaaDoor.WordsTells
open Go Go.ChangeShapes Go.WideShapes Go.ChangeAt Go.RowKit
open Go.Proofs.YtaefpopjlmhmoaaDoor.V
set_option linter.unusedVariables false

theorem own : ownKnob Tryd.prog.godebug = none := by kernel_rfl
theorem laidOut : laidOutB Tryd.prog = true := by kernel_rfl

set_option maxRecDepth 100000 in
theorem lifted (os : Os) (started : os.Started) (H : Type) (enc : TypeId × Value → H) :
    ReturnsInHanded {} Tryd.checked os 3 .any (fun w args => (Rows.wordsTellsSpec.pre enc Tryd.prog Tryd.f3 Rows.wordsTellsRow.domain false w args ∧ laidMetH Tryd.prog Rows.wordsTellsRow.laid w) ∧ sizedMet enc Tryd.prog Tryd.f3 (OpenSpec.ofChange Rows.wordsTellsSpec) false w args)
      (Rows.wordsTellsSpec.post enc Tryd.prog Tryd.f3 false true false false) := by
  refine returnsInHanded_of_change_and (C := Tryd.checked) (X := fun w _ => laidMetH Tryd.prog Rows.wordsTellsRow.laid w) (fun _ _ _ hh h => h.of_heap hh) own started (by kernel_rfl) Tryd.func3
    (ChangeSpec.witness_shaped (enc := enc) (C := Tryd.checked) (os := os) (X := fun w _ => laidMetH Tryd.prog Rows.wordsTellsRow.laid w) false (World.laidAll Tryd.prog os Rows.wordsTellsRow.laid) #[.slice none 0 0, .slice none 0 0, .slice none 0 0] 8 (World.laidAll_os _ _ _)
      (World.shaped_of_ZipB (by kernel_rfl) (by kernel_rfl)) (by kernel_rfl) (by kernel_rfl) (by kernel_rfl)
      (by rw [MakeChecks.laidMetH_plain _ _ _ (by kernel_rfl)]; exact laidMet_laidAll _ (by kernel_rfl) (by kernel_rfl))) ?_
  intro W base args ds gs before hval0 hW hcnd hwt hL _
  have hval : ∀ (j : Nat) t v, Tryd.f3.params[j]? = some t → args[j]? = some v → Value.okWide Tryd.prog W .any base t v := hval0
  have hW' := hW
  have hlt := hW.lt
  obtain ⟨p, q, hA0, hV, rfl, hfz, hnd⟩ := hW
  have hA : DataW.TrodAll enc Tryd.prog W 0 (fun _ => true) true Tryd.f3.params.toList args.toList ds p := hA0
  obtain ⟨rfl, rfl⟩ := trodVars_none hV
  rw [Tryd.params3] at hA hval
  have hA1 := hA
  have hlt1 : ∀ x ∈ p, x.block < W.heap.size := fun x hx => hlt x (by simp [hx])
  obtain ⟨v0, vs0, d0, ds0, p0, q0, hargs, rfl, rfl, h0, r0⟩ := trodAll_cons hA
  obtain ⟨v1, vs1, d1, ds1, p1, q1, rfl, rfl, rfl, h1, r1⟩ := trodAll_cons r0
  obtain ⟨v2, vs2, d2, ds2, p2, q2, rfl, rfl, rfl, h2, r2⟩ := trodAll_cons r1
  obtain ⟨rfl, rfl, rfl⟩ := trodAll_nil r2
  obtain rfl : args = #[v0, v1, v2] := by cases args; simp_all
  obtain ⟨xs, hx, hrep⟩ := open_args [.slice (.int .u8), .slice (.slice (.int .i64)), .slice (.int .i64)] [22, 23, 24] _ _ _ (by kernel_rfl) (fun j t v e1 e2 => hval j t v (by simpa using e1) (by simpa using e2)) hA1
  have hw2 : (DataW.weightsEach Tryd.prog [22, 23, 24] [d0, d1, d2]).all (· ≤ reachBytes) = true := by
    have e0 : DataSpec.varTypes Tryd.checked.prog Rows.wordsTellsSpec.plain = [] := rfl
    have h := hwt
    rw [e0, Tryd.params3] at h
    simp only [List.append_nil] at h
    exact h
  have hbd : BdXs [.slice (.int .u8), .slice (.slice (.int .i64)), .slice (.int .i64)] xs := args_bd [.slice (.int .u8), .slice (.slice (.int .i64)), .slice (.int .i64)] [22, 23, 24] _ _ _ xs (by kernel_rfl) hx hA1 hw2 hrep
  clear hA0 hval0
  refine (law_runB tells_ok hx hbd W (tabs_of hL) _ hrep).mono fun e W' ⟨he, bel⟩ => ?_
  subst he
  exact ⟨_, rfl, _, _, _, [], _, [], hW', trodAll_mk1 (shut_bool Tryd.underlying4 _), trod_still laidOut bel [22, 23, 24] _ _ _ (by kernel_rfl) hA1 hlt1, rfl, bel.frame _, fun h => by cases h⟩

theorem over : Rows.wordsTellsRow.holds Tryd.pinned (OpenSpec.ofChange Rows.wordsTellsSpec) :=
  OpenClaim.holds_of_wide 3 Tryd.f3 rfl rfl rfl rfl rfl rfl rfl ⟨rfl, rfl, rfl, rfl, rfl⟩ rfl rfl rfl rfl rfl (by kernel_rfl) Tryd.func3 (by kernel_rfl)
    (of_decide_eq_true (by kernel_rfl)) (by unfold Func.isWrapper; first | (rw [if_pos (by decide +kernel)]; kernel_rfl) | (rw [if_neg (by decide +kernel)]; exact ⟨rfl, rfl⟩))
    (fun os started H enc _ => lifted os started H enc)

theorem proved : Rows.WordsTellsCardSaid :=
  Claim7.holds_tied_plain_at .later [] [.data, .pinned] true (true, "b199aa47b6c097fcac0b44f1c0829f5d02c9a1870e6bdd8684d519ff7a5e49a9") false over (fun _ h => by cases h) (by kernel_rfl) (fun _ h => by cases h) wordsTells_row_tie rfl ⟨rfl, rfl⟩ (by kernel_rfl) rfl
    (fun f fn hf hfn => by
      obtain rfl : f = 3 := Option.some.inj ((show Tryd.prog.funcNamed "spellwright/spellwrightlaw09.WordsTells" = some 3 by kernel_rfl).symm.trans hf) |>.symm
      obtain rfl : fn = Tryd.f3 := (Option.some.inj (Tryd.func3.symm.trans hfn)).symm
      exact ⟨by kernel_rfl, fun j t ht => by
        rw [Tryd.params3] at ht
        have hm : t ∈ [22, 23, 24] := by simpa using Array.mem_of_getElem? ht
        have hall : ([22, 23, 24].all fun u => !Tryd.prog.wantsStandIn u) = true := by kernel_rfl
        exact (show Tryd.prog.wantsStandIn t = false by simpa using List.all_eq_true.1 hall t hm)⟩)
    (by kernel_rfl)
#print axioms proved
end Go.Proofs.YtaefpopjlmhmoaaDoor.WordsTells

/-
  From what the evaluator tells of a statement's function to what the row asks.
  It speaks of the pinned program alone; no condition.
-/
import Derived.Test.YtclpckkidfleoaaV24
import Derived.WalkKit
import Derived.ProofKit
import Derived.OpenShut
import Derived.ShutString
import Derived.Below
namespace Go.Proofs.Ytclpckkidfleoaa.V
open Go Go.ChangeShapes Go.WideShapes Go.ChangeAt Go.RowKit
set_option linter.unusedVariables false

variable {P : Program} {H : Type} {enc : TypeId × Value → H}

theorem post_of_below {f : Func} {s : ChangeSpec} {apart fresh handsOn again : Bool} {W W' : World} {args : Array Value} {v : Value} {ds gs : List (DataW H)} {before pa pv : List MemPlace}
    (hW : DataW.Whole enc P f.params.toList s.vars apart W args.toList ds gs before)
    (hres : ∀ (b : Nat) (sp : Nat → Bool) (hd : Bool), DataW.TrodAll enc P W' b sp hd f.resultTypes.toList (v.resultList f.resultTypes.size) (s.fn H (ds ++ gs)).results [])
    (hargs : ∀ sp : Nat → Bool, (∀ p ∈ before, sp p.block = true) → DataW.TrodAll enc P W' 0 sp true f.params.toList args.toList (s.fn H (ds ++ gs)).args pa)
    (hvars : ∀ sp : Nat → Bool, (∀ p ∈ before, sp p.block = true) → DataW.TrodVars enc P W' sp s.vars (s.fn H (ds ++ gs)).vars pv)
    (hps : before = pa ++ pv) (hB : Below W.heap.size W W')
    (hok : ∀ (j : Nat) (t : TypeId) (r : Value), f.resultTypes[j]? = some t → (v.resultList f.resultTypes.size)[j]? = some r → Value.okWide P W' .any 0 t r) :
    s.post enc P f apart fresh handsOn again W args v W' := by
  have hold : ∀ p ∈ before, (fun b => decide (b < W.heap.size)) p.block = true := fun p hp => by simpa using hW.lt p hp
  refine ⟨ds, gs, before, [], pa, pv, hW, hres _ _ _, hargs _ hold, hvars _ hold, World.keptBut_mono (fun p hp => ⟨hp, ?_⟩) (hB.frame _), fun _ => ?_⟩
  · rw [hps, List.mem_append] at hp
    exact Or.inr hp
  · have hlt := hW.lt
    obtain ⟨_, _, _, _, _, hz, hn⟩ := hW
    refine ⟨hok, _, _, ([] ++ pa) ++ pv, ⟨[] ++ pa, pv, trodAll_append (hargs _ (fun _ _ => rfl)) (hres _ _ _), hvars _ (fun _ _ => rfl), rfl, ?_, ?_⟩, ?_⟩
    · intro b off hp
      have hp' : (MemPlace.cell b off) ∈ before := by rw [hps]; simpa using hp
      rw [hB.frozen (hlt _ hp')]
      exact hz b off hp'
    · intro ha
      have := hn ha
      rw [hps] at this
      simpa using this
    · intro p hp _
      rw [hps]
      simpa using hp

/-- What is told at the begin: all cells that there are are settled; none may be written. -/
def startG (W : World) : Ghost where
  U b := match W.heap[b]? with
    | some (.cells arr _ _) => arr.size
    | _ => 0
  own _ := none
  N _ := 0
  μ _ _ := 0
  oty _ _ := .unit

theorem startG_wf (W : World) : WF (startG W) W := by
  intro b hb
  refine ⟨rfl, ?_⟩
  have : W.heap[b]? = none := by simp [hb]
  simp [startG, this]

theorem law_walk {f : Nat} {F : List X → Tr X} (hok : OrcOk P f (.pure F)) (args : List X) (hF : (F args).run some = some (.d .bool true)) (W : World) (vs : List Value) (rep : RepXs (startG W) W 0 args vs) :
    Calls P f vs.toArray W fun e w' => e = .returned (.bool true) ∧ Below W.heap.size W w' := by
  have h : PureOk P f fun a => (F a).run some := hok
  refine (h.2 args _ hF (startG W) W 0 0 vs (Nat.le_refl _) (startG_wf W) rep).mono ?_
  rintro e w' ⟨v, g', rfl, h1, h2, _⟩
  refine ⟨?_, h2.os, h2.tape, h2.output, h2.size, fun k hk => (h2.keep k hk (fun κ e => by cases e)).1⟩
  rw [RepX.bool_iff.1 h1]

end Go.Proofs.Ytclpckkidfleoaa.V

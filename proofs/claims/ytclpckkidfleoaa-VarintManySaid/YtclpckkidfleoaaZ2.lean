/-
  From what the evaluator tells of a statement's function to what the row asks.
  It speaks of the pinned program alone; no condition.
-/
import Derived.Test.YtclpckkidfleoaaV24
import Derived.WalkKit
import Derived.ProofKit
import Derived.OpenShut
import Derived.ShutString
import Derived.Below
namespace Go.Proofs.Ytclpckkidfleoaa.V
open Go Go.ChangeShapes Go.WideShapes Go.ChangeAt Go.RowKit
set_option linter.unusedVariables false

variable {P : Program} {H : Type} {enc : TypeId × Value → H}

theorem post_of_below {f : Func} {s : ChangeSpec} {apart fresh handsOn again : Bool} {W W' : World} {args : Array Value} {v : Value} {ds gs : List (DataW H)} {before pa pv : List MemPlace}
    (hW : DataW.Whole enc P f.params.toList s.vars apart W args.toList ds gs before)
    (hres : ∀ (b : Nat) (sp : Nat → Bool) (hd : Bool), DataW.TrodAll enc P W' b sp hd f.resultTypes.toList (v.resultList f.resultTypes.size) (s.fn H (ds ++ gs)).results [])
    (hargs : ∀ sp : Nat → Bool, (∀ p ∈ before, sp p.block = true) → DataW.TrodAll enc P W' 0 sp true f.params.toList args.toList (s.fn H (ds ++ gs)).args pa)
    (hvars : ∀ sp : Nat → Bool, (∀ p ∈ before, sp p.block = true) → DataW.TrodVars enc P W' sp s.vars (s.fn H (ds ++ gs)).vars pv)
    (hps : before = pa ++ pv) (hB : Below W.heap.size W W')
    (hok : ∀ (j : Nat) (t : TypeId) (r : Value), f.resultTypes[j]? = some t → (v.resultList f.resultTypes.size)[j]? = some r → Value.okWide P W' .any 0 t r) :
    s.post enc P f apart fresh handsOn again W args v W' := by
  have hold : ∀ p ∈ before, (fun b => decide (b < W.heap.size)) p.block = true := fun p hp => by simpa using hW.lt p hp
  refine ⟨ds, gs, before, [], pa, pv, hW, hres _ _ _, hargs _ hold, hvars _ hold, World.keptBut_mono (fun p hp => ⟨hp, ?_⟩) (hB.frame _), fun _ => ?_⟩
  · rw [hps, List.mem_append] at hp
    exact Or.inr hp
  · have hlt := hW.lt
    obtain ⟨_, _, _, _, _, hz, hn⟩ := hW
    refine ⟨hok, _, _, ([] ++ pa) ++ pv, ⟨[] ++ pa, pv, trodAll_append (hargs _ (fun _ _ => rfl)) (hres _ _ _), hvars _ (fun _ _ => rfl), rfl, ?_, ?_⟩, ?_⟩
    · intro b off hp
      have hp' : (MemPlace.cell b off) ∈ before := by rw [hps]; simpa using hp
      rw [hB.frozen (hlt _ hp')]
      exact hz b off hp'
    · intro ha
      have := hn ha
      rw [hps] at this
      simpa using this
    · intro p hp _
      rw [hps]
      simpa using hp

/-- What is told at the begin: all cells that there are are settled; none may be written. -/
def startG (W : World) : Ghost where
  U b := match W.heap[b]? with
    | some (.cells arr _ _) => arr.size
    | _ => 0
  own _ := none
  N _ := 0
  μ _ _ := 0
  oty _ _ := .unit

theorem startG_wf (W : World) : WF (startG W) W := by
  intro b hb
  refine ⟨rfl, ?_⟩
  have : W.heap[b]? = none := by simp [hb]
  simp [startG, this]

theorem law_walk {f : Nat} {F : List X → Tr X} (hok : OrcOk P f (.pure F)) (args : List X) (hF : (F args).run some = some (.d .bool true)) (W : World) (vs : List Value) (rep : RepXs (startG W) W 0 args vs) :
    Calls P f vs.toArray W fun e w' => e = .returned (.bool true) ∧ Below W.heap.size W w' := by
  have h : PureOk P f fun a => (F a).run some := hok
  refine (h.2 args _ hF (startG W) W 0 0 vs (Nat.le_refl _) (startG_wf W) rep).mono ?_
  rintro e w' ⟨v, g', rfl, h1, h2, _⟩
  refine ⟨?_, h2.os, h2.tape, h2.output, h2.size, fun k hk => (h2.keep k hk (fun κ e => by cases e)).1⟩
  rw [RepX.bool_iff.1 h1]

/-- A slice of numbers that came in: it is nil, or leads to a row of cells. -/
def IsRow (k : IntKind) (w : World) (a : Option Addr) (len cap : Nat) (zs : List Int) : Prop :=
  (a = none ∧ len = 0 ∧ cap = 0 ∧ zs = []) ∨
  ∃ x, a = some x ∧ len ≤ cap ∧ cap ≤ maxLen ∧ zs.length = cap ∧ (∀ i, i < zs.length → w.cell? (x.add i) = some (.int k (zs.getD i 0))) ∧ ∀ n ∈ zs, (Lit.int k n).wf = true

theorem startG_U {W : World} {a : Addr} {v : Value} (h : W.cell? a = some v) : a.spot = none ∧ a.off < (startG W).U a.block := by
  unfold World.cell? at h
  split at h
  · rename_i c t f hc
    split at h
    · cases h
    · rename_i hs
      refine ⟨by simpa using hs, ?_⟩
      simp only [startG, hc]
      exact (Array.getElem?_eq_some_iff.1 h).1
  · cases h

theorem row_rep {k : IntKind} {W : World} {a : Option Addr} {len cap : Nat} {zs : List Int} (h : IsRow k W a len cap zs) : RepX (startG W) W 0 .no (.sl (.int k) (zs.take len) (some a.isNone) false) (.slice a len cap) := by
  simp only [RepX]
  rcases h with ⟨rfl, rfl, rfl, rfl⟩ | ⟨x, rfl, h1, h2, h3, h4, h5⟩
  · refine ⟨none, 0, rfl, Nat.le_refl _, ?_, by simp, by simp⟩
    intro i hi
    simp at hi
  · have hl : (zs.take len).length = len := by rw [List.length_take]; omega
    refine ⟨some x, cap, by rw [hl], by rw [hl]; exact h1, ?_, by simp, by simp⟩
    intro i hi
    have hi' : i < len := by rw [hl] at hi; exact hi
    have hc := h4 i (by omega)
    have hs : x.spot = none := (startG_U (by simpa [Addr.add] using h4 0 (by omega))).1
    have e : (⟨x.block, x.off + i, none⟩ : Addr) = x.add i := by
      obtain ⟨b, o, s⟩ := x
      simp only at hs
      subst hs
      simp only [Addr.add]
      split
      · rename_i h0; subst h0; rfl
      · rfl
    rw [← e] at hc
    have hU := (startG_U hc).2
    refine ⟨x, [.int k (zs.getD i 0)], rfl, hs, rfl, ?_, fun j hj => ?_⟩
    · simp only [RepC]
      rw [List.getElem_take, List.getD_eq_getElem?_getD, List.getElem?_eq_getElem (by omega)]
      rfl
    · have hj' : j = 0 := by simpa using hj
      subst hj'
      have e1 : x.off + (i * (Ty.int k).size + 0) = x.off + i := by simp [Ty.size]
      rw [e1]
      exact ⟨hc, hU⟩

end Go.Proofs.Ytclpckkidfleoaa.V

/-
  Statements as functions of whatever data; what their rows ask.
  It speaks of whatever program; no condition.
-/
import Derived.Test.YtgickaihlebgmaaV25
namespace Go.Proofs.Ytgickaihlebgmaa.V
open Go Go.ChangeShapes Go.WideShapes Go.ChangeAt Go.RowKit
set_option linter.unusedVariables false
set_option linter.unusedSimpArgs false

/-- What a statement is given. -/
def ArgsOf : List Ty → List X → Prop
  | [], [] => True
  | t :: ts, x :: xs => ArgOf t x ∧ ArgsOf ts xs
  | _, _ => False

theorem ArgsOf.nil {args : List X} (h : ArgsOf [] args) : args = [] := by
  cases args with
  | nil => rfl
  | cons _ _ => cases h
theorem ArgsOf.cons {t : Ty} {ts : List Ty} {args : List X} (h : ArgsOf (t :: ts) args) : ∃ x xs, args = x :: xs ∧ ArgOf t x ∧ ArgsOf ts xs := by
  cases args with
  | nil => cases h
  | cons x xs => exact ⟨x, xs, rfl, h.1, h.2⟩

open Classical in
/-- What is told of a statement's function: true, whatever it is given. -/
noncomputable def LawFc (ts : List Ty) : List X → Tr X := fun args => if ArgsOf ts args then .give (.d .bool true) else .no

theorem ArgOf.argB {t : Ty} {x : X} (h : ArgOf t x) : argB x = true := by
  cases t
  case slice e => obtain ⟨xs, nl, rfl, _⟩ := h; rfl
  all_goals (obtain ⟨y, rfl, _⟩ := h; rfl)
theorem ArgsOf.argsB : ∀ (ts : List Ty) (xs : List X), ArgsOf ts xs → argsB xs = true
  | [], [], _ => rfl
  | t :: ts, x :: xs, h => by
    simp only [V.argsB, Bool.and_eq_true]
    exact ⟨h.1.argB, ArgsOf.argsB ts xs h.2⟩
  | [], _ :: _, h => by cases h
  | _ :: _, [], h => by cases h

theorem law_pure {P : Program} {C : Ctx} (hC : COk P C) (hmix : P.follows .mixedOrders = true) (f : Nat) (fn : Func) (ts : List Ty) (hf : P.funcs[f]? = some fn) (hname : (fn.name == "runtime.NumGoroutine") = false) (hb : fn.body.isSome = true) (fuel n : Nat)
    (hn : (loopsAll (bodyOf fn)).length = n) (hL : ∀ i, i < n → Tells C fuel (loopAt fn i)) (hcore : ∀ args, ArgsOf ts args → ∃ H', bodyX C fuel fn args [] = some (.d .bool true, H')) : OrcOk P f (.pure (LawFc ts)) := by
  refine pureOk hC hmix f fn hf hname hb fuel n hn hL fun args r h => ?_
  unfold LawFc at h
  split at h
  · rename_i hg
    cases h
    exact ⟨ArgsOf.argsB ts args hg, rfl, hcore args hg⟩
  · cases h

theorem law_run {P : Program} {f : Nat} {ts : List Ty} (hok : OrcOk P f (.pure (LawFc ts))) {args : List X} (h : ArgsOf ts args) (W : World) (vs : List Value) (rep : RepXs (startG W) W 0 args vs) :
    Calls P f vs.toArray W fun e w' => e = .returned (.bool true) ∧ Below W.heap.size W w' :=
  law_walk hok args (by unfold LawFc; rw [if_pos h]; rfl) W vs rep

variable {P : Program} {H : Type} {enc : TypeId × Value → H}

def tysB (P : Program) : List Ty → List Nat → Bool
  | [], [] => true
  | t :: ts, T :: Ts => tyB P t T && dataB t && tysB P ts Ts
  | _, _ => false
def bookB (P : Program) (Ts : List Nat) : Bool := Ts.all fun T => P.readableRec T && decide (T < P.types.size)

theorem open_args {W : World} {r : Reach} {base : Nat} {sp : Nat → Bool} {held : Bool} : ∀ (ts : List Ty) (Ts : List TypeId) (vs : List Value) (ds : List (DataW H)) (p : List MemPlace), tysB P ts Ts = true →
    (∀ (j : Nat) t v, Ts[j]? = some t → vs[j]? = some v → Value.okWide P W r base t v) → DataW.TrodAll enc P W 0 sp held Ts vs ds p → ∃ xs, ArgsOf ts xs ∧ RepXs (startG W) W 0 xs vs
  | [], [], [], _, _, _, _, _ => ⟨[], trivial, by simp only [RepXs]⟩
  | [], [], _ :: _, ds, _, _, _, h => by cases ds <;> cases h
  | t :: ts, T :: Ts, v :: vs, d :: ds, p, ht, hv, h => by
    simp only [tysB, Bool.and_eq_true] at ht
    obtain ⟨p1, p2, h1, h2, _⟩ := h
    obtain ⟨x, hx1, hx2⟩ := open_arg ht.1.1 ht.1.2 (hv 0 T v rfl rfl) h1
    obtain ⟨xs, hs1, hs2⟩ := open_args ts Ts vs ds p2 ht.2 (fun j t v e1 e2 => hv (j + 1) t v (by simpa using e1) (by simpa using e2)) h2
    refine ⟨x :: xs, ⟨hx1, hs1⟩, ?_⟩
    simp only [RepXs]
    exact ⟨v, vs, rfl, hx2, hs2⟩
  | t :: ts, T :: Ts, [], ds, _, _, _, h => by cases ds <;> cases h
  | t :: ts, T :: Ts, _ :: _, [], _, _, _, h => by cases h
  | [], _ :: _, _, _, _, ht, _, _ => by cases ht
  | _ :: _, [], _, _, _, ht, _, _ => by cases ht

theorem trod_still (hl : laidOutB P = true) {W W' : World} (hb : Below W.heap.size W W') : ∀ (Ts : List TypeId) (vs : List Value) (ds : List (DataW H)) (p : List MemPlace), bookB P Ts = true →
    DataW.TrodAll enc P W 0 (fun _ => true) true Ts vs ds p → (∀ x ∈ p, x.block < W.heap.size) → DataW.TrodAll enc P W' 0 (fun b => decide (b < W.heap.size)) true Ts vs ds p
  | [], [], [], _, _, h, _ => h
  | T :: Ts, v :: vs, d :: ds, p, hB, h, hlt => by
    obtain ⟨p1, p2, h1, h2, rfl⟩ := h
    simp only [bookB, List.all_cons, Bool.and_eq_true, decide_eq_true_eq] at hB
    refine ⟨p1, p2, Below.trod hl hB.1.1 hB.1.2 h1 hb (fun x hx => hlt x (by simp [hx])), trod_still hl hb Ts vs ds p2 ?_ h2 (fun x hx => hlt x (by simp [hx])), rfl⟩
    unfold bookB
    rw [List.all_eq_true]
    intro T hT
    have := List.all_eq_true.1 hB.2 T hT
    exact this
  | [], [], _ :: _, _, _, h, _ => by cases h
  | [], _ :: _, ds, _, _, h, _ => by cases ds <;> cases h
  | _ :: _, [], ds, _, _, h, _ => by cases ds <;> cases h
  | _ :: _, _ :: _, [], _, _, h, _ => by cases h

end Go.Proofs.Ytgickaihlebgmaa.V

/-
  Statements: from the data that come in to the evaluator; tables; functions that are handed room.
  It speaks of whatever program; no condition.
-/
import Derived.Test.YtnbfiifkaddehaaWg
import Derived.WalkKit
import Derived.ProofKit
import Derived.OpenShut
import Derived.ShutString
import Derived.ChangeOld
import Derived.Below
import Derived.FnData

/- From the data that come in to what the evaluator is told of them. -/
namespace Go.Proofs.Ytnbfiifkaddehaa.V
open Go Go.ChangeShapes Go.WideShapes Go.ChangeAt Go.RowKit
set_option linter.unusedVariables false
set_option linter.unusedSimpArgs false

variable {P : Program} {H : Type} {enc : TypeId × Value → H}

/-- What is told at the begin: all cells that there are are settled; none may be written. -/
def startG (W : World) : Ghost where
  U b := match W.heap[b]? with
    | some (.cells arr _ _) => arr.size
    | _ => 0
  own _ := none
  N _ := 0
  μ _ _ := 0
  oty _ _ := .unit

theorem startG_wf {W : World} (ht : Tabs (startG W) W) : WF (startG W) W := by
  refine ⟨?_, ht⟩
  intro b hb
  refine ⟨rfl, ?_⟩
  have : W.heap[b]? = none := by simp [hb]
  simp [startG, this]

theorem startG_U {W : World} {a : Addr} {v : Value} (h : W.cell? a = some v) : a.spot = none ∧ a.off < (startG W).U a.block := by
  unfold World.cell? at h
  split at h
  · rename_i c t f hc
    split at h
    · cases h
    · rename_i hs
      refine ⟨by simpa using hs, ?_⟩
      simp only [startG, hc]
      exact (Array.getElem?_eq_some_iff.1 h).1
  · cases h

theorem law_walk {f : Nat} {F : List X → Tr X} (hok : OrcOk P f (.pure F)) (args : List X) (hF : (F args).run some = some (.d .bool true)) (W : World) (ht : Tabs (startG W) W) (vs : List Value) (rep : RepXs (startG W) W 0 args vs) :
    Calls P f vs.toArray W fun e w' => e = .returned (.bool true) ∧ Below W.heap.size W w' := by
  have h : PureOk P f fun a => (F a).run some := hok
  refine (h.2 args _ hF (startG W) W 0 0 vs (Nat.le_refl _) (startG_wf ht) rep).mono ?_
  rintro e w' ⟨v, g', rfl, h1, h2, _⟩
  refine ⟨?_, h2.os, h2.tape, h2.output, h2.size, fun k hk => (h2.keep k hk (fun κ e => by cases e)).1⟩
  rw [RepX.bool_iff.1 h1]

/-- What came in fits: numbers are of their kind, lists not too long. -/
def wfD : (t : Ty) → t.den → Bool
  | .int k, n => (Lit.int k n).wf
  | .bool, _ => true
  | .str, s => decide (ByteArray.size s ≤ maxLen)
  | .any, _ => false
  | .err, _ => false
  | .slice e, xs => decide (List.length xs ≤ maxLen) && List.all xs (wfD e)
  | .arr _ e, xs => List.all xs (wfD e)
  | .struct c, x => wfD c x
  | .unit, _ => true
  | .prod a b, x => wfD a x.1 && wfD b x.2

def dataB : Ty → Bool
  | .any => false
  | .err => false
  | .slice e => dataB e
  | .arr _ e => dataB e
  | .struct c => dataB c
  | .prod a b => dataB a && dataB b
  | _ => true

theorem list_of {α : Type} {Q : Nat → α → Prop} : ∀ (n : Nat), (∀ i, i < n → ∃ y, Q i y) → ∃ ys : List α, ys.length = n ∧ ∀ i (h : i < ys.length), Q i ys[i] := by
  intro n
  induction n with
  | zero => intro _; exact ⟨[], rfl, fun i h => absurd h (by simp)⟩
  | succ n ih =>
    intro h
    obtain ⟨ys, h1, h2⟩ := ih fun i hi => h i (by omega)
    obtain ⟨y, hy⟩ := h n (by omega)
    refine ⟨ys ++ [y], by simp [h1], fun i hi => ?_⟩
    by_cases hi' : i < ys.length
    · rw [List.getElem_append_left hi']; exact h2 i hi'
    · have e : i = ys.length := by simp at hi; omega
      subst e
      rw [List.getElem_append_right (Nat.le_refl _)]
      simpa [h1] using hy

theorem parts_of {α : Type} {R : α → List Value → Prop} {Wf : α → Bool} {s : Nat} : ∀ (n : Nat) (cs : List Value), cs.length = n * s → (∀ i, i < n → ∃ y, R y ((cs.drop (i * s)).take s) ∧ Wf y = true) →
    ∃ ys : List α, ys.length = n ∧ Parts R ys cs ∧ ys.all Wf = true := by
  intro n
  induction n with
  | zero =>
    intro cs h _
    have : cs = [] := by simpa using h
    subst this
    exact ⟨[], rfl, rfl, rfl⟩
  | succ n ih =>
    intro cs h hy
    obtain ⟨y, hy1, hy2⟩ := hy 0 (by omega)
    obtain ⟨ys, h1, h2, h3⟩ := ih (cs.drop s) (by rw [List.length_drop, h, Nat.add_mul]; omega) (fun i hi => by
      obtain ⟨z, hz⟩ := hy (i + 1) (by omega)
      rw [List.drop_drop]
      rw [Nat.add_mul, Nat.one_mul, Nat.add_comm] at hz
      exact ⟨z, hz⟩)
    refine ⟨y :: ys, by simp [h1], ⟨cs.take s, cs.drop s, (List.take_append_drop s cs).symm, by simpa using hy1, h2⟩, ?_⟩
    simp [hy2, h3]

theorem cells_spot {W : World} {a : Addr} {sz : Nat} {cs : List Value} (h : W.cells? 0 (a.add (0 * sz)) sz = some cs) (hpos : 0 < sz) : a.spot = none := by
  obtain ⟨_, hl, hc⟩ := World.cells?_some h
  have h0 := hc 0 hpos
  rw [List.getElem?_eq_getElem (by omega)] at h0
  have := (startG_U h0).1
  simpa [Addr.add] using this

theorem cells_add {W : World} {a : Addr} {sz i : Nat} {cs : List Value} (hs : a.spot = none) (h : W.cells? 0 (a.add (i * sz)) sz = some cs) :
    cs.length = sz ∧ ∀ j (hj : j < cs.length), W.cell? ⟨a.block, a.off + (i * sz + j), none⟩ = some cs[j] ∧ a.off + (i * sz + j) < (startG W).U a.block := by
  obtain ⟨_, hl, hc⟩ := World.cells?_some h
  refine ⟨hl, fun j hj => ?_⟩
  have hj' := hc j (by omega)
  rw [List.getElem?_eq_getElem hj] at hj'
  have e : (a.add (i * sz)).add j = ⟨a.block, a.off + (i * sz + j), none⟩ := by
    rw [Addr.add_plain a _ hs, Addr.add_plain _ _ rfl, Nat.add_assoc]
  rw [e] at hj'
  exact ⟨hj', (startG_U hj').2⟩

mutual
theorem open_rep {W : World} {sp : Nat → Bool} {held : Bool} : ∀ (t : Ty) (T fuel : Nat) (cs : List Value) (x : DataW H × List MemPlace), tyB P t T = true → dataB t = true → DataW.trod enc P W 0 sp held fuel T cs = some x →
    ∃ y : t.den, RepC W (startG W) t y cs ∧ wfD t y = true
  | .int k, T, fuel, cs, x, ht, _, h => by
    obtain ⟨n, rfl, _, hw⟩ := DataW.trod_int (tyB_int ht) h
    exact ⟨n, rfl, hw⟩
  | .bool, T, fuel, cs, x, ht, _, h => by
    obtain ⟨b, rfl, _⟩ := DataW.trod_bool (tyB_bool ht) h
    exact ⟨b, rfl, rfl⟩
  | .str, T, fuel, cs, x, ht, _, h => by
    obtain ⟨s, rfl, _, hs⟩ := DataW.trod_string (tyB_str ht) h
    exact ⟨s, rfl, decide_eq_true hs⟩
  | .any, _, _, _, _, _, hd, _ => by cases hd
  | .err, _, _, _, _, _, hd, _ => by cases hd
  | .slice e, T, fuel, cs, x, ht, hd, h => by
    obtain ⟨ei, hu, he, hpos⟩ := tyB_slice ht
    rcases DataW.trod_slice hu h with ⟨rfl, _⟩ | ⟨a, len, cap, elems, rest, n, _, rfl, _, hb, hl, hm, hlen, hel, _, _⟩
    · exact ⟨[], ⟨none, 0, rfl, Nat.le_refl _, fun i hi => absurd hi (by simp)⟩, by simp [wfD]⟩
    · have hsz := cellsOf_ty he
      have hq : ∀ i, i < len → ∃ y : e.den, wfD e y = true ∧ ∃ c, W.cells? 0 (a.add (i * e.size)) e.size = some c ∧ RepC W (startG W) e y c := fun i hi => by
        have hi' := hel i hi
        rw [List.getElem?_eq_getElem (by omega), hsz, Option.bind_eq_some_iff] at hi'
        obtain ⟨c, hc, ht'⟩ := hi'
        obtain ⟨y, hy1, hy2⟩ := open_rep e ei n c _ he hd ht'
        exact ⟨y, hy2, c, hc, hy1⟩
      obtain ⟨ys, hy1, hy2⟩ := list_of len hq
      refine ⟨ys, ⟨some a, cap, by rw [hy1], by rw [hy1]; exact hl, fun i hi => ?_⟩, ?_⟩
      · obtain ⟨_, c, hc, hr⟩ := hy2 i hi
        obtain ⟨_, c0, hc0, _⟩ := hy2 0 (by omega)
        have hs := cells_spot hc0 hpos
        obtain ⟨hcl, hcc⟩ := cells_add hs hc
        exact ⟨a, c, rfl, hs, hcl, hr, hcc⟩
      · simp only [wfD, Bool.and_eq_true, decide_eq_true_eq, List.all_eq_true]
        refine ⟨by rw [hy1]; omega, fun y hy => ?_⟩
        obtain ⟨i, hi, rfl⟩ := List.getElem_of_mem hy
        exact (hy2 i hi).1
  | .arr n e, T, fuel, cs, x, ht, hd, h => by
    obtain ⟨ei, hu, he⟩ := tyB_arr ht
    obtain ⟨xs, m, _, _, hl, hxs, hel⟩ := DataW.trod_array hu h
    have hsz := cellsOf_ty he
    rw [cellsOf_ty ht] at hl
    obtain ⟨ys, h1, h2, h3⟩ := parts_of (R := RepC W (startG W) e) (Wf := wfD e) n cs hl fun i hi => by
      have hi' := hel i hi
      rw [List.getElem?_eq_getElem (by omega), hsz] at hi'
      exact open_rep e ei m _ _ he hd hi'
    exact ⟨ys, ⟨h1, h2⟩, h3⟩
  | .struct c, T, fuel, cs, x, ht, hd, h => by
    obtain ⟨fs, hu, hc⟩ := tyB_struct ht
    obtain ⟨xs, n, _, _, hl, hxs, hf⟩ := DataW.trod_struct hu h
    rw [cellsOf_ty ht] at hl
    obtain ⟨y, h1, h2⟩ := open_chain (sp := sp) (held := held) (W := W) c fs.toList 0 n cs hc hd (by simpa [Ty.size] using hl) (fun i f hif => by
      rw [Array.getElem?_toList] at hif
      have := hf i f hif
      have hi : i < xs.length := by rw [hxs]; exact (Array.getElem?_eq_some_iff.1 hif).1
      rw [List.getElem?_eq_getElem hi] at this
      exact ⟨_, this⟩)
    exact ⟨y, by show RepC W (startG W) c y cs; simpa using h1, h2⟩
  | .unit, _, _, _, _, ht, _, _ => by simp [tyB] at ht
  | .prod _ _, _, _, _, _, ht, _, _ => by simp [tyB] at ht
theorem open_chain {W : World} {sp : Nat → Bool} {held : Bool} : ∀ (c : Ty) (fs : List Field) (off n : Nat) (cs : List Value), chB P c fs off = true → dataB c = true → cs.length = off + c.size →
    (∀ (i : Nat) (f : Field), fs[i]? = some f → ∃ x : DataW H × List MemPlace, DataW.trod enc P W 0 sp held n f.type ((cs.drop f.offset).take (P.cellsOf f.type)) = some x) →
    ∃ y : c.den, RepC W (startG W) c y (cs.drop off) ∧ wfD c y = true
  | .unit, fs, off, n, cs, hc, _, hl, _ => by
    refine ⟨(), ?_, rfl⟩
    show cs.drop off = []
    rw [List.drop_eq_nil_iff]
    simp only [Ty.size] at hl
    omega
  | .prod a b, [], off, n, cs, hc, _, _, _ => by simp [chB] at hc
  | .prod a b, f :: rest, off, n, cs, hc, hd, hl, hf => by
    simp only [chB, Bool.and_eq_true, beq_iff_eq] at hc
    simp only [dataB, Bool.and_eq_true] at hd
    obtain ⟨⟨h1, h2⟩, h3⟩ := hc
    obtain ⟨x, hx⟩ := hf 0 f rfl
    rw [h1, cellsOf_ty h2] at hx
    obtain ⟨y, hy1, hy2⟩ := open_rep a f.type n _ x h2 hd.1 hx
    obtain ⟨z, hz1, hz2⟩ := open_chain (sp := sp) (held := held) (W := W) b rest (off + a.size) n cs h3 hd.2 (by simp only [Ty.size] at hl; omega) (fun i f' hi => hf (i + 1) f' (by simpa using hi))
    refine ⟨(y, z), ⟨_, _, ?_, hy1, hz1⟩, ?_⟩
    · rw [← List.drop_drop, List.take_append_drop]
    · simp only [wfD, Bool.and_eq_true]; exact ⟨hy2, hz2⟩
  | .int _, _, _, _, _, hc, _, _, _ | .bool, _, _, _, _, hc, _, _, _ | .str, _, _, _, _, hc, _, _, _ | .any, _, _, _, _, hc, _, _, _ | .err, _, _, _, _, hc, _, _, _ | .slice _, _, _, _, _, hc, _, _, _ | .arr _ _, _, _, _, _, hc, _, _, _ | .struct _, _, _, _, _, hc, _, _, _ => by
    simp [chB] at hc
end

/-- What a statement's function is given: data of a kind, as they came in. -/
def ArgOf : Ty → X → Prop
  | .slice e, x => ∃ (xs : List e.den) (nl : Bool), x = .sl e xs (some nl) false ∧ wfD (.slice e) xs = true ∧ (!nl || xs.isEmpty) = true
  | t, x => ∃ y : t.den, x = .d t y ∧ wfD t y = true

theorem okWide_one {t : Ty} {T : Nat} {W : World} {r : Reach} {base : Nat} {v : Value} (ht : tyB P t T = true) (hd : dataB t = true) (h : Value.okWide P W r base T v) : IsVal t v.cells.toList v := by
  unfold IsVal
  cases t with
  | int k => obtain ⟨n, rfl⟩ := okWide_int (tyB_int ht) h; rfl
  | bool => obtain ⟨n, rfl⟩ := okWide_bool (tyB_bool ht) h; rfl
  | str => obtain ⟨n, rfl⟩ := okWide_string (tyB_str ht) h; rfl
  | any => cases hd
  | err => cases hd
  | slice e =>
    obtain ⟨ei, hu, _, _⟩ := tyB_slice ht
    obtain ⟨a, l, c, rfl⟩ := okWide_slice hu h; rfl
  | arr n e =>
    obtain ⟨ei, hu, _⟩ := tyB_arr ht
    simp only [Value.okWide, hu] at h
    obtain ⟨cs, rfl, _⟩ := h
    simp [Ty.isAgg, Value.cells]
  | struct c =>
    obtain ⟨fs, hu, _⟩ := tyB_struct ht
    simp only [Value.okWide, hu] at h
    obtain ⟨cs, rfl, _⟩ := h
    simp [Ty.isAgg, Value.cells]
  | unit => simp [tyB] at ht
  | prod _ _ => simp [tyB] at ht

theorem open_arg {t : Ty} {T : Nat} {W : World} {r : Reach} {base : Nat} {sp : Nat → Bool} {held : Bool} {v : Value} {d : DataW H} {ps : List MemPlace} (ht : tyB P t T = true) (hd : dataB t = true)
    (hval : Value.okWide P W r base T v) (h : DataW.Trod enc P W 0 sp held T v d ps) : ∃ x, ArgOf t x ∧ RepX (startG W) W 0 .no x v := by
  obtain ⟨fuel, hf⟩ := h
  obtain ⟨y, hy1, hy2⟩ := open_rep t T fuel _ _ ht hd hf
  have hv := okWide_one ht hd hval
  cases t with
  | slice e =>
    obtain ⟨ei, hu, _, _⟩ := tyB_slice ht
    obtain ⟨a, l, c, rfl⟩ := okWide_slice hu hval
    obtain ⟨a', c', e1, e2, e3⟩ := hy1
    have e1' : a = a' ∧ l = List.length y ∧ c = c' := by simpa [Value.cells] using e1
    obtain ⟨rfl, rfl, rfl⟩ := e1'
    refine ⟨.sl e y (some a.isNone) false, ⟨y, a.isNone, rfl, hy2, ?_⟩, ?_⟩
    · cases a with
      | none =>
        cases y with
        | nil => rfl
        | cons z zs =>
          obtain ⟨A, _, hA, _⟩ := e3 0 (by simp)
          cases hA
      | some _ => rfl
    · simp only [RepX]
      exact ⟨a, c, rfl, e2, e3, by simp, by simp⟩
  | int k => exact ⟨.d _ y, ⟨y, rfl, hy2⟩, by simp only [RepX]; exact ⟨_, hy1, hv⟩⟩
  | bool => exact ⟨.d _ y, ⟨y, rfl, hy2⟩, by simp only [RepX]; exact ⟨_, hy1, hv⟩⟩
  | str => exact ⟨.d _ y, ⟨y, rfl, hy2⟩, by simp only [RepX]; exact ⟨_, hy1, hv⟩⟩
  | any => cases hd
  | err => cases hd
  | arr n e => exact ⟨.d _ y, ⟨y, rfl, hy2⟩, by simp only [RepX]; exact ⟨_, hy1, hv⟩⟩
  | struct c => exact ⟨.d _ y, ⟨y, rfl, hy2⟩, by simp only [RepX]; exact ⟨_, hy1, hv⟩⟩
  | unit => simp [tyB] at ht
  | prod _ _ => simp [tyB] at ht

theorem wfD_int {k : IntKind} {n : Int} (h : wfD (.int k) n = true) : k.min ≤ n ∧ n ≤ k.max := by
  have h' : (Lit.int k n).wf = true := h
  simpa only [Lit.wf, Bool.and_eq_true, decide_eq_true_eq] using h'

end Go.Proofs.Ytnbfiifkaddehaa.V

/- Statements as functions of whatever data; what their rows ask. -/
namespace Go.Proofs.Ytnbfiifkaddehaa.V
open Go Go.ChangeShapes Go.WideShapes Go.ChangeAt Go.RowKit
set_option linter.unusedVariables false
set_option linter.unusedSimpArgs false

/-- What a statement is given. -/
def ArgsOf : List Ty → List X → Prop
  | [], [] => True
  | t :: ts, x :: xs => ArgOf t x ∧ ArgsOf ts xs
  | _, _ => False

theorem ArgsOf.nil {args : List X} (h : ArgsOf [] args) : args = [] := by
  cases args with
  | nil => rfl
  | cons _ _ => cases h
theorem ArgsOf.cons {t : Ty} {ts : List Ty} {args : List X} (h : ArgsOf (t :: ts) args) : ∃ x xs, args = x :: xs ∧ ArgOf t x ∧ ArgsOf ts xs := by
  cases args with
  | nil => cases h
  | cons x xs => exact ⟨x, xs, rfl, h.1, h.2⟩

open Classical in
/-- What is told of a statement's function: true, whatever it is given. -/
noncomputable def LawFc (ts : List Ty) : List X → Tr X := fun args => if ArgsOf ts args then .give (.d .bool true) else .no

theorem ArgOf.argB {t : Ty} {x : X} (h : ArgOf t x) : argB x = true := by
  cases t
  case slice e => obtain ⟨xs, nl, rfl, _⟩ := h; rfl
  all_goals (obtain ⟨y, rfl, _⟩ := h; rfl)
theorem ArgsOf.argsB : ∀ (ts : List Ty) (xs : List X), ArgsOf ts xs → argsB xs = true
  | [], [], _ => rfl
  | t :: ts, x :: xs, h => by
    simp only [V.argsB, Bool.and_eq_true]
    exact ⟨h.1.argB, ArgsOf.argsB ts xs h.2⟩
  | [], _ :: _, h => by cases h
  | _ :: _, [], h => by cases h

theorem law_pure {P : Program} {C : Ctx} (hC : COk P C) (hmix : P.follows .mixedOrders = true) (f : Nat) (fn : Func) (ts : List Ty) (hf : P.funcs[f]? = some fn) (hname : (fn.name == "runtime.NumGoroutine") = false) (hb : fn.body.isSome = true) (fuel n : Nat)
    (hn : (loopsAll (bodyOf fn)).length = n) (hL : ∀ i, i < n → Tells C fuel (loopAt fn i)) (hcore : ∀ args, ArgsOf ts args → ∃ H', bodyX C fuel fn args [] = some (.d .bool true, H')) (hR : RfsOk C fn := by exact RfsOk.none (by kernel_rfl)) (hJ : RgsT C fn := by exact RgsT.none rfl) : OrcOk P f (.pure (LawFc ts)) := by
  refine pureOk hC hmix f fn hf hname hb fuel n hn hL (fun args r h => ?_) hR hJ
  unfold LawFc at h
  split at h
  · rename_i hg
    cases h
    exact ⟨ArgsOf.argsB ts args hg, rfl, hcore args hg⟩
  · cases h

theorem law_run {P : Program} {f : Nat} {ts : List Ty} (hok : OrcOk P f (.pure (LawFc ts))) {args : List X} (h : ArgsOf ts args) (W : World) (ht : Tabs (startG W) W) (vs : List Value) (rep : RepXs (startG W) W 0 args vs) :
    Calls P f vs.toArray W fun e w' => e = .returned (.bool true) ∧ Below W.heap.size W w' :=
  law_walk hok args (by unfold LawFc; rw [if_pos h]; rfl) W ht vs rep

variable {P : Program} {H : Type} {enc : TypeId × Value → H}

def tysB (P : Program) : List Ty → List Nat → Bool
  | [], [] => true
  | t :: ts, T :: Ts => tyB P t T && dataB t && tysB P ts Ts
  | _, _ => false
def bookB (P : Program) (Ts : List Nat) : Bool := Ts.all fun T => P.readableRec T && decide (T < P.types.size)

theorem open_args {W : World} {r : Reach} {base : Nat} {sp : Nat → Bool} {held : Bool} : ∀ (ts : List Ty) (Ts : List TypeId) (vs : List Value) (ds : List (DataW H)) (p : List MemPlace), tysB P ts Ts = true →
    (∀ (j : Nat) t v, Ts[j]? = some t → vs[j]? = some v → Value.okWide P W r base t v) → DataW.TrodAll enc P W 0 sp held Ts vs ds p → ∃ xs, ArgsOf ts xs ∧ RepXs (startG W) W 0 xs vs
  | [], [], [], _, _, _, _, _ => ⟨[], trivial, by simp only [RepXs]⟩
  | [], [], _ :: _, ds, _, _, _, h => by cases ds <;> cases h
  | t :: ts, T :: Ts, v :: vs, d :: ds, p, ht, hv, h => by
    simp only [tysB, Bool.and_eq_true] at ht
    obtain ⟨p1, p2, h1, h2, _⟩ := h
    obtain ⟨x, hx1, hx2⟩ := open_arg ht.1.1 ht.1.2 (hv 0 T v rfl rfl) h1
    obtain ⟨xs, hs1, hs2⟩ := open_args ts Ts vs ds p2 ht.2 (fun j t v e1 e2 => hv (j + 1) t v (by simpa using e1) (by simpa using e2)) h2
    refine ⟨x :: xs, ⟨hx1, hs1⟩, ?_⟩
    simp only [RepXs]
    exact ⟨v, vs, rfl, hx2, hs2⟩
  | t :: ts, T :: Ts, [], ds, _, _, _, h => by cases ds <;> cases h
  | t :: ts, T :: Ts, _ :: _, [], _, _, _, h => by cases h
  | [], _ :: _, _, _, _, ht, _, _ => by cases ht
  | _ :: _, [], _, _, _, ht, _, _ => by cases ht

theorem trod_still (hl : laidOutB P = true) {W W' : World} (hb : Below W.heap.size W W') : ∀ (Ts : List TypeId) (vs : List Value) (ds : List (DataW H)) (p : List MemPlace), bookB P Ts = true →
    DataW.TrodAll enc P W 0 (fun _ => true) true Ts vs ds p → (∀ x ∈ p, x.block < W.heap.size) → DataW.TrodAll enc P W' 0 (fun b => decide (b < W.heap.size)) true Ts vs ds p
  | [], [], [], _, _, h, _ => h
  | T :: Ts, v :: vs, d :: ds, p, hB, h, hlt => by
    obtain ⟨p1, p2, h1, h2, rfl⟩ := h
    simp only [bookB, List.all_cons, Bool.and_eq_true, decide_eq_true_eq] at hB
    refine ⟨p1, p2, Below.trod hl hB.1.1 hB.1.2 h1 hb (fun x hx => hlt x (by simp [hx])), trod_still hl hb Ts vs ds p2 ?_ h2 (fun x hx => hlt x (by simp [hx])), rfl⟩
    unfold bookB
    rw [List.all_eq_true]
    intro T hT
    have := List.all_eq_true.1 hB.2 T hT
    exact this
  | [], [], _ :: _, _, _, h, _ => by cases h
  | [], _ :: _, ds, _, _, h, _ => by cases ds <;> cases h
  | _ :: _, [], ds, _, _, h, _ => by cases ds <;> cases h
  | _ :: _, _ :: _, [], _, _, h, _ => by cases h

end Go.Proofs.Ytnbfiifkaddehaa.V

/- What is told of functions: less may be told of a result; a slice that came in may be nil or not. -/
namespace Go.Proofs.Ytnbfiifkaddehaa.V
open Go
set_option linter.unusedVariables false
set_option linter.unusedSimpArgs false

/-- Less told of one value. -/
def Wk1 (y x : X) : Prop := x = .dead ∨ x = y ∨ ∃ e xs nl nl' o o', y = .sl e xs nl o ∧ x = .sl e xs nl' o' ∧ (nl' = none ∨ nl' = nl) ∧ (o' = true → o = true)
def Wk1s : List X → List X → Prop
  | [], [] => True
  | y :: ys, x :: xs => Wk1 y x ∧ Wk1s ys xs
  | _, _ => False
/-- Less told of a result. -/
def Wk (y x : X) : Prop := Wk1 y x ∨ ∃ ys xs, y = .tup ys ∧ x = .tup xs ∧ Wk1s ys xs

theorem Wk1.same (x : X) : Wk1 x x := .inr (.inl rfl)
theorem Wk.same (x : X) : Wk x x := .inl (.same x)
theorem Wk1.sl {e : Ty} {xs : List e.den} {nl nl' : Option Bool} {o o' : Bool} (h : nl' = none ∨ nl' = nl) (ho : o' = true → o = true) : Wk1 (.sl e xs nl o) (.sl e xs nl' o') := .inr (.inr ⟨e, xs, nl, nl', o, o', rfl, rfl, h, ho⟩)

theorem RepX.wk1 {g w} {dh : Nat} {κ : Key} {y x : X} {v : Value} (h : Wk1 y x) (r : RepX g w dh κ y v) : RepX g w dh κ x v := by
  rcases h with rfl | rfl | ⟨e, xs, nl, nl', o, o', rfl, rfl, hn, ho⟩
  · simp [RepX]
  · exact r
  · simp only [RepX] at r ⊢
    obtain ⟨a, c, h1, h2, h3, h4, h5⟩ := r
    refine ⟨a, c, h1, h2, h3, fun b hb => ?_, fun hb => h5 (ho hb)⟩
    rcases hn with rfl | rfl
    · cases hb
    · exact h4 b hb
theorem RepXs.wk1 {g w} {dh : Nat} : ∀ {ys xs : List X} {vs : List Value}, Wk1s ys xs → RepXs g w dh ys vs → RepXs g w dh xs vs
  | [], [], _, _, r => r
  | y :: ys, x :: xs, vs, h, r => by
    obtain ⟨h1, h2⟩ := h
    simp only [RepXs] at r ⊢
    obtain ⟨v, us, e, r1, r2⟩ := r
    exact ⟨v, us, e, r1.wk1 h1, r2.wk1 h2⟩
  | [], _ :: _, _, h, _ => h.elim
  | _ :: _, [], _, h, _ => h.elim
theorem RepX.wk {g w} {dh : Nat} {κ : Key} {y x : X} {v : Value} (h : Wk y x) (r : RepX g w dh κ y v) : RepX g w dh κ x v := by
  rcases h with h | ⟨ys, xs, rfl, rfl, h⟩
  · exact r.wk1 h
  · simp only [RepX] at r ⊢
    obtain ⟨vs, e, r⟩ := r
    exact ⟨vs, e, r.wk1 h⟩

theorem PureOk.wk {P : Program} {f : Nat} {F G : List X → Option X} (h : PureOk P f F) (hG : ∀ args r, G args = some r → ∃ y, F args = some y ∧ Wk y r) : PureOk P f G := by
  refine ⟨h.1, fun args r hr g w d dh vs h1 h2 h3 => ?_⟩
  obtain ⟨y, hy, hw⟩ := hG args r hr
  refine (h.2 args y hy g w d dh vs h1 h2 h3).mono ?_
  rintro e w' ⟨v, g', he, k1, k2, k3⟩
  exact ⟨v, g', he, k1.wk hw, k2, k3⟩
theorem EffOk.wk {P : Program} {f : Nat} {F G : List X → Hp → Option (X × Hp)} (h : EffOk P f F) (hG : ∀ args H r H', G args H = some (r, H') → ∃ y, F args H = some (y, H') ∧ Wk y r) : EffOk P f G := by
  refine ⟨h.1, fun args H r H' hr g w d dh vs h1 h2 h3 h4 => ?_⟩
  obtain ⟨y, hy, hw⟩ := hG args H r H' hr
  refine (h.2 args H y H' hy g w d dh vs h1 h2 h3 h4).mono ?_
  rintro e w' ⟨v, g', he, k1, k2, k3, k4⟩
  exact ⟨v, g', he, k1.wk hw, k2, k3, k4⟩

/-- A function whose first argument is a slice: nil or not, if it is not known. -/
theorem PureOk.anyNl {P : Program} {f : Nat} {F G : List X → Option X} (h : PureOk P f F)
    (hG : ∀ args r, G args = some r → F args = some r ∨ ∃ e xs rest, args = .sl e xs none false :: rest ∧ (xs = [] → ∃ y, F (.sl e xs (some true) false :: rest) = some y ∧ Wk y r) ∧ ∃ y, F (.sl e xs (some false) false :: rest) = some y ∧ Wk y r) : PureOk P f G := by
  refine ⟨h.1, fun args r hr g w d dh vs h1 h2 h3 => ?_⟩
  rcases hG args r hr with hr' | ⟨e, xs, rest, rfl, hA, hB⟩
  · exact h.2 args r hr' g w d dh vs h1 h2 h3
  · simp only [RepXs] at h3
    obtain ⟨v0, us, rfl, hv, hrest⟩ := h3
    have hv' := hv
    simp only [RepX] at hv'
    obtain ⟨a, c, rfl, k2, k3, _, _⟩ := hv'
    have go : ∀ b, a.isNone = b → (∃ y, F (.sl e xs (some b) false :: rest) = some y ∧ Wk y r) → Calls P f (.slice a xs.length c :: us).toArray w fun e w' => ∃ v g', e = .returned v ∧ RepX g' w' dh (.tmp (d + 1) 0) r v ∧ Ext g w g' w' d (fun κ => κ.deep (d + 1)) ∧ WF g' w' := by
      rintro b hb ⟨y, hy, hw⟩
      have hrep : RepXs g w dh (.sl e xs (some b) false :: rest) (.slice a xs.length c :: us) := by
        simp only [RepXs]
        refine ⟨_, _, rfl, ?_, hrest⟩
        simp only [RepX]
        exact ⟨a, c, rfl, k2, k3, fun b' hb' => by cases hb'; exact hb, fun hb => by cases hb⟩
      refine (h.2 _ y hy g w d dh _ h1 h2 hrep).mono ?_
      rintro e' w' ⟨v, g', he, q1, q2, q3⟩
      exact ⟨v, g', he, q1.wk hw, q2, q3⟩
    cases a with
    | none =>
      refine go true rfl (hA ?_)
      cases xs with
      | nil => rfl
      | cons x xs =>
        obtain ⟨A, _, hA', _⟩ := k3 0 (by simp)
        cases hA'
    | some A => exact go false rfl hB

/-- A function of its arguments alone; less is told of its result than its text does. -/
theorem pureWk {P : Program} {C : Ctx} (hC : COk P C) (hmix : P.follows .mixedOrders = true) (f : Nat) (fn : Func) (hf : P.funcs[f]? = some fn) (hname : (fn.name == "runtime.NumGoroutine") = false) (hb : fn.body.isSome = true) (fuel n : Nat)
    (hn : (loopsAll (bodyOf fn)).length = n) (hL : ∀ i, i < n → Tells C fuel (loopAt fn i)) {F : List X → Option X}
    (hF : ∀ args r, F args = some r → argsB args = true ∧ ∃ x H', bodyX C fuel fn args [] = some (x, H') ∧ resB x = true ∧ Wk x r) (hR : RfsOk C fn := by exact RfsOk.none (by kernel_rfl)) (hJ : RgsT C fn := by exact RgsT.none rfl) : PureOk P f F := by
  have h0 : PureOk P f fun args => if (F args).isSome then (bodyX C fuel fn args []).map (·.1) else none := by
    refine pureOk hC hmix f fn hf hname hb fuel n hn hL (fun args r h => ?_) hR hJ
    split at h
    · rename_i hs
      obtain ⟨r0, hr0⟩ := Option.isSome_iff_exists.1 hs
      obtain ⟨k1, x, H', k2, k3, k4⟩ := hF args r0 hr0
      rw [k2] at h
      simp only [Option.map_some, Option.some.injEq] at h
      subst h
      exact ⟨k1, k3, H', k2⟩
    · cases h
  refine h0.wk fun args r h => ?_
  obtain ⟨k1, x, H', k2, k3, k4⟩ := hF args r h
  exact ⟨x, by simp [h, k2], k4⟩

end Go.Proofs.Ytnbfiifkaddehaa.V

/- From the tables that a row lists to what the evaluator is told of them. -/
namespace Go.Proofs.Ytnbfiifkaddehaa.V
open Go Go.ChangeShapes Go.WideShapes Go.ChangeAt Go.RowKit
set_option linter.unusedVariables false
set_option linter.unusedSimpArgs false

mutual
/-- Data of numbers, as the claims' form has them. -/
def dataOf : (t : Ty) → t.den → DataW Unit
  | .int k, n => .lit (.int k n)
  | .arr _ e, l => .agg (List.map (dataOf e) l)
  | .struct c, x => .agg (dataOfs c x)
  | _, _ => .nil
def dataOfs : (c : Ty) → c.den → List (DataW Unit)
  | .prod a b, x => dataOf a x.1 :: dataOfs b x.2
  | _, _ => []
end
/-- Kinds that bear numbers alone. -/
def tabB : Ty → Bool
  | .int _ => true
  | .arr _ e => tabB e
  | .struct c => tabB c
  | .unit => true
  | .prod a b => tabB a && tabB b
  | _ => false

theorem parts_of_idx {α : Type} {R : α → List Value → Prop} {s : Nat} : ∀ (ys : List α) (cs : List Value), cs.length = ys.length * s → (∀ i (h : i < ys.length), R ys[i] ((cs.drop (i * s)).take s)) → Parts R ys cs
  | [], cs, h, _ => by
    show cs = []
    simpa using h
  | y :: ys, cs, h, hr => by
    refine ⟨cs.take s, cs.drop s, (List.take_append_drop s cs).symm, by have h0 := hr 0 (by simp); rw [Nat.zero_mul, List.drop_zero] at h0; exact h0, parts_of_idx (s := s) ys (cs.drop s) (by rw [List.length_drop, h, List.length_cons, Nat.add_mul]; omega) fun i hi => ?_⟩
    have := hr (i + 1) (by simpa using hi)
    rw [List.drop_drop]
    rw [Nat.add_mul, Nat.one_mul, Nat.add_comm (i * s) s] at this
    exact this

variable {P : Program} {enc : TypeId × Value → Unit}

mutual
theorem trod_tab {W : World} {g : Ghost} {sp : Nat → Bool} {held : Bool} : ∀ (t : Ty) (T fuel : Nat) (cs : List Value) (p : List MemPlace) (y : t.den), tyB P t T = true → tabB t = true →
    DataW.trod enc P W 0 sp held fuel T cs = some (dataOf t y, p) → RepC W g t y cs
  | .int k, T, fuel, cs, p, y, ht, _, h => by
    obtain ⟨n, rfl, e, _⟩ := DataW.trod_int (tyB_int ht) h
    simp only [dataOf, Prod.mk.injEq, DataW.lit.injEq, Lit.int.injEq, true_and] at e
    rw [e.1]
    rfl
  | .arr n e, T, fuel, cs, p, y, ht, hk, h => by
    obtain ⟨ei, hu, he⟩ := tyB_arr ht
    obtain ⟨xs, m, _, ex, hl, hxs, hel⟩ := DataW.trod_array hu h
    have hsz := cellsOf_ty he
    rw [cellsOf_ty ht] at hl
    simp only [dataOf, Prod.mk.injEq, DataW.agg.injEq] at ex
    have hly : List.length y = n := by
      have := congrArg List.length ex.1
      simp at this
      omega
    refine ⟨hly, parts_of_idx (s := e.size) y cs (by rw [hl, hly]; rfl) fun i hi => ?_⟩
    have hi' := hel i (by omega)
    rw [hsz, List.getElem?_eq_getElem (by omega)] at hi'
    have hx : xs[i].1 = dataOf e (List.get y ⟨i, hi⟩) := by
      have h2 := congrArg (fun l : List (DataW Unit) => l[i]?) ex.1
      simp only [List.getElem?_map] at h2
      rw [List.getElem?_eq_getElem (by omega : i < xs.length), List.getElem?_eq_getElem hi] at h2
      simpa using h2.symm
    have hq : xs[i] = (dataOf e (List.get y ⟨i, hi⟩), xs[i].2) := Prod.ext hx rfl
    rw [hq] at hi'
    exact trod_tab e ei m _ _ _ he hk hi'
  | .struct c, T, fuel, cs, p, y, ht, hk, h => by
    obtain ⟨fs, hu, hc⟩ := tyB_struct ht
    obtain ⟨xs, n, _, ex, hl, hxs, hf⟩ := DataW.trod_struct hu h
    rw [cellsOf_ty ht] at hl
    simp only [dataOf, Prod.mk.injEq, DataW.agg.injEq] at ex
    have := trod_tabs (sp := sp) (held := held) (W := W) (g := g) c fs.toList 0 n cs y hc hk (by simpa [Ty.size] using hl) (fun i f d hif hd => by
      rw [Array.getElem?_toList] at hif
      have h1 := hf i f hif
      rw [ex.1] at hd
      rw [List.getElem?_map, Option.map_eq_some_iff] at hd
      obtain ⟨q, hq, rfl⟩ := hd
      exact ⟨q.2, by rw [h1, hq]⟩)
    show RepC W g c y cs
    simpa using this
  | .bool, _, _, _, _, _, _, hk, _ | .str, _, _, _, _, _, _, hk, _ | .any, _, _, _, _, _, _, hk, _ | .err, _, _, _, _, _, _, hk, _ | .slice _, _, _, _, _, _, _, hk, _ => by cases hk
  | .unit, _, _, _, _, _, ht, _, _ => by simp [tyB] at ht
  | .prod _ _, _, _, _, _, _, ht, _, _ => by simp [tyB] at ht
theorem trod_tabs {W : World} {g : Ghost} {sp : Nat → Bool} {held : Bool} : ∀ (c : Ty) (fs : List Field) (off n : Nat) (cs : List Value) (y : c.den), chB P c fs off = true → tabB c = true → cs.length = off + c.size →
    (∀ (i : Nat) (f : Field) (d : DataW Unit), fs[i]? = some f → (dataOfs c y)[i]? = some d → ∃ q, DataW.trod enc P W 0 sp held n f.type ((cs.drop f.offset).take (P.cellsOf f.type)) = some (d, q)) →
    RepC W g c y (cs.drop off)
  | .unit, fs, off, n, cs, y, hc, _, hl, _ => by
    show cs.drop off = []
    rw [List.drop_eq_nil_iff]
    simp only [Ty.size] at hl
    omega
  | .prod a b, [], off, n, cs, y, hc, _, _, _ => by simp [chB] at hc
  | .prod a b, f :: rest, off, n, cs, y, hc, hd, hl, hf => by
    simp only [chB, Bool.and_eq_true, beq_iff_eq] at hc
    simp only [tabB, Bool.and_eq_true] at hd
    obtain ⟨⟨h1, h2⟩, h3⟩ := hc
    obtain ⟨x, hx⟩ := hf 0 f (dataOf a y.1) rfl rfl
    rw [h1, cellsOf_ty h2] at hx
    have hy1 := trod_tab (g := g) a f.type n _ x y.1 h2 hd.1 hx
    have hz1 := trod_tabs (g := g) (sp := sp) (held := held) (W := W) b rest (off + a.size) n cs y.2 h3 hd.2 (by simp only [Ty.size] at hl; omega) (fun i f' d hi hd' => hf (i + 1) f' d (by simpa using hi) (by simpa [dataOfs] using hd'))
    refine ⟨_, _, ?_, hy1, hz1⟩
    rw [← List.drop_drop, List.take_append_drop]
  | .int _, _, _, _, _, _, hc, _, _, _ | .bool, _, _, _, _, _, hc, _, _, _ | .str, _, _, _, _, _, hc, _, _, _ | .any, _, _, _, _, _, hc, _, _, _ | .err, _, _, _, _, _, hc, _, _, _ | .slice _, _, _, _, _, _, hc, _, _, _ | .arr _ _, _, _, _, _, _, hc, _, _, _ | .struct _, _, _, _, _, _, hc, _, _, _ => by
    simp [chB] at hc
end

theorem tab_of_laid {W : World} {n : String} {g T fuel : Nat} {t : Ty} {x : t.den} {cs : Array Value} {p : List MemPlace} {sp : Nat → Bool} {held : Bool} (hg : P.globalNamed n = some g) (hT : tyB P t T = true) (hk : tabB t = true) (hv : W.var? P n = some cs)
    (hd : DataW.trod enc P W 0 sp held fuel T cs.toList = some (dataOf t x, p)) :
    (startG W).own g = none ∧ ∃ arr ty fr, W.heap[g]? = some (.cells arr ty fr) ∧ RepC W (mini (startG W).U) t x arr.toList ∧ ∀ j, j < arr.size → j < (startG W).U g := by
  have hh : ∃ ty fr, W.heap[g]? = some (.cells cs ty fr) := by
    unfold World.var? at hv
    rw [hg, Option.bind_some] at hv
    split at hv
    · rename_i cs' ty fr e
      cases hv
      exact ⟨ty, fr, e⟩
    · cases hv
  obtain ⟨ty, fr, hh⟩ := hh
  refine ⟨rfl, cs, ty, fr, hh, trod_tab t T fuel _ _ x hT hk hd, fun j hj => ?_⟩
  have hc : W.cell? ⟨g, j, none⟩ = some cs.toList[j] := by
    rw [World.var?_cell hg hv j, ← Array.getElem?_toList, List.getElem?_eq_getElem (by simpa using hj)]
  exact (startG_U hc).2

end Go.Proofs.Ytnbfiifkaddehaa.V

/- What is told of functions that are handed their first argument's room. -/
namespace Go.Proofs.Ytnbfiifkaddehaa.V
open Go
set_option linter.unusedVariables false
set_option linter.unusedSimpArgs false

theorem own_ok {P : Program} {C : Ctx} (hC : COk P C) (hmix : P.follows .mixedOrders = true) {f : Nat} {fn : Func} {c : Code} (hf : P.funcs[f]? = some fn) (hname : fn.name ≠ "runtime.NumGoroutine") (hb : fn.body = some c) (fuel : Nat)
    (hL : ∀ d, LoopsOk P C d d (loopsOf c)) (hR : ∀ q ∈ rfOf c, RfOk C q) (hJ : ∀ d dh, ∀ q ∈ rgOf c, RgOk P C d dh q) {F : List X → Option X}
    (hF : ∀ (e : Ty) (xs : List e.den) (nl : Option Bool) (rest : List X) (r : X), F (.sl e xs nl true :: rest) = some r → argsB rest = true ∧ resB r = true ∧ ∃ H', bodyX C fuel fn (.sl e xs nl true :: rest) [] = some (r, H')) (hps : ∀ (e : Ty) (xs : List e.den) (rest : List X), F (.ps e xs :: rest) = none) : OwnOk P f F := by
  refine ⟨fnOk hf hname (by simp [hb]), fun e0 xs0 nl0 rest r hr g w d dh v vs hd hw hv ha => ?_, fun e0 xs0 rest r hr => by rw [hps] at hr; cases hr⟩
  obtain ⟨hab, hrb, H', hbody⟩ := hF e0 xs0 nl0 rest r hr
  simp only [bodyX, hb] at hbody
  let g0 : Ghost := { g with N := fun h => if h = d + 1 then 0 else g.N h }
  have he0 : Ext g w g0 w d (fun κ => κ.heap (d + 1)) := by
    refine ⟨rfl, rfl, rfl, Nat.le_refl _, fun _ _ _ => ⟨rfl, rfl, rfl⟩, fun _ _ h => ⟨rfl, h⟩, fun h hh id hid => ?_, fun h hh => ?_⟩
    · have : h ≠ d + 1 := by omega
      simp [g0, this, hid]
    · have : h ≠ d + 1 := by
        rintro rfl
        exact hh (.obj (d + 1) 0) rfl rfl
      simp [g0, this]
  have hv0 : RepX g0 w (d + 1) (.tmp (d + 1) 0) (.sl e0 xs0 nl0 true) v :=
    RepX.res rfl (RepX.ext (κ := .tmp (d + 1) 0) he0 hd (fun e => e) (fun e => e) _ _ hv)
  have hv0' : RepX g0 w (d + 1) .no (.sl e0 xs0 nl0 false) v := by
    simp only [RepX] at hv0 ⊢
    obtain ⟨a, c, h1, h2, h3, h4, _⟩ := hv0
    exact ⟨a, c, h1, h2, h3, h4, fun e => by cases e⟩
  have hrest0 : RepXs g0 w (d + 1) rest vs := RepXs.far rest vs hab (RepXs.ext he0 hd (fun e => e) rest vs ha)
  have ha0 : RepXs g0 w (d + 1) (.sl e0 xs0 nl0 false :: rest) (v :: vs) := by
    simp only [RepXs]
    exact ⟨v, vs, rfl, hv0', hrest0⟩
  have hH0 : HRep g0 w (d + 1) [] := ⟨by simp [g0], fun id t c e => by simp at e⟩
  have hw0 : WF g0 w := hw
  have hown : ∀ x ∈ (X.sl e0 xs0 nl0 false :: rest), x.unown = x := by
    intro x hx
    rcases List.mem_cons.1 hx with rfl | hx
    · rfl
    · exact argsB_unown rest hab x hx
  have hfr1 := Fr.enter hH0 hw0 (Nat.le_refl (d + 1)) ha0 hown (fn.ntmps - (rest.length + 1))
  have hlen := RepXs.length rest vs hrest0
  have hfr : Fr g0 w (d + 1) (d + 1) { tm := (.sl e0 xs0 nl0 true :: rest) ++ List.replicate (fn.ntmps - (rest.length + 1)) .undef, H := [] } { tmps := (v :: vs).toArray ++ Array.replicate (fn.ntmps - (rest.length + 1)) undef, defers := [] } := by
    refine ⟨hfr1.len, fun t x e => ?_, hfr1.heap, hfr1.wf, hfr1.le, trivial⟩
    cases t with
    | zero =>
      simp only [List.cons_append, List.getElem?_cons_zero, Option.some.injEq] at e
      subst e
      have : ((v :: vs).toArray ++ Array.replicate (fn.ntmps - (rest.length + 1)) undef).getD 0 undef = v := by
        simp [Array.getD]
      rw [this]
      exact hv0
    | succ t => exact hfr1.rep (t + 1) x (by simpa using e)
  refine calls_of_code hf hb ?_
  have hsz : (v :: vs).toArray.size = rest.length + 1 := by simp [hlen]
  rw [hsz]
  refine codeK_sound hC hmix none (by simp) fuel c g0 w _ _ _ _ hfr hbody (hL (d + 1)) hR (hJ (d + 1) (d + 1)) fun e st' a' w' g' h1 h2 h3 => ?_
  have fin : ∀ x, resultsX C fn st' = some x → x = r → LeavesInM (rdF none) 0 P fn a'.tmps (fun e w' => ∃ v g', e = .returned v ∧ RepX g' w' dh (.tmp (d + 1) 0) r v ∧ Ext g w g' w' d (fun κ => κ.deep (d + 1)) ∧ WF g' w') a'.defers .returning w' := by
    rintro x hx rfl
    refine leave_marks a'.defers w' h2 fun w'' hfr hext => ?_
    obtain ⟨v, κ, e1, e2, e3, e4⟩ := resultsX_sound hC.tys hfr fn hx
    refine ⟨v, e1, v, g'.rekey κ (.tmp (d + 1) 0), rfl, RepX.res hrb (RepX.rekey (Nat.le_refl _) e3 _ _ e2), ?_, hfr.wf.rekey⟩
    have hK : ∀ κ, Kf (d + 1) (d + 1) κ → κ.deep (d + 1) := by
      rintro κ (h | h)
      · exact h
      · cases κ <;> simp only [Key.heap, Key.deep] at h ⊢ <;> omega
    refine (he0.mono (Nat.le_refl _) (fun κ hκ => hK κ (.inr hκ))).trans ((h3.mono (Nat.le_succ d) hK).trans ((hext.mono (Nat.le_succ d) ?_).trans (Ghost.rekey_ext.mono (Nat.le_refl _) ?_)))
    · rintro κ' rfl
      exact Nat.le_refl _
    · rintro κ' rfl
      exact hK _ e4
  cases e with
  | normal =>
    simp only at h1
    split at h1
    · rename_i x hx
      simp only [Option.some.injEq, Prod.mk.injEq] at h1
      exact fin x hx h1.1
    · cases h1
  | ret =>
    simp only at h1
    split at h1
    · rename_i x hx
      simp only [Option.some.injEq, Prod.mk.injEq] at h1
      exact fin x hx h1.1
    · cases h1
  | exit i => cases h1
  | goto l => cases h1

/-- A function that is handed its first argument's room. -/
theorem ownOk {P : Program} {C : Ctx} (hC : COk P C) (hmix : P.follows .mixedOrders = true) (f : Nat) (fn : Func) (hf : P.funcs[f]? = some fn) (hname : (fn.name == "runtime.NumGoroutine") = false) (hb : fn.body.isSome = true) (fuel n : Nat)
    (hn : (loopsAll (bodyOf fn)).length = n) (hL : ∀ i, i < n → Tells C fuel (loopAt fn i)) {F : List X → Option X}
    (hF : ∀ (e : Ty) (xs : List e.den) (nl : Option Bool) (rest : List X) (r : X), F (.sl e xs nl true :: rest) = some r → argsB rest = true ∧ resB r = true ∧ ∃ H', bodyX C fuel fn (.sl e xs nl true :: rest) [] = some (r, H')) (hR : RfsOk C fn := by exact RfsOk.none (by kernel_rfl)) (hJ : RgsT C fn := by exact RgsT.none rfl) (hps : ∀ (e : Ty) (xs : List e.den) (rest : List X), F (.ps e xs :: rest) = none := by intro e xs rest; rfl) : OwnOk P f F :=
  own_ok hC hmix hf (by simpa using hname) (bodyOf_eq hb) fuel (fun d => tells_loops hC hmix fuel _ (loopAt_all hn hL) hR (fun d dh q hq => (hJ q hq).ok hC hmix d dh) d d) hR (fun d dh q hq => (hJ q hq).ok hC hmix d dh) hF hps

end Go.Proofs.Ytnbfiifkaddehaa.V

/- Statements whose functions make more than came in: what came in is not too long for any machine. -/
namespace Go.Proofs.Ytnbfiifkaddehaa.V
open Go Go.ChangeShapes Go.WideShapes Go.ChangeAt Go.RowKit
set_option linter.unusedVariables false
set_option linter.unusedSimpArgs false

/-- How many bytes an element has at least. -/
def ebT : Ty → Nat
  | .int k => k.bits / 8
  | .bool => 1
  | .str => 16
  | .slice _ => 24
  | .struct c => ebT c
  | .prod a b => ebT a + ebT b
  | _ => 0
/-- A slice that came in has so many bytes at most. -/
def BdX : Ty → X → Prop
  | .slice e, x => ∃ (xs : List e.den) (nl : Option Bool) (o : Bool), x = .sl e xs nl o ∧ xs.length * ebT e ≤ reachBytes
  | _, _ => True
def BdXs : List Ty → List X → Prop
  | [], [] => True
  | t :: ts, x :: xs => BdX t x ∧ BdXs ts xs
  | _, _ => False
def bdB (P : Program) : List Ty → List Nat → Bool
  | [], [] => true
  | .slice e :: ts, T :: Ts => (match P.underlying T with | some (.slice ei) => decide (ebT e ≤ P.bytesOf ei) | _ => false) && bdB P ts Ts
  | _ :: ts, T :: Ts => bdB P ts Ts
  | _, _ => false

theorem BdXs.cons {t : Ty} {ts : List Ty} {x : X} {xs : List X} (h : BdXs (t :: ts) (x :: xs)) : BdX t x ∧ BdXs ts xs := h

variable {P : Program} {H : Type} {enc : TypeId × Value → H}

theorem arg_bd {W : World} {g : Ghost} {w : World} {dh : Nat} {κ : Key} {sp : Nat → Bool} {held : Bool} {e : Ty} {T ei : Nat} {v : Value} {d : DataW H} {ps : List MemPlace} {xs : List e.den} {nl : Option Bool} {o : Bool}
    (hu : P.underlying T = some (.slice ei)) (hb : ebT e ≤ P.bytesOf ei) (h : DataW.Trod enc P W 0 sp held T v d ps) (hw : (d.weights P T).all (· ≤ reachBytes) = true) (hr : RepX g w dh κ (.sl e xs nl o) v) : xs.length * ebT e ≤ reachBytes := by
  obtain ⟨fuel, hf⟩ := h
  simp only [RepX] at hr
  obtain ⟨a, c, rfl, _⟩ := hr
  have hc : (Value.slice a xs.length c).cells.toList = [.slice a xs.length c] := rfl
  rw [hc] at hf
  rcases DataW.trod_slice hu hf with ⟨e1, _⟩ | ⟨a', len, cap, elems, rest, n, _, e1, e2, _, _, _, hl, _⟩
  · simp only [List.cons.injEq, Value.slice.injEq, and_true] at e1
    rw [e1.2.1]
    simp
  · simp only [List.cons.injEq, Value.slice.injEq, and_true] at e1
    simp only [Prod.mk.injEq] at e2
    rw [e2.1] at hw
    simp only [DataW.weights, hu, List.all_cons, Bool.and_eq_true, decide_eq_true_eq, List.length_map] at hw
    have h1 := hw.1
    rw [Nat.add_mul] at h1
    rw [e1.2.1, ← hl]
    have h2 := Nat.mul_le_mul_left elems.length hb
    omega

theorem args_bd {W : World} {g : Ghost} {w : World} {dh : Nat} {sp : Nat → Bool} {held : Bool} : ∀ (ts : List Ty) (Ts : List TypeId) (vs : List Value) (ds : List (DataW H)) (p : List MemPlace) (xs : List X), bdB P ts Ts = true → ArgsOf ts xs →
    DataW.TrodAll enc P W 0 sp held Ts vs ds p → (DataW.weightsEach P Ts ds).all (· ≤ reachBytes) = true → RepXs g w dh xs vs → BdXs ts xs
  | [], [], [], _, _, [], _, _, _, _, _ => trivial
  | t :: ts, T :: Ts, v :: vs, d :: ds, p, x :: xs, hB, hA, h, hw, hr => by
    obtain ⟨p1, p2, h1, h2, _⟩ := h
    simp only [DataW.weightsEach, List.all_append, Bool.and_eq_true] at hw
    simp only [RepXs] at hr
    obtain ⟨v', us, e, hr1, hr2⟩ := hr
    simp only [List.cons.injEq] at e
    obtain ⟨rfl, rfl⟩ := e
    obtain ⟨hA1, hA2⟩ := hA
    have hB2 : bdB P ts Ts = true := by
      cases t <;> simp only [bdB, Bool.and_eq_true] at hB <;> first | exact hB | exact hB.2
    refine ⟨?_, args_bd ts Ts vs ds p2 xs hB2 hA2 h2 hw.2 hr2⟩
    cases t with
    | slice e =>
      obtain ⟨ys, nl, rfl, _⟩ := hA1
      simp only [bdB, Bool.and_eq_true] at hB
      cases hu : P.underlying T with
      | none => rw [hu] at hB; cases hB.1
      | some u =>
        rw [hu] at hB
        cases u <;> simp only [decide_eq_true_eq, Bool.false_eq_true, false_and] at hB
        rename_i ei
        exact ⟨ys, some nl, false, rfl, arg_bd hu hB.1 h1 hw.1 hr1⟩
    | _ => trivial
  | [], _ :: _, _, _, _, _, hB, _, _, _, _ => by cases hB
  | t :: _, [], _, _, _, _, hB, _, _, _, _ => by cases t <;> cases hB
  | [], [], _, _, _, _ :: _, _, hA, _, _, _ => by cases hA
  | [], [], _ :: _, ds, _, [], _, _, h, _, _ => by cases ds <;> cases h
  | _ :: _, _ :: _, _, _, _, [], _, hA, _, _, _ => by cases hA
  | _ :: _, _ :: _, [], ds, _, _ :: _, _, _, h, _, _ => by cases ds <;> cases h
  | _ :: _, _ :: _, _ :: _, [], _, _ :: _, _, _, h, _, _ => by cases h

open Classical in
/-- What is told of a statement's function: true, whatever it is given that is not too long for any machine. -/
noncomputable def LawFb (ts : List Ty) : List X → Tr X := fun args => if ArgsOf ts args ∧ BdXs ts args then .give (.d .bool true) else .no

theorem law_pureB {C : Ctx} (hC : COk P C) (hmix : P.follows .mixedOrders = true) (f : Nat) (fn : Func) (ts : List Ty) (hf : P.funcs[f]? = some fn) (hname : (fn.name == "runtime.NumGoroutine") = false) (hb : fn.body.isSome = true) (fuel n : Nat)
    (hn : (loopsAll (bodyOf fn)).length = n) (hL : ∀ i, i < n → Tells C fuel (loopAt fn i)) (hcore : ∀ args, ArgsOf ts args → BdXs ts args → ∃ H', bodyX C fuel fn args [] = some (.d .bool true, H')) (hR : RfsOk C fn := by exact RfsOk.none (by kernel_rfl)) (hJ : RgsT C fn := by exact RgsT.none rfl) : OrcOk P f (.pure (LawFb ts)) := by
  refine pureOk hC hmix f fn hf hname hb fuel n hn hL (fun args r h => ?_) hR hJ
  unfold LawFb at h
  split at h
  · rename_i hg
    cases h
    exact ⟨ArgsOf.argsB ts args hg.1, rfl, hcore args hg.1 hg.2⟩
  · cases h

theorem law_runB {f : Nat} {ts : List Ty} (hok : OrcOk P f (.pure (LawFb ts))) {args : List X} (h : ArgsOf ts args) (hb : BdXs ts args) (W : World) (ht : Tabs (startG W) W) (vs : List Value) (rep : RepXs (startG W) W 0 args vs) :
    Calls P f vs.toArray W fun e w' => e = .returned (.bool true) ∧ Below W.heap.size W w' :=
  law_walk hok args (by unfold LawFb; rw [if_pos ⟨h, hb⟩]; rfl) W ht vs rep

end Go.Proofs.Ytnbfiifkaddehaa.V

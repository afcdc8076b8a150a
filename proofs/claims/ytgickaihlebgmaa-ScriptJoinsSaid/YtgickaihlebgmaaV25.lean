/-
  From the data that come in to what the evaluator is told of them.
  It speaks of whatever program; no condition.
-/
import Derived.Test.YtgickaihlebgmaaV24
import Derived.WalkKit
import Derived.ProofKit
import Derived.OpenShut
import Derived.ShutString
import Derived.ChangeOld
import Derived.Below
namespace Go.Proofs.Ytgickaihlebgmaa.V
open Go Go.ChangeShapes Go.WideShapes Go.ChangeAt Go.RowKit
set_option linter.unusedVariables false
set_option linter.unusedSimpArgs false

variable {P : Program} {H : Type} {enc : TypeId × Value → H}

/-- What is told at the begin: all cells that there are are settled; none may be written. -/
def startG (W : World) : Ghost where
  U b := match W.heap[b]? with
    | some (.cells arr _ _) => arr.size
    | _ => 0
  own _ := none
  N _ := 0
  μ _ _ := 0
  oty _ _ := .unit

theorem startG_wf (W : World) : WF (startG W) W := by
  intro b hb
  refine ⟨rfl, ?_⟩
  have : W.heap[b]? = none := by simp [hb]
  simp [startG, this]

theorem startG_U {W : World} {a : Addr} {v : Value} (h : W.cell? a = some v) : a.spot = none ∧ a.off < (startG W).U a.block := by
  unfold World.cell? at h
  split at h
  · rename_i c t f hc
    split at h
    · cases h
    · rename_i hs
      refine ⟨by simpa using hs, ?_⟩
      simp only [startG, hc]
      exact (Array.getElem?_eq_some_iff.1 h).1
  · cases h

theorem law_walk {f : Nat} {F : List X → Tr X} (hok : OrcOk P f (.pure F)) (args : List X) (hF : (F args).run some = some (.d .bool true)) (W : World) (vs : List Value) (rep : RepXs (startG W) W 0 args vs) :
    Calls P f vs.toArray W fun e w' => e = .returned (.bool true) ∧ Below W.heap.size W w' := by
  have h : PureOk P f fun a => (F a).run some := hok
  refine (h.2 args _ hF (startG W) W 0 0 vs (Nat.le_refl _) (startG_wf W) rep).mono ?_
  rintro e w' ⟨v, g', rfl, h1, h2, _⟩
  refine ⟨?_, h2.os, h2.tape, h2.output, h2.size, fun k hk => (h2.keep k hk (fun κ e => by cases e)).1⟩
  rw [RepX.bool_iff.1 h1]

/-- What came in fits: numbers are of their kind, lists not too long. -/
def wfD : (t : Ty) → t.den → Bool
  | .int k, n => (Lit.int k n).wf
  | .bool, _ => true
  | .str, s => decide (ByteArray.size s ≤ maxLen)
  | .any, _ => false
  | .slice e, xs => decide (List.length xs ≤ maxLen) && List.all xs (wfD e)
  | .arr _ e, xs => List.all xs (wfD e)
  | .struct c, x => wfD c x
  | .unit, _ => true
  | .prod a b, x => wfD a x.1 && wfD b x.2

def dataB : Ty → Bool
  | .any => false
  | .slice e => dataB e
  | .arr _ e => dataB e
  | .struct c => dataB c
  | .prod a b => dataB a && dataB b
  | _ => true

theorem list_of {α : Type} {Q : Nat → α → Prop} : ∀ (n : Nat), (∀ i, i < n → ∃ y, Q i y) → ∃ ys : List α, ys.length = n ∧ ∀ i (h : i < ys.length), Q i ys[i] := by
  intro n
  induction n with
  | zero => intro _; exact ⟨[], rfl, fun i h => absurd h (by simp)⟩
  | succ n ih =>
    intro h
    obtain ⟨ys, h1, h2⟩ := ih fun i hi => h i (by omega)
    obtain ⟨y, hy⟩ := h n (by omega)
    refine ⟨ys ++ [y], by simp [h1], fun i hi => ?_⟩
    by_cases hi' : i < ys.length
    · rw [List.getElem_append_left hi']; exact h2 i hi'
    · have e : i = ys.length := by simp at hi; omega
      subst e
      rw [List.getElem_append_right (Nat.le_refl _)]
      simpa [h1] using hy

theorem parts_of {α : Type} {R : α → List Value → Prop} {Wf : α → Bool} {s : Nat} : ∀ (n : Nat) (cs : List Value), cs.length = n * s → (∀ i, i < n → ∃ y, R y ((cs.drop (i * s)).take s) ∧ Wf y = true) →
    ∃ ys : List α, ys.length = n ∧ Parts R ys cs ∧ ys.all Wf = true := by
  intro n
  induction n with
  | zero =>
    intro cs h _
    have : cs = [] := by simpa using h
    subst this
    exact ⟨[], rfl, rfl, rfl⟩
  | succ n ih =>
    intro cs h hy
    obtain ⟨y, hy1, hy2⟩ := hy 0 (by omega)
    obtain ⟨ys, h1, h2, h3⟩ := ih (cs.drop s) (by rw [List.length_drop, h, Nat.add_mul]; omega) (fun i hi => by
      obtain ⟨z, hz⟩ := hy (i + 1) (by omega)
      rw [List.drop_drop]
      rw [Nat.add_mul, Nat.one_mul, Nat.add_comm] at hz
      exact ⟨z, hz⟩)
    refine ⟨y :: ys, by simp [h1], ⟨cs.take s, cs.drop s, (List.take_append_drop s cs).symm, by simpa using hy1, h2⟩, ?_⟩
    simp [hy2, h3]

theorem cells_spot {W : World} {a : Addr} {sz : Nat} {cs : List Value} (h : W.cells? 0 (a.add (0 * sz)) sz = some cs) (hpos : 0 < sz) : a.spot = none := by
  obtain ⟨_, hl, hc⟩ := World.cells?_some h
  have h0 := hc 0 hpos
  rw [List.getElem?_eq_getElem (by omega)] at h0
  have := (startG_U h0).1
  simpa [Addr.add] using this

theorem cells_add {W : World} {a : Addr} {sz i : Nat} {cs : List Value} (hs : a.spot = none) (h : W.cells? 0 (a.add (i * sz)) sz = some cs) :
    cs.length = sz ∧ ∀ j (hj : j < cs.length), W.cell? ⟨a.block, a.off + (i * sz + j), none⟩ = some cs[j] ∧ a.off + (i * sz + j) < (startG W).U a.block := by
  obtain ⟨_, hl, hc⟩ := World.cells?_some h
  refine ⟨hl, fun j hj => ?_⟩
  have hj' := hc j (by omega)
  rw [List.getElem?_eq_getElem hj] at hj'
  have e : (a.add (i * sz)).add j = ⟨a.block, a.off + (i * sz + j), none⟩ := by
    rw [Addr.add_plain a _ hs, Addr.add_plain _ _ rfl, Nat.add_assoc]
  rw [e] at hj'
  exact ⟨hj', (startG_U hj').2⟩

mutual
theorem open_rep {W : World} {sp : Nat → Bool} {held : Bool} : ∀ (t : Ty) (T fuel : Nat) (cs : List Value) (x : DataW H × List MemPlace), tyB P t T = true → dataB t = true → DataW.trod enc P W 0 sp held fuel T cs = some x →
    ∃ y : t.den, RepC W (startG W) t y cs ∧ wfD t y = true
  | .int k, T, fuel, cs, x, ht, _, h => by
    obtain ⟨n, rfl, _, hw⟩ := DataW.trod_int (tyB_int ht) h
    exact ⟨n, rfl, hw⟩
  | .bool, T, fuel, cs, x, ht, _, h => by
    obtain ⟨b, rfl, _⟩ := DataW.trod_bool (tyB_bool ht) h
    exact ⟨b, rfl, rfl⟩
  | .str, T, fuel, cs, x, ht, _, h => by
    obtain ⟨s, rfl, _, hs⟩ := DataW.trod_string (tyB_str ht) h
    exact ⟨s, rfl, decide_eq_true hs⟩
  | .any, _, _, _, _, _, hd, _ => by cases hd
  | .slice e, T, fuel, cs, x, ht, hd, h => by
    obtain ⟨ei, hu, he, hpos⟩ := tyB_slice ht
    rcases DataW.trod_slice hu h with ⟨rfl, _⟩ | ⟨a, len, cap, elems, rest, n, _, rfl, _, hb, hl, hm, hlen, hel, _, _⟩
    · exact ⟨[], ⟨none, 0, rfl, Nat.le_refl _, fun i hi => absurd hi (by simp)⟩, by simp [wfD]⟩
    · have hsz := cellsOf_ty he
      have hq : ∀ i, i < len → ∃ y : e.den, wfD e y = true ∧ ∃ c, W.cells? 0 (a.add (i * e.size)) e.size = some c ∧ RepC W (startG W) e y c := fun i hi => by
        have hi' := hel i hi
        rw [List.getElem?_eq_getElem (by omega), hsz, Option.bind_eq_some_iff] at hi'
        obtain ⟨c, hc, ht'⟩ := hi'
        obtain ⟨y, hy1, hy2⟩ := open_rep e ei n c _ he hd ht'
        exact ⟨y, hy2, c, hc, hy1⟩
      obtain ⟨ys, hy1, hy2⟩ := list_of len hq
      refine ⟨ys, ⟨some a, cap, by rw [hy1], by rw [hy1]; exact hl, fun i hi => ?_⟩, ?_⟩
      · obtain ⟨_, c, hc, hr⟩ := hy2 i hi
        obtain ⟨_, c0, hc0, _⟩ := hy2 0 (by omega)
        have hs := cells_spot hc0 hpos
        obtain ⟨hcl, hcc⟩ := cells_add hs hc
        exact ⟨a, c, rfl, hs, hcl, hr, hcc⟩
      · simp only [wfD, Bool.and_eq_true, decide_eq_true_eq, List.all_eq_true]
        refine ⟨by rw [hy1]; omega, fun y hy => ?_⟩
        obtain ⟨i, hi, rfl⟩ := List.getElem_of_mem hy
        exact (hy2 i hi).1
  | .arr n e, T, fuel, cs, x, ht, hd, h => by
    obtain ⟨ei, hu, he⟩ := tyB_arr ht
    obtain ⟨xs, m, _, _, hl, hxs, hel⟩ := DataW.trod_array hu h
    have hsz := cellsOf_ty he
    rw [cellsOf_ty ht] at hl
    obtain ⟨ys, h1, h2, h3⟩ := parts_of (R := RepC W (startG W) e) (Wf := wfD e) n cs hl fun i hi => by
      have hi' := hel i hi
      rw [List.getElem?_eq_getElem (by omega), hsz] at hi'
      exact open_rep e ei m _ _ he hd hi'
    exact ⟨ys, ⟨h1, h2⟩, h3⟩
  | .struct c, T, fuel, cs, x, ht, hd, h => by
    obtain ⟨fs, hu, hc⟩ := tyB_struct ht
    obtain ⟨xs, n, _, _, hl, hxs, hf⟩ := DataW.trod_struct hu h
    rw [cellsOf_ty ht] at hl
    obtain ⟨y, h1, h2⟩ := open_chain (sp := sp) (held := held) (W := W) c fs.toList 0 n cs hc hd (by simpa [Ty.size] using hl) (fun i f hif => by
      rw [Array.getElem?_toList] at hif
      have := hf i f hif
      have hi : i < xs.length := by rw [hxs]; exact (Array.getElem?_eq_some_iff.1 hif).1
      rw [List.getElem?_eq_getElem hi] at this
      exact ⟨_, this⟩)
    exact ⟨y, by show RepC W (startG W) c y cs; simpa using h1, h2⟩
  | .unit, _, _, _, _, ht, _, _ => by simp [tyB] at ht
  | .prod _ _, _, _, _, _, ht, _, _ => by simp [tyB] at ht
theorem open_chain {W : World} {sp : Nat → Bool} {held : Bool} : ∀ (c : Ty) (fs : List Field) (off n : Nat) (cs : List Value), chB P c fs off = true → dataB c = true → cs.length = off + c.size →
    (∀ (i : Nat) (f : Field), fs[i]? = some f → ∃ x : DataW H × List MemPlace, DataW.trod enc P W 0 sp held n f.type ((cs.drop f.offset).take (P.cellsOf f.type)) = some x) →
    ∃ y : c.den, RepC W (startG W) c y (cs.drop off) ∧ wfD c y = true
  | .unit, fs, off, n, cs, hc, _, hl, _ => by
    refine ⟨(), ?_, rfl⟩
    show cs.drop off = []
    rw [List.drop_eq_nil_iff]
    simp only [Ty.size] at hl
    omega
  | .prod a b, [], off, n, cs, hc, _, _, _ => by simp [chB] at hc
  | .prod a b, f :: rest, off, n, cs, hc, hd, hl, hf => by
    simp only [chB, Bool.and_eq_true, beq_iff_eq] at hc
    simp only [dataB, Bool.and_eq_true] at hd
    obtain ⟨⟨h1, h2⟩, h3⟩ := hc
    obtain ⟨x, hx⟩ := hf 0 f rfl
    rw [h1, cellsOf_ty h2] at hx
    obtain ⟨y, hy1, hy2⟩ := open_rep a f.type n _ x h2 hd.1 hx
    obtain ⟨z, hz1, hz2⟩ := open_chain (sp := sp) (held := held) (W := W) b rest (off + a.size) n cs h3 hd.2 (by simp only [Ty.size] at hl; omega) (fun i f' hi => hf (i + 1) f' (by simpa using hi))
    refine ⟨(y, z), ⟨_, _, ?_, hy1, hz1⟩, ?_⟩
    · rw [← List.drop_drop, List.take_append_drop]
    · simp only [wfD, Bool.and_eq_true]; exact ⟨hy2, hz2⟩
  | .int _, _, _, _, _, hc, _, _, _ | .bool, _, _, _, _, hc, _, _, _ | .str, _, _, _, _, hc, _, _, _ | .any, _, _, _, _, hc, _, _, _ | .slice _, _, _, _, _, hc, _, _, _ | .arr _ _, _, _, _, _, hc, _, _, _ | .struct _, _, _, _, _, hc, _, _, _ => by
    simp [chB] at hc
end

/-- What a statement's function is given: data of a kind, as they came in. -/
def ArgOf : Ty → X → Prop
  | .slice e, x => ∃ (xs : List e.den) (nl : Bool), x = .sl e xs (some nl) false ∧ wfD (.slice e) xs = true ∧ (!nl || xs.isEmpty) = true
  | t, x => ∃ y : t.den, x = .d t y ∧ wfD t y = true

theorem okWide_one {t : Ty} {T : Nat} {W : World} {r : Reach} {base : Nat} {v : Value} (ht : tyB P t T = true) (hd : dataB t = true) (h : Value.okWide P W r base T v) : IsVal t v.cells.toList v := by
  unfold IsVal
  cases t with
  | int k => obtain ⟨n, rfl⟩ := okWide_int (tyB_int ht) h; rfl
  | bool => obtain ⟨n, rfl⟩ := okWide_bool (tyB_bool ht) h; rfl
  | str => obtain ⟨n, rfl⟩ := okWide_string (tyB_str ht) h; rfl
  | any => cases hd
  | slice e =>
    obtain ⟨ei, hu, _, _⟩ := tyB_slice ht
    obtain ⟨a, l, c, rfl⟩ := okWide_slice hu h; rfl
  | arr n e =>
    obtain ⟨ei, hu, _⟩ := tyB_arr ht
    simp only [Value.okWide, hu] at h
    obtain ⟨cs, rfl, _⟩ := h
    simp [Ty.isAgg, Value.cells]
  | struct c =>
    obtain ⟨fs, hu, _⟩ := tyB_struct ht
    simp only [Value.okWide, hu] at h
    obtain ⟨cs, rfl, _⟩ := h
    simp [Ty.isAgg, Value.cells]
  | unit => simp [tyB] at ht
  | prod _ _ => simp [tyB] at ht

theorem open_arg {t : Ty} {T : Nat} {W : World} {r : Reach} {base : Nat} {sp : Nat → Bool} {held : Bool} {v : Value} {d : DataW H} {ps : List MemPlace} (ht : tyB P t T = true) (hd : dataB t = true)
    (hval : Value.okWide P W r base T v) (h : DataW.Trod enc P W 0 sp held T v d ps) : ∃ x, ArgOf t x ∧ RepX (startG W) W 0 .no x v := by
  obtain ⟨fuel, hf⟩ := h
  obtain ⟨y, hy1, hy2⟩ := open_rep t T fuel _ _ ht hd hf
  have hv := okWide_one ht hd hval
  cases t with
  | slice e =>
    obtain ⟨ei, hu, _, _⟩ := tyB_slice ht
    obtain ⟨a, l, c, rfl⟩ := okWide_slice hu hval
    obtain ⟨a', c', e1, e2, e3⟩ := hy1
    have e1' : a = a' ∧ l = List.length y ∧ c = c' := by simpa [Value.cells] using e1
    obtain ⟨rfl, rfl, rfl⟩ := e1'
    refine ⟨.sl e y (some a.isNone) false, ⟨y, a.isNone, rfl, hy2, ?_⟩, ?_⟩
    · cases a with
      | none =>
        cases y with
        | nil => rfl
        | cons z zs =>
          obtain ⟨A, _, hA, _⟩ := e3 0 (by simp)
          cases hA
      | some _ => rfl
    · simp only [RepX]
      exact ⟨a, c, rfl, e2, e3, by simp, by simp⟩
  | int k => exact ⟨.d _ y, ⟨y, rfl, hy2⟩, by simp only [RepX]; exact ⟨_, hy1, hv⟩⟩
  | bool => exact ⟨.d _ y, ⟨y, rfl, hy2⟩, by simp only [RepX]; exact ⟨_, hy1, hv⟩⟩
  | str => exact ⟨.d _ y, ⟨y, rfl, hy2⟩, by simp only [RepX]; exact ⟨_, hy1, hv⟩⟩
  | any => cases hd
  | arr n e => exact ⟨.d _ y, ⟨y, rfl, hy2⟩, by simp only [RepX]; exact ⟨_, hy1, hv⟩⟩
  | struct c => exact ⟨.d _ y, ⟨y, rfl, hy2⟩, by simp only [RepX]; exact ⟨_, hy1, hv⟩⟩
  | unit => simp [tyB] at ht
  | prod _ _ => simp [tyB] at ht

theorem wfD_int {k : IntKind} {n : Int} (h : wfD (.int k) n = true) : k.min ≤ n ∧ n ≤ k.max := by
  have h' : (Lit.int k n).wf = true := h
  simpa only [Lit.wf, Bool.and_eq_true, decide_eq_true_eq] using h'

end Go.Proofs.Ytgickaihlebgmaa.V

/-
  What the evaluator tells is so: conversions, functions made, lengths, loads of what is settled.
  It speaks of whatever program; no condition.
-/
import Derived.Test.YtgickaihlebgmaaV9
namespace Go.Proofs.Ytgickaihlebgmaa.V
open Go
set_option linter.unusedVariables false
set_option linter.unusedSimpArgs false

section
variable {P : Program} {C : Ctx} {dst : Option Nat} {ty : Nat} {pos : String} {af : Array Edge} {gd : Option (Nat × Bool)}

/-- The cells of a run, one behind the other. -/
theorem Run.cells {w : World} {g : Ghost} {α : Type} {R : α → List Value → Prop} {size : Nat} : ∀ {xs : List α} {a : Option Addr}, Run w g R size xs a → 0 < size →
    ∃ cs, Parts R xs cs ∧ cs.length = xs.length * size ∧ ∀ A, a = some A → ∀ j (hj : j < cs.length), w.cell? ⟨A.block, A.off + j, none⟩ = some cs[j] ∧ A.off + j < g.U A.block
  | [], a, h, _ => ⟨[], rfl, by simp, fun A _ j hj => absurd hj (by simp)⟩
  | x :: xs, a, h, hs => by
    obtain ⟨A, c1, rfl, h2, h3, h4, h5⟩ := h 0 (by simp)
    have htail : Run w g R size xs (some (A.add (1 * size))) := by
      have := Run.drop h 1
      simpa using this
    obtain ⟨c2, k1, k2, k3⟩ := Run.cells htail hs
    refine ⟨c1 ++ c2, ⟨c1, c2, rfl, by simpa using h4, k1⟩, by simp [h3, k2, Nat.add_mul, Nat.add_comm], ?_⟩
    rintro B hB j hj
    cases hB
    by_cases hj1 : j < c1.length
    · obtain ⟨e1, e2⟩ := h5 j hj1
      simp only [Nat.zero_mul, Nat.zero_add] at e1 e2
      rw [List.getElem_append_left hj1]
      exact ⟨e1, e2⟩
    · have hj2 : j - c1.length < c2.length := by simp at hj; omega
      obtain ⟨e1, e2⟩ := k3 _ rfl (j - c1.length) hj2
      rw [Addr.add_plain A _ h2] at e1 e2
      simp only [Nat.one_mul] at e1 e2
      rw [List.getElem_append_right (by omega)]
      rw [show A.off + size + (j - c1.length) = A.off + j by omega] at e1 e2
      exact ⟨e1, e2⟩

theorem Parts.ints {k : IntKind} {w : World} {g : Ghost} : ∀ (xs : List Int) (cs : List Value), Parts (RepC w g (.int k)) xs cs → cs = xs.map (Value.int k)
  | [], cs, h => h
  | x :: xs, cs, h => by
    obtain ⟨c1, c2, rfl, h1, h2⟩ := h
    have h1' : c1 = [.int k x] := h1
    rw [h1', Parts.ints xs c2 h2]
    rfl

theorem Run.spot {w : World} {g : Ghost} {α : Type} {R : α → List Value → Prop} {size : Nat} {xs : List α} {A : Addr} (h : Run w g R size xs (some A)) (hne : xs ≠ []) : A.spot = none := by
  have : 0 < xs.length := List.length_pos_iff.2 hne
  obtain ⟨B, _, e, h2, _⟩ := h 0 this
  cases e
  exact h2

theorem run_bytesToString_sl {g w} {dh : Nat} {κ : Key} {xs : List Int} {nl own v} (h : RepX g w dh κ (.sl (.int .u8) xs nl own) v) {src e : Nat} (hs : P.underlying src = some (.slice e)) (he : P.underlying e = some (.int .u8)) {dst : Nat} (hd : P.underlying dst = some .string) :
    (convert src dst v).run P w = .ok (.string (strOf xs)) w := by
  simp only [RepX] at h
  obtain ⟨a, c, rfl, h2, h3, _⟩ := h
  cases a with
  | none =>
    have hx : xs = [] := by
      cases xs with
      | nil => rfl
      | cons x xs => obtain ⟨A, _, e, _⟩ := h3 0 (by simp); cases e
    subst hx
    rw [run_convert_bytes_nil w src e hs he _ _ dst hd]
    rfl
  | some A =>
    obtain ⟨cs, k1, k2, k3⟩ := Run.cells h3 (by decide)
    have hcs := Parts.ints xs cs k1
    by_cases hne : xs = []
    · subst hne
      have hl : (loadCells A 0).run P w = .ok #[] w := by simp [loadCells, loadCellsFrom]
      have := run_bytesToString (P := P) w A 0 c [] hl
      rw [run_convert_bytes_string w src dst e _ _ _ hs he hd]
      exact this
    · have hs0 := h3.spot hne
      obtain ⟨b, o, sp⟩ := A
      simp only at hs0
      subst hs0
      refine run_convert_bytes_arg w src e hs he b o xs.length c xs rfl (fun i hi => ?_) dst hd
      subst hcs
      obtain ⟨e1, _⟩ := k3 _ rfl i (by simpa using hi)
      rw [e1]
      simp [List.getD_eq_getElem?_getD, List.getElem?_eq_getElem hi]

theorem core_makeFunc (f : Nat) (first captured : Array Operand) : CoreOk P C ⟨dst, .makeFunc (.func f) first captured, ty, pos, af, gd⟩ := by
  intro R tr g w d dh st a h k r hk
  have ops : (⟨dst, .makeFunc (.func f) first captured, ty, pos, af, gd⟩ : Oper).op.operands.toList.map st.val = first.toList.map st.val ++ captured.toList.map st.val := by simp [Op.operands]
  rw [ops] at hk
  have hk' : k (.fn f (((first.toList.map st.val ++ captured.toList.map st.val).take first.size).map X.unown) (((first.toList.map st.val ++ captured.toList.map st.val).drop first.size).map X.unown)) [] st.H = some r := hk
  have e1 : (first.toList.map st.val ++ captured.toList.map st.val).take first.size = first.toList.map st.val := by
    rw [List.take_append_of_le_length (by simp)]; exact List.take_of_length_le (by simp)
  have e2 : (first.toList.map st.val ++ captured.toList.map st.val).drop first.size = captured.toList.map st.val := by
    rw [List.drop_append_of_le_length (by simp)]; simp [List.drop_of_length_le]
  rw [e1, e2] at hk'
  have reps : ∀ (l : List Operand), RepXs g w dh ((l.map st.val).map X.unown) (l.map a.eval) := by
    intro l
    induction l with
    | nil => simp [RepXs]
    | cons x l ih =>
      simp only [List.map_cons, RepXs]
      exact ⟨_, _, rfl, (h.val x).unown', ih⟩
  refine ⟨_, _, _, hk', OpWp.same h (val := .func (.func f) (first.map a.eval) (captured.map a.eval)) (by simp [execOp, Instr.makeFunc]) ?_⟩
  simp only [RepX]
  exact ⟨first.toList.map a.eval, captured.toList.map a.eval, by simp [← Array.toList_map], reps _, reps _⟩

/-- A draw. -/
theorem Ext.drawn {g w} {d : Nat} {K : Key → Prop} (n : Nat) : Ext g w g { w with drawn := n } d K :=
  ⟨rfl, rfl, rfl, Nat.le_refl _, fun _ _ _ => ⟨rfl, rfl, rfl⟩, fun _ _ h => ⟨rfl, h⟩, fun _ _ _ h => ⟨h, rfl, rfl⟩, fun _ _ => rfl⟩

/-- A new block, whose owner and whose settled part are told. -/
def Ghost.block (g : Ghost) (b : Nat) (κ : Key) (n : Nat) : Ghost :=
  { g with own := fun x => if x = b then some κ else g.own x, U := fun x => if x = b then n else g.U x }

theorem cell_push {w : World} {o : Obj} {b off : Nat} (h : b < w.heap.size) : ({ w with heap := w.heap.push o } : World).cell? ⟨b, off, none⟩ = w.cell? ⟨b, off, none⟩ := by
  simp [World.cell?, Array.getElem?_push, Nat.ne_of_lt h]

theorem WF.lt {g w} (h : WF g w) {b off : Nat} (hu : off < g.U b) : b < w.heap.size := by
  rcases Nat.lt_or_ge b w.heap.size with hb | hb
  · exact hb
  · have := (h b hb).2; omega

theorem Ext.block {g w} {d : Nat} {K : Key → Prop} (hw : WF g w) (o : Obj) (κ : Key) (n : Nat) : Ext g w (g.block w.heap.size κ n) { w with heap := w.heap.push o } d K where
  os := rfl
  tape := rfl
  output := rfl
  size := by simp
  keep b hb _ := ⟨by simp [Array.getElem?_push, Nat.ne_of_lt hb], by simp [Ghost.block, Nat.ne_of_lt hb], by simp [Ghost.block, Nat.ne_of_lt hb]⟩
  cells b off ho := by
    have hb := hw.lt ho
    exact ⟨cell_push hb, by simp [Ghost.block, Nat.ne_of_lt hb]; exact ho⟩
  mu _ _ _ h := ⟨h, rfl, rfl⟩
  num _ _ := rfl

theorem WF.block {g w} (hw : WF g w) (o : Obj) (κ : Key) (n : Nat) : WF (g.block w.heap.size κ n) { w with heap := w.heap.push o } := by
  intro b hb
  simp only [Array.size_push] at hb
  have hne : b ≠ w.heap.size := by omega
  obtain ⟨h1, h2⟩ := hw b (by omega)
  simp [Ghost.block, hne, h1, h2]

theorem WF.drawn {g w} (hw : WF g w) (n : Nat) : WF g { w with drawn := n } := hw

/-- A slice in a new block. -/
theorem RepX.fresh {g w} {dh : Nat} {κ : Key} {e : Ty} {xs : List e.den} {cs : List Value} {arr : Array Value} {T c : Nat} {b : Bool} (hp : Parts (RepC w g e) xs cs) (hw : WF g w) (ha : arr.toList.take (xs.length * e.size) = cs) (hn : xs.length ≤ c) (hc : arr.size = c * e.size) (hpos : 0 < e.size) (nl : Option Bool) (hnl : ∀ b, nl = some b → b = false) (fr : Nat × Nat) (hfr : fr.1 = fr.2 ∨ arr.size ≤ fr.1) :
    RepX (g.block w.heap.size κ (xs.length * e.size)) { w with heap := w.heap.push (.cells arr T fr) } dh κ (.sl e xs nl b) (.slice (some ⟨w.heap.size, 0, none⟩) xs.length c) := by
  have he : Ext g w (g.block w.heap.size κ (xs.length * e.size)) { w with heap := w.heap.push (.cells arr T fr) } 0 (fun _ => False) := Ext.block hw _ κ _
  simp only [RepX]
  refine ⟨_, c, rfl, hn, ?_, fun b hb => by rw [hnl b hb]; rfl, fun _ => .inr ⟨w.heap.size, arr, T, fr, rfl, by simp, hc, hfr, by simp [Ghost.block], by simp [Ghost.block]⟩⟩
  · intro i hi
    have hl := Parts.length (RepC.length (w := w) (g := g) e) xs cs hp
    obtain ⟨pre, mid, post, rfl, f2, f3, _⟩ := Parts.at (RepC.length (w := w) (g := g) e) xs cs i hi hp
    refine ⟨_, mid, rfl, rfl, RepC.length e _ _ f3, RepC.ext he e _ _ f3, fun j hj => ?_⟩
    have hj2 : i * e.size + j < (pre ++ mid ++ post).length := by simp; omega
    have hj3 : i * e.size + j < xs.length * e.size := by rw [hl] at hj2; exact hj2
    have hle : xs.length * e.size ≤ c * e.size := Nat.mul_le_mul_right _ hn
    refine ⟨?_, by simp [Ghost.block]; exact hj3⟩
    have hg : arr[i * e.size + j]? = some mid[j] := by
      have h1 : (arr.toList.take (xs.length * e.size))[i * e.size + j]? = mid[j]? := by rw [ha, ← f2]; exact getElem?_mid pre mid post j hj
      rw [List.getElem?_take, if_pos hj3, List.getElem?_eq_getElem hj] at h1
      simpa using h1
    simp only [World.cell?, Nat.zero_add]
    simp [hg]

theorem bytes_cells {w : World} {g : Ghost} (s : ByteArray) : Parts (RepC w g (.int .u8)) (bytesOf s) (s.data.toList.map fun b => Value.int .u8 b.toNat) := by
  unfold bytesOf
  generalize s.data.toList = l
  induction l with
  | nil => rfl
  | cons b l ih => exact ⟨[_], _, rfl, rfl, ih⟩

theorem World.freeze_push {w : World} {arr : Array Value} {T : Nat} {n : Nat} :
    (({ w with heap := w.heap.push (.cells arr T (0, 0)) } : World).freeze ⟨w.heap.size, n, none⟩ 1) = { w with heap := w.heap.push (.cells arr T (n, n + 1)) } := by
  simp only [World.freeze, Nat.one_ne_zero, if_false]
  congr 1
  apply Array.ext_getElem?
  intro i
  rw [Array.getElem?_modify]
  by_cases hi : w.heap.size = i
  · subst hi
    simp
  · rw [if_neg hi]
    simp [Array.getElem?_push, hi, Ne.symm hi]

/-- An operand is handed on, with its room, to a new owner. -/
theorem Fr.moveTo {g w} {d dh : Nat} {st : St} {a : Act} (h : Fr g w d dh st a) (x : Operand) (i : Nat) (κ' : Key) :
    ∃ g1, Ext g w g1 w d (fun κ => ∃ t, x = .tmp t ∧ κ = .tmp d t) ∧ RepX g1 w dh κ' (typed C i (st.val x)) (a.eval x) ∧ HRep g1 w dh st.H ∧ WF g1 w ∧ g1.U = g.U ∧ g1.N = g.N ∧ g1.μ = g.μ ∧ g1.oty = g.oty ∧
      (∀ b κ, g.own b = some κ → κ.heap dh → g1.own b = some κ) ∧ (∀ b, g.own b = none → g1.own b = none) := by
  have hx := typed_rep (C := C) (i := i) (h.val x)
  cases x with
  | tmp t =>
    refine ⟨g.rekey (.tmp d t) κ', Ghost.rekey_ext.mono (Nat.le_refl _) (fun κ e => ⟨t, rfl, e⟩), RepX.rekey h.le (by simp) _ _ hx, Ghost.rekey_heap h.le (by simp) (by simp [Key.heap]) h.heap, h.wf.rekey, rfl, rfl, rfl, rfl, ?_, ?_⟩
    · intro b κ e hh
      simp only [Ghost.rekey, e]
      rw [if_neg]
      intro e'
      cases e'
      exact hh
    · intro b e
      simp [Ghost.rekey, e]
  | const v => exact ⟨g, Ext.refl _ _ _ _, typed_rep (constX_rep g w dh _ v), h.heap, h.wf, rfl, rfl, rfl, rfl, fun _ _ e _ => e, fun _ e => e⟩
  | global n => exact ⟨g, Ext.refl _ _ _ _, by simp [St.val, typed, RepX], h.heap, h.wf, rfl, rfl, rfl, rfl, fun _ _ e _ => e, fun _ e => e⟩
  | func f =>
    refine ⟨g, Ext.refl _ _ _ _, ?_, h.heap, h.wf, rfl, rfl, rfl, rfl, fun _ _ e _ => e, fun _ e => e⟩
    simp only [St.val, typed, RepX, Act.eval]
    exact ⟨[], [], rfl, by simp [RepXs], by simp [RepXs]⟩

theorem core_convert (hA : C.A = Ar.real) (hC : TysOk P C.tys) (s t : Nat) (x : Operand) : CoreOk P C ⟨dst, .convert s t x, ty, pos, af, gd⟩ := by
  intro R tr g w d dh st a h k r hk
  have hk' : (match C.ty s, C.ty t, st.val x with
    | some ⟨.int _, _, _, _⟩, some ⟨.int kt, _, _, _⟩, .d (.int _) n => k (.d (.int kt) (Ar.real.wrap kt n)) [] st.H
    | some ⟨.slice (.int .u8), _, _, _⟩, some ⟨.str, _, _, _⟩, .sl (.int .u8) xs _ _ => k (.d .str (strOf xs)) [] st.H
    | some ⟨.str, _, _, _⟩, some ⟨.slice (.int .u8), _, _, _⟩, .d .str s => k (.sl (.int .u8) (bytesOf s) (some false) true) [] st.H
    | some ⟨.str, _, _, _⟩, some ⟨.str, _, _, _⟩, .d .str s => k (.d .str s) [] st.H
    | some ⟨.slice (.int .u8), _, _, _⟩, some ⟨.slice (.int .u8), _, _, _⟩, .sl (.int .u8) (y :: ys) (some false) true => if s = t then k (.sl (.int .u8) (y :: ys) (some false) true) [true] st.H else none
    | _, _, _ => none) = some r := by rw [← hA]; exact hk
  have hx := h.val x
  have run : ∀ v w', (convert s t (a.eval x)).run P w = .ok v w' → (execOp a.eval ⟨dst, .convert s t x, ty, pos, af, gd⟩).run P w = .ok (.value v) w' := by
    intro v w' hr
    simp only [execOp, Sem.run_bind, hr, Result.andThen_ok, Sem.run_pure]
  split at hk'
  · rename_i ks _ _ _ kt _ _ _ kn n es et ev
    rw [ev, RepX.int_iff] at hx
    have hus := tyB_int (Ctx.ty_ok hC es).1
    have hut := tyB_int (Ctx.ty_ok hC et).1
    refine ⟨_, _, _, hk', OpWp.same h (val := .int kt (kt.wrap n)) (run _ _ ?_) (RepX.int_iff.2 rfl)⟩
    rw [hx]
    simp only [convert, Sem.run_bind, run_underlying hus, run_underlying hut, Result.andThen_ok, Conv.intToInt, Sem.run_pure]
  · rename_i _ _ _ _ _ _ xs nl own es et ev
    rw [ev] at hx
    obtain ⟨ei, hus, hue, _⟩ := tyB_slice (Ctx.ty_ok hC es).1
    have hut := tyB_str (Ctx.ty_ok hC et).1
    exact ⟨_, _, _, hk', OpWp.same h (val := .string (strOf xs)) (run _ _ (run_bytesToString_sl hx hus (tyB_int hue) hut)) (RepX.str_iff.2 rfl)⟩
  · rename_i _ _ _ _ _ _ s' es et ev
    rw [ev, RepX.str_iff] at hx
    have hus := tyB_str (Ctx.ty_ok hC es).1
    obtain ⟨ei, hut, hue, _⟩ := tyB_slice (Ctx.ty_ok hC et).1
    have hue' := tyB_int hue
    refine ⟨_, _, _, hk', fun next Q hn => ?_⟩
    let cap := (Question.appendCap s'.size 0 ei).cut (w.tape w.drawn (.appendCap s'.size 0 ei))
    have hcap : s'.size ≤ cap := Nat.le_add_right _ _
    let arr : Array Value := (s'.data.map fun b => Value.int .u8 b.toNat) ++ Array.replicate (cap - s'.size) (.int .u8 0)
    have harr : arr.size = cap := by
      have : s'.data.size = s'.size := rfl
      simp only [arr, Array.size_append, Array.size_map, Array.size_replicate, this]; omega
    have hrun : (convert s t (a.eval x)).run P w = .ok (.slice (some ⟨w.heap.size, 0, none⟩) s'.size cap) { heap := w.heap.push (.cells arr ei (cap, cap + 1)), tape := w.tape, drawn := w.drawn + 1, os := w.os, output := w.output } := by
      rw [hx]
      have hsh : ({ heap := w.heap.push (.cells arr ei (0, 0)), tape := w.tape, drawn := w.drawn + 1, os := w.os, output := w.output } : World).shape? w.heap.size = some (ei, cap) := by
        simp [World.shape?, harr]
      have hfr := World.freeze_push (w := { w with drawn := w.drawn + 1 }) (arr := arr) (T := ei) (n := cap)
      simp only [convert, Sem.run_bind, run_underlying hus, run_underlying hut, run_underlying hue', Result.andThen_ok, Conv.stringToBytes, run_choose, Question.forced, Bool.false_eq_true, if_false, newRow, run_newObj, Sem.run_pure, markStringish, run_shape]
      simp only [show ((s'.data.map fun b => Value.int .u8 b.toNat) ++ Array.replicate ((Question.appendCap s'.size 0 ei).cut (w.tape w.drawn (.appendCap s'.size 0 ei)) - s'.size) (.int .u8 0)) = arr from rfl, hsh, run_freeze, Result.andThen_ok]
      rw [hfr]
    have hlen : (bytesOf s').length = s'.size := by rw [bytesOf, List.length_map, Array.length_toList]; rfl
    have hp := RepX.fresh (κ := kd ⟨dst, .convert s t x, ty, pos, af, gd⟩ d) (w := { w with drawn := w.drawn + 1 }) (dh := dh) (T := ei) (b := true) (bytes_cells (g := g) s') h.wf (arr := arr) (c := cap) ?_ (by rw [hlen]; exact hcap) (by rw [harr]; simp [Ty.size]) (by decide) (some false) (fun b hb => by cases hb; rfl) (cap, cap + 1) (.inr (by rw [harr]; exact Nat.le_refl _))
    · rw [hlen] at hp
      refine wp_value (run _ _ hrun) (hn _ _ _ hp ?_ ?_ ?_)
      · exact (Ext.drawn (w.drawn + 1)).trans (Ext.block (w := { w with drawn := w.drawn + 1 }) h.wf _ _ _)
      · exact HRep.ext ((Ext.drawn (w.drawn + 1)).trans (Ext.block (w := { w with drawn := w.drawn + 1 }) (K := fun _ => False) h.wf _ _ _)) h.le (fun e => e) (fun _ _ e => e) rfl h.heap
      · exact WF.block (w := { w with drawn := w.drawn + 1 }) h.wf _ _ _
    · rw [hlen]
      simp only [Ty.size, Nat.mul_one, arr, Array.toList_append, Array.toList_map]
      have hl2 : (List.map (fun b => Value.int .u8 (b.toNat : Int)) s'.data.toList).length = s'.size := by rw [List.length_map, Array.length_toList]; rfl
      rw [List.take_append_of_le_length (Nat.le_of_eq hl2.symm)]
      exact List.take_of_length_le (Nat.le_of_eq hl2)
  · rename_i _ _ _ _ _ _ s' es et ev
    rw [ev, RepX.str_iff] at hx
    have hus := tyB_str (Ctx.ty_ok hC es).1
    have hut := tyB_str (Ctx.ty_ok hC et).1
    refine ⟨_, _, _, hk', OpWp.same h (val := .string s') (run _ _ ?_) (RepX.str_iff.2 rfl)⟩
    rw [hx]
    simp only [convert, Sem.run_bind, run_underlying hus, run_underlying hut, Result.andThen_ok, Sem.run_pure]
  · rename_i _ _ _ _ _ _ y ys es et ev
    split at hk'
    · rename_i hst
      subst hst
      obtain ⟨ei, hus, hue, _⟩ := tyB_slice (Ctx.ty_ok hC es).1
      have hue' := tyB_int hue
      refine ⟨_, _, _, hk', fun next Q hn => ?_⟩
      obtain ⟨κ, hκ⟩ : ∃ κ, κ = kd ⟨dst, .convert s s x, ty, pos, af, gd⟩ d := ⟨_, rfl⟩
      have hkno : κ ≠ .no := by rw [hκ]; unfold kd; split <;> simp
      have hkheap : ¬ κ.heap dh := by rw [hκ]; unfold kd; split <;> simp [Key.heap]
      have hkop : Kop ⟨dst, .convert s s x, ty, pos, af, gd⟩ d dh [true] κ := by
        rw [hκ]
        unfold kd
        cases dst with
        | some t => exact .inl ⟨t, rfl, .inl rfl⟩
        | none => exact .inr (.inr (Nat.le_refl _))
      obtain ⟨g1, hg1, hy, hH1, hw1, eU, eN, eμ, eo, hown, hnone⟩ := h.moveTo (C := C) x s κ
      rw [ev] at hy
      simp only [typed, RepX] at hy
      obtain ⟨a0, c0, hv, hl, hrun', hnl, hO⟩ := hy
      rcases hO trivial with h0 | ⟨b, arr, tyo, fr, rfl, e2, e3, e4, e5, e6⟩
      · simp at hl; omega
      have hb : b < w.heap.size := (Array.getElem?_eq_some_iff.1 e2).1
      have hsh : w.shape? b = some (tyo, arr.size) := by simp [World.shape?, e2]
      obtain ⟨fr', hw', hfr'⟩ : ∃ fr', (w.freeze ⟨b, arr.size, none⟩ 1).heap[b]? = some (.cells arr tyo fr') ∧ (fr'.1 = fr'.2 ∨ arr.size ≤ fr'.1) := by
        obtain ⟨lo, hi⟩ := fr
        refine ⟨if lo == hi then (arr.size, arr.size + 1) else (min lo arr.size, max hi (arr.size + 1)), ?_, ?_⟩
        · simp only [World.freeze, Nat.one_ne_zero, if_false, Array.getElem?_modify, if_true, e2, Option.map_some]
        · by_cases hlo : lo = hi
          · simp [hlo]
          · simp only [beq_iff_eq, hlo, if_false]
            simp only at e4
            omega
      have hother : ∀ i, i ≠ b → (w.freeze ⟨b, arr.size, none⟩ 1).heap[i]? = w.heap[i]? := by
        intro i hi
        simp only [World.freeze, Nat.one_ne_zero, if_false, Array.getElem?_modify]
        rw [if_neg (fun e => hi e.symm)]
      have hcell : ∀ i off, (w.freeze ⟨b, arr.size, none⟩ 1).cell? ⟨i, off, none⟩ = w.cell? ⟨i, off, none⟩ := by
        intro i off
        by_cases hi : i = b
        · subst hi
          simp only [World.cell?, hw', e2]
        · exact World.cell?_of_block (a := ⟨i, off, none⟩) (hother i hi)
      have hsz : (w.freeze ⟨b, arr.size, none⟩ 1).heap.size = w.heap.size := by
        simp [World.freeze]
      have he : Ext g1 w g1 (w.freeze ⟨b, arr.size, none⟩ 1) d (fun x => x = κ) := by
        refine ⟨rfl, rfl, rfl, by rw [hsz]; exact Nat.le_refl _, fun i hi hk => ?_, fun i off ho => ⟨hcell i off, ho⟩, fun _ _ _ h => ⟨h, rfl, rfl⟩, fun _ _ => rfl⟩
        have hne : i ≠ b := fun e => hk κ (e ▸ e6) rfl
        exact ⟨hother i hne, rfl, rfl⟩
      refine wp_value (val := a.eval x) (w' := w.freeze ⟨b, arr.size, none⟩ 1) (run _ _ ?_) (hn _ _ g1 ?_ ?_ ?_ ?_)
      · rw [hv]
        simp only [convert, Sem.run_bind, run_underlying hus, run_underlying hue', Result.andThen_ok, beq_self_eq_true, markStringish, run_shape, hsh, run_freeze, Sem.run_pure]
      · rw [← hκ]
        simp only [RepX]
        exact ⟨_, c0, hv, hl, hrun'.ext he (RepC.ext he _), hnl, fun _ => .inr ⟨b, arr, tyo, fr', rfl, hw', e3, hfr', e5, e6⟩⟩
      · refine (hg1.mono (Nat.le_refl _) ?_).trans (he.mono (Nat.le_refl _) ?_)
        · rintro κ2 ⟨t, rfl, rfl⟩
          exact .inl ⟨t, rfl, .inr (by simp [Op.operands, takenBy])⟩
        · rintro κ2 rfl
          exact hkop
      · exact HRep.ext he h.le (fun e => hkno e.symm) (fun κ2 hκ2 e => hkheap (e ▸ hκ2)) rfl hH1
      · intro i hi
        rw [hsz] at hi
        exact hw1 i hi
    · cases hk'
  · cases hk'

end
end Go.Proofs.Ytgickaihlebgmaa.V

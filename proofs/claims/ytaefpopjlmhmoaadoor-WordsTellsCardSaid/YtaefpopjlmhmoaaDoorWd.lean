/-
  What the evaluator tells is so: conversions, loads, stores, variables made, walks over strings.
  It speaks of whatever program; no condition.
-/
import Derived.Test.YtaefpopjlmhmoaaDoorWc

/- What the evaluator tells is so: conversions, functions made, lengths, loads of what is settled. -/
namespace Go.Proofs.YtaefpopjlmhmoaaDoor.V
open Go
set_option linter.unusedVariables false
set_option linter.unusedSimpArgs false

section
variable {P : Program} {C : Ctx} {dst : Option Nat} {ty : Nat} {pos : String} {af : Array Edge} {gd : Option (Nat × Bool)}

/-- The cells of a run, one behind the other. -/
theorem Run.cells {w : World} {g : Ghost} {α : Type} {R : α → List Value → Prop} {size : Nat} : ∀ {xs : List α} {a : Option Addr}, Run w g R size xs a → 0 < size →
    ∃ cs, Parts R xs cs ∧ cs.length = xs.length * size ∧ ∀ A, a = some A → ∀ j (hj : j < cs.length), w.cell? ⟨A.block, A.off + j, none⟩ = some cs[j] ∧ A.off + j < g.U A.block
  | [], a, h, _ => ⟨[], rfl, by simp, fun A _ j hj => absurd hj (by simp)⟩
  | x :: xs, a, h, hs => by
    obtain ⟨A, c1, rfl, h2, h3, h4, h5⟩ := h 0 (by simp)
    have htail : Run w g R size xs (some (A.add (1 * size))) := by
      have := Run.drop h 1
      simpa using this
    obtain ⟨c2, k1, k2, k3⟩ := Run.cells htail hs
    refine ⟨c1 ++ c2, ⟨c1, c2, rfl, by simpa using h4, k1⟩, by simp [h3, k2, Nat.add_mul, Nat.add_comm], ?_⟩
    rintro B hB j hj
    cases hB
    by_cases hj1 : j < c1.length
    · obtain ⟨e1, e2⟩ := h5 j hj1
      simp only [Nat.zero_mul, Nat.zero_add] at e1 e2
      rw [List.getElem_append_left hj1]
      exact ⟨e1, e2⟩
    · have hj2 : j - c1.length < c2.length := by simp at hj; omega
      obtain ⟨e1, e2⟩ := k3 _ rfl (j - c1.length) hj2
      rw [Addr.add_plain A _ h2] at e1 e2
      simp only [Nat.one_mul] at e1 e2
      rw [List.getElem_append_right (by omega)]
      rw [show A.off + size + (j - c1.length) = A.off + j by omega] at e1 e2
      exact ⟨e1, e2⟩

theorem Parts.ints {k : IntKind} {w : World} {g : Ghost} : ∀ (xs : List Int) (cs : List Value), Parts (RepC w g (.int k)) xs cs → cs = xs.map (Value.int k)
  | [], cs, h => h
  | x :: xs, cs, h => by
    obtain ⟨c1, c2, rfl, h1, h2⟩ := h
    have h1' : c1 = [.int k x] := h1
    rw [h1', Parts.ints xs c2 h2]
    rfl

theorem Run.spot {w : World} {g : Ghost} {α : Type} {R : α → List Value → Prop} {size : Nat} {xs : List α} {A : Addr} (h : Run w g R size xs (some A)) (hne : xs ≠ []) : A.spot = none := by
  have : 0 < xs.length := List.length_pos_iff.2 hne
  obtain ⟨B, _, e, h2, _⟩ := h 0 this
  cases e
  exact h2

theorem run_bytesToString_sl {g w} {dh : Nat} {κ : Key} {xs : List Int} {nl own v} (h : RepX g w dh κ (.sl (.int .u8) xs nl own) v) {src e : Nat} (hs : P.underlying src = some (.slice e)) (he : P.underlying e = some (.int .u8)) {dst : Nat} (hd : P.underlying dst = some .string) :
    (convert src dst v).run P w = .ok (.string (strOf xs)) w := by
  simp only [RepX] at h
  obtain ⟨a, c, rfl, h2, h3, _⟩ := h
  cases a with
  | none =>
    have hx : xs = [] := by
      cases xs with
      | nil => rfl
      | cons x xs => obtain ⟨A, _, e, _⟩ := h3 0 (by simp); cases e
    subst hx
    rw [run_convert_bytes_nil w src e hs he _ _ dst hd]
    rfl
  | some A =>
    obtain ⟨cs, k1, k2, k3⟩ := Run.cells h3 (by decide)
    have hcs := Parts.ints xs cs k1
    by_cases hne : xs = []
    · subst hne
      have hl : (loadCells A 0).run P w = .ok #[] w := by simp [loadCells, loadCellsFrom]
      have := run_bytesToString (P := P) w A 0 c [] hl
      rw [run_convert_bytes_string w src dst e _ _ _ hs he hd]
      exact this
    · have hs0 := h3.spot hne
      obtain ⟨b, o, sp⟩ := A
      simp only at hs0
      subst hs0
      refine run_convert_bytes_arg w src e hs he b o xs.length c xs rfl (fun i hi => ?_) dst hd
      subst hcs
      obtain ⟨e1, _⟩ := k3 _ rfl i (by simpa using hi)
      rw [e1]
      simp [List.getD_eq_getElem?_getD, List.getElem?_eq_getElem hi]

theorem core_makeFunc (f : Nat) (first captured : Array Operand) : CoreOk P C ⟨dst, .makeFunc (.func f) first captured, ty, pos, af, gd⟩ := by
  intro R tr g w d dh st a h k r hk
  have ops : (⟨dst, .makeFunc (.func f) first captured, ty, pos, af, gd⟩ : Oper).op.operands.toList.map st.val = first.toList.map st.val ++ captured.toList.map st.val := by simp [Op.operands]
  rw [ops] at hk
  have hk' : k (.fn f (((first.toList.map st.val ++ captured.toList.map st.val).take first.size).map X.unown) (((first.toList.map st.val ++ captured.toList.map st.val).drop first.size).map X.unown)) [] st.H = some r := hk
  have e1 : (first.toList.map st.val ++ captured.toList.map st.val).take first.size = first.toList.map st.val := by
    rw [List.take_append_of_le_length (by simp)]; exact List.take_of_length_le (by simp)
  have e2 : (first.toList.map st.val ++ captured.toList.map st.val).drop first.size = captured.toList.map st.val := by
    rw [List.drop_append_of_le_length (by simp)]; simp [List.drop_of_length_le]
  rw [e1, e2] at hk'
  have reps : ∀ (l : List Operand), RepXs g w dh ((l.map st.val).map X.unown) (l.map a.eval) := by
    intro l
    induction l with
    | nil => simp [RepXs]
    | cons x l ih =>
      simp only [List.map_cons, RepXs]
      exact ⟨_, _, rfl, (h.val x).unown', ih⟩
  refine ⟨_, _, _, hk', OpWp.same h (val := .func (.func f) (first.map a.eval) (captured.map a.eval)) (by simp [execOp, Instr.makeFunc]) ?_⟩
  simp only [RepX]
  exact ⟨first.toList.map a.eval, captured.toList.map a.eval, by simp [← Array.toList_map], reps _, reps _⟩

/-- A draw. -/
theorem Ext.drawn {g w} {d : Nat} {K : Key → Prop} (n : Nat) : Ext g w g { w with drawn := n } d K :=
  ⟨rfl, rfl, rfl, Nat.le_refl _, fun _ _ _ => ⟨rfl, rfl, rfl⟩, fun _ _ h => ⟨rfl, h⟩, fun _ _ _ h => ⟨h, rfl, rfl⟩, fun _ _ => rfl⟩

/-- A new block, whose owner and whose settled part are told. -/
def Ghost.block (g : Ghost) (b : Nat) (κ : Key) (n : Nat) : Ghost :=
  { g with own := fun x => if x = b then some κ else g.own x, U := fun x => if x = b then n else g.U x }

theorem cell_push {w : World} {o : Obj} {b off : Nat} (h : b < w.heap.size) : ({ w with heap := w.heap.push o } : World).cell? ⟨b, off, none⟩ = w.cell? ⟨b, off, none⟩ := by
  simp [World.cell?, Array.getElem?_push, Nat.ne_of_lt h]

theorem WF.lt {g w} (h : WF g w) {b off : Nat} (hu : off < g.U b) : b < w.heap.size := by
  rcases Nat.lt_or_ge b w.heap.size with hb | hb
  · exact hb
  · have := (h.1 b hb).2; omega

theorem Ext.block {g w} {d : Nat} {K : Key → Prop} (hw : WF g w) (o : Obj) (κ : Key) (n : Nat) : Ext g w (g.block w.heap.size κ n) { w with heap := w.heap.push o } d K where
  os := rfl
  tape := rfl
  output := rfl
  size := by simp
  keep b hb _ := ⟨by simp [Array.getElem?_push, Nat.ne_of_lt hb], by simp [Ghost.block, Nat.ne_of_lt hb], by simp [Ghost.block, Nat.ne_of_lt hb]⟩
  cells b off ho := by
    have hb := hw.lt ho
    exact ⟨cell_push hb, by simp [Ghost.block, Nat.ne_of_lt hb]; exact ho⟩
  mu _ _ _ h := ⟨h, rfl, rfl⟩
  num _ _ := rfl

theorem WF.block {g w} (hw : WF g w) (o : Obj) (κ : Key) (n : Nat) : WF (g.block w.heap.size κ n) { w with heap := w.heap.push o } := by
  refine ⟨?_, Tabs.ext (Ext.block (d := 0) (K := fun _ => False) hw o κ n) hw.2⟩
  intro b hb
  simp only [Array.size_push] at hb
  have hne : b ≠ w.heap.size := by omega
  obtain ⟨h1, h2⟩ := hw.1 b (by omega)
  simp [Ghost.block, hne, h1, h2]

theorem WF.drawn {g w} (hw : WF g w) (n : Nat) : WF g { w with drawn := n } := ⟨hw.1, Tabs.ext (Ext.drawn (d := 0) (K := fun _ => False) n) hw.2⟩

/-- A slice in a new block. -/
theorem RepX.fresh {g w} {dh : Nat} {κ : Key} {e : Ty} {xs : List e.den} {cs : List Value} {arr : Array Value} {T c : Nat} {b : Bool} (hp : Parts (RepC w g e) xs cs) (hw : WF g w) (ha : arr.toList.take (xs.length * e.size) = cs) (hn : xs.length ≤ c) (hc : arr.size = c * e.size) (hpos : 0 < e.size) (nl : Option Bool) (hnl : ∀ b, nl = some b → b = false) (fr : Nat × Nat) (hfr : FrOk fr e arr.size) :
    RepX (g.block w.heap.size κ (xs.length * e.size)) { w with heap := w.heap.push (.cells arr T fr) } dh κ (.sl e xs nl b) (.slice (some ⟨w.heap.size, 0, none⟩) xs.length c) := by
  have he : Ext g w (g.block w.heap.size κ (xs.length * e.size)) { w with heap := w.heap.push (.cells arr T fr) } 0 (fun _ => False) := Ext.block hw _ κ _
  simp only [RepX]
  refine ⟨_, c, rfl, hn, ?_, fun b hb => by rw [hnl b hb]; rfl, fun _ => .inr ⟨w.heap.size, arr, T, fr, rfl, by simp, hc, hfr, by simp [Ghost.block], by simp [Ghost.block]⟩⟩
  · intro i hi
    have hl := Parts.length (RepC.length (w := w) (g := g) e) xs cs hp
    obtain ⟨pre, mid, post, rfl, f2, f3, _⟩ := Parts.at (RepC.length (w := w) (g := g) e) xs cs i hi hp
    refine ⟨_, mid, rfl, rfl, RepC.length e _ _ f3, RepC.ext he e _ _ f3, fun j hj => ?_⟩
    have hj2 : i * e.size + j < (pre ++ mid ++ post).length := by simp; omega
    have hj3 : i * e.size + j < xs.length * e.size := by rw [hl] at hj2; exact hj2
    have hle : xs.length * e.size ≤ c * e.size := Nat.mul_le_mul_right _ hn
    refine ⟨?_, by simp [Ghost.block]; exact hj3⟩
    have hg : arr[i * e.size + j]? = some mid[j] := by
      have h1 : (arr.toList.take (xs.length * e.size))[i * e.size + j]? = mid[j]? := by rw [ha, ← f2]; exact getElem?_mid pre mid post j hj
      rw [List.getElem?_take, if_pos hj3, List.getElem?_eq_getElem hj] at h1
      simpa using h1
    simp only [World.cell?, Nat.zero_add]
    simp [hg]

/-- An empty slice with room. -/
theorem core_makeSlice (hC : TysOk P C.tys) (T : Nat) (x y : Operand) : CoreOk P C ⟨dst, .makeSlice T x y, ty, pos, af, gd⟩ := by
  intro R tr g w d dh st a h k r hk
  have hk' : (match C.ty T, st.val x, st.val y with
    | some ⟨.slice e, _, _, eb⟩, .d (.int _) l, .d (.int _) c => if l = 0 then bif decide (0 ≤ c ∧ c * eb ≤ 140737488355328 ∧ c ≤ 9223372036854775807) then k (.sl e [] (some false) true) [] st.H else none else none
    | _, _, _ => none) = some r := hk
  have hx := h.val x
  have hy := h.val y
  split at hk'
  · rename_i e z0 b0 eb kl l_ kc c_ he e1 e2
    obtain ⟨l, rfl⟩ : ∃ u : Int, u = l_ := ⟨l_, rfl⟩
    obtain ⟨c, rfl⟩ : ∃ u : Int, u = c_ := ⟨c_, rfl⟩
    rw [e1, RepX.int_iff] at hx
    rw [e2, RepX.int_iff] at hy
    · split at hk'
      · rename_i hl
        obtain rfl : l = 0 := hl
        cases hb : decide (0 ≤ c ∧ c * (eb : Int) ≤ 140737488355328 ∧ c ≤ 9223372036854775807) <;> rw [hb] at hk'
        · cases hk'
        · have hb' : 0 ≤ c ∧ c * (eb : Int) ≤ 140737488355328 ∧ c ≤ 9223372036854775807 := by simpa using hb
          have hok := Ctx.ty_ok hC he
          obtain ⟨et, hu, ht, hpos⟩ := tyB_slice hok.1
          obtain ⟨inf, z, hinf, hsz, hz, hzs⟩ := tyB_info ht
          have hbytes : inf.bytes = eb := by
            have := hok.2.2.2
            rw [hu] at this
            simpa [hinf] using this
          refine ⟨_, _, _, hk', fun next Q hn => ?_⟩
          have hmul : (inf.bytes : Int) * c ≤ 281474976710656 := by
            rw [hbytes, Int.mul_comm]
            have h1 := hb'.2.1
            omega
          have hrun := run_make (P := P) w T et inf z hu hinf hz kl kc 0 c (Int.le_refl _) hb'.1 hmul hb'.2.2
          have hexec : (execOp a.eval ⟨dst, .makeSlice T x y, ty, pos, af, gd⟩).run P w = .ok (.value (.slice (some ⟨w.heap.size, 0, none⟩) 0 c.toNat)) (w.alloc (.cells (madeCells z.cells (c.toNat * inf.size)) et)) := by
            simp only [execOp, hx, hy, Sem.run_bind, hrun, Result.andThen_ok, Sem.run_pure]
            rfl
          have hf := RepX.fresh (κ := kd ⟨dst, .makeSlice T x y, ty, pos, af, gd⟩ d) (dh := dh) (b := true) (T := et) (g := g) (w := w) (e := e) (xs := []) (arr := madeCells z.cells (c.toNat * inf.size)) (c := c.toNat) (cs := []) rfl h.wf (by simp) (by simp) (by rw [size_madeCells, hsz]) hpos (some false) (fun b hb => by cases hb; rfl) (0, 0) (.inl rfl)
          simp only [List.length_nil, Nat.zero_mul] at hf
          exact wp_value hexec (hn _ _ (g.block w.heap.size (kd ⟨dst, .makeSlice T x y, ty, pos, af, gd⟩ d) 0) hf (Ext.block h.wf _ _ _)
            (HRep.ext (Ext.block (K := fun _ => False) h.wf _ _ _) h.le (fun e => e) (fun _ _ e => e) rfl h.heap) (WF.block h.wf _ _ _))
      · cases hk'
  · cases hk'

theorem bytes_cells {w : World} {g : Ghost} (s : ByteArray) : Parts (RepC w g (.int .u8)) (bytesOf s) (s.data.toList.map fun b => Value.int .u8 b.toNat) := by
  unfold bytesOf
  generalize s.data.toList = l
  induction l with
  | nil => rfl
  | cons b l ih => exact ⟨[_], _, rfl, rfl, ih⟩

theorem World.freeze_push {w : World} {arr : Array Value} {T : Nat} {n : Nat} :
    (({ w with heap := w.heap.push (.cells arr T (0, 0)) } : World).freeze ⟨w.heap.size, n, none⟩ 1) = { w with heap := w.heap.push (.cells arr T (n, n + 1)) } := by
  simp only [World.freeze, Nat.one_ne_zero, if_false]
  congr 1
  apply Array.ext_getElem?
  intro i
  rw [Array.getElem?_modify]
  by_cases hi : w.heap.size = i
  · subst hi
    simp
  · rw [if_neg hi]
    simp [Array.getElem?_push, hi, Ne.symm hi]

/-- An operand is handed on, with its room, to a new owner. -/
theorem Fr.moveTo {g w} {d dh : Nat} {st : St} {a : Act} (h : Fr g w d dh st a) (x : Operand) (i : Nat) (κ' : Key) :
    ∃ g1, Ext g w g1 w d (fun κ => ∃ t, x = .tmp t ∧ κ = .tmp d t) ∧ RepX g1 w dh κ' (typed C i (st.val x)) (a.eval x) ∧ HRep g1 w dh st.H ∧ WF g1 w ∧ g1.U = g.U ∧ g1.N = g.N ∧ g1.μ = g.μ ∧ g1.oty = g.oty ∧
      (∀ b κ, g.own b = some κ → κ.heap dh → g1.own b = some κ) ∧ (∀ b, g.own b = none → g1.own b = none) := by
  have hx := typed_rep (C := C) (i := i) (h.val x)
  cases x with
  | tmp t =>
    refine ⟨g.rekey (.tmp d t) κ', Ghost.rekey_ext.mono (Nat.le_refl _) (fun κ e => ⟨t, rfl, e⟩), RepX.rekey h.le (by simp) _ _ hx, Ghost.rekey_heap h.le (by simp) (by simp [Key.heap]) h.heap, h.wf.rekey, rfl, rfl, rfl, rfl, ?_, ?_⟩
    · intro b κ e hh
      simp only [Ghost.rekey, e]
      rw [if_neg]
      intro e'
      cases e'
      exact hh
    · intro b e
      simp [Ghost.rekey, e]
  | const v => exact ⟨g, Ext.refl _ _ _ _, typed_rep (constX_rep g w dh _ v), h.heap, h.wf, rfl, rfl, rfl, rfl, fun _ _ e _ => e, fun _ e => e⟩
  | global n => exact ⟨g, Ext.refl _ _ _ _, typed_rep (glob_rep h.wf dh _ n), h.heap, h.wf, rfl, rfl, rfl, rfl, fun _ _ e _ => e, fun _ e => e⟩
  | func f =>
    refine ⟨g, Ext.refl _ _ _ _, ?_, h.heap, h.wf, rfl, rfl, rfl, rfl, fun _ _ e _ => e, fun _ e => e⟩
    simp only [St.val, typed, RepX, Act.eval]
    exact ⟨[], [], rfl, by simp [RepXs], by simp [RepXs]⟩

theorem core_convert (hA : C.A = Ar.real) (hC : TysOk P C.tys) (s t : Nat) (x : Operand) : CoreOk P C ⟨dst, .convert s t x, ty, pos, af, gd⟩ := by
  intro R tr g w d dh st a h k r hk
  have hk' : (match C.ty s, C.ty t, st.val x with
    | some ⟨.int _, _, _, _⟩, some ⟨.int kt, _, _, _⟩, .d (.int _) n => k (.d (.int kt) (Ar.real.wrap kt n)) [] st.H
    | some ⟨.slice (.int .u8), _, _, _⟩, some ⟨.str, _, _, _⟩, .sl (.int .u8) xs _ _ => k (.d .str (strOf xs)) [] st.H
    | some ⟨.str, _, _, _⟩, some ⟨.slice (.int .u8), _, _, _⟩, .d .str s => k (.sl (.int .u8) (bytesOf s) (some false) true) [] st.H
    | some ⟨.str, _, _, _⟩, some ⟨.str, _, _, _⟩, .d .str s => k (.d .str s) [] st.H
    | some ⟨.slice (.int .u8), _, _, _⟩, some ⟨.slice (.int .u8), _, _, _⟩, .sl (.int .u8) (y :: ys) (some false) true => if s = t then k (.sl (.int .u8) (y :: ys) (some false) true) [true] st.H else none
    | _, _, _ => none) = some r := by rw [← hA]; exact hk
  have hx := h.val x
  have run : ∀ v w', (convert s t (a.eval x)).run P w = .ok v w' → (execOp a.eval ⟨dst, .convert s t x, ty, pos, af, gd⟩).run P w = .ok (.value v) w' := by
    intro v w' hr
    simp only [execOp, Sem.run_bind, hr, Result.andThen_ok, Sem.run_pure]
  split at hk'
  · rename_i ks _ _ _ kt _ _ _ kn n es et ev
    rw [ev, RepX.int_iff] at hx
    have hus := tyB_int (Ctx.ty_ok hC es).1
    have hut := tyB_int (Ctx.ty_ok hC et).1
    refine ⟨_, _, _, hk', OpWp.same h (val := .int kt (kt.wrap n)) (run _ _ ?_) (RepX.int_iff.2 rfl)⟩
    rw [hx]
    simp only [convert, Sem.run_bind, run_underlying hus, run_underlying hut, Result.andThen_ok, Conv.intToInt, Sem.run_pure]
  · rename_i _ _ _ _ _ _ xs nl own es et ev
    rw [ev] at hx
    obtain ⟨ei, hus, hue, _⟩ := tyB_slice (Ctx.ty_ok hC es).1
    have hut := tyB_str (Ctx.ty_ok hC et).1
    exact ⟨_, _, _, hk', OpWp.same h (val := .string (strOf xs)) (run _ _ (run_bytesToString_sl hx hus (tyB_int hue) hut)) (RepX.str_iff.2 rfl)⟩
  · rename_i _ _ _ _ _ _ s' es et ev
    rw [ev, RepX.str_iff] at hx
    have hus := tyB_str (Ctx.ty_ok hC es).1
    obtain ⟨ei, hut, hue, _⟩ := tyB_slice (Ctx.ty_ok hC et).1
    have hue' := tyB_int hue
    refine ⟨_, _, _, hk', fun next Q hn => ?_⟩
    let cap := (Question.appendCap s'.size 0 ei).cut (w.tape w.drawn (.appendCap s'.size 0 ei))
    have hcap : s'.size ≤ cap := Nat.le_add_right _ _
    let arr : Array Value := (s'.data.map fun b => Value.int .u8 b.toNat) ++ Array.replicate (cap - s'.size) (.int .u8 0)
    have harr : arr.size = cap := by
      have : s'.data.size = s'.size := rfl
      simp only [arr, Array.size_append, Array.size_map, Array.size_replicate, this]; omega
    have hrun : (convert s t (a.eval x)).run P w = .ok (.slice (some ⟨w.heap.size, 0, none⟩) s'.size cap) { heap := w.heap.push (.cells arr ei (cap, cap + 1)), tape := w.tape, drawn := w.drawn + 1, os := w.os, output := w.output } := by
      rw [hx]
      have hsh : ({ heap := w.heap.push (.cells arr ei (0, 0)), tape := w.tape, drawn := w.drawn + 1, os := w.os, output := w.output } : World).shape? w.heap.size = some (ei, cap) := by
        simp [World.shape?, harr]
      have hfr := World.freeze_push (w := { w with drawn := w.drawn + 1 }) (arr := arr) (T := ei) (n := cap)
      simp only [convert, Sem.run_bind, run_underlying hus, run_underlying hut, run_underlying hue', Result.andThen_ok, Conv.stringToBytes, run_choose, Question.forced, Bool.false_eq_true, if_false, newRow, run_newObj, Sem.run_pure, markStringish, run_shape]
      simp only [show ((s'.data.map fun b => Value.int .u8 b.toNat) ++ Array.replicate ((Question.appendCap s'.size 0 ei).cut (w.tape w.drawn (.appendCap s'.size 0 ei)) - s'.size) (.int .u8 0)) = arr from rfl, hsh, run_freeze, Result.andThen_ok]
      rw [hfr]
    have hlen : (bytesOf s').length = s'.size := by rw [bytesOf, List.length_map, Array.length_toList]; rfl
    have hp := RepX.fresh (κ := kd ⟨dst, .convert s t x, ty, pos, af, gd⟩ d) (w := { w with drawn := w.drawn + 1 }) (dh := dh) (T := ei) (b := true) (bytes_cells (g := g) s') (h.wf.drawn _) (arr := arr) (c := cap) ?_ (by rw [hlen]; exact hcap) (by rw [harr]; simp [Ty.size]) (by decide) (some false) (fun b hb => by cases hb; rfl) (cap, cap + 1) (.inr ⟨rfl, by rw [harr]; exact Nat.le_refl _⟩)
    · rw [hlen] at hp
      refine wp_value (run _ _ hrun) (hn _ _ _ hp ?_ ?_ ?_)
      · exact (Ext.drawn (w.drawn + 1)).trans (Ext.block (w := { w with drawn := w.drawn + 1 }) (h.wf.drawn _) _ _ _)
      · exact HRep.ext ((Ext.drawn (w.drawn + 1)).trans (Ext.block (w := { w with drawn := w.drawn + 1 }) (K := fun _ => False) (h.wf.drawn _) _ _ _)) h.le (fun e => e) (fun _ _ e => e) rfl h.heap
      · exact WF.block (w := { w with drawn := w.drawn + 1 }) (h.wf.drawn _) _ _ _
    · rw [hlen]
      simp only [Ty.size, Nat.mul_one, arr, Array.toList_append, Array.toList_map]
      have hl2 : (List.map (fun b => Value.int .u8 (b.toNat : Int)) s'.data.toList).length = s'.size := by rw [List.length_map, Array.length_toList]; rfl
      rw [List.take_append_of_le_length (Nat.le_of_eq hl2.symm)]
      exact List.take_of_length_le (Nat.le_of_eq hl2)
  · rename_i _ _ _ _ _ _ s' es et ev
    rw [ev, RepX.str_iff] at hx
    have hus := tyB_str (Ctx.ty_ok hC es).1
    have hut := tyB_str (Ctx.ty_ok hC et).1
    refine ⟨_, _, _, hk', OpWp.same h (val := .string s') (run _ _ ?_) (RepX.str_iff.2 rfl)⟩
    rw [hx]
    simp only [convert, Sem.run_bind, run_underlying hus, run_underlying hut, Result.andThen_ok, Sem.run_pure]
  · rename_i _ _ _ _ _ _ y ys es et ev
    split at hk'
    · rename_i hst
      subst hst
      obtain ⟨ei, hus, hue, _⟩ := tyB_slice (Ctx.ty_ok hC es).1
      have hue' := tyB_int hue
      refine ⟨_, _, _, hk', fun next Q hn => ?_⟩
      obtain ⟨κ, hκ⟩ : ∃ κ, κ = kd ⟨dst, .convert s s x, ty, pos, af, gd⟩ d := ⟨_, rfl⟩
      have hkno : κ ≠ .no := by rw [hκ]; unfold kd; split <;> simp
      have hkheap : ¬ κ.heap dh := by rw [hκ]; unfold kd; split <;> simp [Key.heap]
      have hkop : Kop ⟨dst, .convert s s x, ty, pos, af, gd⟩ d dh [true] κ := by
        rw [hκ]
        unfold kd
        cases dst with
        | some t => exact .inl ⟨t, rfl, .inl rfl⟩
        | none => exact .inr (.inr (Nat.le_refl _))
      obtain ⟨g1, hg1, hy, hH1, hw1, eU, eN, eμ, eo, hown, hnone⟩ := h.moveTo (C := C) x s κ
      rw [ev] at hy
      simp only [typed, RepX] at hy
      obtain ⟨a0, c0, hv, hl, hrun', hnl, hO⟩ := hy
      rcases hO trivial with h0 | ⟨b, arr, tyo, fr, rfl, e2, e3, e4, e5, e6⟩
      · simp at hl; omega
      have hb : b < w.heap.size := (Array.getElem?_eq_some_iff.1 e2).1
      have hsh : w.shape? b = some (tyo, arr.size) := by simp [World.shape?, e2]
      obtain ⟨fr', hw', hfr'⟩ : ∃ fr', (w.freeze ⟨b, arr.size, none⟩ 1).heap[b]? = some (.cells arr tyo fr') ∧ (fr'.1 = fr'.2 ∨ arr.size ≤ fr'.1) := by
        obtain ⟨lo, hi⟩ := fr
        refine ⟨if lo == hi then (arr.size, arr.size + 1) else (min lo arr.size, max hi (arr.size + 1)), ?_, ?_⟩
        · simp only [World.freeze, Nat.one_ne_zero, if_false, Array.getElem?_modify, if_true, e2, Option.map_some]
        · by_cases hlo : lo = hi
          · simp [hlo]
          · simp only [beq_iff_eq, hlo, if_false]
            have e4 := e4.open
            simp only at e4
            omega
      have hother : ∀ i, i ≠ b → (w.freeze ⟨b, arr.size, none⟩ 1).heap[i]? = w.heap[i]? := by
        intro i hi
        simp only [World.freeze, Nat.one_ne_zero, if_false, Array.getElem?_modify]
        rw [if_neg (fun e => hi e.symm)]
      have hcell : ∀ i off, (w.freeze ⟨b, arr.size, none⟩ 1).cell? ⟨i, off, none⟩ = w.cell? ⟨i, off, none⟩ := by
        intro i off
        by_cases hi : i = b
        · subst hi
          simp only [World.cell?, hw', e2]
        · exact World.cell?_of_block (a := ⟨i, off, none⟩) (hother i hi)
      have hsz : (w.freeze ⟨b, arr.size, none⟩ 1).heap.size = w.heap.size := by
        simp [World.freeze]
      have he : Ext g1 w g1 (w.freeze ⟨b, arr.size, none⟩ 1) d (fun x => x = κ) := by
        refine ⟨rfl, rfl, rfl, by rw [hsz]; exact Nat.le_refl _, fun i hi hk => ?_, fun i off ho => ⟨hcell i off, ho⟩, fun _ _ _ h => ⟨h, rfl, rfl⟩, fun _ _ => rfl⟩
        have hne : i ≠ b := fun e => hk κ (e ▸ e6) rfl
        exact ⟨hother i hne, rfl, rfl⟩
      refine wp_value (val := a.eval x) (w' := w.freeze ⟨b, arr.size, none⟩ 1) (run _ _ ?_) (hn _ _ g1 ?_ ?_ ?_ ?_)
      · rw [hv]
        simp only [convert, Sem.run_bind, run_underlying hus, run_underlying hue', Result.andThen_ok, beq_self_eq_true, markStringish, run_shape, hsh, run_freeze, Sem.run_pure]
      · rw [← hκ]
        simp only [RepX]
        exact ⟨_, c0, hv, hl, hrun'.ext he (RepC.ext he _), hnl, fun _ => .inr ⟨b, arr, tyo, fr', rfl, hw', e3, hfr'.imp (fun h => h) (fun h => ⟨rfl, h⟩), e5, e6⟩⟩
      · refine (hg1.mono (Nat.le_refl _) ?_).trans (he.mono (Nat.le_refl _) ?_)
        · rintro κ2 ⟨t, rfl, rfl⟩
          exact .inl ⟨t, rfl, .inr (by simp [Op.operands, takenBy])⟩
        · rintro κ2 rfl
          exact hkop
      · exact HRep.ext he h.le (fun e => hkno e.symm) (fun κ2 hκ2 e => hkheap (e ▸ hκ2)) rfl hH1
      · refine ⟨fun i hi => ?_, Tabs.ext he hw1.2⟩
        rw [hsz] at hi
        exact hw1.1 i hi
    · cases hk'
  · cases hk'

end
end Go.Proofs.YtaefpopjlmhmoaaDoor.V

/- What the evaluator tells is so: variables read and written. -/
namespace Go.Proofs.YtaefpopjlmhmoaaDoor.V
open Go
set_option linter.unusedVariables false
set_option linter.unusedSimpArgs false

section
variable {P : Program} {C : Ctx} {dst : Option Nat} {ty : Nat} {pos : String} {af : Array Edge} {gd : Option (Nat × Bool)}

theorem isAgg_run {t : Ty} {T : Nat} (ht : tyB P t T = true) (w : World) : (isAgg T).run P w = .ok t.isAgg w := by
  cases t
  case struct c => obtain ⟨fs, hu, _⟩ := tyB_struct ht; simp only [isAgg, Sem.run_bind, run_underlying hu, Result.andThen_ok]; rfl
  case arr n e => obtain ⟨ei, hu, _⟩ := tyB_arr ht; simp only [isAgg, Sem.run_bind, run_underlying hu, Result.andThen_ok]; rfl
  case unit => simp [tyB] at ht
  case prod a b => simp [tyB] at ht
  case int k => simp only [isAgg, Sem.run_bind, run_underlying (tyB_int ht), Result.andThen_ok]; rfl
  case bool => simp only [isAgg, Sem.run_bind, run_underlying (tyB_bool ht), Result.andThen_ok]; rfl
  case str => simp only [isAgg, Sem.run_bind, run_underlying (tyB_str ht), Result.andThen_ok]; rfl
  case slice e => obtain ⟨ei, hu, _⟩ := tyB_slice ht; simp only [isAgg, Sem.run_bind, run_underlying hu, Result.andThen_ok]; rfl
  case err => obtain ⟨ms, hu⟩ := tyB_err ht; simp only [isAgg, Sem.run_bind, run_underlying hu, Result.andThen_ok]; rfl
  case any =>
    simp only [tyB, Bool.and_eq_true] at ht
    obtain ⟨_, ht⟩ := ht
    split at ht
    · cases ht
    · cases ht
    · rename_i d h1 h2 hu
      simp only [isAgg, Sem.run_bind, run_underlying hu, Result.andThen_ok]
      cases d <;> first | rfl | exact absurd hu (h1 _) | exact absurd hu (h2 _ _)
    · cases ht

theorem size_one {t : Ty} (h : t.isAgg = false) : t.size = 1 := by cases t <;> simp_all [Ty.isAgg, Ty.size]

/-- A variable, or a part of one, read. -/
theorem loadVar_run {t : Ty} {T : Nat} (ht : tyB P t T = true) {w : World} {b off : Nat} {cs : List Value} (hl : cs.length = t.size) (hc : ∀ j (hj : j < cs.length), w.cell? ⟨b, off + j, none⟩ = some cs[j]) :
    (loadVar T ⟨b, off, none⟩).run P w = .ok (valOf t cs) w := by
  obtain ⟨inf, z, hi, hs, _, _⟩ := tyB_info ht
  have hag := isAgg_run ht w
  cases hA : t.isAgg with
  | true =>
    rw [hA] at hag
    have hlc := run_loadCells_list (P := P) w ⟨b, off, none⟩ cs (fun j v hj => by
      have hjl : j < cs.length := (List.getElem?_eq_some_iff.1 hj).1
      rw [Addr.add_lit, hc j hjl]
      rw [List.getElem?_eq_getElem hjl] at hj
      exact hj)
    rw [hl] at hlc
    simp only [loadVar, Sem.run_bind, hag, Result.andThen_ok, if_true, sizeOf, typeInfo, run_program, hi, Sem.run_pure, hs, hlc, valOf, hA]
  | false =>
    rw [hA] at hag
    rw [size_one hA] at hl
    match cs, hl with
    | [v], _ =>
      have := hc 0 (by simp)
      simp only [Nat.add_zero, List.getElem_cons_zero] at this
      simp only [loadVar, Sem.run_bind, hag, Result.andThen_ok, Bool.false_eq_true, if_false, run_load, this, valOf, hA, List.headD]

theorem RepO.out {g w} {dh id : Nat} {t : Ty} {y z : X} {off : Nat} {cs : List Value} (h : RepO g w dh id y t off cs) (e : outX t y = some z) : RepX g w dh (.cell dh id off) z (valOf t cs) := by
  cases y
  case agg xs =>
    simp only [outX] at e
    split at e
    · rename_i v hv
      cases e
      have hr := RepO.toD _ t off cs v h hv
      exact RepX.mkX hr (isVal_valOf hr)
    · cases e
  case d t0 x =>
    simp only [outX, Option.some.injEq] at e
    subst e
    simp only [RepO] at h
    obtain ⟨rfl, h⟩ := h
    simp only [RepX]
    exact ⟨cs, h, isVal_valOf h⟩
  case sl e0 xs nl own =>
    simp only [outX, Option.some.injEq] at e
    subst e
    simp only [RepO] at h
    obtain ⟨rfl, v, rfl, h⟩ := h
    exact h
  case fn f a b =>
    simp only [outX, Option.some.injEq] at e
    subst e
    simp only [RepO] at h
    obtain ⟨rfl, v, rfl, h⟩ := h
    simp only [RepX] at h ⊢
    exact h
  case ptr i p =>
    simp only [outX, Option.some.injEq] at e
    subst e
    simp only [RepO] at h
    obtain ⟨rfl, v, rfl, h⟩ := h
    simp only [RepX] at h ⊢
    exact h
  case yld i =>
    simp only [outX, Option.some.injEq] at e
    subst e
    simp only [RepO] at h
    obtain ⟨rfl, v, rfl, h⟩ := h
    simp only [RepX] at h ⊢
    exact h
  all_goals simp [RepO] at h

theorem cell_of_heap {w : World} {b : Nat} {arr : Array Value} {T : Nat} {fr : Nat × Nat} (h : w.heap[b]? = some (.cells arr T fr)) (j : Nat) : w.cell? ⟨b, j, none⟩ = arr[j]? := by
  simp [World.cell?, h]

theorem RepO.unown_y {g w} {dh id : Nat} {t : Ty} {y : X} {off : Nat} {cs : List Value} {g' w'} {d : Nat} {K : Key → Prop} (he : Ext g w g' w' d K) (hd : dh ≤ d) (hno : ¬ K .no) (h : RepO g w dh id y t off cs) (hy : ∀ xs, y ≠ .agg xs) : RepO g' w' dh id y.unown t off cs := by
  cases y
  case agg xs => exact absurd rfl (hy xs)
  case sl e0 xs nl own =>
    simp only [X.unown, RepO] at h ⊢
    obtain ⟨rfl, v, rfl, h⟩ := h
    exact ⟨rfl, v, rfl, RepX.unown he hd hno (.sl e0 xs nl own) v h⟩
  case d t0 x =>
    simp only [X.unown, RepO] at h ⊢
    exact ⟨h.1, RepC.ext he _ _ _ h.2⟩
  case fn f a b =>
    simp only [X.unown, RepO] at h ⊢
    obtain ⟨r1, v, r2, r3⟩ := h
    exact ⟨r1, v, r2, RepX.ext he hd hno hno _ v r3⟩
  case ptr i p =>
    simp only [X.unown, RepO] at h ⊢
    obtain ⟨r1, v, r2, r3⟩ := h
    exact ⟨r1, v, r2, RepX.ext he hd hno hno _ v r3⟩
  case yld i =>
    simp only [X.unown, RepO] at h ⊢
    obtain ⟨r1, v, r2, r3⟩ := h
    exact ⟨r1, v, r2, RepX.ext he hd hno hno _ v r3⟩
  all_goals simp [RepO] at h

/-- One variable's content has turned, or it is told of no more. -/
theorem HRep.setL {g w g' w'} {d dh : Nat} {H : Hp} {K : Key → Prop} {id : Nat} {t : Ty} {c c' : X} (h : HRep g w dh H) (he : Ext g w g' w' d K) (hd : dh ≤ d) (hno : ¬ K .no) (hN : g'.N dh = g.N dh) (hid : H[id]? = some (t, c))
    (hK : ∀ κ, κ.heap dh → K κ → κ = .obj dh id ∨ ∃ o, κ = .cell dh id o) (hn : HLive g' w' dh id t c') : HRep g' w' dh (H.set id (t, c')) := by
  refine ⟨by simp [h.1, hN], fun i ti ci e => ?_⟩
  by_cases hi : id = i
  · subst hi
    have hlt : id < H.length := (List.getElem?_eq_some_iff.1 hid).1
    rw [List.getElem?_set_self hlt] at e
    simp only [Option.some.injEq, Prod.mk.injEq] at e
    obtain ⟨rfl, rfl⟩ := e
    obtain ⟨r1, r2, r3⟩ := h.2 id t c hid
    have hidN : id < g.N dh := by rw [← h.1]; exact hlt
    obtain ⟨k1, k2, k3⟩ := he.mu dh hd id hidN
    exact ⟨k3.trans r1, r2, hn⟩
  · rw [List.getElem?_set_ne hi] at e
    obtain ⟨r1, r2, r3⟩ := h.2 i ti ci e
    have hidN : i < g.N dh := by
      rw [← h.1]
      exact (List.getElem?_eq_some_iff.1 e).1
    obtain ⟨k1, k2, k3⟩ := he.mu dh hd i hidN
    have hnk : ¬ K (.obj dh i) := fun k => by
      rcases hK (.obj dh i) rfl k with e | ⟨o, e⟩
      · cases e; exact hi rfl
      · cases e
    refine ⟨k3.trans r1, r2, r3.to he hd hno (fun off k => ?_) hnk k2⟩
    rcases hK (.cell dh i off) rfl k with e | ⟨o, e⟩
    · cases e
    · cases e; exact hi rfl

/-- One variable's content has turned. -/
theorem HRep.set {g w g' w'} {d dh : Nat} {H : Hp} {K : Key → Prop} {id : Nat} {t : Ty} {c c' : X} (h : HRep g w dh H) (he : Ext g w g' w' d K) (hd : dh ≤ d) (hno : ¬ K .no) (hN : g'.N dh = g.N dh) (hid : H[id]? = some (t, c))
    (hK : ∀ κ, κ.heap dh → K κ → κ = .obj dh id ∨ ∃ o, κ = .cell dh id o)
    (hown : g'.own (g.μ dh id) = some (.obj dh id)) (hU : g'.U (g.μ dh id) = 0) (hn : HAt g' w' dh id t c') : HRep g' w' dh (H.set id (t, c')) := by
  have hidN : id < g.N dh := by rw [← h.1]; exact (List.getElem?_eq_some_iff.1 hid).1
  obtain ⟨k1, k2, k3⟩ := he.mu dh hd id hidN
  exact h.setL he hd hno hN hid hK (.inr ⟨by rw [k2]; exact hown, by rw [k2]; exact hU, hn⟩)

theorem sliceX_or {t : Ty} {y z : X} (h : outX t y = some z) : (∃ xs, y = .agg xs) ∨ z = y := by
  cases y
  case agg xs => exact .inl ⟨xs, rfl⟩
  case dead => simp [outX] at h
  all_goals (simp only [outX, Option.some.injEq] at h; exact .inr h.symm)

theorem getP_dead {p : List Nat} {c y z : X} {t : Ty} (h : getP p c = some y) (hz : outX t y = some z) : c ≠ .dead := by
  rintro rfl
  cases p with
  | nil =>
    simp only [getP, Option.some.injEq] at h
    subst h
    simp [outX] at hz
  | cons j p => simp [getP] at h

theorem setP_dead {p : List Nat} {c y c' : X} (h : setP p c y = some c') : c ≠ .dead := by
  rintro rfl
  cases p <;> simp [setP] at h

theorem take_get {α : Type} {l : List α} {n k : Nat} {x : α} (h : (l.take n)[k]? = some x) : l[k]? = some x := by
  rw [List.getElem?_take] at h
  split at h
  · exact h
  · cases h

theorem frozen_open {w : World} {b j : Nat} {arr : Array Value} {T : Nat} {fr : Nat × Nat} (h : w.heap[b]? = some (.cells arr T fr)) (hf : fr.1 = fr.2 ∨ arr.size ≤ fr.1) (hj : j < arr.size) : w.frozen? ⟨b, j, none⟩ = false := by
  simp only [World.frozen?, h]
  simp
  omega

theorem core_load (hC : TysOk P C.tys) (T : Nat) (x : Operand) : CoreOk P C ⟨dst, .load T x, ty, pos, af, gd⟩ := by
  intro R tr g w d dh st a h k r hk
  have hk' : (match C.ty T, st.val x with
    | some e, .cp t x => match castTo t e.t x with
      | some v => k (mkX e.t v) [] st.H
      | none => none
    | some e, .cx x => if e.t = .any then k x.unown [] st.H else none
    | some e, .ptr id p => match st.H[id]? with
      | some (t, c) => match typeAt t p, getP p c with
        | some t', some y => if t' = e.t then
            match outX e.t y with
            | some z => match (generalizing := false) tr, y with
              | true, .sl e1 xs nl own => match setP p c (.sl e1 xs nl false) with
                | some c' => k (.sl e1 xs nl own) [] (st.H.set id (t, c'))
                | none => none
              | _, _ => k z.unown [] st.H
            | none => none
          else none
        | _, _ => none
      | none => none
    | _, _ => none) = some r := hk
  have hx := h.val x
  have run : ∀ A v, a.eval x = .pointer (some A) → (loadVar T A).run P w = .ok v w → (execOp a.eval ⟨dst, .load T x, ty, pos, af, gd⟩).run P w = .ok (.value v) w := by
    intro A v hv hr
    simp only [execOp, Sem.run_bind, Instr.loadAt, hv, Instr.sureAddr, Sem.run_pure, Result.andThen_ok, hr]
  split at hk'
  · rename_i e t v he ev
    split at hk'
    · rename_i v' hv'
      obtain ⟨rfl, rfl⟩ := castTo_some hv'
      rw [ev] at hx
      simp only [RepX] at hx
      obtain ⟨A, cs, hv, hs, h1, h2⟩ := hx
      have ht := (Ctx.ty_ok hC he).1
      have hlv := loadVar_run (w := w) (b := A.block) (off := A.off) ht (RepC.length _ _ _ h1) (fun j hj => (h2 j hj).1)
      have hA : (⟨A.block, A.off, none⟩ : Addr) = A := by
        obtain ⟨b, o, s⟩ := A
        simp only at hs
        subst hs; rfl
      rw [hA] at hlv
      exact ⟨_, _, _, hk', OpWp.same h (run A _ hv hlv) (RepX.mkX h1 (isVal_valOf h1))⟩
    · cases hk'
  · rename_i e x0 he ev
    split at hk'
    · rename_i hea
      rw [ev] at hx
      simp only [RepX] at hx
      obtain ⟨A, u, hv, hs, h1, h2, h3⟩ := hx
      have ht := (Ctx.ty_ok hC he).1
      rw [hea] at ht
      have hlv := loadVar_run (w := w) (b := A.block) (off := A.off) (cs := [u]) ht rfl (fun j hj => by
        have : j = 0 := by simpa using hj
        subst this
        exact h2)
      have hA : (⟨A.block, A.off, none⟩ : Addr) = A := by
        obtain ⟨b, o, s⟩ := A
        simp only at hs
        subst hs; rfl
      rw [hA] at hlv
      exact ⟨_, _, _, hk', OpWp.same h (run A _ hv hlv) h1.unown'⟩
    · cases hk'
  · rename_i e id p he ev
    split at hk'
    · rename_i t c hid
      split at hk'
      · rename_i t' y htp hy
        split at hk'
        · rename_i hte
          subst hte
          split at hk'
          · rename_i z hz
            rw [ev] at hx
            simp only [RepX] at hx
            obtain ⟨hN, o, t1, hp, hv⟩ := hx
            obtain ⟨r1, r2, hlive⟩ := h.heap.2 id t c hid
            obtain ⟨r3, r4, r56⟩ := hlive.at (getP_dead hy hz)
            have ht := (Ctx.ty_ok hC he).1
            obtain ⟨arr, tyo, fr, r5, rf, r6⟩ := r56.cells htp (tyB_unit ht)
            rw [r1] at hp
            obtain rfl := typeAt_eq hp htp
            obtain ⟨pre, mid, post, f1, f2, f3⟩ := RepO.get p c t 0 o _ e.t y r6 hp hy
            rw [Nat.zero_add] at f3
            have hcell : ∀ j (hj : j < mid.length), w.cell? ⟨g.μ dh id, o + j, none⟩ = some mid[j] := by
              intro j hj
              rw [cell_of_heap r5, ← Array.getElem?_toList]
              exact take_get (n := t.size) (by rw [f1, ← f2, getElem?_mid pre mid post j hj, List.getElem?_eq_getElem hj])
            have hlv := loadVar_run (w := w) (b := g.μ dh id) (off := o) ht (RepO.length _ _ _ _ f3) hcell
            have hz' := f3.out hz
            split at hk'
            · rename_i e1 xs nl own
              split at hk'
              · rename_i c' hc'
                simp only [outX, Option.some.injEq] at hz
                subst hz
                refine ⟨_, _, _, hk', fun next Q hn => ?_⟩
                have hge := Ghost.rekey_ext (g := g) (w := w) (d := d) (κ := .cell dh id o) (κ' := kd ⟨dst, .load T x, ty, pos, af, gd⟩ d)
                refine wp_value (run _ _ hv hlv) (hn _ w (g.rekey (.cell dh id o) (kd ⟨dst, .load T x, ty, pos, af, gd⟩ d)) (RepX.rekey h.le (by simp) _ _ hz') ?_ ?_ h.wf.rekey)
                · refine hge.mono (Nat.le_refl _) ?_
                  rintro κ rfl
                  exact .inr (.inl rfl)
                · refine HRep.set h.heap hge h.le (by simp) rfl hid ?_ ?_ r4 ?_
                  · rintro κ _ rfl
                    exact .inr ⟨o, rfl⟩
                  · simp only [Ghost.rekey, r3]
                    rw [if_neg (by simp)]
                  · refine .inl ⟨arr, tyo, fr, r5, rf, ?_⟩
                    have hu := RepO.unown_y hge h.le (by simp) f3 (by simp)
                    have hsz : e.t.size = 1 := by
                      simp only [RepO] at f3
                      rw [f3.1]; rfl
                    obtain ⟨pre', mid', post', g1, g2, g3, g4⟩ := RepO.set hge h.le (by simp) p c t 0 o _ e.t _ c' mid r2 r6 hp hc' (fun o' _ _ k => by cases k; omega) (by rw [Nat.zero_add]; exact hu)
                    have g1' : pre ++ (mid ++ post) = pre' ++ (mid' ++ post') := by rw [← List.append_assoc, ← List.append_assoc, ← f1, ← g1]
                    obtain ⟨q1, q2⟩ := List.append_inj g1' (by rw [f2, g2])
                    obtain ⟨q3, q4⟩ := List.append_inj q2 (by rw [g3, RepO.length _ _ _ _ f3])
                    rw [g1, ← q3]
                    exact g4
              · cases hk'
            · exact ⟨_, _, _, hk', OpWp.same h (run _ _ hv hlv) hz'.unown'⟩
          · cases hk'
        · cases hk'
      · cases hk'
    · cases hk'
  · cases hk'

theorem RepO.of_fit {g w} {dh id : Nat} {t : Ty} {off : Nat} : ∀ {x : X} {v : Value}, fitO x t = true → RepX g w dh (.cell dh id off) x v → RepO g w dh id x t off v.cells.toList
  | .d t' x, v, hf, h => by
    simp only [fitO, decide_eq_true_eq] at hf
    subst hf
    simp only [RepX] at h
    obtain ⟨cs, h1, h2⟩ := h
    rw [h2.cells' h1]
    simp only [RepO]
    exact ⟨trivial, h1⟩
  | .agg xs, v, hf, h => by simp [RepX] at h
  | .sl e xs nl own, v, hf, h => by
    simp only [fitO, decide_eq_true_eq] at hf
    subst hf
    simp only [RepO]
    refine ⟨trivial, v, ?_, h⟩
    simp only [RepX] at h
    obtain ⟨a, c, rfl, _⟩ := h
    rfl
  | .fn f b c, v, hf, h => by
    simp only [fitO, decide_eq_true_eq] at hf
    subst hf
    simp only [RepO]
    simp only [RepX] at h
    refine ⟨trivial, v, ?_, by simp only [RepX]; exact h⟩
    obtain ⟨_, _, rfl, _⟩ := h
    rfl
  | .ptr i p, v, hf, h => by
    simp only [fitO, decide_eq_true_eq] at hf
    subst hf
    simp only [RepO]
    simp only [RepX] at h
    refine ⟨trivial, v, ?_, by simp only [RepX]; exact h⟩
    obtain ⟨_, _, _, _, rfl⟩ := h
    rfl
  | .yld i, v, hf, h => by
    simp only [fitO, decide_eq_true_eq] at hf
    subst hf
    simp only [RepO]
    simp only [RepX] at h
    refine ⟨trivial, v, ?_, by simp only [RepX]; exact h⟩
    obtain ⟨_, rfl⟩ := h
    rfl
  | .rnd _ _, _, hf, _ => by simp [fitO] at hf
  | .bsy _ _, _, hf, _ => by simp [fitO] at hf
  | .fin _ _, _, hf, _ => by simp [fitO] at hf
  | .dead, _, hf, _ => by simp [fitO] at hf
  | .undef, _, hf, _ => by simp [fitO] at hf
  | .nils, _, hf, _ => by simp [fitO] at hf
  | .cp _ _, _, hf, _ => by simp [fitO] at hf
  | .tup _, _, hf, _ => by simp [fitO] at hf
  | .lst _, _, hf, _ => by simp [fitO] at hf
  | .cx _, _, hf, _ => by simp [fitO] at hf
  | .mref _ _ _ _ _, _, hf, _ => by simp [fitO] at hf
  | .ps _ _, _, hf, _ => by simp [fitO] at hf

/-- Cells written one behind the other into a block that is not sealed there. -/
theorem storeCells_run {w : World} (g o : Nat) (t : TypeId) (fr : Nat × Nat) : ∀ (vs : List Value) (i : Nat) (cur : Array Value) (w : World), w.heap[g]? = some (.cells cur t fr) → o + i + vs.length ≤ cur.size → (∀ j, o + i ≤ j → j < o + i + vs.length → w.frozen? ⟨g, j, none⟩ = false) → Plain vs →
    (storeCells ⟨g, o, none⟩ vs i).run P w = .ok () (w.setRow g (cur.toList.take (o + i) ++ vs ++ cur.toList.drop (o + i + vs.length)).toArray)
  | [], i, cur, w, hg, _, _, _ => by
    simp only [storeCells, List.append_nil, List.length_nil, Nat.add_zero, List.take_append_drop, Array.toArray_toList]
    rw [setRow_self w g cur t fr hg]
    rfl
  | v :: rest, i, cur, w, hg, hl, hf, h1 => by
    have hi : o + i < cur.size := by simp at hl; omega
    have hadd : (⟨g, o, none⟩ : Addr).add i = ⟨g, o + i, none⟩ := Addr.add_lit g o i
    have hcell : w.cell? ⟨g, o + i, none⟩ = some cur[o + i] := by simp [World.cell?, hg, hi]
    have hfro : w.frozen? ⟨g, o + i, none⟩ = false := hf _ (Nat.le_refl _) (by simp)
    have hst : (store ((⟨g, o, none⟩ : Addr).add i) v).run P w = .ok () (w.setRow g (cur.setIfInBounds (o + i) v)) := by
      rw [hadd, run_store P w _ v _ (h1 v (by simp)), hcell]
      simp [hfro, setCell_eq_setRow w g (o + i) cur t fr v hg]
    have hh := setRow_heap w g cur (cur.setIfInBounds (o + i) v) t fr hg
    have ih := storeCells_run (w := w) g o t fr rest (i + 1) (cur.setIfInBounds (o + i) v) (w.setRow g (cur.setIfInBounds (o + i) v)) hh (by simp at hl ⊢; omega) (fun j l1 l2 => by
      have := hf j (by omega) (by simp; omega)
      simp only [World.frozen?, hg] at this
      simp only [World.frozen?, hh]
      exact this) (fun x hx => h1 x (by simp [hx]))
    simp only [storeCells, Sem.run_bind, hst, Result.andThen_ok, ih, setRow_setRow]
    congr 3
    have e := list_seg_step cur.toList (o + i) v rest (by simp at hl ⊢; omega)
    simpa [Array.toList_setIfInBounds, Nat.add_assoc] using e

/-- A block of one owner is written. -/
theorem Ext.setRow {g w} {d : Nat} {b : Nat} {arr : Array Value} {κ : Key} (ho : g.own b = some κ) (hU : g.U b = 0) (hb : b < w.heap.size) : Ext g w g (w.setRow b arr) d (fun x => x = κ) where
  os := rfl
  tape := rfl
  output := rfl
  size := by simp
  keep i hi hk := by
    have hne : i ≠ b := fun e => hk κ (e ▸ ho) rfl
    exact ⟨setRow_other w b i arr hne, rfl, rfl⟩
  cells i off hu := by
    have hne : i ≠ b := fun e => by subst e; omega
    exact ⟨World.cell?_of_block (a := ⟨i, off, none⟩) (setRow_other w b i arr hne), hu⟩
  mu _ _ _ h := ⟨h, rfl, rfl⟩
  num _ _ := rfl

theorem core_store (hC : TysOk P C.tys) (T : Nat) (x y : Operand) : CoreOk P C ⟨dst, .store T x y, ty, pos, af, gd⟩ := by
  intro R tr g w d dh st a h k r hk
  have hk' : (match C.ty T, st.val x with
    | some e, .ptr id p => match st.H[id]? with
      | some (t, c) => match typeAt t p, setP p c (typed C T (st.val y)) with
        | some t', some c' => if t' = e.t ∧ fitO (typed C T (st.val y)) t' = true then k .undef [false, true] (st.H.set id (t, c')) else none
        | _, _ => none
      | none => none
    | _, _ => none) = some r := hk
  have hx := h.val x
  split at hk'
  · rename_i e id p he ev
    split at hk'
    · rename_i t c hid
      split at hk'
      · rename_i t' c' htp hc'
        split at hk'
        · rename_i hcond
          obtain ⟨rfl, hfit⟩ := hcond
          rw [ev] at hx
          simp only [RepX] at hx
          obtain ⟨hN, o, t1, hp, hv⟩ := hx
          obtain ⟨r1, r2, hlive⟩ := h.heap.2 id t c hid
          obtain ⟨r3, r4, r56⟩ := hlive.at (setP_dead hc')
          have ht := (Ctx.ty_ok hC he).1
          obtain ⟨arr, tyo, fr, r5, rf, r6⟩ := r56.cells htp (tyB_unit ht)
          rw [r1] at hp
          obtain rfl := typeAt_eq hp htp
          obtain ⟨inf, z, hi, hs, _, _⟩ := tyB_info ht
          refine ⟨_, _, _, hk', fun next Q hn => ?_⟩
          obtain ⟨g1, hg1, hy, hH1, hw1, eU, eN, eμ, eo, hown, hnone⟩ := h.moveTo (C := C) y T (.cell dh id o)
          have hb : g.μ dh id < w.heap.size := (Array.getElem?_eq_some_iff.1 r5).1
          have hyo := RepO.of_fit hfit hy
          have hlen := RepO.length _ _ _ _ hyo
          have hpl := RepO.plain _ _ _ _ hyo
          have o1 : g1.own (g.μ dh id) = some (.obj dh id) := hown _ _ r3 rfl
          have U1 : g1.U (g.μ dh id) = 0 := by rw [eU]; exact r4
          -- the cells
          have hle : o + e.t.size ≤ arr.size := by
            have h1 := pathAt_le p t o e.t hp
            have h2 := RepO.length _ _ _ _ r6
            simp at h2
            omega
          have hst := storeCells_run (P := P) (w := w) (g.μ dh id) o tyo fr (a.eval y).cells.toList 0 arr w r5 (by rw [hlen]; simpa using hle) (fun j _ l2 => frozen_open r5 rf (by rw [hlen] at l2; omega)) hpl
          simp only [Nat.add_zero] at hst
          have hrun : (execOp a.eval ⟨dst, .store T x y, ty, pos, af, gd⟩).run P w = .ok .skip (w.setRow (g.μ dh id) (arr.toList.take o ++ (a.eval y).cells.toList ++ arr.toList.drop (o + (a.eval y).cells.toList.length)).toArray) := by
            have hsz : (a.eval y).cells.size = inf.size := by rw [hs, ← hlen]; simp
            simp only [execOp, Sem.run_bind, Instr.storeAt, hv, Instr.sureAddr, Sem.run_pure, Result.andThen_ok, storeVar, sizeOf, typeInfo, run_program, hi, hsz, ne_eq, not_true_eq_false, if_false, hst]
          generalize hnew : (arr.toList.take o ++ (a.eval y).cells.toList ++ arr.toList.drop (o + (a.eval y).cells.toList.length)).toArray = new at hrun
          have he2 : Ext g1 w g1 (w.setRow (g.μ dh id) new) d (fun κ => κ = .obj dh id) := Ext.setRow o1 U1 hb
          have he : Ext g w g1 (w.setRow (g.μ dh id) new) d (fun κ => (∃ t, y = .tmp t ∧ κ = .tmp d t) ∨ κ = .obj dh id) :=
            (hg1.mono (Nat.le_refl _) (fun κ e => .inl e)).trans (he2.mono (Nat.le_refl _) (fun κ e => .inr e))
          have hyo2 : RepO g1 (w.setRow (g.μ dh id) new) dh id (typed C T (st.val y)) e.t (0 + o) (a.eval y).cells.toList := by
            rw [Nat.zero_add]
            exact RepO.ext he2 h.le (by simp) _ _ _ _ (fun _ _ _ => by simp) hyo
          refine wp_skip' hrun (hn undef (w.setRow (g.μ dh id) new) g1 (by simp only [RepX]) ?_ ?_ ?_)
          · refine he.mono (Nat.le_refl _) ?_
            rintro κ (⟨t2, rfl, rfl⟩ | rfl)
            · refine .inl ⟨t2, rfl, .inr ?_⟩
              cases x <;> simp [Op.operands, takenBy]
            · exact .inr (.inl rfl)
          · refine HRep.set h.heap he h.le (by simp) (by rw [eN]) hid ?_ o1 U1 ?_
            · rintro κ hκ (⟨t2, rfl, rfl⟩ | rfl)
              · exact absurd hκ (by simp [Key.heap])
              · exact .inl rfl
            · obtain ⟨pre, mid, post, f1, f2, f3, f4⟩ := RepO.set he h.le (by simp) p c t 0 o _ e.t _ c' _ r2 r6 hp hc' (fun o' _ _ k => by rcases k with ⟨_, _, k⟩ | k <;> cases k) hyo2
              have hall : arr.toList = pre ++ mid ++ (post ++ arr.toList.drop t.size) := by
                rw [← List.append_assoc, ← f1, List.take_append_drop]
              have hnl : new.toList = pre ++ (a.eval y).cells.toList ++ (post ++ arr.toList.drop t.size) := by
                rw [← hnew]
                simp only []
                rw [hlen, ← f3, ← f2]
                generalize arr.toList.drop t.size = rest at hall
                rw [hall]
                congr 1
                · congr 1
                  rw [List.append_assoc]
                  exact List.take_left
                · rw [show pre.length + mid.length = (pre ++ mid).length by simp]
                  exact List.drop_left
              have hsz : new.size = arr.size := by
                rw [← Array.length_toList, hnl, ← Array.length_toList (xs := arr)]
                conv => rhs; rw [hall]
                simp only [List.length_append, hlen, f3]
              refine .inl ⟨new, tyo, fr, by rw [show g1.μ dh id = g.μ dh id by rw [eμ]]; exact setRow_heap w _ arr new tyo _ r5, by rw [hsz]; exact rf, ?_⟩
              have : new.toList.take t.size = pre ++ (a.eval y).cells.toList ++ post := by
                have h2 := RepO.length _ _ _ _ r6
                rw [f1] at h2
                rw [hnl, ← List.append_assoc]
                exact List.take_left' (by simp only [List.length_append, hlen] at h2 ⊢; omega)
              rw [this]
              exact f4
          · refine ⟨fun b hb' => ?_, Tabs.ext he2 hw1.2⟩
            exact hw1.1 b (by simpa using hb')
        · cases hk'
      · cases hk'
    · cases hk'
  · cases hk'

end
end Go.Proofs.YtaefpopjlmhmoaaDoor.V

/- What the evaluator tells is so: variables made; literals; appends; lengths. -/
namespace Go.Proofs.YtaefpopjlmhmoaaDoor.V
open Go
set_option linter.unusedVariables false
set_option linter.unusedSimpArgs false

section
variable {P : Program} {C : Ctx} {dst : Option Nat} {ty : Nat} {pos : String} {af : Array Edge} {gd : Option (Nat × Bool)}

mutual
theorem zeroX_rep {g w} {dh id : Nat} : ∀ (t : Ty) (x : t.den) (off : Nat), zB t x = true → good t = true → RepO g w dh id (zeroX t x) t off (zcells t x)
  | .struct c, x, off, h, hg => by
    simp only [zeroX, RepO, zcells]
    simp only [good, Bool.and_eq_true] at hg
    exact zeroXs_rep c x off h hg.1 hg.2
  | .slice e, x, off, h, _ => by
    simp only [zeroX, RepO, zcells]
    refine ⟨trivial, _, rfl, ?_⟩
    simp only [RepX]
    exact ⟨none, 0, rfl, Nat.le_refl _, Run.nil, (fun b hb => by simpa using hb), (fun _ => .inl rfl)⟩
  | .int _, x, off, h, _ => by simp only [zeroX, RepO]; exact ⟨trivial, zcells_rep _ x h⟩
  | .bool, x, off, h, _ => by simp only [zeroX, RepO]; exact ⟨trivial, zcells_rep _ x h⟩
  | .str, x, off, h, _ => by simp only [zeroX, RepO]; exact ⟨trivial, zcells_rep _ x h⟩
  | .any, x, off, h, _ => by simp only [zeroX, RepO]; exact ⟨trivial, zcells_rep _ x h⟩
  | .err, x, off, h, _ => by simp only [zeroX, RepO]; exact ⟨trivial, zcells_rep _ x h⟩
  | .arr _ _, x, off, h, _ => by simp only [zeroX, RepO]; exact ⟨trivial, zcells_rep _ x h⟩
  | .unit, x, off, h, _ => by simp only [zeroX, RepO]; exact ⟨trivial, zcells_rep _ x h⟩
  | .prod _ _, x, off, h, _ => by simp only [zeroX, RepO]; exact ⟨trivial, zcells_rep _ x h⟩
theorem zeroXs_rep {g w} {dh id : Nat} : ∀ (c : Ty) (x : c.den) (off : Nat), zB c x = true → chain c = true → good c = true → RepOs g w dh id (zeroX.zeroXs c x) c off (zcells c x)
  | .unit, x, off, h, _, _ => by simp only [zeroX.zeroXs, RepOs]; exact ⟨trivial, rfl⟩
  | .prod a b, x, off, h, hc, hg => by
    simp only [zB, Bool.and_eq_true] at h
    simp only [good, Bool.and_eq_true] at hg
    simp only [zeroX.zeroXs, RepOs, zcells]
    exact ⟨_, _, rfl, zeroX_rep a x.1 off h.1 hg.1, zeroXs_rep b x.2 _ h.2 hc hg.2⟩
  | .int _, _, _, _, hc, _ | .bool, _, _, _, hc, _ | .str, _, _, _, hc, _ | .any, _, _, _, hc, _ | .err, _, _, _, hc, _ | .slice _, _, _, _, hc, _ | .arr _ _, _, _, _, hc, _ | .struct _, _, _, _, hc, _ => by cases hc
end

mutual
theorem tyB_good {P : Program} : ∀ (t : Ty) (i : Nat), tyB P t i = true → good t = true
  | .int _, _, _ => rfl
  | .bool, _, _ => rfl
  | .str, _, _ => rfl
  | .any, _, _ => rfl
  | .err, _, _ => rfl
  | .slice e, i, h => by obtain ⟨ei, _, h, _⟩ := tyB_slice h; exact tyB_good e ei h
  | .arr n e, i, h => by obtain ⟨ei, _, h⟩ := tyB_arr h; exact tyB_good e ei h
  | .struct c, i, h => by
    obtain ⟨fs, _, h⟩ := tyB_struct h
    simp only [good, Bool.and_eq_true]
    exact ⟨chB_chain c _ _ h, chB_good c _ _ h⟩
  | .unit, _, h => by simp [tyB] at h
  | .prod _ _, _, h => by simp [tyB] at h
theorem chB_good {P : Program} : ∀ (c : Ty) (fs : List Field) (off : Nat), chB P c fs off = true → good c = true
  | .unit, _, _, _ => rfl
  | .prod a b, [], _, h => by simp [chB] at h
  | .prod a b, f :: fs, off, h => by
    simp only [chB, Bool.and_eq_true] at h
    simp only [good, Bool.and_eq_true]
    exact ⟨tyB_good a _ h.1.2, chB_good b fs _ h.2⟩
  | .int _, _, _, h | .bool, _, _, h | .str, _, _, h | .any, _, _, h | .err, _, _, h | .slice _, _, _, h | .arr _ _, _, _, h | .struct _, _, _, h => by simp [chB] at h
end

/-- A new variable that has an address. -/
def Ghost.var (g : Ghost) (b dh : Nat) (t : Ty) : Ghost :=
  { U := g.U
    own := fun x => if x = b then some (.obj dh (g.N dh)) else g.own x
    N := fun h => if h = dh then g.N dh + 1 else g.N h
    μ := fun h id => if h = dh ∧ id = g.N dh then b else g.μ h id
    oty := fun h id => if h = dh ∧ id = g.N dh then t else g.oty h id }

theorem Ext.var {g w} {d dh : Nat} {K : Key → Prop} (hw : WF g w) (o : Obj) (t : Ty) (hK : K (.obj dh (g.N dh))) : Ext g w (g.var w.heap.size dh t) { w with heap := w.heap.push o } d K where
  os := rfl
  tape := rfl
  output := rfl
  size := by simp
  keep b hb _ := ⟨by simp [Array.getElem?_push, Nat.ne_of_lt hb], by simp [Ghost.var, Nat.ne_of_lt hb], rfl⟩
  cells b off ho := ⟨cell_push (hw.lt ho), ho⟩
  mu h _ id hid := by
    by_cases hh : h = dh
    · subst hh
      have : id ≠ g.N h := by omega
      simp [Ghost.var, this]; omega
    · simp [Ghost.var, hh, hid]
  num h hn := by
    by_cases hh : h = dh
    · subst hh
      exact absurd hK (hn _ rfl)
    · simp [Ghost.var, hh]

theorem HRep.push {g w} {dh : Nat} {H : Hp} {t : Ty} {c : X} {o : Obj} (h : HRep g w dh H) (hw : WF g w) (hg : good t = true)
    (hc : HAt (g.var w.heap.size dh t) { w with heap := w.heap.push o } dh (g.N dh) t c) :
    HRep (g.var w.heap.size dh t) { w with heap := w.heap.push o } dh (H ++ [(t, c)]) := by
  have he : Ext g w (g.var w.heap.size dh t) { w with heap := w.heap.push o } dh (fun κ => κ = .obj dh (g.N dh)) := Ext.var hw _ t rfl
  refine ⟨by simp [h.1, Ghost.var], fun i ti ci e => ?_⟩
  by_cases hi : i < H.length
  · rw [List.getElem?_append_left hi] at e
    obtain ⟨r1, r2, r3⟩ := h.2 i ti ci e
    have hidN : i < g.N dh := by rw [← h.1]; exact hi
    obtain ⟨k1, k2, k3⟩ := he.mu dh (Nat.le_refl _) i hidN
    exact ⟨k3.trans r1, r2, r3.to he (Nat.le_refl _) (by simp) (fun _ => by simp) (by simp; omega) k2⟩
  · have hi2 : i = H.length := by
      have := (List.getElem?_eq_some_iff.1 e).1
      simp at this; omega
    subst hi2
    simp only [List.getElem?_concat_length, Option.some.injEq, Prod.mk.injEq] at e
    obtain ⟨rfl, rfl⟩ := e
    have hN : H.length = g.N dh := h.1
    rw [hN]
    refine ⟨by simp [Ghost.var], hg, .inr ⟨by simp [Ghost.var], ?_, hc⟩⟩
    simp only [Ghost.var]
    simp
    exact (hw.1 _ (Nat.le_refl _)).2

theorem HRep.var {g w} {d dh : Nat} {H : Hp} {t : Ty} {c : X} {arr : Array Value} {T : Nat} (h : HRep g w dh H) (hw : WF g w) (hg : good t = true)
    (hc : RepO (g.var w.heap.size dh t) { w with heap := w.heap.push (.cells arr T) } dh (g.N dh) c t 0 arr.toList) :
    HRep (g.var w.heap.size dh t) { w with heap := w.heap.push (.cells arr T) } dh (H ++ [(t, c)]) :=
  h.push hw hg (.inl ⟨arr, T, (0, 0), by simp [Ghost.var], .inl rfl, by
    rw [List.take_of_length_le (Nat.le_of_eq (RepO.length _ _ _ _ hc))]
    exact hc⟩)

theorem WF.var {g w} (hw : WF g w) (o : Obj) (dh : Nat) (t : Ty) : WF (g.var w.heap.size dh t) { w with heap := w.heap.push o } := by
  refine ⟨?_, Tabs.ext (Ext.var (d := 0) (dh := dh) (K := fun _ => True) hw o t trivial) hw.2⟩
  intro b hb
  simp only [Array.size_push] at hb
  have hne : b ≠ w.heap.size := by omega
  obtain ⟨h1, h2⟩ := hw.1 b (by omega)
  simp [Ghost.var, hne, h1, h2]

theorem info_zero {e : TyE} {i : Nat} (h : e.ok P i) : ∃ inf, P.info? i = some inf ∧ inf.zero = some (zval e.t e.z) ∧ inf.size = e.t.size ∧ inf.bytes = e.bytes := by
  obtain ⟨h1, h2, _, _⟩ := h
  obtain ⟨inf, z, hi, hs, hz, _⟩ := tyB_info h1
  rw [hi] at h2
  simp only [Option.map_some, Option.some.injEq, Prod.mk.injEq] at h2
  exact ⟨inf, hi, h2.1, hs, h2.2⟩

theorem zval_cells {t : Ty} {x : t.den} (h : zB t x = true) : (zval t x).cells.toList = zcells t x := by
  have hr := zcells_rep (w := default) (g := ⟨fun _ => 0, fun _ => none, fun _ => 0, fun _ _ => 0, fun _ _ => .unit⟩) t x h
  have : IsVal t (zcells t x) (zval t x) := isVal_valOf hr
  exact this.cells' hr

theorem core_alloc (hC : TysOk P C.tys) (T : Nat) : CoreOk P C ⟨dst, .alloc T, ty, pos, af, gd⟩ := by
  intro R tr g w d dh st a h k r hk
  have hk' : (match C.ty T with
    | some e => k (.ptr st.H.length []) [] (st.H ++ [(e.t, zeroX e.t e.z)])
    | none => none) = some r := hk
  split at hk'
  · rename_i e he
    have hok := Ctx.ty_ok hC he
    obtain ⟨inf, hi, hz, hs, _⟩ := info_zero hok
    have hzB := hok.2.2.1
    have hg := tyB_good _ _ hok.1
    refine ⟨_, _, _, hk', fun next Q hn => ?_⟩
    have hrun : (execOp a.eval ⟨dst, .alloc T, ty, pos, af, gd⟩).run P w = .ok (.value (.pointer (some ⟨w.heap.size, 0, none⟩))) { w with heap := w.heap.push (.cells (zval e.t e.z).cells T) } := by
      simp only [execOp, Sem.run_bind, Instr.alloc, zeroValue, typeInfo, run_program, Result.andThen_ok, hi, Sem.run_pure, hz, newVar, newRow, run_newObj]
    have hN : st.H.length = g.N dh := h.heap.1
    refine wp_value hrun (hn _ _ (g.var w.heap.size dh e.t) ?_ (Ext.var h.wf _ _ (.inr (.inl rfl))) (HRep.var (d := d) h.heap h.wf hg ?_) (h.wf.var _ _ _))
    · simp only [RepX]
      rw [hN]
      exact ⟨by simp [Ghost.var], 0, e.t, by simp [Ghost.var, pathAt], by simp [Ghost.var]⟩
    · rw [zval_cells hzB]
      exact zeroX_rep _ _ _ hzB hg
  · cases hk'

theorem core_box (hC : TysOk P C.tys) (T : Nat) (x : Operand) : CoreOk P C ⟨dst, .box T x, ty, pos, af, gd⟩ := by
  intro R tr g w d dh st a h k r hk
  have hk' : (match C.ty T with
    | some e => if fitO (typed C T (st.val x)) e.t then k (.ptr st.H.length []) [true] (st.H ++ [(e.t, typed C T (st.val x))]) else none
    | none => none) = some r := hk
  split at hk'
  · rename_i e he
    split at hk'
    · rename_i hfit
      have hok := Ctx.ty_ok hC he
      have hg := tyB_good _ _ hok.1
      refine ⟨_, _, _, hk', fun next Q hn => ?_⟩
      have hrun : (execOp a.eval ⟨dst, .box T x, ty, pos, af, gd⟩).run P w = .ok (.value (.pointer (some ⟨w.heap.size, 0, none⟩))) { w with heap := w.heap.push (.cells (a.eval x).cells T) } := by
        simp only [execOp, Sem.run_bind, Instr.box, newVar, newRow, run_newObj, Sem.run_pure, Result.andThen_ok]
      obtain ⟨g1, hg1, hy, hH1, hw1, eU, eN, eμ, eo, hown, hnone⟩ := h.moveTo (C := C) x T (.cell dh (g.N dh) 0)
      have hN : st.H.length = g1.N dh := hH1.1
      have he2 : Ext g1 w (g1.var w.heap.size dh e.t) { w with heap := w.heap.push (.cells (a.eval x).cells T) } d (fun κ => κ = .obj dh (g1.N dh)) := Ext.var hw1 _ _ rfl
      refine wp_value hrun (hn _ _ (g1.var w.heap.size dh e.t) ?_ ?_ (HRep.var (d := d) hH1 hw1 hg ?_) (hw1.var _ _ _))
      · simp only [RepX]
        rw [hN]
        exact ⟨by simp [Ghost.var], 0, e.t, by simp [Ghost.var, pathAt], by simp [Ghost.var]⟩
      · refine (hg1.mono (Nat.le_refl _) ?_).trans (he2.mono (Nat.le_refl _) (fun κ e => e ▸ .inr (.inl rfl)))
        rintro κ ⟨t, rfl, rfl⟩
        exact .inl ⟨t, rfl, .inr (by simp [Op.operands, takenBy])⟩
      · rw [eN]
        exact RepO.ext he2 h.le (by simp) _ _ _ _ (fun _ _ _ => by simp) (RepO.of_fit hfit hy)
    · cases hk'
  · cases hk'

/-- A walk over a string begins. -/
theorem core_range (hC : TysOk P C.tys) (T : Nat) (x : Operand) : CoreOk P C ⟨dst, .range T x, ty, pos, af, gd⟩ := by
  intro R tr g w d dh st a h k r hk
  have hk' : (match C.ty T, st.val x with
    | some ⟨.str, _, _, _⟩, .d .str s => k (.ptr st.H.length []) [] (st.H ++ [(.unit, iterX s 0)])
    | _, _ => none) = some r := hk
  have hx := h.val x
  split at hk'
  · rename_i _ _ _ s he ev
    rw [ev, RepX.str_iff] at hx
    have hu := tyB_str (Ctx.ty_ok hC he).1
    refine ⟨_, _, _, hk', fun next Q hn => ?_⟩
    have hrun : (execOp a.eval ⟨dst, .range T x, ty, pos, af, gd⟩).run P w = .ok (.value (.pointer (some ⟨w.heap.size, 0, none⟩))) { w with heap := w.heap.push (.stringIter s 0) } := by
      simp only [execOp, Sem.run_bind, hx, Instr.range, run_underlying hu, Result.andThen_ok, Sem.run_pure, run_newObj]
    have hid : g.N dh < (g.var w.heap.size dh .unit).N dh := by simp [Ghost.var]
    refine wp_value hrun (hn _ _ (g.var w.heap.size dh .unit) ?_ (Ext.var h.wf _ _ (.inr (.inl rfl))) (HRep.push h.heap h.wf rfl ?_) (h.wf.var _ _ _))
    · simp only [RepX]
      rw [h.heap.1]
      exact ⟨hid, 0, .unit, by simp [pathAt, Ghost.var], by simp [Ghost.var]⟩
    · exact .inr ⟨rfl, _, by simp [Ghost.var], s, 0, rfl, rfl⟩
  · cases hk'

theorem Ext.setObj {g w} {d : Nat} {b : Nat} {o : Obj} {κ : Key} (ho : g.own b = some κ) (hU : g.U b = 0) (hb : b < w.heap.size) : Ext g w g { w with heap := w.heap.setIfInBounds b o } d (fun x => x = κ) where
  os := rfl
  tape := rfl
  output := rfl
  size := by simp
  keep i hi hk := by
    have hne : i ≠ b := by
      rintro rfl
      exact hk κ ho rfl
    exact ⟨by simp [Array.getElem?_setIfInBounds, Ne.symm hne], rfl, rfl⟩
  cells i off ho' := by
    have hne : i ≠ b := by
      rintro rfl
      omega
    exact ⟨World.cell?_of_block (a := ⟨i, off, none⟩) (by simp [Array.getElem?_setIfInBounds, Ne.symm hne]), ho'⟩
  mu _ _ _ h := ⟨h, rfl, rfl⟩
  num _ _ := rfl

/-- A walk over a string goes on. -/
theorem core_next (x : Operand) (str : Bool) : CoreOk P C ⟨dst, .next x str, ty, pos, af, gd⟩ := by
  intro R tr g w d dh st a h k r hk
  have hk' : (if str = true then match st.val x with
    | .ptr id [] => match st.H[id]? with
      | some (.unit, .tup [.d .str s, .d (.int .i64) p]) => bif decide (p < (s.size : Int)) then k (.tup [.d .bool true, .d (.int .i64) p, .d (.int .i32) (runeAt s p)]) [] (st.H.set id (.unit, iterX s (p + widthAt s p)))
          else k (.tup [.d .bool false]) [] st.H
      | _ => none
    | _ => none
    else none) = some r := hk
  have hx := h.val x
  split at hk'
  · rename_i hstr
    subst hstr
    split at hk'
    · rename_i id ev
      rw [ev] at hx
      simp only [RepX] at hx
      obtain ⟨hN, o, t1, hp, hv⟩ := hx
      split at hk'
      · rename_i s p hid
        obtain ⟨r1, r2, hlive⟩ := h.heap.2 id _ _ hid
        obtain ⟨r3, r4, r5⟩ := hlive.unit
        rw [r1] at hp
        simp only [pathAt, Option.some.injEq, Prod.mk.injEq] at hp
        obtain ⟨rfl, rfl⟩ := hp
        have hit : ∃ n : Nat, p = n ∧ w.heap[g.μ dh id]? = some (.stringIter s n) := by
          rcases r5 with ⟨arr, tyo, fr, r5, rf, r6⟩ | ⟨_, ob, r5, s', n, e1, rfl⟩
          · simp [RepO] at r6
          · simp only [iterX, X.tup.injEq, List.cons.injEq, X.d.injEq, heq_eq_eq, true_and, and_true] at e1
            obtain ⟨rfl, rfl⟩ := e1
            exact ⟨n, rfl, r5⟩
        obtain ⟨n, rfl, hob⟩ := hit
        have hb : g.μ dh id < w.heap.size := (Array.getElem?_eq_some_iff.1 hob).1
        cases hlt : decide ((n : Int) < (s.size : Int)) with
        | true =>
          rw [hlt] at hk'
          have hlt' : n < s.size := by simpa using hlt
          refine ⟨_, _, _, hk', fun next Q hn => ?_⟩
          have hrun : (execOp a.eval ⟨dst, .next x true, ty, pos, af, gd⟩).run P w = .ok (.value (.tuple #[.bool true, .int .i64 n, .int .i32 (runeAt s n)])) { w with heap := w.heap.setIfInBounds (g.μ dh id) (.stringIter s (n + (Utf8.decode s n).2)) } := by
            have e1 : (getObj (g.μ dh id)).run P w = .ok (.stringIter s n) w := by simp [getObj, Sem.run, hob]
            have e2 : ∀ o, o = .stringIter s (n + (Utf8.decode s n).2) → (setObj (g.μ dh id) o).run P w = .ok () { w with heap := w.heap.setIfInBounds (g.μ dh id) o } := by
              rintro o rfl
              simp [setObj, Sem.run, hob]
            simp [execOp, hv, Instr.next, e1, e2, hlt', goInt, runeAt]
          have he : Ext g w g { w with heap := w.heap.setIfInBounds (g.μ dh id) (.stringIter s (n + (Utf8.decode s n).2)) } d (fun x => x = .obj dh id) := Ext.setObj r3 r4 hb
          refine wp_value hrun (hn _ _ g ?_ (he.mono (Nat.le_refl _) ?_) (HRep.set h.heap he h.le (by simp) rfl hid ?_ r3 r4 ?_) ⟨fun b hb' => ?_, Tabs.ext he h.wf.2⟩)
          · simp only [RepX]
            refine ⟨[.bool true, .int .i64 n, .int .i32 (runeAt s n)], rfl, ?_⟩
            simp only [RepXs]
            exact ⟨_, _, rfl, RepX.bool_iff.2 rfl, _, _, rfl, RepX.int_iff.2 rfl, _, _, rfl, RepX.int_iff.2 rfl, rfl⟩
          · rintro κ rfl
            exact .inr (.inl rfl)
          · rintro κ _ rfl
            exact .inl rfl
          · refine .inr ⟨rfl, _, ?_, s, n + (Utf8.decode s n).2, ?_, rfl⟩
            · simp [hb]
            · simp [widthAt]
          · exact h.wf.1 b (by simpa using hb')
        | false =>
          rw [hlt] at hk'
          have hlt' : ¬ n < s.size := by simpa using hlt
          refine ⟨_, _, _, hk', OpWp.same h (val := .tuple #[.bool false]) ?_ ?_⟩
          · simp [execOp, hv, Instr.next, getObj, Sem.run, hob, Result.andThen, hlt']
          · simp only [RepX]
            refine ⟨[.bool false], rfl, ?_⟩
            simp only [RepXs]
            exact ⟨_, _, rfl, RepX.bool_iff.2 rfl, rfl⟩
      · cases hk'
    · cases hk'
  · cases hk'

end
end Go.Proofs.YtaefpopjlmhmoaaDoor.V

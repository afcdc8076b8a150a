/-
  What the evaluator tells is so: conversions, loads, stores, variables made, walks over strings.
  It speaks of whatever program; no condition.
-/
import Derived.Test.YtnbfiifkaddehaaWc
import Derived.DeepKeys3

/- What the evaluator tells is so: conversions, functions made, lengths, loads of what is settled. -/
namespace Go.Proofs.Ytnbfiifkaddehaa.V
open Go
set_option linter.unusedVariables false
set_option linter.unusedSimpArgs false

section
variable {P : Program} {C : Ctx} {dst : Option Nat} {ty : Nat} {pos : String} {af : Array Edge} {gd : Option (Nat × Bool)}

/-- The cells of a run, one behind the other. -/
theorem Run.cells {w : World} {g : Ghost} {α : Type} {R : α → List Value → Prop} {size : Nat} : ∀ {xs : List α} {a : Option Addr}, Run w g R size xs a → 0 < size →
    ∃ cs, Parts R xs cs ∧ cs.length = xs.length * size ∧ ∀ A, a = some A → ∀ j (hj : j < cs.length), w.cell? ⟨A.block, A.off + j, none⟩ = some cs[j] ∧ A.off + j < g.U A.block
  | [], a, h, _ => ⟨[], rfl, by simp, fun A _ j hj => absurd hj (by simp)⟩
  | x :: xs, a, h, hs => by
    obtain ⟨A, c1, rfl, h2, h3, h4, h5⟩ := h 0 (by simp)
    have htail : Run w g R size xs (some (A.add (1 * size))) := by
      have := Run.drop h 1
      simpa using this
    obtain ⟨c2, k1, k2, k3⟩ := Run.cells htail hs
    refine ⟨c1 ++ c2, ⟨c1, c2, rfl, by simpa using h4, k1⟩, by simp [h3, k2, Nat.add_mul, Nat.add_comm], ?_⟩
    rintro B hB j hj
    cases hB
    by_cases hj1 : j < c1.length
    · obtain ⟨e1, e2⟩ := h5 j hj1
      simp only [Nat.zero_mul, Nat.zero_add] at e1 e2
      rw [List.getElem_append_left hj1]
      exact ⟨e1, e2⟩
    · have hj2 : j - c1.length < c2.length := by simp at hj; omega
      obtain ⟨e1, e2⟩ := k3 _ rfl (j - c1.length) hj2
      rw [Addr.add_plain A _ h2] at e1 e2
      simp only [Nat.one_mul] at e1 e2
      rw [List.getElem_append_right (by omega)]
      rw [show A.off + size + (j - c1.length) = A.off + j by omega] at e1 e2
      exact ⟨e1, e2⟩

theorem Parts.ints {k : IntKind} {w : World} {g : Ghost} : ∀ (xs : List Int) (cs : List Value), Parts (RepC w g (.int k)) xs cs → cs = xs.map (Value.int k)
  | [], cs, h => h
  | x :: xs, cs, h => by
    obtain ⟨c1, c2, rfl, h1, h2⟩ := h
    have h1' : c1 = [.int k x] := h1
    rw [h1', Parts.ints xs c2 h2]
    rfl

theorem Run.spot {w : World} {g : Ghost} {α : Type} {R : α → List Value → Prop} {size : Nat} {xs : List α} {A : Addr} (h : Run w g R size xs (some A)) (hne : xs ≠ []) : A.spot = none := by
  have : 0 < xs.length := List.length_pos_iff.2 hne
  obtain ⟨B, _, e, h2, _⟩ := h 0 this
  cases e
  exact h2

theorem run_bytesToString_sl {g w} {dh : Nat} {κ : Key} {xs : List Int} {nl own v} (h : RepX g w dh κ (.sl (.int .u8) xs nl own) v) {src e : Nat} (hs : P.underlying src = some (.slice e)) (he : P.underlying e = some (.int .u8)) {dst : Nat} (hd : P.underlying dst = some .string) :
    (convert src dst v).run P w = .ok (.string (strOf xs)) w := by
  simp only [RepX] at h
  obtain ⟨a, c, rfl, h2, h3, _⟩ := h
  cases a with
  | none =>
    have hx : xs = [] := by
      cases xs with
      | nil => rfl
      | cons x xs => obtain ⟨A, _, e, _⟩ := h3 0 (by simp); cases e
    subst hx
    rw [run_convert_bytes_nil w src e hs he _ _ dst hd]
    rfl
  | some A =>
    obtain ⟨cs, k1, k2, k3⟩ := Run.cells h3 (by decide)
    have hcs := Parts.ints xs cs k1
    by_cases hne : xs = []
    · subst hne
      have hl : (loadCells A 0).run P w = .ok #[] w := by simp [loadCells, loadCellsFrom]
      have := run_bytesToString (P := P) w A 0 c [] hl
      rw [run_convert_bytes_string w src dst e _ _ _ hs he hd]
      exact this
    · have hs0 := h3.spot hne
      obtain ⟨b, o, sp⟩ := A
      simp only at hs0
      subst hs0
      refine run_convert_bytes_arg w src e hs he b o xs.length c xs rfl (fun i hi => ?_) dst hd
      subst hcs
      obtain ⟨e1, _⟩ := k3 _ rfl i (by simpa using hi)
      rw [e1]
      simp [List.getD_eq_getElem?_getD, List.getElem?_eq_getElem hi]

theorem core_makeFunc (f : Nat) (first captured : Array Operand) : CoreOk P C ⟨dst, .makeFunc (.func f) first captured, ty, pos, af, gd⟩ := by
  intro R tr g w d dh st a h k r hk
  have ops : (⟨dst, .makeFunc (.func f) first captured, ty, pos, af, gd⟩ : Oper).op.operands.toList.map st.val = first.toList.map st.val ++ captured.toList.map st.val := by simp [Op.operands]
  rw [ops] at hk
  have hk' : k (.fn f (((first.toList.map st.val ++ captured.toList.map st.val).take first.size).map X.unown) (((first.toList.map st.val ++ captured.toList.map st.val).drop first.size).map X.unown)) [] st.H = some r := hk
  have e1 : (first.toList.map st.val ++ captured.toList.map st.val).take first.size = first.toList.map st.val := by
    rw [List.take_append_of_le_length (by simp)]; exact List.take_of_length_le (by simp)
  have e2 : (first.toList.map st.val ++ captured.toList.map st.val).drop first.size = captured.toList.map st.val := by
    rw [List.drop_append_of_le_length (by simp)]; simp [List.drop_of_length_le]
  rw [e1, e2] at hk'
  have reps : ∀ (l : List Operand), RepXs g w dh ((l.map st.val).map X.unown) (l.map a.eval) := by
    intro l
    induction l with
    | nil => simp [RepXs]
    | cons x l ih =>
      simp only [List.map_cons, RepXs]
      exact ⟨_, _, rfl, (h.val x).unown', ih⟩
  refine ⟨_, _, _, hk', OpWp.same h (val := .func (.func f) (first.map a.eval) (captured.map a.eval)) (by simp [execOp, Instr.makeFunc]) ?_⟩
  simp only [RepX]
  exact ⟨first.toList.map a.eval, captured.toList.map a.eval, by simp [← Array.toList_map], reps _, reps _⟩

/-- A draw. -/
theorem Ext.drawn {g w} {d : Nat} {K : Key → Prop} (n : Nat) : Ext g w g { w with drawn := n } d K :=
  ⟨rfl, rfl, rfl, Nat.le_refl _, fun _ _ _ => ⟨rfl, rfl, rfl⟩, fun _ _ h => ⟨rfl, h⟩, fun _ _ _ h => ⟨h, rfl, rfl⟩, fun _ _ => rfl⟩

/-- A new block, whose owner and whose settled part are told. -/
def Ghost.block (g : Ghost) (b : Nat) (κ : Key) (n : Nat) : Ghost :=
  { g with own := fun x => if x = b then some κ else g.own x, U := fun x => if x = b then n else g.U x }

theorem cell_push {w : World} {o : Obj} {b off : Nat} (h : b < w.heap.size) : ({ w with heap := w.heap.push o } : World).cell? ⟨b, off, none⟩ = w.cell? ⟨b, off, none⟩ := by
  simp [World.cell?, Array.getElem?_push, Nat.ne_of_lt h]

theorem WF.lt {g w} (h : WF g w) {b off : Nat} (hu : off < g.U b) : b < w.heap.size := by
  rcases Nat.lt_or_ge b w.heap.size with hb | hb
  · exact hb
  · have := (h.1 b hb).2; omega

theorem Ext.block {g w} {d : Nat} {K : Key → Prop} (hw : WF g w) (o : Obj) (κ : Key) (n : Nat) : Ext g w (g.block w.heap.size κ n) { w with heap := w.heap.push o } d K where
  os := rfl
  tape := rfl
  output := rfl
  size := by simp
  keep b hb _ := ⟨by simp [Array.getElem?_push, Nat.ne_of_lt hb], by simp [Ghost.block, Nat.ne_of_lt hb], by simp [Ghost.block, Nat.ne_of_lt hb]⟩
  cells b off ho := by
    have hb := hw.lt ho
    exact ⟨cell_push hb, by simp [Ghost.block, Nat.ne_of_lt hb]; exact ho⟩
  mu _ _ _ h := ⟨h, rfl, rfl⟩
  num _ _ := rfl

theorem WF.block {g w} (hw : WF g w) (o : Obj) (κ : Key) (n : Nat) : WF (g.block w.heap.size κ n) { w with heap := w.heap.push o } := by
  refine ⟨?_, Tabs.ext (Ext.block (d := 0) (K := fun _ => False) hw o κ n) hw.2⟩
  intro b hb
  simp only [Array.size_push] at hb
  have hne : b ≠ w.heap.size := by omega
  obtain ⟨h1, h2⟩ := hw.1 b (by omega)
  simp [Ghost.block, hne, h1, h2]

theorem WF.drawn {g w} (hw : WF g w) (n : Nat) : WF g { w with drawn := n } := ⟨hw.1, Tabs.ext (Ext.drawn (d := 0) (K := fun _ => False) n) hw.2⟩

/-- A slice in a new block. -/
theorem RepX.fresh {g w} {dh : Nat} {κ : Key} {e : Ty} {xs : List e.den} {cs : List Value} {arr : Array Value} {T c : Nat} {b : Bool} (hp : Parts (RepC w g e) xs cs) (hw : WF g w) (ha : arr.toList.take (xs.length * e.size) = cs) (hn : xs.length ≤ c) (hc : arr.size = c * e.size) (hpos : 0 < e.size) (nl : Option Bool) (hnl : ∀ b, nl = some b → b = false) (fr : Nat × Nat) (hfr : FrOk fr e arr.size) :
    RepX (g.block w.heap.size κ (xs.length * e.size)) { w with heap := w.heap.push (.cells arr T fr) } dh κ (.sl e xs nl b) (.slice (some ⟨w.heap.size, 0, none⟩) xs.length c) := by
  have he : Ext g w (g.block w.heap.size κ (xs.length * e.size)) { w with heap := w.heap.push (.cells arr T fr) } 0 (fun _ => False) := Ext.block hw _ κ _
  simp only [RepX]
  refine ⟨_, c, rfl, hn, ?_, fun b hb => by rw [hnl b hb]; rfl, fun _ => .inr ⟨w.heap.size, arr, T, fr, rfl, by simp, hc, hfr, by simp [Ghost.block], by simp [Ghost.block]⟩⟩
  · intro i hi
    have hl := Parts.length (RepC.length (w := w) (g := g) e) xs cs hp
    obtain ⟨pre, mid, post, rfl, f2, f3, _⟩ := Parts.at (RepC.length (w := w) (g := g) e) xs cs i hi hp
    refine ⟨_, mid, rfl, rfl, RepC.length e _ _ f3, RepC.ext he e _ _ f3, fun j hj => ?_⟩
    have hj2 : i * e.size + j < (pre ++ mid ++ post).length := by simp; omega
    have hj3 : i * e.size + j < xs.length * e.size := by rw [hl] at hj2; exact hj2
    have hle : xs.length * e.size ≤ c * e.size := Nat.mul_le_mul_right _ hn
    refine ⟨?_, by simp [Ghost.block]; exact hj3⟩
    have hg : arr[i * e.size + j]? = some mid[j] := by
      have h1 : (arr.toList.take (xs.length * e.size))[i * e.size + j]? = mid[j]? := by rw [ha, ← f2]; exact getElem?_mid pre mid post j hj
      rw [List.getElem?_take, if_pos hj3, List.getElem?_eq_getElem hj] at h1
      simpa using h1
    simp only [World.cell?, Nat.zero_add]
    simp [hg]

/-- An empty slice with room. -/
theorem core_makeSlice (hC : TysOk P C.tys) (T : Nat) (x y : Operand) : CoreOk P C ⟨dst, .makeSlice T x y, ty, pos, af, gd⟩ := by
  intro R tr g w d dh st a h k r hk
  have hk' : (match C.ty T, st.val x, st.val y with
    | some ⟨.slice e, _, _, eb⟩, .d (.int _) l, .d (.int _) c => if l = 0 then bif decide (0 ≤ c ∧ c * eb ≤ 140737488355328 ∧ c ≤ 9223372036854775807) then k (.sl e [] (some false) true) [] st.H else none else none
    | _, _, _ => none) = some r := hk
  have hx := h.val x
  have hy := h.val y
  split at hk'
  · rename_i e z0 b0 eb kl l_ kc c_ he e1 e2
    obtain ⟨l, rfl⟩ : ∃ u : Int, u = l_ := ⟨l_, rfl⟩
    obtain ⟨c, rfl⟩ : ∃ u : Int, u = c_ := ⟨c_, rfl⟩
    rw [e1, RepX.int_iff] at hx
    rw [e2, RepX.int_iff] at hy
    · split at hk'
      · rename_i hl
        obtain rfl : l = 0 := hl
        cases hb : decide (0 ≤ c ∧ c * (eb : Int) ≤ 140737488355328 ∧ c ≤ 9223372036854775807) <;> rw [hb] at hk'
        · cases hk'
        · have hb' : 0 ≤ c ∧ c * (eb : Int) ≤ 140737488355328 ∧ c ≤ 9223372036854775807 := by simpa using hb
          have hok := Ctx.ty_ok hC he
          obtain ⟨et, hu, ht, hpos⟩ := tyB_slice hok.1
          obtain ⟨inf, z, hinf, hsz, hz, hzs⟩ := tyB_info ht
          have hbytes : inf.bytes = eb := by
            have := hok.2.2.2
            rw [hu] at this
            simpa [hinf] using this
          refine ⟨_, _, _, hk', fun next Q hn => ?_⟩
          have hmul : (inf.bytes : Int) * c ≤ 281474976710656 := by
            rw [hbytes, Int.mul_comm]
            have h1 := hb'.2.1
            omega
          have hrun := run_make (P := P) w T et inf z hu hinf hz kl kc 0 c (Int.le_refl _) hb'.1 hmul hb'.2.2
          have hexec : (execOp a.eval ⟨dst, .makeSlice T x y, ty, pos, af, gd⟩).run P w = .ok (.value (.slice (some ⟨w.heap.size, 0, none⟩) 0 c.toNat)) (w.alloc (.cells (madeCells z.cells (c.toNat * inf.size)) et)) := by
            simp only [execOp, hx, hy, Sem.run_bind, hrun, Result.andThen_ok, Sem.run_pure]
            rfl
          have hf := RepX.fresh (κ := kd ⟨dst, .makeSlice T x y, ty, pos, af, gd⟩ d) (dh := dh) (b := true) (T := et) (g := g) (w := w) (e := e) (xs := []) (arr := madeCells z.cells (c.toNat * inf.size)) (c := c.toNat) (cs := []) rfl h.wf (by simp) (by simp) (by rw [size_madeCells, hsz]) hpos (some false) (fun b hb => by cases hb; rfl) (0, 0) (.inl rfl)
          simp only [List.length_nil, Nat.zero_mul] at hf
          exact wp_value hexec (hn _ _ (g.block w.heap.size (kd ⟨dst, .makeSlice T x y, ty, pos, af, gd⟩ d) 0) hf (Ext.block h.wf _ _ _)
            (HRep.ext (Ext.block (K := fun _ => False) h.wf _ _ _) h.le (fun e => e) (fun _ _ e => e) rfl h.heap) (WF.block h.wf _ _ _))
      · cases hk'
  · cases hk'

theorem bytes_cells {w : World} {g : Ghost} (s : ByteArray) : Parts (RepC w g (.int .u8)) (bytesOf s) (s.data.toList.map fun b => Value.int .u8 b.toNat) := by
  unfold bytesOf
  generalize s.data.toList = l
  induction l with
  | nil => rfl
  | cons b l ih => exact ⟨[_], _, rfl, rfl, ih⟩

theorem World.freeze_push {w : World} {arr : Array Value} {T : Nat} {n : Nat} :
    (({ w with heap := w.heap.push (.cells arr T (0, 0)) } : World).freeze ⟨w.heap.size, n, none⟩ 1) = { w with heap := w.heap.push (.cells arr T (n, n + 1)) } := by
  simp only [World.freeze, Nat.one_ne_zero, if_false]
  congr 1
  apply Array.ext_getElem?
  intro i
  rw [Array.getElem?_modify]
  by_cases hi : w.heap.size = i
  · subst hi
    simp
  · rw [if_neg hi]
    simp [Array.getElem?_push, hi, Ne.symm hi]

/-- An operand is handed on, with its room, to a new owner. -/
theorem Fr.moveTo {g w} {d dh : Nat} {st : St} {a : Act} (h : Fr g w d dh st a) (x : Operand) (i : Nat) (κ' : Key) :
    ∃ g1, Ext g w g1 w d (fun κ => ∃ t, x = .tmp t ∧ κ = .tmp d t) ∧ RepX g1 w dh κ' (typed C i (st.val x)) (a.eval x) ∧ HRep g1 w dh st.H ∧ WF g1 w ∧ g1.U = g.U ∧ g1.N = g.N ∧ g1.μ = g.μ ∧ g1.oty = g.oty ∧
      (∀ b κ, g.own b = some κ → κ.heap dh → g1.own b = some κ) ∧ (∀ b, g.own b = none → g1.own b = none) := by
  have hx := typed_rep (C := C) (i := i) (h.val x)
  cases x with
  | tmp t =>
    refine ⟨g.rekey (.tmp d t) κ', Ghost.rekey_ext.mono (Nat.le_refl _) (fun κ e => ⟨t, rfl, e⟩), RepX.rekey h.le (by simp) _ _ hx, Ghost.rekey_heap h.le (by simp) (by simp [Key.heap]) h.heap, h.wf.rekey, rfl, rfl, rfl, rfl, ?_, ?_⟩
    · intro b κ e hh
      simp only [Ghost.rekey, e]
      rw [if_neg]
      intro e'
      cases e'
      exact hh
    · intro b e
      simp [Ghost.rekey, e]
  | const v => exact ⟨g, Ext.refl _ _ _ _, typed_rep (constX_rep g w dh _ v), h.heap, h.wf, rfl, rfl, rfl, rfl, fun _ _ e _ => e, fun _ e => e⟩
  | global n => exact ⟨g, Ext.refl _ _ _ _, typed_rep (glob_rep h.wf dh _ n), h.heap, h.wf, rfl, rfl, rfl, rfl, fun _ _ e _ => e, fun _ e => e⟩
  | func f =>
    refine ⟨g, Ext.refl _ _ _ _, ?_, h.heap, h.wf, rfl, rfl, rfl, rfl, fun _ _ e _ => e, fun _ e => e⟩
    simp only [St.val, typed, RepX, Act.eval]
    exact ⟨[], [], rfl, by simp [RepXs], by simp [RepXs]⟩

theorem core_convert (hA : C.A = Ar.real) (hC : TysOk P C.tys) (s t : Nat) (x : Operand) : CoreOk P C ⟨dst, .convert s t x, ty, pos, af, gd⟩ := by
  intro R tr g w d dh st a h k r hk
  have hk' : (match C.ty s, C.ty t, st.val x with
    | some ⟨.int _, _, _, _⟩, some ⟨.int kt, _, _, _⟩, .d (.int _) n => k (.d (.int kt) (Ar.real.wrap kt n)) [] st.H
    | some ⟨.slice (.int .u8), _, _, _⟩, some ⟨.str, _, _, _⟩, .sl (.int .u8) xs _ _ => k (.d .str (strOf xs)) [] st.H
    | some ⟨.str, _, _, _⟩, some ⟨.slice (.int .u8), _, _, _⟩, .d .str s => k (.sl (.int .u8) (bytesOf s) (some false) true) [] st.H
    | some ⟨.str, _, _, _⟩, some ⟨.str, _, _, _⟩, .d .str s => k (.d .str s) [] st.H
    | some ⟨.slice (.int .u8), _, _, _⟩, some ⟨.slice (.int .u8), _, _, _⟩, .sl (.int .u8) (y :: ys) (some false) true => if s = t then k (.sl (.int .u8) (y :: ys) (some false) true) [true] st.H else none
    | _, _, _ => none) = some r := by rw [← hA]; exact hk
  have hx := h.val x
  have run : ∀ v w', (convert s t (a.eval x)).run P w = .ok v w' → (execOp a.eval ⟨dst, .convert s t x, ty, pos, af, gd⟩).run P w = .ok (.value v) w' := by
    intro v w' hr
    simp only [execOp, Sem.run_bind, hr, Result.andThen_ok, Sem.run_pure]
  split at hk'
  · rename_i ks _ _ _ kt _ _ _ kn n es et ev
    rw [ev, RepX.int_iff] at hx
    have hus := tyB_int (Ctx.ty_ok hC es).1
    have hut := tyB_int (Ctx.ty_ok hC et).1
    refine ⟨_, _, _, hk', OpWp.same h (val := .int kt (kt.wrap n)) (run _ _ ?_) (RepX.int_iff.2 rfl)⟩
    rw [hx]
    simp only [convert, Sem.run_bind, run_underlying hus, run_underlying hut, Result.andThen_ok, Conv.intToInt, Sem.run_pure]
  · rename_i _ _ _ _ _ _ xs nl own es et ev
    rw [ev] at hx
    obtain ⟨ei, hus, hue, _⟩ := tyB_slice (Ctx.ty_ok hC es).1
    have hut := tyB_str (Ctx.ty_ok hC et).1
    exact ⟨_, _, _, hk', OpWp.same h (val := .string (strOf xs)) (run _ _ (run_bytesToString_sl hx hus (tyB_int hue) hut)) (RepX.str_iff.2 rfl)⟩
  · rename_i _ _ _ _ _ _ s' es et ev
    rw [ev, RepX.str_iff] at hx
    have hus := tyB_str (Ctx.ty_ok hC es).1
    obtain ⟨ei, hut, hue, _⟩ := tyB_slice (Ctx.ty_ok hC et).1
    have hue' := tyB_int hue
    refine ⟨_, _, _, hk', fun next Q hn => ?_⟩
    let cap := (Question.appendCap s'.size 0 ei).cut (w.tape w.drawn (.appendCap s'.size 0 ei))
    have hcap : s'.size ≤ cap := Nat.le_add_right _ _
    let arr : Array Value := (s'.data.map fun b => Value.int .u8 b.toNat) ++ Array.replicate (cap - s'.size) (.int .u8 0)
    have harr : arr.size = cap := by
      have : s'.data.size = s'.size := rfl
      simp only [arr, Array.size_append, Array.size_map, Array.size_replicate, this]; omega
    have hrun : (convert s t (a.eval x)).run P w = .ok (.slice (some ⟨w.heap.size, 0, none⟩) s'.size cap) { heap := w.heap.push (.cells arr ei (cap, cap + 1)), tape := w.tape, drawn := w.drawn + 1, os := w.os, output := w.output } := by
      rw [hx]
      have hsh : ({ heap := w.heap.push (.cells arr ei (0, 0)), tape := w.tape, drawn := w.drawn + 1, os := w.os, output := w.output } : World).shape? w.heap.size = some (ei, cap) := by
        simp [World.shape?, harr]
      have hfr := World.freeze_push (w := { w with drawn := w.drawn + 1 }) (arr := arr) (T := ei) (n := cap)
      simp only [convert, Sem.run_bind, run_underlying hus, run_underlying hut, run_underlying hue', Result.andThen_ok, Conv.stringToBytes, run_choose, Question.forced, Bool.false_eq_true, if_false, newRow, run_newObj, Sem.run_pure, markStringish, run_shape]
      simp only [show ((s'.data.map fun b => Value.int .u8 b.toNat) ++ Array.replicate ((Question.appendCap s'.size 0 ei).cut (w.tape w.drawn (.appendCap s'.size 0 ei)) - s'.size) (.int .u8 0)) = arr from rfl, hsh, run_freeze, Result.andThen_ok]
      rw [hfr]
    have hlen : (bytesOf s').length = s'.size := by rw [bytesOf, List.length_map, Array.length_toList]; rfl
    have hp := RepX.fresh (κ := kd ⟨dst, .convert s t x, ty, pos, af, gd⟩ d) (w := { w with drawn := w.drawn + 1 }) (dh := dh) (T := ei) (b := true) (bytes_cells (g := g) s') (h.wf.drawn _) (arr := arr) (c := cap) ?_ (by rw [hlen]; exact hcap) (by rw [harr]; simp [Ty.size]) (by decide) (some false) (fun b hb => by cases hb; rfl) (cap, cap + 1) (.inr ⟨rfl, by rw [harr]; exact Nat.le_refl _⟩)
    · rw [hlen] at hp
      refine wp_value (run _ _ hrun) (hn _ _ _ hp ?_ ?_ ?_)
      · exact (Ext.drawn (w.drawn + 1)).trans (Ext.block (w := { w with drawn := w.drawn + 1 }) (h.wf.drawn _) _ _ _)
      · exact HRep.ext ((Ext.drawn (w.drawn + 1)).trans (Ext.block (w := { w with drawn := w.drawn + 1 }) (K := fun _ => False) (h.wf.drawn _) _ _ _)) h.le (fun e => e) (fun _ _ e => e) rfl h.heap
      · exact WF.block (w := { w with drawn := w.drawn + 1 }) (h.wf.drawn _) _ _ _
    · rw [hlen]
      simp only [Ty.size, Nat.mul_one, arr, Array.toList_append, Array.toList_map]
      have hl2 : (List.map (fun b => Value.int .u8 (b.toNat : Int)) s'.data.toList).length = s'.size := by rw [List.length_map, Array.length_toList]; rfl
      rw [List.take_append_of_le_length (Nat.le_of_eq hl2.symm)]
      exact List.take_of_length_le (Nat.le_of_eq hl2)
  · rename_i _ _ _ _ _ _ s' es et ev
    rw [ev, RepX.str_iff] at hx
    have hus := tyB_str (Ctx.ty_ok hC es).1
    have hut := tyB_str (Ctx.ty_ok hC et).1
    refine ⟨_, _, _, hk', OpWp.same h (val := .string s') (run _ _ ?_) (RepX.str_iff.2 rfl)⟩
    rw [hx]
    simp only [convert, Sem.run_bind, run_underlying hus, run_underlying hut, Result.andThen_ok, Sem.run_pure]
  · rename_i _ _ _ _ _ _ y ys es et ev
    split at hk'
    · rename_i hst
      subst hst
      obtain ⟨ei, hus, hue, _⟩ := tyB_slice (Ctx.ty_ok hC es).1
      have hue' := tyB_int hue
      refine ⟨_, _, _, hk', fun next Q hn => ?_⟩
      obtain ⟨κ, hκ⟩ : ∃ κ, κ = kd ⟨dst, .convert s s x, ty, pos, af, gd⟩ d := ⟨_, rfl⟩
      have hkno : κ ≠ .no := by rw [hκ]; unfold kd; split <;> simp
      have hkheap : ¬ κ.heap dh := by rw [hκ]; unfold kd; split <;> simp [Key.heap]
      have hkop : Kop ⟨dst, .convert s s x, ty, pos, af, gd⟩ d dh [true] κ := by
        rw [hκ]
        unfold kd
        cases dst with
        | some t => exact .inl ⟨t, rfl, .inl rfl⟩
        | none => exact .inr (.inr (Nat.le_refl _))
      obtain ⟨g1, hg1, hy, hH1, hw1, eU, eN, eμ, eo, hown, hnone⟩ := h.moveTo (C := C) x s κ
      rw [ev] at hy
      simp only [typed, RepX] at hy
      obtain ⟨a0, c0, hv, hl, hrun', hnl, hO⟩ := hy
      rcases hO trivial with h0 | ⟨b, arr, tyo, fr, rfl, e2, e3, e4, e5, e6⟩
      · simp at hl; omega
      have hb : b < w.heap.size := (Array.getElem?_eq_some_iff.1 e2).1
      have hsh : w.shape? b = some (tyo, arr.size) := by simp [World.shape?, e2]
      obtain ⟨fr', hw', hfr'⟩ : ∃ fr', (w.freeze ⟨b, arr.size, none⟩ 1).heap[b]? = some (.cells arr tyo fr') ∧ (fr'.1 = fr'.2 ∨ arr.size ≤ fr'.1) := by
        obtain ⟨lo, hi⟩ := fr
        refine ⟨if lo == hi then (arr.size, arr.size + 1) else (min lo arr.size, max hi (arr.size + 1)), ?_, ?_⟩
        · simp only [World.freeze, Nat.one_ne_zero, if_false, Array.getElem?_modify, if_true, e2, Option.map_some]
        · by_cases hlo : lo = hi
          · simp [hlo]
          · simp only [beq_iff_eq, hlo, if_false]
            have e4 := e4.open
            simp only at e4
            omega
      have hother : ∀ i, i ≠ b → (w.freeze ⟨b, arr.size, none⟩ 1).heap[i]? = w.heap[i]? := by
        intro i hi
        simp only [World.freeze, Nat.one_ne_zero, if_false, Array.getElem?_modify]
        rw [if_neg (fun e => hi e.symm)]
      have hcell : ∀ i off, (w.freeze ⟨b, arr.size, none⟩ 1).cell? ⟨i, off, none⟩ = w.cell? ⟨i, off, none⟩ := by
        intro i off
        by_cases hi : i = b
        · subst hi
          simp only [World.cell?, hw', e2]
        · exact World.cell?_of_block (a := ⟨i, off, none⟩) (hother i hi)
      have hsz : (w.freeze ⟨b, arr.size, none⟩ 1).heap.size = w.heap.size := by
        simp [World.freeze]
      have he : Ext g1 w g1 (w.freeze ⟨b, arr.size, none⟩ 1) d (fun x => x = κ) := by
        refine ⟨rfl, rfl, rfl, by rw [hsz]; exact Nat.le_refl _, fun i hi hk => ?_, fun i off ho => ⟨hcell i off, ho⟩, fun _ _ _ h => ⟨h, rfl, rfl⟩, fun _ _ => rfl⟩
        have hne : i ≠ b := fun e => hk κ (e ▸ e6) rfl
        exact ⟨hother i hne, rfl, rfl⟩
      refine wp_value (val := a.eval x) (w' := w.freeze ⟨b, arr.size, none⟩ 1) (run _ _ ?_) (hn _ _ g1 ?_ ?_ ?_ ?_)
      · rw [hv]
        simp only [convert, Sem.run_bind, run_underlying hus, run_underlying hue', Result.andThen_ok, beq_self_eq_true, markStringish, run_shape, hsh, run_freeze, Sem.run_pure]
      · rw [← hκ]
        simp only [RepX]
        exact ⟨_, c0, hv, hl, hrun'.ext he (RepC.ext he _), hnl, fun _ => .inr ⟨b, arr, tyo, fr', rfl, hw', e3, hfr'.imp (fun h => h) (fun h => ⟨rfl, h⟩), e5, e6⟩⟩
      · refine (hg1.mono (Nat.le_refl _) ?_).trans (he.mono (Nat.le_refl _) ?_)
        · rintro κ2 ⟨t, rfl, rfl⟩
          exact .inl ⟨t, rfl, .inr (by simp [Op.operands, takenBy])⟩
        · rintro κ2 rfl
          exact hkop
      · exact HRep.ext he h.le (fun e => hkno e.symm) (fun κ2 hκ2 e => hkheap (e ▸ hκ2)) rfl hH1
      · refine ⟨fun i hi => ?_, Tabs.ext he hw1.2⟩
        rw [hsz] at hi
        exact hw1.1 i hi
    · cases hk'
  · cases hk'

end
end Go.Proofs.Ytnbfiifkaddehaa.V

/- What the evaluator tells is so: variables read and written. -/
namespace Go.Proofs.Ytnbfiifkaddehaa.V
open Go
set_option linter.unusedVariables false
set_option linter.unusedSimpArgs false

section
variable {P : Program} {C : Ctx} {dst : Option Nat} {ty : Nat} {pos : String} {af : Array Edge} {gd : Option (Nat × Bool)}

theorem isAgg_run {t : Ty} {T : Nat} (ht : tyB P t T = true) (w : World) : (isAgg T).run P w = .ok t.isAgg w := by
  cases t
  case struct c => obtain ⟨fs, hu, _⟩ := tyB_struct ht; simp only [isAgg, Sem.run_bind, run_underlying hu, Result.andThen_ok]; rfl
  case arr n e => obtain ⟨ei, hu, _⟩ := tyB_arr ht; simp only [isAgg, Sem.run_bind, run_underlying hu, Result.andThen_ok]; rfl
  case unit => simp [tyB] at ht
  case prod a b => simp [tyB] at ht
  case int k => simp only [isAgg, Sem.run_bind, run_underlying (tyB_int ht), Result.andThen_ok]; rfl
  case bool => simp only [isAgg, Sem.run_bind, run_underlying (tyB_bool ht), Result.andThen_ok]; rfl
  case str => simp only [isAgg, Sem.run_bind, run_underlying (tyB_str ht), Result.andThen_ok]; rfl
  case slice e => obtain ⟨ei, hu, _⟩ := tyB_slice ht; simp only [isAgg, Sem.run_bind, run_underlying hu, Result.andThen_ok]; rfl
  case err => obtain ⟨ms, hu⟩ := tyB_err ht; simp only [isAgg, Sem.run_bind, run_underlying hu, Result.andThen_ok]; rfl
  case any =>
    simp only [tyB, Bool.and_eq_true] at ht
    obtain ⟨_, ht⟩ := ht
    split at ht
    · cases ht
    · cases ht
    · rename_i d h1 h2 hu
      simp only [isAgg, Sem.run_bind, run_underlying hu, Result.andThen_ok]
      cases d <;> first | rfl | exact absurd hu (h1 _) | exact absurd hu (h2 _ _)
    · cases ht

theorem size_one {t : Ty} (h : t.isAgg = false) : t.size = 1 := by cases t <;> simp_all [Ty.isAgg, Ty.size]

/-- A variable, or a part of one, read. -/
theorem loadVar_run {t : Ty} {T : Nat} (ht : tyB P t T = true) {w : World} {b off : Nat} {cs : List Value} (hl : cs.length = t.size) (hc : ∀ j (hj : j < cs.length), w.cell? ⟨b, off + j, none⟩ = some cs[j]) :
    (loadVar T ⟨b, off, none⟩).run P w = .ok (valOf t cs) w := by
  obtain ⟨inf, z, hi, hs, _, _⟩ := tyB_info ht
  have hag := isAgg_run ht w
  cases hA : t.isAgg with
  | true =>
    rw [hA] at hag
    have hlc := run_loadCells_list (P := P) w ⟨b, off, none⟩ cs (fun j v hj => by
      have hjl : j < cs.length := (List.getElem?_eq_some_iff.1 hj).1
      rw [Addr.add_lit, hc j hjl]
      rw [List.getElem?_eq_getElem hjl] at hj
      exact hj)
    rw [hl] at hlc
    simp only [loadVar, Sem.run_bind, hag, Result.andThen_ok, if_true, sizeOf, typeInfo, run_program, hi, Sem.run_pure, hs, hlc, valOf, hA]
  | false =>
    rw [hA] at hag
    rw [size_one hA] at hl
    match cs, hl with
    | [v], _ =>
      have := hc 0 (by simp)
      simp only [Nat.add_zero, List.getElem_cons_zero] at this
      simp only [loadVar, Sem.run_bind, hag, Result.andThen_ok, Bool.false_eq_true, if_false, run_load, this, valOf, hA, List.headD]

theorem RepO.out {g w} {dh id : Nat} {t : Ty} {y z : X} {off : Nat} {cs : List Value} (h : RepO g w dh id y t off cs) (e : outX t y = some z) : RepX g w dh (.cell dh id off) z (valOf t cs) := by
  cases y
  case agg xs =>
    simp only [outX] at e
    split at e
    · rename_i v hv
      cases e
      have hr := RepO.toD _ t off cs v h hv
      exact RepX.mkX hr (isVal_valOf hr)
    · cases e
  case d t0 x =>
    simp only [outX, Option.some.injEq] at e
    subst e
    simp only [RepO] at h
    obtain ⟨rfl, h⟩ := h
    simp only [RepX]
    exact ⟨cs, h, isVal_valOf h⟩
  case sl e0 xs nl own =>
    simp only [outX, Option.some.injEq] at e
    subst e
    simp only [RepO] at h
    obtain ⟨rfl, v, rfl, h⟩ := h
    exact h
  case fn f a b =>
    simp only [outX, Option.some.injEq] at e
    subst e
    simp only [RepO] at h
    obtain ⟨rfl, v, rfl, h⟩ := h
    simp only [RepX] at h ⊢
    exact h
  case ptr i p =>
    simp only [outX, Option.some.injEq] at e
    subst e
    simp only [RepO] at h
    obtain ⟨rfl, v, rfl, h⟩ := h
    simp only [RepX] at h ⊢
    exact h
  case yld i =>
    simp only [outX, Option.some.injEq] at e
    subst e
    simp only [RepO] at h
    obtain ⟨rfl, v, rfl, h⟩ := h
    simp only [RepX] at h ⊢
    exact h
  all_goals simp [RepO] at h

theorem cell_of_heap {w : World} {b : Nat} {arr : Array Value} {T : Nat} {fr : Nat × Nat} (h : w.heap[b]? = some (.cells arr T fr)) (j : Nat) : w.cell? ⟨b, j, none⟩ = arr[j]? := by
  simp [World.cell?, h]

theorem RepO.unown_y {g w} {dh id : Nat} {t : Ty} {y : X} {off : Nat} {cs : List Value} {g' w'} {d : Nat} {K : Key → Prop} (he : Ext g w g' w' d K) (hd : dh ≤ d) (hno : ¬ K .no) (h : RepO g w dh id y t off cs) (hy : ∀ xs, y ≠ .agg xs) : RepO g' w' dh id y.unown t off cs := by
  cases y
  case agg xs => exact absurd rfl (hy xs)
  case sl e0 xs nl own =>
    simp only [X.unown, RepO] at h ⊢
    obtain ⟨rfl, v, rfl, h⟩ := h
    exact ⟨rfl, v, rfl, RepX.unown he hd hno (.sl e0 xs nl own) v h⟩
  case d t0 x =>
    simp only [X.unown, RepO] at h ⊢
    exact ⟨h.1, RepC.ext he _ _ _ h.2⟩
  case fn f a b =>
    simp only [X.unown, RepO] at h ⊢
    obtain ⟨r1, v, r2, r3⟩ := h
    exact ⟨r1, v, r2, RepX.ext he hd hno hno _ v r3⟩
  case ptr i p =>
    simp only [X.unown, RepO] at h ⊢
    obtain ⟨r1, v, r2, r3⟩ := h
    exact ⟨r1, v, r2, RepX.ext he hd hno hno _ v r3⟩
  case yld i =>
    simp only [X.unown, RepO] at h ⊢
    obtain ⟨r1, v, r2, r3⟩ := h
    exact ⟨r1, v, r2, RepX.ext he hd hno hno _ v r3⟩
  all_goals simp [RepO] at h

/-- One variable's content has turned, or it is told of no more. -/
theorem HRep.setL {g w g' w'} {d dh : Nat} {H : Hp} {K : Key → Prop} {id : Nat} {t : Ty} {c c' : X} (h : HRep g w dh H) (he : Ext g w g' w' d K) (hd : dh ≤ d) (hno : ¬ K .no) (hN : g'.N dh = g.N dh) (hid : H[id]? = some (t, c))
    (hK : ∀ κ, κ.heap dh → K κ → κ = .obj dh id ∨ ∃ o, κ = .cell dh id o) (hn : HLive g' w' dh id t c') : HRep g' w' dh (H.set id (t, c')) := by
  refine ⟨by simp [h.1, hN], fun i ti ci e => ?_⟩
  by_cases hi : id = i
  · subst hi
    have hlt : id < H.length := (List.getElem?_eq_some_iff.1 hid).1
    rw [List.getElem?_set_self hlt] at e
    simp only [Option.some.injEq, Prod.mk.injEq] at e
    obtain ⟨rfl, rfl⟩ := e
    obtain ⟨r1, r2, r3⟩ := h.2 id t c hid
    have hidN : id < g.N dh := by rw [← h.1]; exact hlt
    obtain ⟨k1, k2, k3⟩ := he.mu dh hd id hidN
    exact ⟨k3.trans r1, r2, hn⟩
  · rw [List.getElem?_set_ne hi] at e
    obtain ⟨r1, r2, r3⟩ := h.2 i ti ci e
    have hidN : i < g.N dh := by
      rw [← h.1]
      exact (List.getElem?_eq_some_iff.1 e).1
    obtain ⟨k1, k2, k3⟩ := he.mu dh hd i hidN
    have hnk : ¬ K (.obj dh i) := fun k => by
      rcases hK (.obj dh i) rfl k with e | ⟨o, e⟩
      · cases e; exact hi rfl
      · cases e
    refine ⟨k3.trans r1, r2, r3.to he hd hno (fun off k => ?_) hnk k2⟩
    rcases hK (.cell dh i off) rfl k with e | ⟨o, e⟩
    · cases e
    · cases e; exact hi rfl

/-- One variable's content has turned. -/
theorem HRep.set {g w g' w'} {d dh : Nat} {H : Hp} {K : Key → Prop} {id : Nat} {t : Ty} {c c' : X} (h : HRep g w dh H) (he : Ext g w g' w' d K) (hd : dh ≤ d) (hno : ¬ K .no) (hN : g'.N dh = g.N dh) (hid : H[id]? = some (t, c))
    (hK : ∀ κ, κ.heap dh → K κ → κ = .obj dh id ∨ ∃ o, κ = .cell dh id o)
    (hown : g'.own (g.μ dh id) = some (.obj dh id)) (hU : g'.U (g.μ dh id) = 0) (hn : HAt g' w' dh id t c') : HRep g' w' dh (H.set id (t, c')) := by
  have hidN : id < g.N dh := by rw [← h.1]; exact (List.getElem?_eq_some_iff.1 hid).1
  obtain ⟨k1, k2, k3⟩ := he.mu dh hd id hidN
  exact h.setL he hd hno hN hid hK (.inr ⟨by rw [k2]; exact hown, by rw [k2]; exact hU, hn⟩)

theorem sliceX_or {t : Ty} {y z : X} (h : outX t y = some z) : (∃ xs, y = .agg xs) ∨ z = y := by
  cases y
  case agg xs => exact .inl ⟨xs, rfl⟩
  case dead => simp [outX] at h
  case od => simp [outX] at h
  all_goals (simp only [outX, Option.some.injEq] at h; exact .inr h.symm)

theorem getP_dead {p : List Nat} {c y z : X} {t : Ty} (h : getP p c = some y) (hz : outX t y = some z) : c ≠ .dead := by
  rintro rfl
  cases p with
  | nil =>
    simp only [getP, Option.some.injEq] at h
    subst h
    simp [outX] at hz
  | cons j p => simp [getP] at h

theorem setP_dead {p : List Nat} {c y c' : X} (h : setP p c y = some c') : c ≠ .dead := by
  rintro rfl
  cases p <;> simp [setP] at h

theorem take_get {α : Type} {l : List α} {n k : Nat} {x : α} (h : (l.take n)[k]? = some x) : l[k]? = some x := by
  rw [List.getElem?_take] at h
  split at h
  · exact h
  · cases h

theorem frozen_open {w : World} {b j : Nat} {arr : Array Value} {T : Nat} {fr : Nat × Nat} (h : w.heap[b]? = some (.cells arr T fr)) (hf : fr.1 = fr.2 ∨ arr.size ≤ fr.1) (hj : j < arr.size) : w.frozen? ⟨b, j, none⟩ = false := by
  simp only [World.frozen?, h]
  simp
  omega

theorem path_od0 {n i o : Nat} {a t1 : Ty} (h : pathAt (.arr n (stT a)) [i, 0] = some (o, t1)) : i < n ∧ o = 2 * i ∧ t1 = .bool := by
  simp only [pathAt, stepAt] at h
  split at h
  · rename_i o' t' hs
    split at hs
    · rename_i hi
      simp only [Option.some.injEq, Prod.mk.injEq] at hs
      obtain ⟨rfl, rfl⟩ := hs
      simp only [chainAt, Option.map_some, Option.some.injEq, Prod.mk.injEq] at h
      obtain ⟨rfl, rfl⟩ := h
      exact ⟨hi, by simp [Ty.size]; omega, rfl⟩
    · cases hs
  · cases h
theorem path_od1 {n i o : Nat} {a t1 : Ty} (h : pathAt (.arr n (stT a)) [i, 1] = some (o, t1)) : i < n ∧ o = 2 * i + 1 ∧ t1 = .slice a := by
  simp only [pathAt, stepAt] at h
  split at h
  · rename_i o' t' hs
    split at hs
    · rename_i hi
      simp only [Option.some.injEq, Prod.mk.injEq] at hs
      obtain ⟨rfl, rfl⟩ := hs
      simp only [chainAt, Option.map_some, Option.some.injEq, Prod.mk.injEq] at h
      obtain ⟨rfl, rfl⟩ := h
      exact ⟨hi, by simp [Ty.size]; omega, rfl⟩
    · cases hs
  · cases h

theorem OdR.setF {g w} {κ : Key} {a : Ty} {xs : List (Bool × List a.den × Unit)} {hole : Option Nat} {hd : Nat → Option Addr × Nat} {cell cell' : Nat → Option Value} (h : OdR g w κ a xs hole hd cell) {i : Nat} (hi : i < xs.length) (b : Bool)
    (h1 : cell' (2 * i) = some (.bool b)) (h2 : ∀ k, k ≠ 2 * i → cell' k = cell k) : OdR g w κ a (xs.set i (b, (xs[i]).2)) hole hd cell' := by
  refine ⟨fun j hj => ?_, fun j k hj hk => h.2 j k (by simpa using hj) (by simpa using hk)⟩
  have hj' : j < xs.length := by simpa using hj
  obtain ⟨k1, k2, k3, k4, k5⟩ := h.1 j hj'
  rw [h2 (2 * j + 1) (by omega)]
  by_cases hij : i = j
  · subst hij
    simp only [List.getElem_set_self]
    exact ⟨h1, k2, k3, k4, k5⟩
  · simp only [List.getElem_set_ne hij]
    rw [h2 (2 * j) (by omega)]
    exact ⟨k1, k2, k3, k4, k5⟩

theorem OdR.setS {g w} {κ : Key} {a : Ty} {xs : List (Bool × List a.den × Unit)} {hd : Nat → Option Addr × Nat} {cell cell' : Nat → Option Value} {i : Nat} (h : OdR g w κ a xs (some i) hd cell) (hi : i < xs.length) (ys : List a.den) (A : Option Addr) (c : Nat)
    (h1 : cell' (2 * i + 1) = some (.slice A ys.length c)) (h2 : ∀ k, k ≠ 2 * i + 1 → cell' k = cell k) (h3 : ys.length ≤ c) (h4 : Run w g (RepC w g a) a.size ys A) (h5 : Own g w κ a A ys.length c)
    (h6 : ∀ j, j < xs.length → j ≠ i → (hd j).2 ≠ 0 → c ≠ 0 → (hd j).1 ≠ A) : OdR g w κ a (xs.set i ((xs[i]).1, ys, ())) none (fun j => if j = i then (A, c) else hd j) cell' := by
  refine ⟨fun j hj => ?_, fun j k hj hk hjk _ _ c1 c2 => ?_⟩
  · have hj' : j < xs.length := by simpa using hj
    obtain ⟨k1, k2, k3, k4, k5⟩ := h.1 j hj'
    rw [h2 (2 * j) (by omega)]
    by_cases hij : i = j
    · subst hij
      simp only [List.getElem_set_self, if_true]
      exact ⟨k1, h1, h3, h4, fun _ => h5⟩
    · simp only [List.getElem_set_ne hij]
      rw [if_neg (fun e => hij e.symm), h2 (2 * j + 1) (by omega)]
      exact ⟨k1, k2, k3, k4, fun _ => k5 (by simpa using hij)⟩
  · have hj' : j < xs.length := by simpa using hj
    have hk' : k < xs.length := by simpa using hk
    dsimp only at c1 c2 ⊢
    by_cases e1 : j = i
    · subst e1
      have e2 : k ≠ j := fun e => hjk e.symm
      rw [if_neg e2] at c2 ⊢
      rw [if_pos rfl] at c1 ⊢
      exact fun e => h6 k hk' e2 c2 c1 e.symm
    · rw [if_neg e1] at c1 ⊢
      by_cases e2 : k = i
      · subst e2
        rw [if_pos rfl] at c2 ⊢
        exact h6 j hj' e1 c1 c2
      · rw [if_neg e2] at c2 ⊢
        exact h.2 j k hj' hk' hjk (by simpa using fun e => e1 e.symm) (by simpa using fun e => e2 e.symm) c1 c2

/-- One block gets another key. -/
def Ghost.rekey1 (g : Ghost) (b0 : Nat) (κ' : Key) : Ghost := { g with own := fun b => if b = b0 then some κ' else g.own b }

theorem Ghost.rekey1_ext {g : Ghost} {w : World} {d b0 : Nat} {κ κ' : Key} (h : g.own b0 = some κ) : Ext g w (g.rekey1 b0 κ') w d (fun x => x = κ) :=
  ⟨rfl, rfl, rfl, Nat.le_refl _, fun b _ ho => ⟨rfl, by
    simp only [Ghost.rekey1]
    rw [if_neg (fun e => ho κ (by rw [e]; exact h) rfl)], rfl⟩, fun _ _ h => ⟨rfl, h⟩, fun _ _ _ h => ⟨h, rfl, rfl⟩, fun _ _ => rfl⟩

/-- One of the slices is lent: its room is the key's that has it. -/
theorem OdR.lend {g w} {d dh : Nat} {κ κ' : Key} {a : Ty} {xs : List (Bool × List a.den × Unit)} {hd : Nat → Option Addr × Nat} {cell : Nat → Option Value} (hw : WF g w) (h : OdR g w κ a xs none hd cell) {i : Nat} (hi : i < xs.length) :
    ∃ g', Ext g w g' w d (fun x => x = κ) ∧ WF g' w ∧ g'.N = g.N ∧ g'.μ = g.μ ∧ g'.U = g.U ∧ (∀ b κ2, g.own b = some κ2 → κ2 ≠ κ → g'.own b = some κ2) ∧ OdR g' w κ a xs (some i) hd cell ∧
      RepX g' w dh κ' (.sl a (xs[i]).2.1 none true) (.slice (hd i).1 (xs[i]).2.1.length (hd i).2) := by
  obtain ⟨k1, k2, k3, k4, k5⟩ := h.1 i hi
  have noh : ∀ (j : Nat), (none : Option Nat) ≠ some j := fun j e => by cases e
  rcases k5 (noh i) with h0 | ⟨b, arr, ty, fr, e1, e2, e3, e4, e5, e6⟩
  · refine ⟨g, Ext.refl _ _ _ _, hw, rfl, rfl, rfl, fun b κ2 e _ => e, ⟨fun j hj => ?_, fun j k hj hk hjk _ _ => h.2 j k hj hk hjk (noh j) (noh k)⟩, ?_⟩
    · obtain ⟨l1, l2, l3, l4, l5⟩ := h.1 j hj
      exact ⟨l1, l2, l3, l4, fun _ => l5 (noh j)⟩
    · simp only [RepX]
      exact ⟨_, _, rfl, k3, k4, (fun b hb => by cases hb), fun _ => .inl h0⟩
  · by_cases hc : (hd i).2 = 0
    · refine ⟨g, Ext.refl _ _ _ _, hw, rfl, rfl, rfl, fun b κ2 e _ => e, ⟨fun j hj => ?_, fun j k hj hk hjk _ _ => h.2 j k hj hk hjk (noh j) (noh k)⟩, ?_⟩
      · obtain ⟨l1, l2, l3, l4, l5⟩ := h.1 j hj
        exact ⟨l1, l2, l3, l4, fun _ => l5 (noh j)⟩
      · simp only [RepX]
        exact ⟨_, _, rfl, k3, k4, (fun b hb => by cases hb), fun _ => .inl hc⟩
    · have he := Ghost.rekey1_ext (g := g) (w := w) (d := d) (κ' := κ') e6
      refine ⟨g.rekey1 b κ', he, ⟨fun b' hb' => ?_, Tabs.ext he hw.2⟩, rfl, rfl, rfl, fun b' κ2 e hne => ?_, ⟨fun j hj => ?_, fun j k hj hk hjk _ _ => h.2 j k hj hk hjk (noh j) (noh k)⟩, ?_⟩
      · have hb : b < w.heap.size := (Array.getElem?_eq_some_iff.1 e2).1
        have hne : b' ≠ b := by omega
        obtain ⟨q1, q2⟩ := hw.1 b' hb'
        exact ⟨by simp [Ghost.rekey1, hne, q1], q2⟩
      · have hne' : b' ≠ b := by
          rintro rfl
          rw [e6] at e
          cases e
          exact hne rfl
        simp [Ghost.rekey1, hne', e]
      · obtain ⟨l1, l2, l3, l4, l5⟩ := h.1 j hj
        refine ⟨l1, l2, l3, l4.ext he (RepC.ext he a), fun hh => ?_⟩
        have hij : i ≠ j := fun e => hh (by rw [e])
        rcases l5 (noh j) with m0 | ⟨b', arr', ty', fr', m1, m2, m3, m4, m5, m6⟩
        · exact .inl m0
        · by_cases hcj : (hd j).2 = 0
          · exact .inl hcj
          · have hne : b' ≠ b := by
              rintro rfl
              exact h.2 i j hi hj hij (noh i) (noh j) hc hcj (by rw [e1, m1])
            exact .inr ⟨b', arr', ty', fr', m1, m2, m3, m4, m5, by simp [Ghost.rekey1, hne, m6]⟩
      · simp only [RepX]
        exact ⟨_, _, rfl, k3, k4.ext he (RepC.ext he a), (fun b hb => by cases hb), fun _ => .inr ⟨b, arr, ty, fr, e1, e2, e3, e4, e5, by simp [Ghost.rekey1]⟩⟩

theorem core_load (hC : TysOk P C.tys) (T : Nat) (x : Operand) : CoreOk P C ⟨dst, .load T x, ty, pos, af, gd⟩ := by
  intro R tr g w d dh st a h k r hk
  have hk' : (match C.ty T, st.val x with
    | some e, .cp t x => match castTo t e.t x with
      | some v => k (mkX e.t v) [] st.H
      | none => none
    | some e, .cx x => if e.t = .any then k x.unown [] st.H else none
    | some e, .ptr id p => match st.H[id]? with
      | some (t, .od a xs hole) => match p with
        | [i, 0] => if e.t = .bool then k (.d .bool (List.getD xs i (false, [], ())).1) [] st.H else none
        | [i, 1] => if e.t = .slice a then
            match (generalizing := false) tr, hole with
            | true, none => k (.sl a (List.getD xs i (false, [], ())).2.1 none true) [] (st.H.set id (t, .od a xs (some i)))
            | true, some _ => none
            | false, _ => k (.sl a (List.getD xs i (false, [], ())).2.1 none false) [] st.H
          else none
        | _ => none
      | some (t, c) => match typeAt t p, getP p c with
        | some t', some y => if t' = e.t then
            match outX e.t y with
            | some z => match (generalizing := false) tr, y with
              | true, .sl e1 xs nl own => match setP p c (.sl e1 xs nl false) with
                | some c' => k (.sl e1 xs nl own) [] (st.H.set id (t, c'))
                | none => none
              | _, _ => k z.unown [] st.H
            | none => none
          else none
        | _, _ => none
      | none => none
    | _, _ => none) = some r := hk
  have hx := h.val x
  have run : ∀ A v, a.eval x = .pointer (some A) → (loadVar T A).run P w = .ok v w → (execOp a.eval ⟨dst, .load T x, ty, pos, af, gd⟩).run P w = .ok (.value v) w := by
    intro A v hv hr
    simp only [execOp, Sem.run_bind, Instr.loadAt, hv, Instr.sureAddr, Sem.run_pure, Result.andThen_ok, hr]
  split at hk'
  · rename_i e t v he ev
    split at hk'
    · rename_i v' hv'
      obtain ⟨rfl, rfl⟩ := castTo_some hv'
      rw [ev] at hx
      simp only [RepX] at hx
      obtain ⟨A, cs, hv, hs, h1, h2⟩ := hx
      have ht := (Ctx.ty_ok hC he).1
      have hlv := loadVar_run (w := w) (b := A.block) (off := A.off) ht (RepC.length _ _ _ h1) (fun j hj => (h2 j hj).1)
      have hA : (⟨A.block, A.off, none⟩ : Addr) = A := by
        obtain ⟨b, o, s⟩ := A
        simp only at hs
        subst hs; rfl
      rw [hA] at hlv
      exact ⟨_, _, _, hk', OpWp.same h (run A _ hv hlv) (RepX.mkX h1 (isVal_valOf h1))⟩
    · cases hk'
  · rename_i e x0 he ev
    split at hk'
    · rename_i hea
      rw [ev] at hx
      simp only [RepX] at hx
      obtain ⟨A, u, hv, hs, h1, h2, h3⟩ := hx
      have ht := (Ctx.ty_ok hC he).1
      rw [hea] at ht
      have hlv := loadVar_run (w := w) (b := A.block) (off := A.off) (cs := [u]) ht rfl (fun j hj => by
        have : j = 0 := by simpa using hj
        subst this
        exact h2)
      have hA : (⟨A.block, A.off, none⟩ : Addr) = A := by
        obtain ⟨b, o, s⟩ := A
        simp only at hs
        subst hs; rfl
      rw [hA] at hlv
      exact ⟨_, _, _, hk', OpWp.same h (run A _ hv hlv) h1.unown'⟩
    · cases hk'
  · rename_i e id p he ev
    split at hk'
    · rename_i t a1 xs hole hid
      rw [ev] at hx
      simp only [RepX] at hx
      obtain ⟨hN, o, t1, hp, hv⟩ := hx
      obtain ⟨r1, r2, hlive⟩ := h.heap.2 id t _ hid
      obtain ⟨r3, r4, r56⟩ := hlive.at (by simp)
      obtain ⟨rt, rN, rc, arr, tyo, fr, hd, q1, q2, q3, q4⟩ := r56.rows
      rw [r1, rt] at hp
      have ht := (Ctx.ty_ok hC he).1
      split at hk'
      · rename_i i
        obtain ⟨hi, rfl, rfl⟩ := path_od0 hp
        split at hk'
        · rename_i het
          obtain ⟨k1, k2, k3, k4, k5⟩ := q4.1 i hi
          have hlv := loadVar_run (P := P) (w := w) (b := g.μ dh id) (off := 2 * i) (cs := [.bool (xs[i]).1]) ht (by rw [het]; rfl) (fun j hj => by
            have : j = 0 := by simpa using hj
            subst this
            rw [cell_of_heap q1]
            exact k1)
          rw [het] at hlv
          have eg : List.getD xs i (false, [], ()) = xs[i] := by rw [List.getD_eq_getElem?_getD, List.getElem?_eq_getElem hi]; rfl
          rw [eg] at hk'
          exact ⟨_, _, _, hk', OpWp.same h (run _ _ hv hlv) (RepX.bool_iff.2 rfl)⟩
        · cases hk'
      · rename_i i
        obtain ⟨hi, rfl, rfl⟩ := path_od1 hp
        split at hk'
        · rename_i het
          obtain ⟨k1, k2, k3, k4, k5⟩ := q4.1 i hi
          have hlv := loadVar_run (P := P) (w := w) (b := g.μ dh id) (off := 2 * i + 1) (cs := [.slice (hd i).1 (xs[i]).2.1.length (hd i).2]) ht (by rw [het]; rfl) (fun j hj => by
            have : j = 0 := by simpa using hj
            subst this
            rw [cell_of_heap q1]
            exact k2)
          rw [het] at hlv
          have eg : List.getD xs i (false, [], ()) = xs[i] := by rw [List.getD_eq_getElem?_getD, List.getElem?_eq_getElem hi]; rfl
          rw [eg] at hk'
          split at hk'
          · refine ⟨_, _, _, hk', fun next Q hn => ?_⟩
            obtain ⟨g', he', hw', eN, eμ, eU, eo, hr, hs⟩ := OdR.lend (d := d) (dh := dh) (κ' := kd ⟨dst, .load T x, ty, pos, af, gd⟩ d) h.wf q4 hi
            refine wp_value (run _ _ hv hlv) (hn _ w g' hs ?_ ?_ hw')
            · refine he'.mono (Nat.le_refl _) ?_
              rintro κ rfl
              exact .inr (.inl rfl)
            · refine HRep.set h.heap he' h.le (by simp) (by rw [eN]) hid ?_ (eo _ _ r3 (by simp)) (by rw [eU]; exact r4) ?_
              · rintro κ _ rfl
                exact .inr ⟨0, rfl⟩
              · exact .inr (.inr ⟨a1, xs, some i, rfl, rt, by rw [eN]; exact rN, by rw [eμ]; exact rc, arr, tyo, fr, hd, by rw [eμ]; exact q1, q2, by rw [eμ]; exact q3, hr⟩)
          · cases hk'
          · refine ⟨_, _, _, hk', OpWp.same h (run _ _ hv hlv) ?_⟩
            simp only [RepX]
            exact ⟨_, _, rfl, k3, k4, (fun b hb => by cases hb), fun hb => by cases hb⟩
        · cases hk'
      · cases hk'
    · rename_i t c hne hid
      have hod : ∀ a xs hole, c ≠ .od a xs hole := fun a xs hole e => hne a xs hole e
      split at hk'
      · rename_i t' y htp hy
        split at hk'
        · rename_i hte
          subst hte
          split at hk'
          · rename_i z hz
            rw [ev] at hx
            simp only [RepX] at hx
            obtain ⟨hN, o, t1, hp, hv⟩ := hx
            obtain ⟨r1, r2, hlive⟩ := h.heap.2 id t c hid
            obtain ⟨r3, r4, r56⟩ := hlive.at (getP_dead hy hz)
            have ht := (Ctx.ty_ok hC he).1
            obtain ⟨arr, tyo, fr, r5, rf, r6⟩ := r56.cells htp (tyB_unit ht) hod
            rw [r1] at hp
            obtain rfl := typeAt_eq hp htp
            obtain ⟨pre, mid, post, f1, f2, f3⟩ := RepO.get p c t 0 o _ e.t y r6 hp hy
            rw [Nat.zero_add] at f3
            have hcell : ∀ j (hj : j < mid.length), w.cell? ⟨g.μ dh id, o + j, none⟩ = some mid[j] := by
              intro j hj
              rw [cell_of_heap r5, ← Array.getElem?_toList]
              exact take_get (n := t.size) (by rw [f1, ← f2, getElem?_mid pre mid post j hj, List.getElem?_eq_getElem hj])
            have hlv := loadVar_run (w := w) (b := g.μ dh id) (off := o) ht (RepO.length _ _ _ _ f3) hcell
            have hz' := f3.out hz
            split at hk'
            · rename_i e1 xs nl own
              split at hk'
              · rename_i c' hc'
                simp only [outX, Option.some.injEq] at hz
                subst hz
                refine ⟨_, _, _, hk', fun next Q hn => ?_⟩
                have hge := Ghost.rekey_ext (g := g) (w := w) (d := d) (κ := .cell dh id o) (κ' := kd ⟨dst, .load T x, ty, pos, af, gd⟩ d)
                refine wp_value (run _ _ hv hlv) (hn _ w (g.rekey (.cell dh id o) (kd ⟨dst, .load T x, ty, pos, af, gd⟩ d)) (RepX.rekey h.le (by simp) _ _ hz') ?_ ?_ h.wf.rekey)
                · refine hge.mono (Nat.le_refl _) ?_
                  rintro κ rfl
                  exact .inr (.inl rfl)
                · refine HRep.set h.heap hge h.le (by simp) rfl hid ?_ ?_ r4 ?_
                  · rintro κ _ rfl
                    exact .inr ⟨o, rfl⟩
                  · simp only [Ghost.rekey, r3]
                    rw [if_neg (by simp)]
                  · refine .inl ⟨arr, tyo, fr, r5, rf, ?_⟩
                    have hu := RepO.unown_y hge h.le (by simp) f3 (by simp)
                    have hsz : e.t.size = 1 := by
                      simp only [RepO] at f3
                      rw [f3.1]; rfl
                    obtain ⟨pre', mid', post', g1, g2, g3, g4⟩ := RepO.set hge h.le (by simp) p c t 0 o _ e.t _ c' mid r2 r6 hp hc' (fun o' _ _ k => by cases k; omega) (by rw [Nat.zero_add]; exact hu)
                    have g1' : pre ++ (mid ++ post) = pre' ++ (mid' ++ post') := by rw [← List.append_assoc, ← List.append_assoc, ← f1, ← g1]
                    obtain ⟨q1, q2⟩ := List.append_inj g1' (by rw [f2, g2])
                    obtain ⟨q3, q4⟩ := List.append_inj q2 (by rw [g3, RepO.length _ _ _ _ f3])
                    rw [g1, ← q3]
                    exact g4
              · cases hk'
            · exact ⟨_, _, _, hk', OpWp.same h (run _ _ hv hlv) hz'.unown'⟩
          · cases hk'
        · cases hk'
      · cases hk'
    · cases hk'
  · cases hk'

theorem RepO.of_fit {g w} {dh id : Nat} {t : Ty} {off : Nat} : ∀ {x : X} {v : Value}, fitO x t = true → RepX g w dh (.cell dh id off) x v → RepO g w dh id x t off v.cells.toList
  | .d t' x, v, hf, h => by
    simp only [fitO, decide_eq_true_eq] at hf
    subst hf
    simp only [RepX] at h
    obtain ⟨cs, h1, h2⟩ := h
    rw [h2.cells' h1]
    simp only [RepO]
    exact ⟨trivial, h1⟩
  | .agg xs, v, hf, h => by simp [RepX] at h
  | .sl e xs nl own, v, hf, h => by
    simp only [fitO, decide_eq_true_eq] at hf
    subst hf
    simp only [RepO]
    refine ⟨trivial, v, ?_, h⟩
    simp only [RepX] at h
    obtain ⟨a, c, rfl, _⟩ := h
    rfl
  | .fn f b c, v, hf, h => by
    simp only [fitO, decide_eq_true_eq] at hf
    subst hf
    simp only [RepO]
    simp only [RepX] at h
    refine ⟨trivial, v, ?_, by simp only [RepX]; exact h⟩
    obtain ⟨_, _, rfl, _⟩ := h
    rfl
  | .ptr i p, v, hf, h => by
    simp only [fitO, decide_eq_true_eq] at hf
    subst hf
    simp only [RepO]
    simp only [RepX] at h
    refine ⟨trivial, v, ?_, by simp only [RepX]; exact h⟩
    obtain ⟨_, _, _, _, rfl⟩ := h
    rfl
  | .yld i, v, hf, h => by
    simp only [fitO, decide_eq_true_eq] at hf
    subst hf
    simp only [RepO]
    simp only [RepX] at h
    refine ⟨trivial, v, ?_, by simp only [RepX]; exact h⟩
    obtain ⟨_, rfl⟩ := h
    rfl
  | .rnd _ _, _, hf, _ => by simp [fitO] at hf
  | .bsy _ _, _, hf, _ => by simp [fitO] at hf
  | .fin _ _, _, hf, _ => by simp [fitO] at hf
  | .dead, _, hf, _ => by simp [fitO] at hf
  | .undef, _, hf, _ => by simp [fitO] at hf
  | .nils, _, hf, _ => by simp [fitO] at hf
  | .cp _ _, _, hf, _ => by simp [fitO] at hf
  | .tup _, _, hf, _ => by simp [fitO] at hf
  | .lst _, _, hf, _ => by simp [fitO] at hf
  | .cx _, _, hf, _ => by simp [fitO] at hf
  | .mref _ _ _ _ _, _, hf, _ => by simp [fitO] at hf
  | .ps _ _, _, hf, _ => by simp [fitO] at hf
  | .pd _ _, _, hf, _ => by simp [fitO] at hf
  | .orf _ _ _, _, hf, _ => by simp [fitO] at hf
  | .od _ _ _, _, hf, _ => by simp [fitO] at hf
  | .zv _, _, hf, _ => by simp [fitO] at hf
  | .zs _, _, hf, _ => by simp [fitO] at hf
  | .zw _ _, _, hf, _ => by simp [fitO] at hf
  | .mp _, _, hf, _ => by simp [fitO] at hf
  | .asc _ _ _, _, hf, _ => by simp [fitO] at hf

theorem RepO.of_fitS {g w} {dh id : Nat} {t : Ty} {off : Nat} {x : X} {v : Value} (hf : fitS x t = true) (h : RepX g w dh (.cell dh id off) x v) : RepO g w dh id (layX x) t off v.cells.toList := by
  cases x
  case zw a b =>
    simp only [fitS, decide_eq_true_eq] at hf
    subst hf
    simp only [RepX] at h
    subst h
    simp only [layX, RepO, RepOs]
    refine ⟨[.bool b], [.slice none 0 0], by simp [Value.cells, zwC], ⟨trivial, by simp [RepC]⟩, [.slice none 0 0], [], by simp, ⟨trivial, _, rfl, ?_⟩, trivial, rfl⟩
    simp only [RepX]
    exact ⟨none, 0, rfl, Nat.le_refl _, Run.nil, fun c hc => by cases hc; rfl, fun _ => .inl rfl⟩
  all_goals exact RepO.of_fit hf h

/-- Cells written one behind the other into a block that is not sealed there. -/
theorem storeCells_run {w : World} (g o : Nat) (t : TypeId) (fr : Nat × Nat) : ∀ (vs : List Value) (i : Nat) (cur : Array Value) (w : World), w.heap[g]? = some (.cells cur t fr) → o + i + vs.length ≤ cur.size → (∀ j, o + i ≤ j → j < o + i + vs.length → w.frozen? ⟨g, j, none⟩ = false) → Plain vs →
    (storeCells ⟨g, o, none⟩ vs i).run P w = .ok () (w.setRow g (cur.toList.take (o + i) ++ vs ++ cur.toList.drop (o + i + vs.length)).toArray)
  | [], i, cur, w, hg, _, _, _ => by
    simp only [storeCells, List.append_nil, List.length_nil, Nat.add_zero, List.take_append_drop, Array.toArray_toList]
    rw [setRow_self w g cur t fr hg]
    rfl
  | v :: rest, i, cur, w, hg, hl, hf, h1 => by
    have hi : o + i < cur.size := by simp at hl; omega
    have hadd : (⟨g, o, none⟩ : Addr).add i = ⟨g, o + i, none⟩ := Addr.add_lit g o i
    have hcell : w.cell? ⟨g, o + i, none⟩ = some cur[o + i] := by simp [World.cell?, hg, hi]
    have hfro : w.frozen? ⟨g, o + i, none⟩ = false := hf _ (Nat.le_refl _) (by simp)
    have hst : (store ((⟨g, o, none⟩ : Addr).add i) v).run P w = .ok () (w.setRow g (cur.setIfInBounds (o + i) v)) := by
      rw [hadd, run_store P w _ v _ (h1 v (by simp)), hcell]
      simp [hfro, setCell_eq_setRow w g (o + i) cur t fr v hg]
    have hh := setRow_heap w g cur (cur.setIfInBounds (o + i) v) t fr hg
    have ih := storeCells_run (w := w) g o t fr rest (i + 1) (cur.setIfInBounds (o + i) v) (w.setRow g (cur.setIfInBounds (o + i) v)) hh (by simp at hl ⊢; omega) (fun j l1 l2 => by
      have := hf j (by omega) (by simp; omega)
      simp only [World.frozen?, hg] at this
      simp only [World.frozen?, hh]
      exact this) (fun x hx => h1 x (by simp [hx]))
    simp only [storeCells, Sem.run_bind, hst, Result.andThen_ok, ih, setRow_setRow]
    congr 3
    have e := list_seg_step cur.toList (o + i) v rest (by simp at hl ⊢; omega)
    simpa [Array.toList_setIfInBounds, Nat.add_assoc] using e

/-- A block of one owner is written. -/
theorem Ext.setRow {g w} {d : Nat} {b : Nat} {arr : Array Value} {κ : Key} (ho : g.own b = some κ) (hU : g.U b = 0) (hb : b < w.heap.size) : Ext g w g (w.setRow b arr) d (fun x => x = κ) where
  os := rfl
  tape := rfl
  output := rfl
  size := by simp
  keep i hi hk := by
    have hne : i ≠ b := fun e => hk κ (e ▸ ho) rfl
    exact ⟨setRow_other w b i arr hne, rfl, rfl⟩
  cells i off hu := by
    have hne : i ≠ b := fun e => by subst e; omega
    exact ⟨World.cell?_of_block (a := ⟨i, off, none⟩) (setRow_other w b i arr hne), hu⟩
  mu _ _ _ h := ⟨h, rfl, rfl⟩
  num _ _ := rfl

theorem core_store (hC : TysOk P C.tys) (T : Nat) (x y : Operand) : CoreOk P C ⟨dst, .store T x y, ty, pos, af, gd⟩ := by
  intro R tr g w d dh st a h k r hk
  have hk' : (match C.ty T, st.val x with
    | some e, .ptr id p => match st.H[id]? with
      | some (t, .od a xs hole) => match p with
        | [i, 0] => match typed C T (st.val y) with
          | .d .bool b => if e.t = .bool then k .undef [false, true] (st.H.set id (t, .od a (List.set xs i (b, (List.getD xs i (false, [], ())).2)) hole)) else none
          | _ => none
        | [i, 1] => match typed C T (st.val y), hole with
          | .sl a' ys _ true, some j => if e.t = .slice a then
              match castTo (.slice a') (.slice a) ys with
              | some zs => bif decide (i = j) then k .undef [false, true] (st.H.set id (t, .od a (List.set xs i ((List.getD xs i (false, [], ())).1, zs, ())) none)) else none
              | none => none
            else none
          | _, _ => none
        | _ => none
      | some (t, c) => match typeAt t p, setP p c (layX (typed C T (st.val y))) with
        | some t', some c' => if t' = e.t ∧ fitS (typed C T (st.val y)) t' = true then k .undef [false, true] (st.H.set id (t, c')) else none
        | _, _ => none
      | none => none
    | _, _ => none) = some r := hk
  have hx := h.val x
  split at hk'
  · rename_i e id p he ev
    split at hk'
    · rename_i t a1 xs hole hid
      rw [ev] at hx
      simp only [RepX] at hx
      obtain ⟨hN, o, t1, hp, hv⟩ := hx
      obtain ⟨r1, r2, hlive⟩ := h.heap.2 id t _ hid
      obtain ⟨r3, r4, r56⟩ := hlive.at (by simp)
      obtain ⟨rt, rN, rc, arr, tyo, fr, hd, q1, q2, q3, q4⟩ := r56.rows
      rw [r1, rt] at hp
      have ht := (Ctx.ty_ok hC he).1
      have hb : g.μ dh id < w.heap.size := (Array.getElem?_eq_some_iff.1 q1).1
      -- one cell is written
      have one : ∀ (o : Nat) (v : Value), o < arr.size → e.t.size = 1 → a.eval y = v → v.cells.toList = [v] → v.oneCell' = true → a.eval x = .pointer (some ⟨g.μ dh id, o, none⟩) →
          ∃ new, new.size = arr.size ∧ new[o]? = some v ∧ (∀ k, k ≠ o → new[k]? = arr[k]?) ∧ (execOp a.eval ⟨dst, .store T x y, ty, pos, af, gd⟩).run P w = .ok .skip (w.setRow (g.μ dh id) new) := by
        intro o v ho hs1 hy0 hcl hone hv0
        obtain ⟨inf, z, hi, hs, _, _⟩ := tyB_info ht
        rw [hs1] at hs
        have hst := storeCells_run (P := P) (w := w) (g.μ dh id) o tyo fr [v] 0 arr w q1 (by simp; omega) (fun j _ l2 => frozen_open q1 (.inl q2) (by simp at l2; omega)) (fun u hu => by rw [List.mem_singleton.1 hu]; exact hone)
        simp only [Nat.add_zero, List.length_singleton] at hst
        refine ⟨(arr.toList.take o ++ [v] ++ arr.toList.drop (o + 1)).toArray, ?_, ?_, fun k hk => ?_, ?_⟩
        rotate_left 3
        · have hsz : v.cells.size = inf.size := by rw [hs, ← Array.length_toList, hcl]; rfl
          simp only [execOp, Sem.run_bind, Instr.storeAt, hv0, Instr.sureAddr, Sem.run_pure, Result.andThen_ok, storeVar, sizeOf, typeInfo, run_program, hi, hy0, hsz, ne_eq, not_true_eq_false, if_false, hcl, hst]
        · simp; omega
        · rw [← Array.getElem?_toList, List.append_assoc, List.getElem?_append_right (by simp; omega)]
          simp [Nat.min_eq_left (Nat.le_of_lt ho)]
        · rw [← Array.getElem?_toList, ← Array.getElem?_toList]
          simp only []
          by_cases hlt : k < o
          · rw [List.append_assoc, List.getElem?_append_left (by simp; omega), List.getElem?_take, if_pos hlt]
          · rw [List.getElem?_append_right (by simp; omega)]
            simp only [List.length_append, List.length_take, List.length_singleton, List.getElem?_drop]
            congr 1
            simp
            omega
      split at hk'
      · rename_i i
        obtain ⟨hi, rfl, rfl⟩ := path_od0 hp
        split at hk'
        · rename_i bv hbv
          split at hk'
          · rename_i het
            have hyr := typed_rep (C := C) (i := T) (h.val y)
            rw [hbv, RepX.bool_iff] at hyr
            obtain ⟨new, n1, n2, n3, hrun⟩ := one (2 * i) (.bool bv) (by omega) (by rw [het]; rfl) hyr rfl rfl hv
            have he2 : Ext g w g (w.setRow (g.μ dh id) new) d (fun κ => κ = .obj dh id) := Ext.setRow r3 r4 hb
            have eg : List.getD xs i (false, [], ()) = xs[i] := by rw [List.getD_eq_getElem?_getD, List.getElem?_eq_getElem hi]; rfl
            rw [eg] at hk'
            refine ⟨_, _, _, hk', fun next Q hn => wp_skip' hrun (hn undef _ g (by simp only [RepX]) ?_ ?_ ⟨fun b hb' => h.wf.1 b (by simpa using hb'), Tabs.ext he2 h.wf.2⟩)⟩
            · refine he2.mono (Nat.le_refl _) ?_
              rintro κ rfl
              exact .inr (.inl rfl)
            · refine HRep.set h.heap he2 h.le (by simp) rfl hid (fun κ _ e => .inl e) r3 r4 ?_
              exact .inr (.inr ⟨a1, _, hole, rfl, by simpa using rt, rN, by simpa using rc, new, tyo, fr, hd, setRow_heap w _ arr new tyo _ q1, q2, by rw [n1]; exact q3, (q4.ext he2 (by simp)).setF hi bv n2 n3⟩)
          · cases hk'
        · cases hk'
      · rename_i i
        obtain ⟨hi, rfl, rfl⟩ := path_od1 hp
        split at hk'
        · rename_i a2 ys nl j hys
          split at hk'
          · rename_i het
            split at hk'
            · rename_i zs hzs
              obtain ⟨e2, hz⟩ := castTo_some hzs
              cases e2
              simp only at hz
              subst hz
              cases hij : decide (i = j) <;> rw [hij] at hk'
              · cases hk'
              · have hij' : i = j := by simpa using hij
                subst hij'
                have hyr := typed_rep (C := C) (i := T) (h.val y)
                rw [hys] at hyr
                obtain ⟨g1, hg1, hy, hH1, hw1, eU, eN, eμ, eo, hown, hnone⟩ := h.moveTo (C := C) y T (.cell dh id 0)
                rw [hys] at hy
                simp only [RepX] at hy hyr
                obtain ⟨A, c, hA, hlc, hrun0, _, hown0⟩ := hy
                obtain ⟨A', c', hA', _, _, _, hownA⟩ := hyr
                rw [hA] at hA'
                simp only [Value.slice.injEq, true_and] at hA'
                obtain ⟨rfl, rfl⟩ := hA'
                obtain ⟨new, n1, n2, n3, hrun⟩ := one (2 * i + 1) (.slice A (List.length ys) c) (by omega) (by rw [het]; rfl) hA rfl rfl hv
                have o1 : g1.own (g.μ dh id) = some (.obj dh id) := hown _ _ r3 rfl
                have U1 : g1.U (g.μ dh id) = 0 := by rw [eU]; exact r4
                have he2 : Ext g1 w g1 (w.setRow (g.μ dh id) new) d (fun κ => κ = .obj dh id) := Ext.setRow o1 U1 hb
                have heAll : Ext g w g1 (w.setRow (g.μ dh id) new) d (fun κ => (∃ t, y = .tmp t ∧ κ = .tmp d t) ∨ κ = .obj dh id) :=
                  (hg1.mono (Nat.le_refl _) (fun κ e => .inl e)).trans (he2.mono (Nat.le_refl _) (fun κ e => .inr e))
                have eg : List.getD xs i (false, [], ()) = xs[i] := by rw [List.getD_eq_getElem?_getD, List.getElem?_eq_getElem hi]; rfl
                rw [eg] at hk'
                have hky : keyOf d y ≠ .cell dh id 0 := by cases y <;> simp [keyOf]
                refine ⟨_, _, _, hk', fun next Q hn => wp_skip' hrun (hn undef _ g1 (by simp only [RepX]) ?_ ?_ ⟨fun b hb' => hw1.1 b (by simpa using hb'), Tabs.ext he2 hw1.2⟩)⟩
                · refine heAll.mono (Nat.le_refl _) ?_
                  rintro κ (⟨t2, rfl, rfl⟩ | rfl)
                  · refine .inl ⟨t2, rfl, .inr ?_⟩
                    cases x <;> simp [Op.operands, takenBy]
                  · exact .inr (.inl rfl)
                · refine HRep.set h.heap heAll h.le (by simp) (by rw [eN]) hid ?_ o1 U1 ?_
                  · rintro κ hκ (⟨t2, rfl, rfl⟩ | rfl)
                    · exact absurd hκ (by simp [Key.heap])
                    · exact .inl rfl
                  · have q5 : OdR g1 (w.setRow (g.μ dh id) new) (.cell dh id 0) a1 xs (some i) hd (fun k => arr[k]?) := q4.ext heAll (by rintro (⟨_, _, e⟩ | e) <;> cases e)
                    refine .inr (.inr ⟨a1, _, none, rfl, by simpa using rt, by rw [eN]; exact rN, by rw [eμ]; simpa using rc, new, tyo, fr, _, by rw [eμ]; exact setRow_heap w _ arr new tyo _ q1, q2, by rw [n1, eμ]; exact q3,
                      q5.setS hi ys A c n2 n3 hlc (hrun0.ext he2 (RepC.ext he2 a1)) ((hown0 trivial).ext he2 (by simp)) ?_⟩)
                    intro j hj hji c1 c2 hAA
                    obtain ⟨_, _, _, _, l5⟩ := q4.1 j hj
                    rcases l5 (by simpa using fun e => hji e.symm) with m0 | ⟨b', _, _, _, m1, _, _, _, _, m6⟩
                    · exact c1 m0
                    · rcases hownA trivial with m0 | ⟨b2, _, _, _, k1, _, _, _, _, k6⟩
                      · exact c2 m0
                      · rw [hAA, k1] at m1
                        simp only [Option.some.injEq, Addr.mk.injEq, and_true] at m1
                        rw [← m1, k6] at m6
                        exact hky (Option.some.inj m6)
            · cases hk'
          · cases hk'
        · cases hk'
      · cases hk'
    · rename_i t c hne hid
      have hod : ∀ a xs hole, c ≠ .od a xs hole := fun a xs hole e => hne a xs hole e
      split at hk'
      · rename_i t' c' htp hc'
        split at hk'
        · rename_i hcond
          obtain ⟨rfl, hfit⟩ := hcond
          rw [ev] at hx
          simp only [RepX] at hx
          obtain ⟨hN, o, t1, hp, hv⟩ := hx
          obtain ⟨r1, r2, hlive⟩ := h.heap.2 id t c hid
          obtain ⟨r3, r4, r56⟩ := hlive.at (setP_dead hc')
          have ht := (Ctx.ty_ok hC he).1
          obtain ⟨arr, tyo, fr, r5, rf, r6⟩ := r56.cells htp (tyB_unit ht) hod
          rw [r1] at hp
          obtain rfl := typeAt_eq hp htp
          obtain ⟨inf, z, hi, hs, _, _⟩ := tyB_info ht
          refine ⟨_, _, _, hk', fun next Q hn => ?_⟩
          obtain ⟨g1, hg1, hy, hH1, hw1, eU, eN, eμ, eo, hown, hnone⟩ := h.moveTo (C := C) y T (.cell dh id o)
          have hb : g.μ dh id < w.heap.size := (Array.getElem?_eq_some_iff.1 r5).1
          have hyo := RepO.of_fitS hfit hy
          have hlen := RepO.length _ _ _ _ hyo
          have hpl := RepO.plain _ _ _ _ hyo
          have o1 : g1.own (g.μ dh id) = some (.obj dh id) := hown _ _ r3 rfl
          have U1 : g1.U (g.μ dh id) = 0 := by rw [eU]; exact r4
          -- the cells
          have hle : o + e.t.size ≤ arr.size := by
            have h1 := pathAt_le p t o e.t hp
            have h2 := RepO.length _ _ _ _ r6
            simp at h2
            omega
          have hst := storeCells_run (P := P) (w := w) (g.μ dh id) o tyo fr (a.eval y).cells.toList 0 arr w r5 (by rw [hlen]; simpa using hle) (fun j _ l2 => frozen_open r5 rf (by rw [hlen] at l2; omega)) hpl
          simp only [Nat.add_zero] at hst
          have hrun : (execOp a.eval ⟨dst, .store T x y, ty, pos, af, gd⟩).run P w = .ok .skip (w.setRow (g.μ dh id) (arr.toList.take o ++ (a.eval y).cells.toList ++ arr.toList.drop (o + (a.eval y).cells.toList.length)).toArray) := by
            have hsz : (a.eval y).cells.size = inf.size := by rw [hs, ← hlen]; simp
            simp only [execOp, Sem.run_bind, Instr.storeAt, hv, Instr.sureAddr, Sem.run_pure, Result.andThen_ok, storeVar, sizeOf, typeInfo, run_program, hi, hsz, ne_eq, not_true_eq_false, if_false, hst]
          generalize hnew : (arr.toList.take o ++ (a.eval y).cells.toList ++ arr.toList.drop (o + (a.eval y).cells.toList.length)).toArray = new at hrun
          have he2 : Ext g1 w g1 (w.setRow (g.μ dh id) new) d (fun κ => κ = .obj dh id) := Ext.setRow o1 U1 hb
          have he : Ext g w g1 (w.setRow (g.μ dh id) new) d (fun κ => (∃ t, y = .tmp t ∧ κ = .tmp d t) ∨ κ = .obj dh id) :=
            (hg1.mono (Nat.le_refl _) (fun κ e => .inl e)).trans (he2.mono (Nat.le_refl _) (fun κ e => .inr e))
          have hyo2 : RepO g1 (w.setRow (g.μ dh id) new) dh id (layX (typed C T (st.val y))) e.t (0 + o) (a.eval y).cells.toList := by
            rw [Nat.zero_add]
            exact RepO.ext he2 h.le (by simp) _ _ _ _ (fun _ _ _ => by simp) hyo
          refine wp_skip' hrun (hn undef (w.setRow (g.μ dh id) new) g1 (by simp only [RepX]) ?_ ?_ ?_)
          · refine he.mono (Nat.le_refl _) ?_
            rintro κ (⟨t2, rfl, rfl⟩ | rfl)
            · refine .inl ⟨t2, rfl, .inr ?_⟩
              cases x <;> simp [Op.operands, takenBy]
            · exact .inr (.inl rfl)
          · refine HRep.set h.heap he h.le (by simp) (by rw [eN]) hid ?_ o1 U1 ?_
            · rintro κ hκ (⟨t2, rfl, rfl⟩ | rfl)
              · exact absurd hκ (by simp [Key.heap])
              · exact .inl rfl
            · obtain ⟨pre, mid, post, f1, f2, f3, f4⟩ := RepO.set he h.le (by simp) p c t 0 o _ e.t _ c' _ r2 r6 hp hc' (fun o' _ _ k => by rcases k with ⟨_, _, k⟩ | k <;> cases k) hyo2
              have hall : arr.toList = pre ++ mid ++ (post ++ arr.toList.drop t.size) := by
                rw [← List.append_assoc, ← f1, List.take_append_drop]
              have hnl : new.toList = pre ++ (a.eval y).cells.toList ++ (post ++ arr.toList.drop t.size) := by
                rw [← hnew]
                simp only []
                rw [hlen, ← f3, ← f2]
                generalize arr.toList.drop t.size = rest at hall
                rw [hall]
                congr 1
                · congr 1
                  rw [List.append_assoc]
                  exact List.take_left
                · rw [show pre.length + mid.length = (pre ++ mid).length by simp]
                  exact List.drop_left
              have hsz : new.size = arr.size := by
                rw [← Array.length_toList, hnl, ← Array.length_toList (xs := arr)]
                conv => rhs; rw [hall]
                simp only [List.length_append, hlen, f3]
              refine .inl ⟨new, tyo, fr, by rw [show g1.μ dh id = g.μ dh id by rw [eμ]]; exact setRow_heap w _ arr new tyo _ r5, by rw [hsz]; exact rf, ?_⟩
              have : new.toList.take t.size = pre ++ (a.eval y).cells.toList ++ post := by
                have h2 := RepO.length _ _ _ _ r6
                rw [f1] at h2
                rw [hnl, ← List.append_assoc]
                exact List.take_left' (by simp only [List.length_append, hlen] at h2 ⊢; omega)
              rw [this]
              exact f4
          · refine ⟨fun b hb' => ?_, Tabs.ext he2 hw1.2⟩
            exact hw1.1 b (by simpa using hb')
        · cases hk'
      · cases hk'
    · cases hk'
  · cases hk'

end
end Go.Proofs.Ytnbfiifkaddehaa.V

/- What the evaluator tells is so: variables made; literals; appends; lengths. -/
namespace Go.Proofs.Ytnbfiifkaddehaa.V
open Go
set_option linter.unusedVariables false
set_option linter.unusedSimpArgs false

section
variable {P : Program} {C : Ctx} {dst : Option Nat} {ty : Nat} {pos : String} {af : Array Edge} {gd : Option (Nat × Bool)}

mutual
theorem zeroX_rep {g w} {dh id : Nat} : ∀ (t : Ty) (x : t.den) (off : Nat), zB t x = true → good t = true → RepO g w dh id (zeroX t x) t off (zcells t x)
  | .struct c, x, off, h, hg => by
    simp only [zeroX, RepO, zcells]
    simp only [good, Bool.and_eq_true] at hg
    exact zeroXs_rep c x off h hg.1 hg.2
  | .slice e, x, off, h, _ => by
    simp only [zeroX, RepO, zcells]
    refine ⟨trivial, _, rfl, ?_⟩
    simp only [RepX]
    exact ⟨none, 0, rfl, Nat.le_refl _, Run.nil, (fun b hb => by simpa using hb), (fun _ => .inl rfl)⟩
  | .int _, x, off, h, _ => by simp only [zeroX, RepO]; exact ⟨trivial, zcells_rep _ x h⟩
  | .bool, x, off, h, _ => by simp only [zeroX, RepO]; exact ⟨trivial, zcells_rep _ x h⟩
  | .str, x, off, h, _ => by simp only [zeroX, RepO]; exact ⟨trivial, zcells_rep _ x h⟩
  | .any, x, off, h, _ => by simp only [zeroX, RepO]; exact ⟨trivial, zcells_rep _ x h⟩
  | .err, x, off, h, _ => by simp only [zeroX, RepO]; exact ⟨trivial, zcells_rep _ x h⟩
  | .arr _ _, x, off, h, _ => by simp only [zeroX, RepO]; exact ⟨trivial, zcells_rep _ x h⟩
  | .unit, x, off, h, _ => by simp only [zeroX, RepO]; exact ⟨trivial, zcells_rep _ x h⟩
  | .prod _ _, x, off, h, _ => by simp only [zeroX, RepO]; exact ⟨trivial, zcells_rep _ x h⟩
theorem zeroXs_rep {g w} {dh id : Nat} : ∀ (c : Ty) (x : c.den) (off : Nat), zB c x = true → chain c = true → good c = true → RepOs g w dh id (zeroX.zeroXs c x) c off (zcells c x)
  | .unit, x, off, h, _, _ => by simp only [zeroX.zeroXs, RepOs]; exact ⟨trivial, rfl⟩
  | .prod a b, x, off, h, hc, hg => by
    simp only [zB, Bool.and_eq_true] at h
    simp only [good, Bool.and_eq_true] at hg
    simp only [zeroX.zeroXs, RepOs, zcells]
    exact ⟨_, _, rfl, zeroX_rep a x.1 off h.1 hg.1, zeroXs_rep b x.2 _ h.2 hc hg.2⟩
  | .int _, _, _, _, hc, _ | .bool, _, _, _, hc, _ | .str, _, _, _, hc, _ | .any, _, _, _, hc, _ | .err, _, _, _, hc, _ | .slice _, _, _, _, hc, _ | .arr _ _, _, _, _, hc, _ | .struct _, _, _, _, hc, _ => by cases hc
end

mutual
theorem tyB_good {P : Program} : ∀ (t : Ty) (i : Nat), tyB P t i = true → good t = true
  | .int _, _, _ => rfl
  | .bool, _, _ => rfl
  | .str, _, _ => rfl
  | .any, _, _ => rfl
  | .err, _, _ => rfl
  | .slice e, i, h => by obtain ⟨ei, _, h, _⟩ := tyB_slice h; exact tyB_good e ei h
  | .arr n e, i, h => by obtain ⟨ei, _, h⟩ := tyB_arr h; exact tyB_good e ei h
  | .struct c, i, h => by
    obtain ⟨fs, _, h⟩ := tyB_struct h
    simp only [good, Bool.and_eq_true]
    exact ⟨chB_chain c _ _ h, chB_good c _ _ h⟩
  | .unit, _, h => by simp [tyB] at h
  | .prod _ _, _, h => by simp [tyB] at h
theorem chB_good {P : Program} : ∀ (c : Ty) (fs : List Field) (off : Nat), chB P c fs off = true → good c = true
  | .unit, _, _, _ => rfl
  | .prod a b, [], _, h => by simp [chB] at h
  | .prod a b, f :: fs, off, h => by
    simp only [chB, Bool.and_eq_true] at h
    simp only [good, Bool.and_eq_true]
    exact ⟨tyB_good a _ h.1.2, chB_good b fs _ h.2⟩
  | .int _, _, _, h | .bool, _, _, h | .str, _, _, h | .any, _, _, h | .err, _, _, h | .slice _, _, _, h | .arr _ _, _, _, h | .struct _, _, _, h => by simp [chB] at h
end

/-- A new variable that has an address. -/
def Ghost.var (g : Ghost) (b dh : Nat) (t : Ty) : Ghost :=
  { U := g.U
    own := fun x => if x = b then some (.obj dh (g.N dh)) else g.own x
    N := fun h => if h = dh then g.N dh + 1 else g.N h
    μ := fun h id => if h = dh ∧ id = g.N dh then b else g.μ h id
    oty := fun h id => if h = dh ∧ id = g.N dh then t else g.oty h id }

theorem Ext.var {g w} {d dh : Nat} {K : Key → Prop} (hw : WF g w) (o : Obj) (t : Ty) (hK : K (.obj dh (g.N dh))) : Ext g w (g.var w.heap.size dh t) { w with heap := w.heap.push o } d K where
  os := rfl
  tape := rfl
  output := rfl
  size := by simp
  keep b hb _ := ⟨by simp [Array.getElem?_push, Nat.ne_of_lt hb], by simp [Ghost.var, Nat.ne_of_lt hb], rfl⟩
  cells b off ho := ⟨cell_push (hw.lt ho), ho⟩
  mu h _ id hid := by
    by_cases hh : h = dh
    · subst hh
      have : id ≠ g.N h := by omega
      simp [Ghost.var, this]; omega
    · simp [Ghost.var, hh, hid]
  num h hn := by
    by_cases hh : h = dh
    · subst hh
      exact absurd hK (hn _ rfl)
    · simp [Ghost.var, hh]

theorem HRep.push {g w} {dh : Nat} {H : Hp} {t : Ty} {c : X} {o : Obj} (h : HRep g w dh H) (hw : WF g w) (hg : good t = true)
    (hc : HAt (g.var w.heap.size dh t) { w with heap := w.heap.push o } dh (g.N dh) t c) :
    HRep (g.var w.heap.size dh t) { w with heap := w.heap.push o } dh (H ++ [(t, c)]) := by
  have he : Ext g w (g.var w.heap.size dh t) { w with heap := w.heap.push o } dh (fun κ => κ = .obj dh (g.N dh)) := Ext.var hw _ t rfl
  refine ⟨by simp [h.1, Ghost.var], fun i ti ci e => ?_⟩
  by_cases hi : i < H.length
  · rw [List.getElem?_append_left hi] at e
    obtain ⟨r1, r2, r3⟩ := h.2 i ti ci e
    have hidN : i < g.N dh := by rw [← h.1]; exact hi
    obtain ⟨k1, k2, k3⟩ := he.mu dh (Nat.le_refl _) i hidN
    exact ⟨k3.trans r1, r2, r3.to he (Nat.le_refl _) (by simp) (fun _ => by simp) (by simp; omega) k2⟩
  · have hi2 : i = H.length := by
      have := (List.getElem?_eq_some_iff.1 e).1
      simp at this; omega
    subst hi2
    simp only [List.getElem?_concat_length, Option.some.injEq, Prod.mk.injEq] at e
    obtain ⟨rfl, rfl⟩ := e
    have hN : H.length = g.N dh := h.1
    rw [hN]
    refine ⟨by simp [Ghost.var], hg, .inr ⟨by simp [Ghost.var], ?_, hc⟩⟩
    simp only [Ghost.var]
    simp
    exact (hw.1 _ (Nat.le_refl _)).2

theorem HRep.var {g w} {d dh : Nat} {H : Hp} {t : Ty} {c : X} {arr : Array Value} {T : Nat} (h : HRep g w dh H) (hw : WF g w) (hg : good t = true)
    (hc : RepO (g.var w.heap.size dh t) { w with heap := w.heap.push (.cells arr T) } dh (g.N dh) c t 0 arr.toList) :
    HRep (g.var w.heap.size dh t) { w with heap := w.heap.push (.cells arr T) } dh (H ++ [(t, c)]) :=
  h.push hw hg (.inl ⟨arr, T, (0, 0), by simp [Ghost.var], .inl rfl, by
    rw [List.take_of_length_le (Nat.le_of_eq (RepO.length _ _ _ _ hc))]
    exact hc⟩)

theorem WF.var {g w} (hw : WF g w) (o : Obj) (dh : Nat) (t : Ty) : WF (g.var w.heap.size dh t) { w with heap := w.heap.push o } := by
  refine ⟨?_, Tabs.ext (Ext.var (d := 0) (dh := dh) (K := fun _ => True) hw o t trivial) hw.2⟩
  intro b hb
  simp only [Array.size_push] at hb
  have hne : b ≠ w.heap.size := by omega
  obtain ⟨h1, h2⟩ := hw.1 b (by omega)
  simp [Ghost.var, hne, h1, h2]

theorem info_zero {e : TyE} {i : Nat} (h : e.ok P i) : ∃ inf, P.info? i = some inf ∧ inf.zero = some (zval e.t e.z) ∧ inf.size = e.t.size ∧ inf.bytes = e.bytes := by
  obtain ⟨h1, h2, _, _⟩ := h
  obtain ⟨inf, z, hi, hs, hz, _⟩ := tyB_info h1
  rw [hi] at h2
  simp only [Option.map_some, Option.some.injEq, Prod.mk.injEq] at h2
  exact ⟨inf, hi, h2.1, hs, h2.2⟩

theorem zval_cells {t : Ty} {x : t.den} (h : zB t x = true) : (zval t x).cells.toList = zcells t x := by
  have hr := zcells_rep (w := default) (g := ⟨fun _ => 0, fun _ => none, fun _ => 0, fun _ _ => 0, fun _ _ => .unit⟩) t x h
  have : IsVal t (zcells t x) (zval t x) := isVal_valOf hr
  exact this.cells' hr

theorem core_alloc (hC : TysOk P C.tys) (T : Nat) : CoreOk P C ⟨dst, .alloc T, ty, pos, af, gd⟩ := by
  intro R tr g w d dh st a h k r hk
  have hk' : (match C.ty T with
    | some e => k (.ptr st.H.length []) [] (st.H ++ [(e.t, zeroX e.t e.z)])
    | none => none) = some r := hk
  split at hk'
  · rename_i e he
    have hok := Ctx.ty_ok hC he
    obtain ⟨inf, hi, hz, hs, _⟩ := info_zero hok
    have hzB := hok.2.2.1
    have hg := tyB_good _ _ hok.1
    refine ⟨_, _, _, hk', fun next Q hn => ?_⟩
    have hrun : (execOp a.eval ⟨dst, .alloc T, ty, pos, af, gd⟩).run P w = .ok (.value (.pointer (some ⟨w.heap.size, 0, none⟩))) { w with heap := w.heap.push (.cells (zval e.t e.z).cells T) } := by
      simp only [execOp, Sem.run_bind, Instr.alloc, zeroValue, typeInfo, run_program, Result.andThen_ok, hi, Sem.run_pure, hz, newVar, newRow, run_newObj]
    have hN : st.H.length = g.N dh := h.heap.1
    refine wp_value hrun (hn _ _ (g.var w.heap.size dh e.t) ?_ (Ext.var h.wf _ _ (.inr (.inl rfl))) (HRep.var (d := d) h.heap h.wf hg ?_) (h.wf.var _ _ _))
    · simp only [RepX]
      rw [hN]
      exact ⟨by simp [Ghost.var], 0, e.t, by simp [Ghost.var, pathAt], by simp [Ghost.var]⟩
    · rw [zval_cells hzB]
      exact zeroX_rep _ _ _ hzB hg
  · cases hk'

theorem core_box (hC : TysOk P C.tys) (T : Nat) (x : Operand) : CoreOk P C ⟨dst, .box T x, ty, pos, af, gd⟩ := by
  intro R tr g w d dh st a h k r hk
  have hk' : (match C.ty T with
    | some e => if fitO (typed C T (st.val x)) e.t then k (.ptr st.H.length []) [true] (st.H ++ [(e.t, typed C T (st.val x))]) else none
    | none => none) = some r := hk
  split at hk'
  · rename_i e he
    split at hk'
    · rename_i hfit
      have hok := Ctx.ty_ok hC he
      have hg := tyB_good _ _ hok.1
      refine ⟨_, _, _, hk', fun next Q hn => ?_⟩
      have hrun : (execOp a.eval ⟨dst, .box T x, ty, pos, af, gd⟩).run P w = .ok (.value (.pointer (some ⟨w.heap.size, 0, none⟩))) { w with heap := w.heap.push (.cells (a.eval x).cells T) } := by
        simp only [execOp, Sem.run_bind, Instr.box, newVar, newRow, run_newObj, Sem.run_pure, Result.andThen_ok]
      obtain ⟨g1, hg1, hy, hH1, hw1, eU, eN, eμ, eo, hown, hnone⟩ := h.moveTo (C := C) x T (.cell dh (g.N dh) 0)
      have hN : st.H.length = g1.N dh := hH1.1
      have he2 : Ext g1 w (g1.var w.heap.size dh e.t) { w with heap := w.heap.push (.cells (a.eval x).cells T) } d (fun κ => κ = .obj dh (g1.N dh)) := Ext.var hw1 _ _ rfl
      refine wp_value hrun (hn _ _ (g1.var w.heap.size dh e.t) ?_ ?_ (HRep.var (d := d) hH1 hw1 hg ?_) (hw1.var _ _ _))
      · simp only [RepX]
        rw [hN]
        exact ⟨by simp [Ghost.var], 0, e.t, by simp [Ghost.var, pathAt], by simp [Ghost.var]⟩
      · refine (hg1.mono (Nat.le_refl _) ?_).trans (he2.mono (Nat.le_refl _) (fun κ e => e ▸ .inr (.inl rfl)))
        rintro κ ⟨t, rfl, rfl⟩
        exact .inl ⟨t, rfl, .inr (by simp [Op.operands, takenBy])⟩
      · rw [eN]
        exact RepO.ext he2 h.le (by simp) _ _ _ _ (fun _ _ _ => by simp) (RepO.of_fit hfit hy)
    · cases hk'
  · cases hk'

/-- A walk over a string begins. -/
theorem core_range (hC : TysOk P C.tys) (T : Nat) (x : Operand) : CoreOk P C ⟨dst, .range T x, ty, pos, af, gd⟩ := by
  intro R tr g w d dh st a h k r hk
  have hk' : (match C.ty T, st.val x with
    | some ⟨.str, _, _, _⟩, .d .str s => k (.ptr st.H.length []) [] (st.H ++ [(.unit, iterX s 0)])
    | _, _ => none) = some r := hk
  have hx := h.val x
  split at hk'
  · rename_i _ _ _ s he ev
    rw [ev, RepX.str_iff] at hx
    have hu := tyB_str (Ctx.ty_ok hC he).1
    refine ⟨_, _, _, hk', fun next Q hn => ?_⟩
    have hrun : (execOp a.eval ⟨dst, .range T x, ty, pos, af, gd⟩).run P w = .ok (.value (.pointer (some ⟨w.heap.size, 0, none⟩))) { w with heap := w.heap.push (.stringIter s 0) } := by
      simp only [execOp, Sem.run_bind, hx, Instr.range, run_underlying hu, Result.andThen_ok, Sem.run_pure, run_newObj]
    have hid : g.N dh < (g.var w.heap.size dh .unit).N dh := by simp [Ghost.var]
    refine wp_value hrun (hn _ _ (g.var w.heap.size dh .unit) ?_ (Ext.var h.wf _ _ (.inr (.inl rfl))) (HRep.push h.heap h.wf rfl ?_) (h.wf.var _ _ _))
    · simp only [RepX]
      rw [h.heap.1]
      exact ⟨hid, 0, .unit, by simp [pathAt, Ghost.var], by simp [Ghost.var]⟩
    · exact .inr (.inl ⟨rfl, _, by simp [Ghost.var], s, 0, rfl, rfl⟩)
  · cases hk'

theorem Ext.setObj {g w} {d : Nat} {b : Nat} {o : Obj} {κ : Key} (ho : g.own b = some κ) (hU : g.U b = 0) (hb : b < w.heap.size) : Ext g w g { w with heap := w.heap.setIfInBounds b o } d (fun x => x = κ) where
  os := rfl
  tape := rfl
  output := rfl
  size := by simp
  keep i hi hk := by
    have hne : i ≠ b := by
      rintro rfl
      exact hk κ ho rfl
    exact ⟨by simp [Array.getElem?_setIfInBounds, Ne.symm hne], rfl, rfl⟩
  cells i off ho' := by
    have hne : i ≠ b := by
      rintro rfl
      omega
    exact ⟨World.cell?_of_block (a := ⟨i, off, none⟩) (by simp [Array.getElem?_setIfInBounds, Ne.symm hne]), ho'⟩
  mu _ _ _ h := ⟨h, rfl, rfl⟩
  num _ _ := rfl

/-- A walk over a string goes on. -/
theorem core_next (x : Operand) (str : Bool) : CoreOk P C ⟨dst, .next x str, ty, pos, af, gd⟩ := by
  intro R tr g w d dh st a h k r hk
  have hk' : (if str = true then match st.val x with
    | .ptr id [] => match st.H[id]? with
      | some (.unit, .tup [.d .str s, .d (.int .i64) p]) => bif decide (p < (s.size : Int)) then k (.tup [.d .bool true, .d (.int .i64) p, .d (.int .i32) (runeAt s p)]) [] (st.H.set id (.unit, iterX s (p + widthAt s p)))
          else k (.tup [.d .bool false]) [] st.H
      | _ => none
    | _ => none
    else none) = some r := hk
  have hx := h.val x
  split at hk'
  · rename_i hstr
    subst hstr
    split at hk'
    · rename_i id ev
      rw [ev] at hx
      simp only [RepX] at hx
      obtain ⟨hN, o, t1, hp, hv⟩ := hx
      split at hk'
      · rename_i s p hid
        obtain ⟨r1, r2, hlive⟩ := h.heap.2 id _ _ hid
        obtain ⟨r3, r4, r5⟩ := hlive.unit
        rw [r1] at hp
        simp only [pathAt, Option.some.injEq, Prod.mk.injEq] at hp
        obtain ⟨rfl, rfl⟩ := hp
        have hit : ∃ n : Nat, p = n ∧ w.heap[g.μ dh id]? = some (.stringIter s n) := by
          rcases r5 with ⟨arr, tyo, fr, r5, rf, r6⟩ | ⟨_, ob, r5, s', n, e1, rfl⟩ | ⟨_, _, _, e1, _⟩
          · simp [RepO] at r6
          · simp only [iterX, X.tup.injEq, List.cons.injEq, X.d.injEq, heq_eq_eq, true_and, and_true] at e1
            obtain ⟨rfl, rfl⟩ := e1
            exact ⟨n, rfl, r5⟩
          · cases e1
        obtain ⟨n, rfl, hob⟩ := hit
        have hb : g.μ dh id < w.heap.size := (Array.getElem?_eq_some_iff.1 hob).1
        cases hlt : decide ((n : Int) < (s.size : Int)) with
        | true =>
          rw [hlt] at hk'
          have hlt' : n < s.size := by simpa using hlt
          refine ⟨_, _, _, hk', fun next Q hn => ?_⟩
          have hrun : (execOp a.eval ⟨dst, .next x true, ty, pos, af, gd⟩).run P w = .ok (.value (.tuple #[.bool true, .int .i64 n, .int .i32 (runeAt s n)])) { w with heap := w.heap.setIfInBounds (g.μ dh id) (.stringIter s (n + (Utf8.decode s n).2)) } := by
            have e1 : (getObj (g.μ dh id)).run P w = .ok (.stringIter s n) w := by simp [getObj, Sem.run, hob]
            have e2 : ∀ o, o = .stringIter s (n + (Utf8.decode s n).2) → (setObj (g.μ dh id) o).run P w = .ok () { w with heap := w.heap.setIfInBounds (g.μ dh id) o } := by
              rintro o rfl
              simp [setObj, Sem.run, hob]
            simp [execOp, hv, Instr.next, e1, e2, hlt', goInt, runeAt]
          have he : Ext g w g { w with heap := w.heap.setIfInBounds (g.μ dh id) (.stringIter s (n + (Utf8.decode s n).2)) } d (fun x => x = .obj dh id) := Ext.setObj r3 r4 hb
          refine wp_value hrun (hn _ _ g ?_ (he.mono (Nat.le_refl _) ?_) (HRep.set h.heap he h.le (by simp) rfl hid ?_ r3 r4 ?_) ⟨fun b hb' => ?_, Tabs.ext he h.wf.2⟩)
          · simp only [RepX]
            refine ⟨[.bool true, .int .i64 n, .int .i32 (runeAt s n)], rfl, ?_⟩
            simp only [RepXs]
            exact ⟨_, _, rfl, RepX.bool_iff.2 rfl, _, _, rfl, RepX.int_iff.2 rfl, _, _, rfl, RepX.int_iff.2 rfl, rfl⟩
          · rintro κ rfl
            exact .inr (.inl rfl)
          · rintro κ _ rfl
            exact .inl rfl
          · refine .inr (.inl ⟨rfl, _, ?_, s, n + (Utf8.decode s n).2, ?_, rfl⟩)
            · simp [hb]
            · simp [widthAt]
          · exact h.wf.1 b (by simpa using hb')
        | false =>
          rw [hlt] at hk'
          have hlt' : ¬ n < s.size := by simpa using hlt
          refine ⟨_, _, _, hk', OpWp.same h (val := .tuple #[.bool false]) ?_ ?_⟩
          · simp [execOp, hv, Instr.next, getObj, Sem.run, hob, Result.andThen, hlt']
          · simp only [RepX]
            refine ⟨[.bool false], rfl, ?_⟩
            simp only [RepXs]
            exact ⟨_, _, rfl, RepX.bool_iff.2 rfl, rfl⟩
      · cases hk'
    · cases hk'
  · cases hk'

end
end Go.Proofs.Ytnbfiifkaddehaa.V

/- What the evaluator tells is so: maps. -/
namespace Go.Proofs.Ytnbfiifkaddehaa.V
open Go
set_option linter.unusedVariables false
set_option linter.unusedSimpArgs false

/-- What is to be known of the maps' types. -/
def MpOk (P : Program) (Mp : Nat → Option (Σ k : Ty, Σ v : Ty, v.den)) : Prop := ∀ T m, Mp T = some m → ∃ ki ei inf, P.underlying T = some (.map ki ei) ∧ tyB P m.1 ki = true ∧ eqB P m.1 ki = true ∧ m.1.deep ≤ 10000 ∧
  tyB P m.2.1 ei = true ∧ P.info? ei = some inf ∧ inf.zero = some (zval m.2.1 m.2.2) ∧ zB m.2.1 m.2.2 = true

theorem toD_val {g w} {dh : Nat} {κ : Key} {t : Ty} {x : X} {v : Value} {y : t.den} (h : RepX g w dh κ x v) (e : toD t x = some y) : ∃ cs, RepC w g t y cs ∧ v = valOf t cs := by
  have one : ∀ (t : Ty) (cs : List Value) (v : Value), IsVal t cs v → v = valOf t cs := by
    intro t cs v h
    unfold IsVal at h
    unfold valOf
    split at h
    · rename_i ha; rw [if_pos ha]; exact h
    · rename_i ha; rw [if_neg ha, h]; rfl
  cases x
  case d t' x =>
    have e' : castTo t' t x = some y := by
      cases t <;> simpa only [V.toD] using e
    obtain ⟨rfl, rfl⟩ := castTo_some e'
    simp only [RepX] at h
    obtain ⟨cs, h1, h2⟩ := h
    exact ⟨cs, h1, one _ _ _ h2⟩
  case sl e0 xs nl own =>
    simp only [RepX] at h
    obtain ⟨a, c, rfl, h2, h3, _⟩ := h
    cases t <;> simp only [V.toD] at e <;> try (cases e; done)
    obtain ⟨e1, rfl⟩ := castTo_some e
    cases e1
    exact ⟨_, ⟨a, c, rfl, h2, h3⟩, rfl⟩
  case nils =>
    simp only [RepX] at h
    subst h
    cases t <;> simp only [V.toD] at e <;> try (cases e; done)
    cases e
    exact ⟨_, ⟨none, 0, rfl, Nat.le_refl _, fun i hi => absurd hi (by simp)⟩, rfl⟩
  case agg xs => simp [RepX] at h
  all_goals (cases t <;> simp [V.toD] at e)

/-- A cell of a key. -/
def Simple (v : Value) : Prop := (∃ k a, v = .int k a) ∨ (∃ b, v = .bool b) ∨ ∃ s, v = .string s

theorem eq_cells {P : Program} {w : World} {g : Ghost} : ∀ t : Ty,
    (∀ (T : Nat) (x y : t.den) (cx cy : List Value), tyB P t T = true → eqB P t T = true → RepC w g t x cx → RepC w g t y cy → (∀ v ∈ cx, Simple v) ∧ (eqD t x y = true → cx = cy)) ∧
    (∀ (fs : List Field) (off : Nat) (x y : t.den) (cx cy : List Value), chB P t fs off = true → eqBs P t fs = true → RepC w g t x cx → RepC w g t y cy → (∀ v ∈ cx, Simple v) ∧ (eqD t x y = true → cx = cy)) := by
  intro t
  induction t with
  | int k =>
    refine ⟨fun T x y cx cy _ _ hx hy => ?_, fun fs off x y cx cy hc => by simp [chB] at hc⟩
    cases hx; cases hy
    exact ⟨fun v hv => .inl ⟨_, _, List.mem_singleton.1 hv⟩, fun e => by rw [show x = y from by simpa [eqD] using e]⟩
  | bool =>
    refine ⟨fun T x y cx cy _ _ hx hy => ?_, fun fs off x y cx cy hc => by simp [chB] at hc⟩
    cases hx; cases hy
    exact ⟨fun v hv => .inr (.inl ⟨_, List.mem_singleton.1 hv⟩), fun e => by rw [show x = y from by simpa [eqD] using e]⟩
  | str =>
    refine ⟨fun T x y cx cy _ _ hx hy => ?_, fun fs off x y cx cy hc => by simp [chB] at hc⟩
    cases hx; cases hy
    refine ⟨fun v hv => .inr (.inr ⟨_, List.mem_singleton.1 hv⟩), fun e => ?_⟩
    have e1 : (x : ByteArray).toList = (y : ByteArray).toList := by simpa [eqD] using e
    have e3 : ∀ x y : ByteArray, x.toList = y.toList → x = y := by
      intro x y h
      rw [ByteArray.toList_eq, ByteArray.toList_eq] at h
      obtain ⟨⟨x⟩⟩ := x
      obtain ⟨⟨y⟩⟩ := y
      simpa using h
    rw [e3 x y e1]
  | any => exact ⟨fun T x y cx cy ht he => by simp [eqB] at he, fun fs off x y cx cy hc => by simp [chB] at hc⟩
  | err => exact ⟨fun T x y cx cy ht he => by simp [eqB] at he, fun fs off x y cx cy hc => by simp [chB] at hc⟩
  | slice e _ => exact ⟨fun T x y cx cy ht he => by simp [eqB] at he, fun fs off x y cx cy hc => by simp [chB] at hc⟩
  | unit =>
    refine ⟨fun T x y cx cy ht he => by simp [eqB] at he, fun fs off x y cx cy hc he hx hy => ?_⟩
    cases hx; cases hy
    exact ⟨fun v hv => by simp at hv, fun _ => rfl⟩
  | prod a b iha ihb =>
    refine ⟨fun T x y cx cy ht he => by simp [eqB] at he, fun fs off x y cx cy hc he hx hy => ?_⟩
    cases fs with
    | nil => simp [chB] at hc
    | cons f rest =>
      simp only [chB, eqBs, Bool.and_eq_true, beq_iff_eq, bne_iff_ne] at hc he
      obtain ⟨⟨h1, h2⟩, h3⟩ := hc
      obtain ⟨e1, e2, e3⟩ := he
      obtain ⟨c1, c2, rfl, x1, x2⟩ := hx
      obtain ⟨c3, c4, rfl, y1, y2⟩ := hy
      obtain ⟨q1, q2⟩ := iha.1 f.type x.1 y.1 c1 c3 h2 e2 x1 y1
      obtain ⟨q3, q4⟩ := ihb.2 rest _ x.2 y.2 c2 c4 h3 e3 x2 y2
      refine ⟨fun v hv => ?_, fun e => ?_⟩
      · rcases List.mem_append.1 hv with hv | hv
        · exact q1 v hv
        · exact q3 v hv
      · have e' : (eqD a x.1 y.1 && eqD b x.2 y.2) = true := e
        rw [Bool.and_eq_true] at e'
        rw [q2 e'.1, q4 e'.2]
  | struct c ih =>
    refine ⟨fun T x y cx cy ht he hx hy => ?_, fun fs off x y cx cy hc => by simp [chB] at hc⟩
    obtain ⟨fs, hu, hc⟩ := tyB_struct ht
    simp only [eqB, hu, Bool.and_eq_true, Bool.not_eq_true'] at he
    exact ih.2 fs.toList 0 x y cx cy hc he.2 hx hy
  | arr n e ih =>
    refine ⟨fun T x y cx cy ht he hx hy => ?_, fun fs off x y cx cy hc => by simp [chB] at hc⟩
    obtain ⟨ei, hu, hte⟩ := tyB_arr ht
    simp only [eqB, hu] at he
    obtain ⟨lx, px⟩ := hx
    obtain ⟨ly, py⟩ := hy
    have key : ∀ (x y : List e.den) (cx cy : List Value), x.length = y.length → Parts (RepC w g e) x cx → Parts (RepC w g e) y cy → (∀ v ∈ cx, Simple v) ∧ (eqD.eqL (eqD e) x y = true → cx = cy) := by
      intro x
      induction x with
      | nil =>
        intro y cx cy hl hx hy
        have : y = [] := List.eq_nil_of_length_eq_zero (by simpa using hl.symm)
        subst this
        cases hx; cases hy
        exact ⟨fun v hv => by simp at hv, fun _ => rfl⟩
      | cons x xs ihx =>
        intro y cx cy hl hx hy
        match y, hl with
        | y :: ys, hl =>
          obtain ⟨c1, c2, rfl, x1, x2⟩ := hx
          obtain ⟨c3, c4, rfl, y1, y2⟩ := hy
          obtain ⟨q1, q2⟩ := ih.1 ei x y c1 c3 hte he x1 y1
          obtain ⟨q3, q4⟩ := ihx ys c2 c4 (by simpa using hl) x2 y2
          refine ⟨fun v hv => ?_, fun e' => ?_⟩
          · rcases List.mem_append.1 hv with hv | hv
            · exact q1 v hv
            · exact q3 v hv
          · have e'' : (eqD e x y && eqD.eqL (eqD e) xs ys) = true := e'
            rw [Bool.and_eq_true] at e''
            rw [q2 e''.1, q4 e''.2]
    have := key x y cx cy (lx.trans ly.symm) px py
    exact ⟨this.1, fun e' => this.2 (by simpa [eqD] using e')⟩

theorem sameBits_simple {n : Nat} {v : Value} (h : Simple v) : Instr.sameBits n v v = true := by
  rcases h with ⟨k, a, rfl⟩ | ⟨b, rfl⟩ | ⟨s, rfl⟩
  · simp [Instr.sameBits]
  · simp [Instr.sameBits]
  · simp [Instr.sameBits, beq_toListBytes]

theorem sameBits_val {t : Ty} {cs : List Value} (h : ∀ v ∈ cs, Simple v) (hne : t.isAgg = false → cs ≠ []) : Instr.sameBits 10000 (valOf t cs) (valOf t cs) = true := by
  unfold valOf
  split
  · rw [show (10000 : Nat) = 9999 + 1 from rfl, Instr.sameBits]
    simp only [beq_self_eq_true, Bool.true_and, List.all_eq_true]
    intro p hp
    obtain ⟨x, y⟩ := p
    have h1 := List.of_mem_zip hp
    have h2 : x = y := by
      rw [List.zip_eq_zipWith, List.mem_iff_getElem] at hp
      obtain ⟨i, hi, e⟩ := hp
      simp at e
      rw [← e.1, ← e.2]
    subst h2
    exact sameBits_simple (h x (by simpa using h1.1))
  · rename_i ha
    match cs, hne (by simpa using ha) with
    | [], h => exact absurd rfl h
    | v :: cs, _ => exact sameBits_simple (h v (by simp))

theorem ck_run {P : Program} {w : World} {g : Ghost} (em : Bool) : ∀ t : Ty,
    (∀ (T : Nat) (x : t.den) (cx : List Value), tyB P t T = true → eqB P t T = true → RepC w g t x cx → ∀ d, t.deep ≤ d → (Instr.checkKey em d T (valOf t cx)).run P w = .ok () w) ∧
    (∀ (fs : List Field) (off : Nat) (x : t.den) (px cx : List Value), chB P t fs off = true → eqBs P t fs = true → RepC w g t x cx → px.length = off → ∀ d, t.deep ≤ d →
      (forIn fs PUnit.unit fun f r => if f.name ≠ "_" then (do Instr.checkKey em d f.type (← part f.type (px ++ cx).toArray f.offset); pure (ForInStep.yield PUnit.unit) : Sem (ForInStep PUnit)) else pure (ForInStep.yield PUnit.unit) : Sem PUnit).run P w = .ok PUnit.unit w) := by
  intro t
  induction t with
  | int k =>
    refine ⟨fun T x cx ht _ hx d hd => ?_, fun fs off x px cx hc => by simp [chB] at hc⟩
    cases hx
    obtain ⟨d, rfl⟩ : ∃ d', d = d' + 1 := ⟨d - 1, by simp [Ty.deep] at hd; omega⟩
    simp [Instr.checkKey, run_underlying (tyB_int ht), valOf, Ty.isAgg]
  | bool =>
    refine ⟨fun T x cx ht _ hx d hd => ?_, fun fs off x px cx hc => by simp [chB] at hc⟩
    cases hx
    obtain ⟨d, rfl⟩ : ∃ d', d = d' + 1 := ⟨d - 1, by simp [Ty.deep] at hd; omega⟩
    simp [Instr.checkKey, run_underlying (tyB_bool ht), valOf, Ty.isAgg]
  | str =>
    refine ⟨fun T x cx ht _ hx d hd => ?_, fun fs off x px cx hc => by simp [chB] at hc⟩
    cases hx
    obtain ⟨d, rfl⟩ : ∃ d', d = d' + 1 := ⟨d - 1, by simp [Ty.deep] at hd; omega⟩
    simp [Instr.checkKey, run_underlying (tyB_str ht), valOf, Ty.isAgg]
  | any => exact ⟨fun T x cx ht he => by simp [eqB] at he, fun fs off x px cx hc => by simp [chB] at hc⟩
  | err => exact ⟨fun T x cx ht he => by simp [eqB] at he, fun fs off x px cx hc => by simp [chB] at hc⟩
  | slice e _ => exact ⟨fun T x cx ht he => by simp [eqB] at he, fun fs off x px cx hc => by simp [chB] at hc⟩
  | unit =>
    refine ⟨fun T x cx ht he => by simp [eqB] at he, fun fs off x px cx hc he hx _ d _ => ?_⟩
    simp only [eqBs, List.isEmpty_iff] at he
    subst he
    rfl
  | prod a b iha ihb =>
    refine ⟨fun T x cx ht he => by simp [eqB] at he, fun fs off x px cx hc he hx hpx d hd => ?_⟩
    cases fs with
    | nil => simp [chB] at hc
    | cons f rest =>
      simp only [chB, eqBs, Bool.and_eq_true, beq_iff_eq, bne_iff_ne] at hc he
      obtain ⟨⟨h1, h2⟩, h3⟩ := hc
      obtain ⟨e1, e2, e3⟩ := he
      obtain ⟨c1, c2, rfl, x1, x2⟩ := hx
      have hdd : a.deep ≤ d ∧ b.deep ≤ d := by simp only [Ty.deep] at hd; omega
      have p1 := part_run (P := P) (pre := px) (post := c2) h2 x1
      rw [List.append_assoc, hpx, ← h1] at p1
      have q := iha.1 f.type x.1 c1 h2 e2 x1 d hdd.1
      have l1 := RepC.length _ _ _ x1
      have q2 := ihb.2 rest (off + a.size) x.2 (px ++ c1) c2 h3 e3 x2 (by simp [hpx, l1]) d hdd.2
      rw [List.append_assoc] at q2
      rw [List.forIn_cons]
      simp only [Sem.run_bind, if_pos e1, p1, q, Result.andThen_ok, Sem.run_pure]
      exact q2
  | struct c ih =>
    refine ⟨fun T x cx ht he hx d hd => ?_, fun fs off x px cx hc => by simp [chB] at hc⟩
    obtain ⟨fs, hu, hc⟩ := tyB_struct ht
    simp only [eqB, hu, Bool.and_eq_true, Bool.not_eq_true'] at he
    obtain ⟨d, rfl⟩ : ∃ d', d = d' + 1 := ⟨d - 1, by simp [Ty.deep] at hd; omega⟩
    have := ih.2 fs.toList 0 x [] cx hc he.2 hx rfl d (by simp only [Ty.deep] at hd; omega)
    have e1 : valOf (.struct c) cx = .agg cx.toArray := rfl
    rw [e1]
    unfold Instr.checkKey
    simp only [Sem.run_bind, run_underlying hu, Result.andThen_ok]
    rw [← Array.forIn_toList]
    simp at this ⊢
    rw [this]
    rfl
  | arr n e ih =>
    refine ⟨fun T x cx ht he hx d hd => ?_, fun fs off x px cx hc => by simp [chB] at hc⟩
    obtain ⟨ei, hu, hte⟩ := tyB_arr ht
    simp only [eqB, hu] at he
    obtain ⟨d, rfl⟩ : ∃ d', d = d' + 1 := ⟨d - 1, by simp [Ty.deep] at hd; omega⟩
    obtain ⟨inf, z, hi, hsz, _⟩ := tyB_info hte
    obtain ⟨lx, px⟩ := hx
    have e1 : valOf (.arr n e) cx = .agg cx.toArray := rfl
    rw [e1]
    unfold Instr.checkKey
    simp only [Sem.run_bind, run_underlying hu, Result.andThen_ok]
    simp only [Std.Legacy.Range.forIn_eq_forIn_range', Std.Legacy.Range.size, Nat.sub_zero, Nat.add_one_sub_one, Nat.div_one]
    have key : ∀ (m k : Nat) (x : List e.den) (qx cx : List Value), x.length = m → Parts (RepC w g e) x cx → qx.length = k * e.size →
        (forIn (List.range' k m) PUnit.unit fun i r => (do Instr.checkKey em d ei (← part ei (qx ++ cx).toArray (i * (← sizeOf ei))); pure (ForInStep.yield PUnit.unit) : Sem (ForInStep PUnit)) : Sem PUnit).run P w = .ok PUnit.unit w := by
      intro m
      induction m with
      | zero => intro k x qx cx hx _ _; rfl
      | succ m ihm =>
        intro k x qx cx hx hpx hqx
        match x, hx with
        | x :: xs, hx =>
          obtain ⟨c1, c2, rfl, x1, x2⟩ := hpx
          have p1 := part_run (P := P) (pre := qx) (post := c2) hte x1
          rw [List.append_assoc, hqx] at p1
          have q := ih.1 ei x c1 hte he x1 d (by simp only [Ty.deep] at hd; omega)
          have l1 := RepC.length _ _ _ x1
          have q2 := ihm (k + 1) xs (qx ++ c1) c2 (by simpa using hx) x2 (by simp [hqx, l1, Nat.add_mul])
          rw [List.append_assoc] at q2
          rw [List.range'_succ, List.forIn_cons]
          simp only [Sem.run_bind, sizeOf, typeInfo, run_program, hi, hsz, p1, q, Result.andThen_ok, Sem.run_pure] at q2 ⊢
          exact q2
    have := key n 0 x [] cx lx px (by simp)
    simp at this ⊢
    rw [this]
    rfl

end Go.Proofs.Ytnbfiifkaddehaa.V

/- What the evaluator tells is so: maps made, looked into, written. -/
namespace Go.Proofs.Ytnbfiifkaddehaa.V
open Go
open Go.MapKept (run_findKey run_setObj_map)
set_option linter.unusedVariables false
set_option linter.unusedSimpArgs false

/-- What the search for a key comes to. -/
def Found (g : Ghost) (w : World) (k v : Ty) (l : List (k.den × v.den)) (es : List MapEntry) (y : k.den) (i : Nat) : Option (Nat × Value) → Prop
  | none => look k l y = none ∧ ∀ u, putM k l y u = l ++ [(y, u)]
  | some (j, val) => ∃ m e, j = i + m ∧ es[m]? = some e ∧ e.val = val ∧ (∃ c, RepC w g k y c ∧ (∃ z c', RepC w g k z c' ∧ eqD k y z = true ∧ e.key = valOf k c')) ∧ (∃ u c, look k l y = some u ∧ RepC w g v u c ∧ val = valOf v c) ∧ ∀ u, putM k l y u = l.set m (y, u)

theorem look_nil (k : Ty) {β : Type} (y : k.den) : look k ([] : List (k.den × β)) y = none := rfl
theorem look_at {k : Ty} {β : Type} {p : k.den × β} (l : List (k.den × β)) {y : k.den} (h : eqD k y p.1 = true) : look k (p :: l) y = some p.2 := by simp [look, h]
theorem look_on {k : Ty} {β : Type} {p : k.den × β} (l : List (k.den × β)) {y : k.den} (h : eqD k y p.1 = false) : look k (p :: l) y = look k l y := by simp [look, h]
theorem put_at {k : Ty} {β : Type} {p : k.den × β} (l : List (k.den × β)) {y : k.den} (h : eqD k y p.1 = true) (u : β) : putM k (p :: l) y u = (y, u) :: l := by simp [putM, h]
theorem put_on {k : Ty} {β : Type} {p : k.den × β} (l : List (k.den × β)) {y : k.den} (h : eqD k y p.1 = false) (u : β) : putM k (p :: l) y u = p :: putM k l y u := by simp [putM, h]

theorem asking_run {P : Program} {w : World} {g : Ghost} {k v : Ty} {T : Nat} (ht : tyB P k T = true) (he : eqB P k T = true) (hd : k.deep ≤ 10000) {y : k.den} {cy : List Value} (hy : RepC w g k y cy) :
    ∀ (l : List (k.den × v.den)) (es : List MapEntry) (i : Nat), EsR g w k v l es → ∃ r, (Instr.findAsking T (valOf k cy) es i).run P w = .ok r w ∧ Found g w k v l es y i r
  | [], es, i, h => by
    have h' : es = [] := h
    subst h'
    exact ⟨none, rfl, look_nil k y, fun u => rfl⟩
  | p :: l, es, i, h => by
    obtain ⟨e, r, rfl, ⟨c1, h1, h2⟩, ⟨c2, h3, h4⟩, h5⟩ := h
    have hq := (eq_run (P := P) (w := w) (g := g) k).1 T y p.1 cy c1 ht he hy h1 10000 hd
    have hq' : (Op.equal T (valOf k cy) e.key).run P w = .ok (eqD k y p.1) w := by rw [h2]; exact hq
    cases hc : eqD k y p.1 with
    | true =>
      refine ⟨some (i, e.val), ?_, 0, e, rfl, rfl, rfl, ⟨cy, hy, p.1, c1, h1, hc, h2⟩, ⟨p.2, c2, look_at l hc, h3, h4⟩, fun u => put_at l hc u⟩
      simp only [Instr.findAsking, Sem.run_bind, hq', hc, Result.andThen_ok, if_true, Sem.run_pure]
    | false =>
      obtain ⟨r', k1, k2⟩ := asking_run ht he hd hy l r (i + 1) h5
      refine ⟨r', ?_, ?_⟩
      · simp only [Instr.findAsking, Sem.run_bind, hq', hc, Result.andThen_ok, Bool.false_eq_true, if_false]
        exact k1
      · cases r' with
        | none => exact ⟨(look_on l hc).trans k2.1, fun u => by rw [put_on l hc, k2.2]; rfl⟩
        | some q =>
          obtain ⟨j, val⟩ := q
          obtain ⟨m, e', m1, m2, m3, m4, ⟨u0, c0, m5, m6, m7⟩, m8⟩ := k2
          exact ⟨m + 1, e', by omega, by simpa using m2, m3, m4, ⟨u0, c0, (look_on l hc).trans m5, m6, m7⟩, fun u => by rw [put_on l hc, m8]; rfl⟩

theorem now_run {w : World} {g : Ghost} {k v : Ty} {D : TypeDesc} (same : ∀ (x y : k.den) (cx cy : List Value), RepC w g k x cx → RepC w g k y cy → Instr.sameNow D (valOf k cx) (valOf k cy) = some (eqD k x y)) {y : k.den} {cy : List Value} (hy : RepC w g k y cy) :
    ∀ (l : List (k.den × v.den)) (es : List MapEntry) (i : Nat), EsR g w k v l es → ∃ r, Instr.findNow D (valOf k cy) es i = some r ∧ Found g w k v l es y i r
  | [], es, i, h => by
    have h' : es = [] := h
    subst h'
    exact ⟨none, rfl, look_nil k y, fun u => rfl⟩
  | p :: l, es, i, h => by
    obtain ⟨e, r, rfl, ⟨c1, h1, h2⟩, ⟨c2, h3, h4⟩, h5⟩ := h
    have hq := same y p.1 cy c1 hy h1
    rw [← h2] at hq
    cases hc : eqD k y p.1 with
    | true =>
      refine ⟨some (i, e.val), ?_, 0, e, rfl, rfl, rfl, ⟨cy, hy, p.1, c1, h1, hc, h2⟩, ⟨p.2, c2, look_at l hc, h3, h4⟩, fun u => put_at l hc u⟩
      simp only [Instr.findNow, hq, hc]
    | false =>
      obtain ⟨r', k1, k2⟩ := now_run same hy l r (i + 1) h5
      refine ⟨r', ?_, ?_⟩
      · simp only [Instr.findNow, hq, hc]
        exact k1
      · cases r' with
        | none => exact ⟨(look_on l hc).trans k2.1, fun u => by rw [put_on l hc, k2.2]; rfl⟩
        | some q =>
          obtain ⟨j, val⟩ := q
          obtain ⟨m, e', m1, m2, m3, m4, ⟨u0, c0, m5, m6, m7⟩, m8⟩ := k2
          exact ⟨m + 1, e', by omega, by simpa using m2, m3, m4, ⟨u0, c0, (look_on l hc).trans m5, m6, m7⟩, fun u => by rw [put_on l hc, m8]; rfl⟩

theorem find_run {P : Program} {w : World} {g : Ghost} {k v : Ty} {T : Nat} (ht : tyB P k T = true) (he : eqB P k T = true) (hd : k.deep ≤ 10000) {y : k.den} {cy : List Value} (hy : RepC w g k y cy) {l : List (k.den × v.den)} {es : List MapEntry} (h : EsR g w k v l es) :
    ∃ r, (Instr.findKey T (valOf k cy) es).run P w = .ok r w ∧ Found g w k v l es y 0 r := by
  have wide : ∀ D, P.underlying T = some D → (match some D with | some (.array _ _) | some (.struct _) => true | _ => false) = true → ∃ r, (Instr.findKey T (valOf k cy) es).run P w = .ok r w ∧ Found g w k v l es y 0 r := by
    intro D hD hw
    rw [run_findKey_eq w (by rw [hD]; exact hw)]
    exact asking_run ht he hd hy l es 0 h
  have now : ∀ D, P.underlying T = some D → (∀ (x y : k.den) (cx cy : List Value), RepC w g k x cx → RepC w g k y cy → Instr.sameNow D (valOf k cx) (valOf k cy) = some (eqD k x y)) → ∃ r, (Instr.findKey T (valOf k cy) es).run P w = .ok r w ∧ Found g w k v l es y 0 r := by
    intro D hD hs
    obtain ⟨r, h1, h2⟩ := now_run hs hy l es 0 h
    exact ⟨r, run_findKey hD h1, h2⟩
  cases k
  case int q =>
    refine now _ (tyB_int ht) fun x y cx cy hx hy => ?_
    cases hx; cases hy
    simp [Instr.sameNow, valOf, Ty.isAgg, eqD]
  case bool =>
    refine now _ (tyB_bool ht) fun x y cx cy hx hy => ?_
    cases hx; cases hy
    simp [Instr.sameNow, valOf, Ty.isAgg, eqD]
  case str =>
    refine now _ (tyB_str ht) fun x y cx cy hx hy => ?_
    cases hx; cases hy
    simp [Instr.sameNow, valOf, Ty.isAgg, eqD, beq_toListBytes]
  case arr n e =>
    obtain ⟨ei, hu, _⟩ := tyB_arr ht
    exact wide _ hu rfl
  case struct c =>
    obtain ⟨fs, hu, _⟩ := tyB_struct ht
    exact wide _ hu rfl
  all_goals simp [eqB] at he

section
variable {P : Program} {C : Ctx} {dst : Option Nat} {ty : Nat} {pos : String} {af : Array Edge} {gd : Option (Nat × Bool)}

theorem core_makeMap (T : Nat) (r0 : Option Operand) : CoreOk P C ⟨dst, .makeMap T r0, ty, pos, af, gd⟩ := by
  intro R tr g w d dh st a h k r hk
  have hk' : (match (Op.makeMap T r0).operands.toList.map st.val with
    | [] => match C.Mp T with
      | some ⟨kt, vt, _⟩ => k (.mp st.H.length) [] (st.H ++ [(.unit, .asc kt vt [])])
      | none => none
    | _ => none) = some r := by
    cases r0
    · exact hk
    · unfold coreK at hk
      simp [Op.operands] at hk
  cases r0 with
  | some x => simp [Op.operands] at hk'
  | none =>
    have hk2 : (match C.Mp T with
      | some ⟨kt, vt, _⟩ => k (.mp st.H.length) [] (st.H ++ [(.unit, .asc kt vt [])])
      | none => none) = some r := hk'
    split at hk2
    · rename_i kt vt z hm
      refine ⟨_, _, _, hk2, fun next Q hn => ?_⟩
      have hrun : (execOp a.eval ⟨dst, .makeMap T none, ty, pos, af, gd⟩).run P w = .ok (.value (.map (some w.heap.size))) { w with heap := w.heap.push (.map #[] 0) } := by
        simp only [execOp, Sem.run_bind, Instr.makeMap, Option.map_none, run_newObj, Result.andThen_ok, Sem.run_pure]
      have hid : g.N dh < (g.var w.heap.size dh .unit).N dh := by simp [Ghost.var]
      refine wp_value hrun (hn _ _ (g.var w.heap.size dh .unit) ?_ (Ext.var h.wf _ _ (.inr (.inl rfl))) (HRep.push h.heap h.wf rfl ?_) (h.wf.var _ _ _))
      · simp only [RepX]
        rw [h.heap.1]
        exact ⟨hid, by simp [Ghost.var]⟩
      · refine .inr (.inl ⟨rfl, .map #[] 0, by simp [Ghost.var], ?_⟩)
        exact ⟨#[], 0, rfl, rfl⟩
    · cases hk2

theorem lookup_data {w : World} {g : Ghost} {T : Nat} {kt vt : Ty} {ki ei : Nat} {inf : TypeInfo} {z : vt.den} (hu : P.underlying T = some (.map ki ei)) (htk : tyB P kt ki = true) (hek : eqB P kt ki = true) (hd : kt.deep ≤ 10000) (hi : P.info? ei = some inf)
    (hz : inf.zero = some (zval vt z)) (hzB : zB vt z = true) {l : List (kt.den × vt.den)} {y : kt.den} {cy : List Value} {es : Array MapEntry} {clock b : Nat} (hb : w.heap[b]? = some (.map es clock)) (hes : EsR g w kt vt l es.toList) (hy : RepC w g kt y cy) (ok : Bool) :
    ∃ c, RepC w g vt ((look kt l y).getD z) c ∧ (Instr.lookup T (.map (some b)) (valOf kt cy) ok).run P w = .ok (if ok then .tuple #[valOf vt c, .bool (look kt l y).isSome] else valOf vt c) w := by
  have hg : (getObj b).run P w = .ok (.map es clock) w := by simp [getObj, Sem.run, hb]
  have hck := (ck_run (P := P) (w := w) (g := g) es.isEmpty kt).1 ki y cy htk hek hy 10000 hd
  obtain ⟨r, hr, hf⟩ := find_run htk hek hd hy hes
  cases r with
  | none =>
    obtain ⟨h1, _⟩ := hf
    refine ⟨zcells vt z, by rw [h1]; exact zcells_rep vt z hzB, ?_⟩
    have hzv : (zeroValue ei).run P w = .ok (valOf vt (zcells vt z)) w := by
      simp only [zeroValue, typeInfo, Sem.run_bind, run_program, hi, hz, Result.andThen_ok, Sem.run_pure]
      rfl
    simp only [Instr.lookup, Sem.run_bind, run_underlying hu, Result.andThen_ok, hg, Sem.run_pure, hck, hr, hzv, h1]
    cases ok <;> rfl
  | some q =>
    obtain ⟨j, val⟩ := q
    obtain ⟨m, e, _, _, _, _, ⟨u, c, h1, h2, h3⟩, _⟩ := hf
    refine ⟨c, by rw [h1]; exact h2, ?_⟩
    simp only [Instr.lookup, Sem.run_bind, run_underlying hu, Result.andThen_ok, hg, Sem.run_pure, hck, hr, h1, h3]
    cases ok <;> rfl

theorem cast_prod {k1 v1 kt vt : Ty} {l : List (k1.den × v1.den)} {l' : List (kt.den × vt.den)} (h : castTo (.slice (.prod k1 v1)) (.slice (.prod kt vt)) l = some l') : ∃ (e1 : k1 = kt) (e2 : v1 = vt), by subst e1 e2; exact l = l' := by
  obtain ⟨e, h⟩ := castTo_some h
  cases e
  exact ⟨rfl, rfl, h.symm ▸ rfl⟩

theorem core_lookup (hA : C.A = Ar.real) (hM : MpOk P C.Mp) (T : Nat) (m x : Operand) (ok : Bool) : CoreOk P C ⟨dst, .lookup T m x ok, ty, pos, af, gd⟩ := by
  intro R tr g w d dh st a h k r hk
  have hk' : (match C.Mp T, st.val m with
    | some ⟨kt, vt, z⟩, .mp id => match st.H[id]? with
      | some (.unit, .asc k1 v1 l) => match toD kt (st.val x), castTo (.slice (.prod k1 v1)) (.slice (.prod kt vt)) l with
        | some y, some l => if ok = true then k (.tup [mkX vt (C.A.se ((look kt l y).getD z)), .d .bool (C.A.se (look kt l y).isSome)]) [] st.H else k (mkX vt (C.A.se ((look kt l y).getD z))) [] st.H
        | _, _ => none
      | _ => none
    | _, _ => none) = some r := hk
  have hm := h.val m
  have hx := h.val x
  split at hk'
  · rename_i kt vt z id hT em
    rw [em] at hm
    simp only [RepX] at hm
    obtain ⟨hN, hmv⟩ := hm
    split at hk'
    · rename_i k1 v1 l0 hid
      split at hk'
      · rename_i y l hy hl
        obtain ⟨ki, ei, inf, u1, u2, u3, u4, u5, u6, u7, u8⟩ := hM T _ hT
        obtain ⟨e1, e2, e3⟩ := cast_prod hl
        subst e1 e2
        simp only at e3
        subst e3
        obtain ⟨r1, r2, hlive⟩ := h.heap.2 id _ _ hid
        obtain ⟨r3, r4, r5⟩ := hlive.unit
        have hob : ∃ es clock, w.heap[g.μ dh id]? = some (.map es clock) ∧ EsR g w k1 v1 l0 es.toList := by
          rcases r5 with ⟨_, _, _, _, _, r6⟩ | ⟨_, o, r5, r6⟩ | ⟨_, _, _, e, _⟩
          · simp [RepO] at r6
          · obtain ⟨es, clock, rfl, r7⟩ := r6
            exact ⟨es, clock, r5, r7⟩
          · cases e
        obtain ⟨es, clock, hb, hes⟩ := hob
        obtain ⟨cy, hcy, hxv⟩ := toD_val hx hy
        obtain ⟨c, hc, hrun⟩ := lookup_data u1 u2 u3 u4 u6 u7 u8 hb hes hcy ok
        have hrun' : (execOp a.eval ⟨dst, .lookup T m x ok, ty, pos, af, gd⟩).run P w = .ok (.value (if ok then .tuple #[valOf v1 c, .bool (look k1 l0 y).isSome] else valOf v1 c)) w := by
          simp only [execOp, Sem.run_bind, hmv, hxv, hrun, Result.andThen_ok, Sem.run_pure]
        rw [hA] at hk'
        split at hk'
        · rename_i hok
          subst hok
          refine ⟨_, _, _, hk', OpWp.same h hrun' ?_⟩
          simp only [RepX]
          refine ⟨[valOf v1 c, .bool (look k1 l0 y).isSome], rfl, ?_⟩
          simp only [RepXs]
          exact ⟨_, _, rfl, RepX.mkX hc (isVal_valOf hc), _, _, rfl, RepX.bool_iff.2 rfl, rfl⟩
        · rename_i hok
          have hok' : ok = false := by simpa using hok
          subst hok'
          exact ⟨_, _, _, hk', OpWp.same h hrun' (RepX.mkX hc (isVal_valOf hc))⟩
      · cases hk'
    · cases hk'
  · cases hk'

theorem EsR.put {g w} {k v : Ty} {y : k.den} {u : v.den} {e : MapEntry} (hk : ∃ cs, RepC w g k y cs ∧ e.key = valOf k cs) (hv : ∃ cs, RepC w g v u cs ∧ e.val = valOf v cs) : ∀ {l : List (k.den × v.den)} {es : List MapEntry} {m : Nat}, EsR g w k v l es → m < es.length → EsR g w k v (l.set m (y, u)) (es.set m e)
  | [], es, m, h, hm => by
    have h' : es = [] := h
    subst h'
    simp at hm
  | p :: l, es, m, h, hm => by
    obtain ⟨e0, r, rfl, h1, h2, h3⟩ := h
    cases m with
    | zero => exact ⟨e, r, rfl, hk, hv, h3⟩
    | succ m => exact ⟨e0, r.set m e, rfl, h1, h2, EsR.put hk hv h3 (by simpa using hm)⟩
theorem EsR.snoc {g w} {k v : Ty} {y : k.den} {u : v.den} {e : MapEntry} (hk : ∃ cs, RepC w g k y cs ∧ e.key = valOf k cs) (hv : ∃ cs, RepC w g v u cs ∧ e.val = valOf v cs) : ∀ {l : List (k.den × v.den)} {es : List MapEntry}, EsR g w k v l es → EsR g w k v (l ++ [(y, u)]) (es ++ [e])
  | [], es, h => by
    have h' : es = [] := h
    subst h'
    exact ⟨e, [], rfl, hk, hv, rfl⟩
  | p :: l, es, h => by
    obtain ⟨e0, r, rfl, h1, h2, h3⟩ := h
    exact ⟨e0, r ++ [e], rfl, h1, h2, h3.snoc hk hv⟩

theorem update_data {w : World} {g : Ghost} {T : Nat} {kt vt : Ty} {ki ei : Nat} (hu : P.underlying T = some (.map ki ei)) (htk : tyB P kt ki = true) (hek : eqB P kt ki = true) (hd : kt.deep ≤ 10000)
    {l : List (kt.den × vt.den)} {y : kt.den} {u : vt.den} {cy cu : List Value} {es : Array MapEntry} {clock b : Nat} (hb : w.heap[b]? = some (.map es clock)) (hes : EsR g w kt vt l es.toList) (hy : RepC w g kt y cy) (hcu : RepC w g vt u cu) :
    ∃ es' clock', EsR g w kt vt (putM kt l y u) es'.toList ∧ (Instr.mapUpdate T (.map (some b)) (valOf kt cy) (valOf vt cu)).run P w = .ok () { w with heap := w.heap.setIfInBounds b (.map es' clock') } := by
  have hg : (getObj b).run P w = .ok (.map es clock) w := by simp [getObj, Sem.run, hb]
  have hck := (ck_run (P := P) (w := w) (g := g) false kt).1 ki y cy htk hek hy 10000 hd
  obtain ⟨r, hr, hf⟩ := find_run htk hek hd hy hes
  cases r with
  | none =>
    obtain ⟨h1, h2⟩ := hf
    refine ⟨es.push { key := valOf kt cy, val := valOf vt cu, born := clock }, clock + 1, ?_, ?_⟩
    · rw [h2, Array.toList_push]
      exact hes.snoc ⟨cy, hy, rfl⟩ ⟨cu, hcu, rfl⟩
    · simp only [Instr.mapUpdate, Sem.run_bind, run_underlying hu, Result.andThen_ok, hg, hck, hr]
      rw [run_setObj_map _ hb]
  | some q =>
    obtain ⟨j, val⟩ := q
    obtain ⟨m, e, hj, hm, hval, ⟨c1, hc1, z, c2, hc2, hzq, hkey⟩, _, h2⟩ := hf
    have hj' : j = m := by omega
    subst hj'
    have hlt : j < es.toList.length := (List.getElem?_eq_some_iff.1 hm).1
    have hms : es[j]? = some e := by rw [← Array.getElem?_toList]; exact hm
    refine ⟨es.modify j fun e => { e with key := valOf kt cy, val := valOf vt cu }, clock, ?_, ?_⟩
    · rw [h2]
      have e1 : (es.modify j fun e => { e with key := valOf kt cy, val := valOf vt cu }).toList = es.toList.set j { e with key := valOf kt cy, val := valOf vt cu } := by
        apply List.ext_getElem?
        intro i
        rw [Array.getElem?_toList, Array.getElem?_modify, List.getElem?_set, Array.getElem?_toList]
        by_cases hji : j = i
        · subst hji
          rw [if_pos rfl, if_pos rfl, if_pos hlt, hms]
          rfl
        · rw [if_neg hji, if_neg hji]
      rw [e1]
      exact hes.put ⟨cy, hy, rfl⟩ ⟨cu, hcu, rfl⟩ hlt
    · have hcc : cy = c2 := ((eq_cells (P := P) (w := w) (g := g) kt).1 ki y z cy c2 htk hek hy hc2).2 hzq
      have hsb : Instr.sameBits 10000 e.key (valOf kt cy) = true := by
        rw [hkey, ← hcc]
        refine sameBits_val ((eq_cells (P := P) (w := w) (g := g) kt).1 ki y z cy c2 htk hek hy hc2).1 fun ha => ?_
        have hl := RepC.length _ _ _ hy
        rintro rfl
        cases kt <;> simp [Ty.size, Ty.isAgg] at hl ha
        all_goals simp [eqB] at hek
      simp only [Instr.mapUpdate, Sem.run_bind, run_underlying hu, Result.andThen_ok, hg, hck, hr, hms, Option.map_some, Option.getD_some, Instr.keyThatStays, hsb, if_true, Sem.run_pure]
      rw [run_setObj_map _ hb]

theorem core_mapUpdate (hA : C.A = Ar.real) (hM : MpOk P C.Mp) (T : Nat) (m x y : Operand) : CoreOk P C ⟨dst, .mapUpdate T m x y, ty, pos, af, gd⟩ := by
  intro R tr g w d dh st a h k r hk
  have hk' : (match C.Mp T, st.val m with
    | some ⟨kt, vt, _⟩, .mp id => match st.H[id]? with
      | some (.unit, .asc k1 v1 l) => match toD kt (st.val x), toD vt (st.val y), castTo (.slice (.prod k1 v1)) (.slice (.prod kt vt)) l with
        | some y, some u, some l => k .undef [] (st.H.set id (.unit, .asc kt vt (C.A.se (putM kt l y u))))
        | _, _, _ => none
      | _ => none
    | _, _ => none) = some r := hk
  have hm := h.val m
  have hx := h.val x
  have hyv := h.val y
  split at hk'
  · rename_i kt vt z id hT em
    rw [em] at hm
    simp only [RepX] at hm
    obtain ⟨hN, hmv⟩ := hm
    split at hk'
    · rename_i k1 v1 l0 hid
      split at hk'
      · rename_i y0 u0 l hy hu0 hl
        obtain ⟨ki, ei, inf, u1, u2, u3, u4, u5, u6, u7, u8⟩ := hM T _ hT
        obtain ⟨e1, e2, e3⟩ := cast_prod hl
        subst e1 e2
        simp only at e3
        subst e3
        obtain ⟨r1, r2, hlive⟩ := h.heap.2 id _ _ hid
        obtain ⟨r3, r4, r5⟩ := hlive.unit
        have hob : ∃ es clock, w.heap[g.μ dh id]? = some (.map es clock) ∧ EsR g w k1 v1 l0 es.toList := by
          rcases r5 with ⟨_, _, _, _, _, r6⟩ | ⟨_, o, r5, r6⟩ | ⟨_, _, _, e, _⟩
          · simp [RepO] at r6
          · obtain ⟨es, clock, rfl, r7⟩ := r6
            exact ⟨es, clock, r5, r7⟩
          · cases e
        obtain ⟨es, clock, hb, hes⟩ := hob
        obtain ⟨cy, hcy, hxv⟩ := toD_val hx hy
        obtain ⟨cu, hcu, huv⟩ := toD_val hyv hu0
        obtain ⟨es', clock', hes', hrun⟩ := update_data u1 u2 u3 u4 hb hes hcy hcu
        have hbl : g.μ dh id < w.heap.size := (Array.getElem?_eq_some_iff.1 hb).1
        have hrun' : (execOp a.eval ⟨dst, .mapUpdate T m x y, ty, pos, af, gd⟩).run P w = .ok .skip { w with heap := w.heap.setIfInBounds (g.μ dh id) (.map es' clock') } := by
          simp only [execOp, Sem.run_bind, hmv, hxv, huv, hrun, Result.andThen_ok, Sem.run_pure]
        have he : Ext g w g { w with heap := w.heap.setIfInBounds (g.μ dh id) (.map es' clock') } d (fun x => x = .obj dh id) := Ext.setObj r3 r4 hbl
        rw [hA] at hk'
        refine ⟨_, _, _, hk', fun next Q hn => wp_skip' hrun' (hn _ _ g (by simp only [RepX]) (he.mono (Nat.le_refl _) ?_) (HRep.set h.heap he h.le (by simp) rfl hid ?_ r3 r4 ?_) ⟨fun b hb' => ?_, Tabs.ext he h.wf.2⟩)⟩
        · rintro κ rfl
          exact .inr (.inl rfl)
        · rintro κ _ rfl
          exact .inl rfl
        · exact .inr (.inl ⟨rfl, _, by simp [hbl], es', clock', rfl, hes'.ext he⟩)
        · exact h.wf.1 b (by simpa using hb')
      · cases hk'
    · cases hk'
  · cases hk'

end
end Go.Proofs.Ytnbfiifkaddehaa.V

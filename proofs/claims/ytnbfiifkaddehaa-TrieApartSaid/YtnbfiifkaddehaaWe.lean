/-
  What the evaluator tells is so: appends, literals, calls.
  It speaks of whatever program; no condition.
-/
import Derived.Test.YtnbfiifkaddehaaWd

/- What the evaluator tells is so: appends. -/
namespace Go.Proofs.Ytnbfiifkaddehaa.V
open Go
set_option linter.unusedVariables false
set_option linter.unusedSimpArgs false

theorem Run.of_cells {w : World} {g : Ghost} {α : Type} {R : α → List Value → Prop} {size : Nat} (hR : ∀ x cs, R x cs → cs.length = size) {xs : List α} {cs : List Value} {b off : Nat} (hp : Parts R xs cs)
    (hc : ∀ j (hj : j < cs.length), w.cell? ⟨b, off + j, none⟩ = some cs[j] ∧ off + j < g.U b) : Run w g R size xs (some ⟨b, off, none⟩) := by
  intro i hi
  obtain ⟨pre, mid, post, rfl, f2, f3, _⟩ := Parts.at hR xs cs i hi hp
  refine ⟨_, mid, rfl, rfl, hR _ _ f3, f3, fun j hj => ?_⟩
  obtain ⟨h1, h2⟩ := hc (i * size + j) (by simp; omega)
  refine ⟨?_, h2⟩
  rw [h1]
  congr 1
  have := getElem?_mid pre mid post j hj
  rw [f2, List.getElem?_eq_getElem (by simp; omega), List.getElem?_eq_getElem hj] at this
  exact Option.some.inj this

theorem Parts.append {α : Type} {R : α → List Value → Prop} : ∀ {xs ys : List α} {c1 c2 : List Value}, Parts R xs c1 → Parts R ys c2 → Parts R (xs ++ ys) (c1 ++ c2)
  | [], ys, c1, c2, h1, h2 => by
    have : c1 = [] := h1
    subst this
    simpa using h2
  | x :: xs, ys, c1, c2, h1, h2 => by
    obtain ⟨a1, a2, rfl, k1, k2⟩ := h1
    exact ⟨a1, a2 ++ c2, by simp, k1, Parts.append k2 h2⟩

section
variable {P : Program}

theorem append_core {e : Ty} {ts tx elemT eb : Nat} (rty : Nat) (hu : P.underlying ts = some (.slice elemT)) (ht : tyB P e elemT = true) (hpos : 0 < e.size) (hb : (P.info? elemT).map (·.bytes) = some eb) (heb : 0 < eb)
    (htx : ∃ dx, P.underlying tx = some dx ∧ ∀ k, dx ≠ .int k) {g w} {d dh : Nat} {κ : Key} (hd : dh ≤ d) (hno : κ ≠ .no) {xs zs : List e.den} {nl : Option Bool} {vs vx : Value} (hs : RepX g w dh κ (.sl e xs nl true) vs) (hw : WF g w)
    {cs : List Value} (hlen : ∀ w', (Builtin.lenOf vx).run P w' = .ok zs.length w') (hfirst : ∀ w', w'.heap = w.heap → (Builtin.firstCells e.size zs.length vx).run P w' = .ok cs.toArray w') (hparts : Parts (RepC w g e) zs cs)
    (hbound : (xs.length + zs.length) * eb ≤ 140737488355328) :
    ∃ val w' g2, (Builtin.append_ #[ts, tx] rty #[vs, vx]).run P w = .ok val w' ∧ RepX g2 w' dh κ (.sl e (xs ++ zs) (nl.map (· && List.isEmpty zs)) true) val ∧ Ext g w g2 w' d (fun x => x = κ) ∧ WF g2 w' ∧ g2.N = g.N := by
  obtain ⟨inf, z, hi, hsz, hz, hzs⟩ := tyB_info ht
  have hby : inf.bytes = eb := by rw [hi] at hb; simpa using hb
  obtain ⟨dx, hux, hdx⟩ := htx
  have hzeros : ((dx matches .int _) : Bool) = false := by cases dx <;> first | rfl | exact absurd rfl (hdx _)
  have hcl := Parts.length (RepC.length (w := w) (g := g) e) zs cs hparts
  have hcp : Plain cs := Parts.plain (RepC.plain e) zs cs hparts
  simp only [RepX] at hs
  obtain ⟨base, c, rfl, hnc, hrun, hnl, hown⟩ := hs
  have hx0 : base = none → xs = [] := by
    rintro rfl
    cases xs with
    | nil => rfl
    | cons x xs => obtain ⟨A, _, e, _⟩ := hrun 0 (by simp); cases e
  by_cases hroom : xs.length + zs.length ≤ c
  · by_cases hm : zs = []
    · -- nothing is appended
      subst hm
      have hcs : cs = [] := List.eq_nil_of_length_eq_zero (by simpa using hcl)
      subst hcs
      refine ⟨.slice base xs.length c, w, g, ?_, ?_, Ext.refl _ _ _ _, hw, rfl⟩
      · have hf0 := hfirst w rfl
        simp only [List.length_nil] at hf0
        have hl0 := hlen w
        simp only [List.length_nil] at hl0
        simp only [Builtin.append_, List.getElem?_toArray, List.getElem?_cons_zero, List.getElem?_cons_succ, Sem.run_bind, run_underlying hu, Result.andThen_ok, sizeOf, typeInfo, run_program, hi, Sem.run_pure, hsz, run_underlying hux, hzeros, Bool.false_eq_true, if_false, hl0, Bool.not_false, if_true, Nat.add_zero, if_pos hnc, hf0]
        cases base <;> simp [storeCells]
      · simp only [RepX]
        rw [List.append_nil]
        refine ⟨base, c, rfl, hnc, hrun, fun b hb => hnl b ?_, hown⟩
        cases nl <;> simp_all
    · -- there is room: the block is the key's own
      have hzl : 0 < zs.length := List.length_pos_iff.2 hm
      rcases hown trivial with h | ⟨b, arr, tyo, fr, rfl, e2, e3, e4, e5, e6⟩
      · omega
      have e4' : ∀ off, off < arr.size → w.frozen? ⟨b, off, none⟩ = false := fun off ho => by
        have e4 := e4.open
        simp only [World.frozen?, e2]
        simp
        omega
      obtain ⟨cs0, q1, q2, q3⟩ := Run.cells hrun hpos
      have hfit : 0 + (xs.length * e.size) + cs.length ≤ arr.size := by
        rw [e3, hcl, Nat.zero_add, ← Nat.add_mul]
        exact Nat.mul_le_mul_right _ hroom
      have hst := storeCells_run (P := P) (w := w) b (xs.length * e.size) tyo fr cs 0 arr w e2 (by simpa using hfit) (fun j h1 h2 => by
        have := e4' j (by simp at hfit; omega)
        simpa using this) hcp
      simp only [Nat.add_zero] at hst
      have hb : b < w.heap.size := (Array.getElem?_eq_some_iff.1 e2).1
      generalize hnew : (arr.toList.take (xs.length * e.size) ++ cs ++ arr.toList.drop (xs.length * e.size + cs.length)).toArray = new at hst
      have hnsz : new.size = arr.size := by
        rw [← hnew]
        simp
        simp at hfit
        omega
      have hold : arr.toList.take (xs.length * e.size) = cs0 := by
        apply List.ext_getElem?
        intro j
        by_cases hj : j < cs0.length
        · obtain ⟨k1, _⟩ := q3 _ rfl j hj
          rw [Nat.zero_add, cell_of_heap e2] at k1
          rw [List.getElem?_take, if_pos (by omega), Array.getElem?_toList, k1, List.getElem?_eq_getElem hj]
        · rw [List.getElem?_eq_none (Nat.le_of_not_lt hj), List.getElem?_eq_none]
          simp; omega
      let g2 : Ghost := { g with U := fun i => if i = b then (xs.length + zs.length) * e.size else g.U i }
      have hwhole : ∀ j (hj : j < (cs0 ++ cs).length), (w.setRow b new).cell? ⟨b, 0 + j, none⟩ = some (cs0 ++ cs)[j] := by
        intro j hj
        rw [Nat.zero_add, cell_of_heap (setRow_heap w b arr new tyo fr e2), ← Array.getElem?_toList, ← hnew]
        simp only []
        rw [hold, List.getElem?_append_left hj, List.getElem?_eq_getElem hj]
      have hbig : xs.length * e.size ≤ (xs.length + zs.length) * e.size := Nat.mul_le_mul_right _ (by omega)
      have he : Ext g w g2 (w.setRow b new) d (fun x => x = κ) := by
        refine ⟨rfl, rfl, rfl, by simp, fun i hi hk => ?_, fun i off ho => ?_, fun _ _ _ h => ⟨h, rfl, rfl⟩, fun _ _ => rfl⟩
        · have hne : i ≠ b := fun e => hk κ (e ▸ e6) rfl
          exact ⟨setRow_other w b i new hne, rfl, by simp [g2, hne]⟩
        · by_cases hib : i = b
          · subst hib
            rw [e5] at ho
            have hj : off < (cs0 ++ cs).length := by simp; omega
            have h1 := hwhole off hj
            rw [Nat.zero_add] at h1
            obtain ⟨k1, _⟩ := q3 _ rfl off (by omega)
            rw [Nat.zero_add] at k1
            refine ⟨?_, by simp [g2]; omega⟩
            rw [h1, k1, List.getElem_append_left]
          · exact ⟨World.cell?_of_block (a := ⟨i, off, none⟩) (setRow_other w b i new hib), by simp [g2, hib]; exact ho⟩
      refine ⟨.slice (some ⟨b, 0, none⟩) (xs.length + zs.length) c, w.setRow b new, g2, ?_, ?_, he, ⟨fun i hi => ?_, Tabs.ext he hw.2⟩, rfl⟩
      · simp only [Builtin.append_, List.getElem?_toArray, List.getElem?_cons_zero, List.getElem?_cons_succ, Sem.run_bind, run_underlying hu, Result.andThen_ok, sizeOf, typeInfo, run_program, hi, Sem.run_pure, hsz, run_underlying hux, hzeros, Bool.false_eq_true, if_false, hlen, Bool.not_false, if_true, if_pos hroom, hfirst w rfl, Addr.add_lit, Nat.zero_add, hst]
      · simp only [RepX]
        refine ⟨_, c, by rw [List.length_append], by rw [List.length_append]; exact hroom, ?_, fun b' hb' => ?_, fun _ => .inr ⟨b, new, tyo, fr, rfl, setRow_heap w b arr new tyo fr e2, by rw [hnsz, e3], by rw [hnsz]; exact e4, by simp [g2], e6⟩⟩
        · have hp := Parts.append (Parts.imp (RepC.ext he e) xs cs0 q1) (Parts.imp (RepC.ext he e) zs cs hparts)
          refine Run.of_cells (RepC.length e) hp (fun j hj => ⟨hwhole j hj, ?_⟩)
          simp only [g2, if_true, Nat.zero_add]
          simp [q2, hcl, ← Nat.add_mul] at hj
          exact hj
        · cases nl with
          | none => cases hb'
          | some b0 =>
            simp only [Option.map_some, Option.some.injEq] at hb'
            subst hb'
            have := hnl b0 rfl
            simp at this
            subst this
            rfl
      · have hne : i ≠ b := by simp at hi; omega
        have := hw.1 i (by simpa using hi)
        simpa [g2, hne] using this
  · -- a new block
    have hfit : ¬ (Builtin.nextslicecap (xs.length + zs.length) c * inf.bytes > 2 ^ 48) := by
      have := growslice_fits (need := xs.length + zs.length) (old := c) (bytes := inf.bytes) (by omega) (by rw [hby]; exact hbound)
      omega
    have h64 : ¬ ((((xs.length + zs.length : Nat) : Int) > IntKind.i64.max) ∧ (False ∨ inf.bytes = 0)) := by
      rintro ⟨_, h | h⟩
      · cases h
      · omega
    let w1 : World := { w with drawn := w.drawn + 1 }
    let nc := (Question.appendCap (xs.length + zs.length) c elemT).cut (w.tape w.drawn (.appendCap (xs.length + zs.length) c elemT))
    have hnc2 : xs.length + zs.length ≤ nc := Nat.le_add_right _ _
    obtain ⟨cs0, q1, q2, q3⟩ := Run.cells hrun hpos
    have hold : (Builtin.firstCells e.size xs.length (.slice base xs.length c)).run P { w with drawn := w.drawn + 1 } = .ok cs0.toArray { w with drawn := w.drawn + 1 } := by
      cases base with
      | none =>
        have : cs0 = [] := List.eq_nil_of_length_eq_zero (by rw [q2, hx0 rfl]; simp)
        subst this
        exact run_firstCells_none w1 _ _ _ _
      | some A =>
        by_cases hne : xs = []
        · have : cs0 = [] := List.eq_nil_of_length_eq_zero (by rw [q2, hne]; simp)
          subst this
          exact run_firstCells_some w1 _ _ A _ _ [] (by simp [hne]) (by simp)
        · refine run_firstCells_some w1 _ _ A _ _ cs0 q2 (fun j v hj => ?_)
          have hjl : j < cs0.length := (List.getElem?_eq_some_iff.1 hj).1
          rw [Addr.add_plain A _ (hrun.spot hne)]
          obtain ⟨k1, _⟩ := q3 _ rfl j hjl
          rw [List.getElem?_eq_getElem hjl] at hj
          rw [← hj, ← k1]
          rfl
    have hfirst1 := hfirst { w with drawn := w.drawn + 1 } rfl
    let rest := Builtin.zeroCells z.cells (nc - (xs.length + zs.length))
    let arr : Array Value := cs0.toArray ++ cs.toArray ++ rest
    have hrest : rest.size = (nc - (xs.length + zs.length)) * e.size := by
      simp only [rest, size_zeroCells, hzs]
    have harr : arr.size = nc * e.size := by
      simp only [arr, Array.size_append, List.size_toArray, q2, hcl, hrest, ← Nat.add_mul]
      congr 1
      omega
    have hrun2 : (Builtin.append_ #[ts, tx] rty #[.slice base xs.length c, vx]).run P w = .ok (.slice (some ⟨w.heap.size, 0, none⟩) (xs.length + zs.length) nc) { w1 with heap := w1.heap.push (.cells arr elemT) } := by
      simp only [Builtin.append_, List.getElem?_toArray, List.getElem?_cons_zero, List.getElem?_cons_succ, Sem.run_bind, run_underlying hu, Result.andThen_ok, sizeOf, typeInfo, run_program, hi, Sem.run_pure, hsz, run_underlying hux, hzeros, Bool.false_eq_true, if_false, hlen, Bool.not_false, if_true, if_neg hroom, if_neg hfit, if_neg h64, run_choose, Question.forced, run_askRoom, zeroValue, hz, newRow, run_newObj, hold, hfirst1]
      rfl
    have hp := Parts.imp (RepC.ext (Ext.drawn (w := w) (g := g) (d := 0) (K := fun _ => False) (w.drawn + 1)) e) _ _ (Parts.append q1 hparts)
    have hl2 : (xs ++ zs).length = xs.length + zs.length := List.length_append
    have hw1 : WF g w1 := hw.drawn _
    have hf := RepX.fresh (κ := κ) (dh := dh) (b := true) (T := elemT) (w := w1) (g := g) (e := e) (xs := xs ++ zs) (arr := arr) (c := nc) (cs := cs0 ++ cs) hp hw1 ?_ (by rw [hl2]; exact hnc2) harr hpos (nl.map (· && List.isEmpty zs)) ?_ (0, 0) (.inl rfl)
    · rw [hl2] at hf
      refine ⟨_, _, _, hrun2, hf, ?_, WF.block hw1 _ _ _, rfl⟩
      exact (Ext.drawn (w.drawn + 1)).trans (Ext.block hw1 _ _ _)
    · rw [hl2]
      simp only [arr, Array.toList_append]
      rw [List.take_append_of_le_length (by simp [q2, hcl, Nat.add_mul])]
      exact List.take_of_length_le (by simp [q2, hcl, Nat.add_mul])
    · intro b hb'
      cases nl with
      | none => cases hb'
      | some b0 =>
        simp only [Option.map_some, Option.some.injEq] at hb'
        subst hb'
        have h0 := hnl b0 rfl
        cases hb0 : b0 with
        | false => rfl
        | true =>
          subst hb0
          have hbn : base = none := by simpa using h0
          have hxs := hx0 hbn
          subst hxs
          have hz0 : zs ≠ [] := by
            rintro rfl
            simp at hroom
          cases zs with
          | nil => exact absurd rfl hz0
          | cons _ _ => rfl

/-- A slice that is known nowhere else, in a new block. -/
theorem RepX.freshP {g w} {dh : Nat} {κ : Key} {e : Ty} {xs : List e.den} {cs : List Value} {arr : Array Value} {T c : Nat} (hp : Parts (RepC w g e) xs cs) (hw : WF g w) (ha : arr.toList.take (xs.length * e.size) = cs) (hn : xs.length ≤ c) (hc : arr.size = c * e.size) (fr : Nat × Nat) (hfr : FrOk fr e arr.size) :
    RepX (g.block w.heap.size κ 0) { w with heap := w.heap.push (.cells arr T fr) } dh κ (.ps e xs) (.slice (some ⟨w.heap.size, 0, none⟩) xs.length c) := by
  have he : Ext g w (g.block w.heap.size κ 0) { w with heap := w.heap.push (.cells arr T fr) } 0 (fun _ => False) := Ext.block hw _ κ _
  simp only [RepX]
  exact ⟨_, c, rfl, hn, .inr ⟨w.heap.size, arr, T, fr, cs, arr.toList.drop (xs.length * e.size), rfl, by simp, hc, hfr, by simp [Ghost.block], by simp [Ghost.block], by rw [← ha, List.take_append_drop], hp.imp (RepC.ext he e)⟩⟩

/-- What is appended to a slice that is known nowhere else leaves it so. -/
theorem append_pris {e : Ty} {ts tx elemT eb : Nat} (rty : Nat) (hu : P.underlying ts = some (.slice elemT)) (ht : tyB P e elemT = true) (hpos : 0 < e.size) (hb : (P.info? elemT).map (·.bytes) = some eb) (heb : 0 < eb)
    (htx : ∃ dx, P.underlying tx = some dx ∧ ∀ k, dx ≠ .int k) {g w} {d dh : Nat} {κ : Key} (hd : dh ≤ d) (hno : κ ≠ .no) {xs zs : List e.den} {vs vx : Value} (hs : RepX g w dh κ (.ps e xs) vs) (hw : WF g w)
    {cs : List Value} (hlen : ∀ w', (Builtin.lenOf vx).run P w' = .ok zs.length w') (hfirst : ∀ w', w'.heap = w.heap → (Builtin.firstCells e.size zs.length vx).run P w' = .ok cs.toArray w') (hparts : Parts (RepC w g e) zs cs)
    (hbound : (xs.length + zs.length) * eb ≤ 140737488355328) :
    ∃ val w' g2, (Builtin.append_ #[ts, tx] rty #[vs, vx]).run P w = .ok val w' ∧ RepX g2 w' dh κ (.ps e (xs ++ zs)) val ∧ Ext g w g2 w' d (fun x => x = κ) ∧ WF g2 w' ∧ g2.N = g.N := by
  obtain ⟨inf, z, hi, hsz, hz, hzs⟩ := tyB_info ht
  have hby : inf.bytes = eb := by rw [hi] at hb; simpa using hb
  obtain ⟨dx, hux, hdx⟩ := htx
  have hzeros : ((dx matches .int _) : Bool) = false := by cases dx <;> first | rfl | exact absurd rfl (hdx _)
  have hcl := Parts.length (RepC.length (w := w) (g := g) e) zs cs hparts
  have hcp : Plain cs := Parts.plain (RepC.plain e) zs cs hparts
  simp only [RepX] at hs
  obtain ⟨base, c, rfl, hnc, hpr⟩ := hs
  by_cases hroom : xs.length + zs.length ≤ c
  · by_cases hm : zs = []
    · -- nothing is appended
      subst hm
      have hcs : cs = [] := List.eq_nil_of_length_eq_zero (by simpa using hcl)
      subst hcs
      refine ⟨.slice base xs.length c, w, g, ?_, ?_, Ext.refl _ _ _ _, hw, rfl⟩
      · have hf0 := hfirst w rfl
        simp only [List.length_nil] at hf0
        have hl0 := hlen w
        simp only [List.length_nil] at hl0
        simp only [Builtin.append_, List.getElem?_toArray, List.getElem?_cons_zero, List.getElem?_cons_succ, Sem.run_bind, run_underlying hu, Result.andThen_ok, sizeOf, typeInfo, run_program, hi, Sem.run_pure, hsz, run_underlying hux, hzeros, Bool.false_eq_true, if_false, hl0, Bool.not_false, if_true, Nat.add_zero, if_pos hnc, hf0]
        cases base <;> simp [storeCells]
      · simp only [RepX]
        rw [List.append_nil]
        exact ⟨base, c, rfl, hnc, hpr⟩
    · -- there is room: the block is the key's own
      have hzl : 0 < zs.length := List.length_pos_iff.2 hm
      rcases hpr with ⟨h0, _⟩ | ⟨b, arr, tyo, fr, cs0, rest, rfl, e2, e3, e4, e5, e6, e7, e8⟩
      · omega
      have hc0 := Parts.length (RepC.length (w := w) (g := g) e) xs cs0 e8
      have hfit : 0 + (xs.length * e.size) + cs.length ≤ arr.size := by
        rw [e3, hcl, Nat.zero_add, ← Nat.add_mul]
        exact Nat.mul_le_mul_right _ hroom
      have hst := storeCells_run (P := P) (w := w) b (xs.length * e.size) tyo fr cs 0 arr w e2 (by simpa using hfit) (fun j h1 h2 => frozen_open e2 e4.open (by omega)) hcp
      simp only [Nat.add_zero] at hst
      have hb : b < w.heap.size := (Array.getElem?_eq_some_iff.1 e2).1
      generalize hnew : (arr.toList.take (xs.length * e.size) ++ cs ++ arr.toList.drop (xs.length * e.size + cs.length)).toArray = new at hst
      have hnsz : new.size = arr.size := by
        rw [← hnew]
        simp
        omega
      have hold : arr.toList.take (xs.length * e.size) = cs0 := by
        rw [e7, ← hc0]
        exact List.take_left
      have he : Ext g w g (w.setRow b new) d (fun x => x = κ) := Ext.setRow e6 e5 hb
      refine ⟨.slice (some ⟨b, 0, none⟩) (xs.length + zs.length) c, w.setRow b new, g, ?_, ?_, he, ⟨fun i hi => ?_, Tabs.ext he hw.2⟩, rfl⟩
      · simp only [Builtin.append_, List.getElem?_toArray, List.getElem?_cons_zero, List.getElem?_cons_succ, Sem.run_bind, run_underlying hu, Result.andThen_ok, sizeOf, typeInfo, run_program, hi, Sem.run_pure, hsz, run_underlying hux, hzeros, Bool.false_eq_true, if_false, hlen, Bool.not_false, if_true, if_pos hroom, hfirst w rfl, Addr.add_lit, Nat.zero_add, hst]
      · simp only [RepX]
        refine ⟨_, c, by rw [List.length_append], by rw [List.length_append]; exact hroom, .inr ⟨b, new, tyo, fr, cs0 ++ cs, arr.toList.drop (xs.length * e.size + cs.length), rfl, setRow_heap w b arr new tyo fr e2, by rw [hnsz, e3], by rw [hnsz]; exact e4, e5, e6, ?_, ?_⟩⟩
        · rw [← hnew, hold]
        · exact Parts.append (Parts.imp (RepC.ext he e) xs cs0 e8) (Parts.imp (RepC.ext he e) zs cs hparts)
      · exact hw.1 i (by simpa using hi)
  · -- a new block
    have hfit : ¬ (Builtin.nextslicecap (xs.length + zs.length) c * inf.bytes > 2 ^ 48) := by
      have := growslice_fits (need := xs.length + zs.length) (old := c) (bytes := inf.bytes) (by omega) (by rw [hby]; exact hbound)
      omega
    have h64 : ¬ ((((xs.length + zs.length : Nat) : Int) > IntKind.i64.max) ∧ (False ∨ inf.bytes = 0)) := by
      rintro ⟨_, h | h⟩
      · cases h
      · omega
    let w1 : World := { w with drawn := w.drawn + 1 }
    let nc := (Question.appendCap (xs.length + zs.length) c elemT).cut (w.tape w.drawn (.appendCap (xs.length + zs.length) c elemT))
    have hnc2 : xs.length + zs.length ≤ nc := Nat.le_add_right _ _
    have hcells : ∃ cs0, Parts (RepC w g e) xs cs0 ∧ (Builtin.firstCells e.size xs.length (.slice base xs.length c)).run P { w with drawn := w.drawn + 1 } = .ok cs0.toArray { w with drawn := w.drawn + 1 } := by
      rcases hpr with ⟨h0, h1⟩ | ⟨b, arr, tyo, fr, cs0, rest, rfl, e2, e3, e4, e5, e6, e7, e8⟩
      · subst h1
        refine ⟨[], rfl, ?_⟩
        cases base with
        | none => exact run_firstCells_none w1 _ _ _ _
        | some A => exact run_firstCells_some w1 _ _ A _ _ [] (by simp) (by simp)
      · have hc0 := Parts.length (RepC.length (w := w) (g := g) e) xs cs0 e8
        refine ⟨cs0, e8, run_firstCells_some w1 _ _ _ _ _ cs0 hc0 (fun j v hj => ?_)⟩
        have hjl : j < cs0.length := (List.getElem?_eq_some_iff.1 hj).1
        rw [Addr.add_lit, Nat.zero_add]
        show w.cell? ⟨b, j, none⟩ = some v
        rw [cell_of_heap e2, ← Array.getElem?_toList, e7, List.getElem?_append_left hjl, hj]
    obtain ⟨cs0, q1, hold⟩ := hcells
    have q2 := Parts.length (RepC.length (w := w) (g := g) e) xs cs0 q1
    have hfirst1 := hfirst { w with drawn := w.drawn + 1 } rfl
    let rest := Builtin.zeroCells z.cells (nc - (xs.length + zs.length))
    let arr : Array Value := cs0.toArray ++ cs.toArray ++ rest
    have hrest : rest.size = (nc - (xs.length + zs.length)) * e.size := by
      simp only [rest, size_zeroCells, hzs]
    have harr : arr.size = nc * e.size := by
      simp only [arr, Array.size_append, List.size_toArray, q2, hcl, hrest, ← Nat.add_mul]
      congr 1
      omega
    have hrun2 : (Builtin.append_ #[ts, tx] rty #[.slice base xs.length c, vx]).run P w = .ok (.slice (some ⟨w.heap.size, 0, none⟩) (xs.length + zs.length) nc) { w1 with heap := w1.heap.push (.cells arr elemT) } := by
      simp only [Builtin.append_, List.getElem?_toArray, List.getElem?_cons_zero, List.getElem?_cons_succ, Sem.run_bind, run_underlying hu, Result.andThen_ok, sizeOf, typeInfo, run_program, hi, Sem.run_pure, hsz, run_underlying hux, hzeros, Bool.false_eq_true, if_false, hlen, Bool.not_false, if_true, if_neg hroom, if_neg hfit, if_neg h64, run_choose, Question.forced, run_askRoom, zeroValue, hz, newRow, run_newObj, hold, hfirst1]
      rfl
    have hp := Parts.imp (RepC.ext (Ext.drawn (w := w) (g := g) (d := 0) (K := fun _ => False) (w.drawn + 1)) e) _ _ (Parts.append q1 hparts)
    have hl2 : (xs ++ zs).length = xs.length + zs.length := List.length_append
    have hw1 : WF g w1 := hw.drawn _
    have hf := RepX.freshP (κ := κ) (dh := dh) (T := elemT) (w := w1) (g := g) (e := e) (xs := xs ++ zs) (arr := arr) (c := nc) (cs := cs0 ++ cs) hp hw1 ?_ (by rw [hl2]; exact hnc2) harr (0, 0) (.inl rfl)
    · rw [hl2] at hf
      refine ⟨_, _, _, hrun2, hf, ?_, WF.block hw1 _ _ _, rfl⟩
      exact (Ext.drawn (w.drawn + 1)).trans (Ext.block hw1 _ _ _)
    · rw [hl2]
      simp only [arr, Array.toList_append]
      rw [List.take_append_of_le_length (by simp [q2, hcl, Nat.add_mul])]
      exact List.take_of_length_le (by simp [q2, hcl, Nat.add_mul])

theorem OdR.snoc {g w} {κ : Key} {a : Ty} {xs : List (Bool × List a.den × Unit)} {hd : Nat → Option Addr × Nat} {cell cell' : Nat → Option Value} (h : OdR g w κ a xs none hd cell) (h1 : cell' (2 * xs.length) = some (.bool false)) (h2 : cell' (2 * xs.length + 1) = some (.slice none 0 0))
    (h3 : ∀ k, k < 2 * xs.length → cell' k = cell k) : OdR g w κ a (xs ++ [(false, [], ())]) none (fun i => if i = xs.length then (none, 0) else hd i) cell' := by
  refine ⟨fun i hi => ?_, fun i j hi hj hij _ _ c1 c2 => ?_⟩
  · by_cases hlt : i < xs.length
    · obtain ⟨k1, k2, k3, k4, k5⟩ := h.1 i hlt
      simp only [List.getElem_append_left hlt]
      rw [if_neg (by omega), h3 (2 * i) (by omega), h3 (2 * i + 1) (by omega)]
      exact ⟨k1, k2, k3, k4, k5⟩
    · have hi' : i = xs.length := by simp at hi; omega
      subst hi'
      simp only [List.getElem_concat_length, if_true]
      exact ⟨h1, h2, Nat.le_refl _, fun i hi => absurd hi (by simp), fun _ => .inl rfl⟩
  · simp only [List.length_append, List.length_singleton] at hi hj
    dsimp only at c1 c2 ⊢
    by_cases e1 : i = xs.length
    · rw [if_pos e1] at c1; exact absurd rfl c1
    · by_cases e2 : j = xs.length
      · rw [if_pos e2] at c2; exact absurd rfl c2
      · rw [if_neg e1] at c1 ⊢
        rw [if_neg e2] at c2 ⊢
        exact h.2 i j (by omega) (by omega) hij (fun e => by cases e) (fun e => by cases e) c1 c2

/-- A new element behind rows with slices of their own. -/
theorem append_rows {a : Ty} {ts tx elemT eb : Nat} (rty : Nat) (hu : P.underlying ts = some (.slice elemT)) (ht : tyB P (stT a) elemT = true) (hb : (P.info? elemT).map (·.bytes) = some eb) (heb : 0 < eb)
    (htx : ∃ dx, P.underlying tx = some dx ∧ ∀ k, dx ≠ .int k) {g w} {d dh : Nat} {κ : Key} (hno : κ ≠ .no) {xs : List (Bool × List a.den × Unit)} {vs vx : Value} (hs : RepX g w dh κ (.pd a xs) vs) (hw : WF g w)
    (hlen : ∀ w', (Builtin.lenOf vx).run P w' = .ok 1 w') (hfirst : ∀ w', w'.heap = w.heap → (Builtin.firstCells 2 1 vx).run P w' = .ok zstC.toArray w')
    (hbound : (xs.length + 1) * eb ≤ 140737488355328) :
    ∃ val w' g2, (Builtin.append_ #[ts, tx] rty #[vs, vx]).run P w = .ok val w' ∧ RepX g2 w' dh κ (.pd a (xs ++ [(false, [], ())])) val ∧ Ext g w g2 w' d (fun x => x = κ) ∧ WF g2 w' ∧ g2.N = g.N := by
  obtain ⟨inf, z, hi, hsz, hz, hzs⟩ := tyB_info ht
  have e2 : (stT a).size = 2 := rfl
  rw [e2] at hsz hzs
  have hby : inf.bytes = eb := by rw [hi] at hb; simpa using hb
  obtain ⟨dx, hux, hdx⟩ := htx
  have hzeros : ((dx matches .int _) : Bool) = false := by cases dx <;> first | rfl | exact absurd rfl (hdx _)
  have hcp : Plain zstC := by
    intro v hv
    simp only [zstC, List.mem_cons, List.not_mem_nil, or_false] at hv
    rcases hv with rfl | rfl <;> rfl
  have hz2 : zstC.length = 2 := rfl
  simp only [RepX] at hs
  obtain ⟨base, c, rfl, hnc, hpr⟩ := hs
  by_cases hroom : xs.length + 1 ≤ c
  · -- there is room: the block is the key's own
    rcases hpr with ⟨h0, _⟩ | ⟨b, arr, tyo, fr, hd, rfl, f2, f3, f4, f5, f6, f7, f8⟩
    · omega
    have hfit : 0 + (xs.length * 2) + zstC.length ≤ arr.size := by
      rw [f3, hz2]; omega
    have hst := storeCells_run (P := P) (w := w) b (xs.length * 2) tyo fr zstC 0 arr w f2 (by simpa using hfit) (fun j h1 h2 => frozen_open f2 (.inl f4) (by omega)) hcp
    simp only [Nat.add_zero] at hst
    have hbl : b < w.heap.size := (Array.getElem?_eq_some_iff.1 f2).1
    generalize hnew : (arr.toList.take (xs.length * 2) ++ zstC ++ arr.toList.drop (xs.length * 2 + zstC.length)).toArray = new at hst
    have hnsz : new.size = arr.size := by
      rw [← hnew]
      simp
      omega
    have hnk : ∀ k, k < 2 * xs.length → new[k]? = arr[k]? := by
      intro k hk
      rw [← hnew, ← Array.getElem?_toList, ← Array.getElem?_toList]
      simp only []
      rw [List.append_assoc, List.getElem?_append_left (by simp; omega), List.getElem?_take, if_pos (by omega)]
    have hn0 : ∀ j (hj : j < 2), new[2 * xs.length + j]? = zstC[j]? := by
      intro j hj
      rw [← hnew, ← Array.getElem?_toList]
      simp only []
      rw [List.append_assoc, List.getElem?_append_right (by simp; omega), List.getElem?_append_left (by simp; omega)]
      congr 1
      simp
      omega
    have he : Ext g w g (w.setRow b new) d (fun x => x = κ) := Ext.setRow f6 f5 hbl
    refine ⟨.slice (some ⟨b, 0, none⟩) (xs.length + 1) c, w.setRow b new, g, ?_, ?_, he, ⟨fun i hi => hw.1 i (by simpa using hi), Tabs.ext he hw.2⟩, rfl⟩
    · simp only [Builtin.append_, List.getElem?_toArray, List.getElem?_cons_zero, List.getElem?_cons_succ, Sem.run_bind, run_underlying hu, Result.andThen_ok, sizeOf, typeInfo, run_program, hi, Sem.run_pure, hsz, run_underlying hux, hzeros, Bool.false_eq_true, if_false, hlen, Bool.not_false, if_true, if_pos hroom, hfirst w rfl, Addr.add_lit, Nat.zero_add, hst]
    · simp only [RepX]
      have hR : OdR g (w.setRow b new) κ a xs none hd (fun k => arr[k]?) := by
        refine ⟨fun i hi => ?_, f7.2⟩
        obtain ⟨k1, k2, k3, k4, k5⟩ := f7.1 i hi
        refine ⟨k1, k2, k3, k4.ext he (RepC.ext he a), fun hh => ?_⟩
        rcases k5 hh with m0 | ⟨b', arr', ty', fr', m1, m2, m3, m4, m5, m6⟩
        · exact .inl m0
        · by_cases hc0 : (hd i).2 = 0
          · exact .inl hc0
          · have hne : b' ≠ b := by
              rintro rfl
              exact f8 i hi hc0 m1
            exact .inr ⟨b', arr', ty', fr', m1, by rw [setRow_other w b b' new hne]; exact m2, m3, m4, m5, m6⟩
      refine ⟨_, c, by simp, by simpa using hroom, .inr ⟨b, new, tyo, fr, _, rfl, setRow_heap w b arr new tyo fr f2, by rw [hnsz, f3], f4, f5, f6, hR.snoc ?_ ?_ hnk, fun i hi hc => ?_⟩⟩
      · exact hn0 0 (by omega)
      · exact hn0 1 (by omega)
      · by_cases e1 : i = xs.length
        · rw [if_pos e1] at hc; exact absurd rfl hc
        · rw [if_neg e1] at hc ⊢
          exact f8 i (by simp at hi; omega) hc
  · -- a new block
    have hfit : ¬ (Builtin.nextslicecap (xs.length + 1) c * inf.bytes > 2 ^ 48) := by
      have := growslice_fits (need := xs.length + 1) (old := c) (bytes := inf.bytes) (by omega) (by rw [hby]; exact hbound)
      omega
    have h64 : ¬ ((((xs.length + 1 : Nat) : Int) > IntKind.i64.max) ∧ (False ∨ inf.bytes = 0)) := by
      rintro ⟨_, h | h⟩
      · cases h
      · omega
    let w1 : World := { w with drawn := w.drawn + 1 }
    let nc := (Question.appendCap (xs.length + 1) c elemT).cut (w.tape w.drawn (.appendCap (xs.length + 1) c elemT))
    have hnc2 : xs.length + 1 ≤ nc := Nat.le_add_right _ _
    have hcells : ∃ cs0 : List Value, ∃ hd : Nat → Option Addr × Nat, cs0.length = xs.length * 2 ∧ OdR g w κ a xs none hd (fun k => cs0[k]?) ∧ (Builtin.firstCells 2 xs.length (.slice base xs.length c)).run P { w with drawn := w.drawn + 1 } = .ok cs0.toArray { w with drawn := w.drawn + 1 } := by
      rcases hpr with ⟨h0, h1⟩ | ⟨b, arr, tyo, fr, hd, rfl, f2, f3, f4, f5, f6, f7, f8⟩
      · subst h1
        refine ⟨[], fun _ => (none, 0), rfl, ⟨fun i hi => absurd hi (by simp), fun i j hi => absurd hi (by simp)⟩, ?_⟩
        cases base with
        | none => exact run_firstCells_none w1 _ _ _ _
        | some A => exact run_firstCells_some w1 _ _ A _ _ [] (by simp) (by simp)
      · have hcl : (arr.toList.take (xs.length * 2)).length = xs.length * 2 := by simp; omega
        refine ⟨arr.toList.take (xs.length * 2), hd, hcl, ⟨fun i hi => ?_, f7.2⟩, run_firstCells_some w1 _ _ _ _ _ _ hcl (fun j v hj => ?_)⟩
        · obtain ⟨k1, k2, k3, k4, k5⟩ := f7.1 i hi
          dsimp only at k1 k2 ⊢
          rw [List.getElem?_take, if_pos (by omega), List.getElem?_take, if_pos (by omega), Array.getElem?_toList, Array.getElem?_toList]
          exact ⟨k1, k2, k3, k4, k5⟩
        · have hjl : j < xs.length * 2 := by rw [← hcl]; exact (List.getElem?_eq_some_iff.1 hj).1
          rw [Addr.add_lit, Nat.zero_add]
          show w.cell? ⟨b, j, none⟩ = some v
          rw [cell_of_heap f2, ← Array.getElem?_toList, ← hj, List.getElem?_take, if_pos hjl]
    obtain ⟨cs0, hd, q2, q1, hold⟩ := hcells
    have hfirst1 := hfirst { w with drawn := w.drawn + 1 } rfl
    let rest := Builtin.zeroCells z.cells (nc - (xs.length + 1))
    let arr : Array Value := cs0.toArray ++ zstC.toArray ++ rest
    have hrest : rest.size = (nc - (xs.length + 1)) * 2 := by
      simp only [rest, size_zeroCells, hzs]
    have harr : arr.size = nc * 2 := by
      simp only [arr, Array.size_append, List.size_toArray, q2, hz2, hrest]
      omega
    have hrun2 : (Builtin.append_ #[ts, tx] rty #[.slice base xs.length c, vx]).run P w = .ok (.slice (some ⟨w.heap.size, 0, none⟩) (xs.length + 1) nc) { w1 with heap := w1.heap.push (.cells arr elemT) } := by
      simp only [Builtin.append_, List.getElem?_toArray, List.getElem?_cons_zero, List.getElem?_cons_succ, Sem.run_bind, run_underlying hu, Result.andThen_ok, sizeOf, typeInfo, run_program, hi, Sem.run_pure, hsz, run_underlying hux, hzeros, Bool.false_eq_true, if_false, hlen, Bool.not_false, if_true, if_neg hroom, if_neg hfit, if_neg h64, run_choose, Question.forced, run_askRoom, zeroValue, hz, newRow, run_newObj, hold, hfirst1]
      rfl
    have hw1 : WF g w1 := hw.drawn _
    have he1 : Ext g w g w1 d (fun _ => False) := Ext.drawn (w.drawn + 1)
    have he2 : Ext g w1 (g.block w1.heap.size κ 0) { w1 with heap := w1.heap.push (.cells arr elemT) } d (fun _ => False) := Ext.block hw1 _ _ _
    have he := he1.trans he2
    refine ⟨_, _, _, hrun2, ?_, he.mono (Nat.le_refl _) (fun _ k => k.elim), WF.block hw1 _ _ _, rfl⟩
    simp only [RepX]
    have hR := q1.ext he (fun k => k)
    have hk : ∀ k, k < 2 * xs.length → arr[k]? = cs0[k]? := by
      intro k hk
      simp only [arr]
      rw [← Array.getElem?_toList]
      simp only [Array.toList_append]
      rw [List.append_assoc, List.getElem?_append_left (by simp [q2]; omega)]
    have hn0 : ∀ j (hj : j < 2), arr[2 * xs.length + j]? = zstC[j]? := by
      intro j hj
      simp only [arr]
      rw [← Array.getElem?_toList]
      simp only [Array.toList_append]
      rw [List.append_assoc, List.getElem?_append_right (by simp [q2]; omega), List.getElem?_append_left (by simp [q2]; omega)]
      congr 1
      simp [q2]
      omega
    refine ⟨_, nc, by simp, by simpa using hnc2, .inr ⟨w.heap.size, arr, elemT, (0, 0), _, rfl, by simp [w1], harr, rfl, by simp [Ghost.block, w1], by simp [Ghost.block, w1], hR.snoc (hn0 0 (by omega)) (hn0 1 (by omega)) hk, fun i hi hc hA => ?_⟩⟩
    by_cases e1 : i = xs.length
    · rw [if_pos e1] at hc; exact absurd rfl hc
    · rw [if_neg e1] at hc hA
      obtain ⟨_, _, _, _, k5⟩ := q1.1 i (by simp at hi; omega)
      rcases k5 (fun e => by cases e) with m0 | ⟨b', arr', ty', fr', m1, m2, _⟩
      · exact hc m0
      · have hbl : b' < w.heap.size := (Array.getElem?_eq_some_iff.1 m2).1
        rw [hA] at m1
        simp only [Option.some.injEq, Addr.mk.injEq, and_true] at m1
        omega

end
end Go.Proofs.Ytnbfiifkaddehaa.V

/- What the evaluator tells is so: literals, lengths, least and greatest, and appends as operations. -/
namespace Go.Proofs.Ytnbfiifkaddehaa.V
open Go
set_option linter.unusedVariables false
set_option linter.unusedSimpArgs false

section
variable {P : Program} {C : Ctx} {dst : Option Nat} {ty : Nat} {pos : String} {af : Array Edge} {gd : Option (Nat × Bool)}

theorem toD_rep {g w} {dh : Nat} {κ : Key} {t : Ty} {x : X} {v : Value} {y : t.den} (h : RepX g w dh κ x v) (e : toD t x = some y) : RepC w g t y v.cells.toList := by
  cases x
  case d t' x =>
    have e' : castTo t' t x = some y := by
      cases t <;> simpa only [V.toD] using e
    obtain ⟨rfl, rfl⟩ := castTo_some e'
    simp only [RepX] at h
    obtain ⟨cs, h1, h2⟩ := h
    rw [h2.cells' h1]
    exact h1
  case sl e0 xs nl own =>
    simp only [RepX] at h
    obtain ⟨a, c, rfl, h2, h3, _⟩ := h
    cases t <;> simp only [V.toD] at e <;> try (cases e; done)
    obtain ⟨e1, rfl⟩ := castTo_some e
    cases e1
    exact ⟨a, c, rfl, h2, h3⟩
  case nils =>
    simp only [RepX] at h
    subst h
    cases t <;> simp only [V.toD] at e <;> try (cases e; done)
    cases e
    exact ⟨none, 0, rfl, Nat.le_refl _, Run.nil⟩
  case agg xs => simp [RepX] at h
  all_goals (cases t <;> simp [V.toD] at e)

/-- A segment written. -/
theorem foldl_set (vs : List Value) : ∀ (off j : Nat) (cells : Array Value) (pre mid post : List Value), cells.toList = pre ++ mid ++ post → pre.length = off + j → mid.length = vs.length →
    ((vs.zipIdx j).foldl (fun cs (p : Value × Nat) => cs.setIfInBounds (off + p.2) p.1) cells).toList = pre ++ vs ++ post := by
  induction vs with
  | nil =>
    intro off j cells pre mid post h1 h2 h3
    have : mid = [] := List.eq_nil_of_length_eq_zero (by simpa using h3)
    subst this
    simpa using h1
  | cons v vs ih =>
    intro off j cells pre mid post h1 h2 h3
    match mid, h3 with
    | m :: mid, h3 =>
      rw [List.zipIdx_cons, List.foldl_cons]
      have := ih off (j + 1) (cells.setIfInBounds (off + j) v) (pre ++ [v]) mid post ?_ (by simp; omega) (by simpa using h3)
      · rw [this]; simp
      · rw [Array.toList_setIfInBounds, h1, ← h2]
        simp

theorem collect_fill {e : Ty} {g w} {dh : Nat} {size : Nat} (hsz : size = e.size) : ∀ (is : List Nat) (xs : List X) (vs : List Value) (start : Nat) (l : List e.den) (cells : Array Value) (pre mid post : List Value),
    collectD e start is xs = some l → (∀ (j : Nat) (x : X) (v : Value), xs[j]? = some x → vs[j]? = some v → ∃ κ, RepX g w dh κ x v) → vs.length = xs.length → cells.toList = pre ++ mid ++ post → pre.length = start * size → mid.length = l.length * size →
    ∃ out cs, Instr.fill (fun i => some (i * size, size)) cells (is.zip vs) = some out ∧ out.toList = pre ++ cs ++ post ∧ Parts (RepC w g e) l cs
  | [], [], vs, start, l, cells, pre, mid, post, h, _, hv, hc, hp, hm => by
    simp only [collectD, Option.some.injEq] at h
    subst h
    have : vs = [] := List.eq_nil_of_length_eq_zero (by simpa using hv)
    subst this
    have : mid = [] := List.eq_nil_of_length_eq_zero (by simpa using hm)
    subst this
    exact ⟨cells, [], by simp [Instr.fill], by simpa using hc, rfl⟩
  | i :: is, x :: xs, [], start, l, cells, pre, mid, post, h, _, hv, _, _, _ => by simp at hv
  | i :: is, x :: xs, v :: vs, start, l, cells, pre, mid, post, h, hr, hv, hc, hp, hm => by
    simp only [collectD] at h
    split at h
    · rename_i hi
      subst hi
      split at h
      · rename_i y hy
        split at h
        · rename_i l' hl'
          simp only [Option.some.injEq] at h
          subst h
          obtain ⟨κ, hx⟩ := hr 0 x v rfl rfl
          have hrep := toD_rep hx hy
          have hlen : v.cells.size = size := by rw [hsz, ← RepC.length e _ _ hrep]; simp
          have hml : mid.length = size + l'.length * size := by rw [hm]; simp [Nat.add_mul, Nat.add_comm]
          obtain ⟨m1, m2, rfl, hm1⟩ : ∃ m1 m2, mid = m1 ++ m2 ∧ m1.length = size := ⟨mid.take size, mid.drop size, (List.take_append_drop _ _).symm, by simp; omega⟩
          have hm2 : m2.length = l'.length * size := by simp at hml; omega
          have hcsz : cells.size = i * size + size + l'.length * size + post.length := by
            have := congrArg List.length hc
            simp at this
            omega
          have hfold : (v.cells.zipIdx.foldl (fun cs (p : Value × Nat) => cs.setIfInBounds (i * size + p.2) p.1) cells).toList = pre ++ v.cells.toList ++ (m2 ++ post) := by
            rw [← Array.foldl_toList, Array.toList_zipIdx]
            refine foldl_set v.cells.toList (i * size) 0 cells pre m1 (m2 ++ post) (by rw [hc]; simp) (by rw [hp]; simp) (by simp [hm1, hlen])
          obtain ⟨out, cs, f1, f2, f3⟩ := collect_fill hsz is xs vs (i + 1) l' _ (pre ++ v.cells.toList) m2 post hl' (fun j x v h1 h2 => hr (j + 1) x v (by simpa using h1) (by simpa using h2)) (by simpa using hv) (by rw [hfold]; simp) (by simp [hp, hlen, Nat.add_mul]) hm2
          refine ⟨out, v.cells.toList ++ cs, ?_, by rw [f2]; simp, ⟨_, _, rfl, hrep, f3⟩⟩
          simp only [List.zip_cons_cons, Instr.fill]
          rw [if_neg (by simp [hlen]; omega)]
          exact f1
        · cases h
      · cases h
    · cases h
  | [], x :: xs, _, _, _, _, _, _, _, h, _, _, _, _, _ => by simp [collectD] at h
  | i :: is, [], _, _, _, _, _, _, _, h, _, _, _, _, _ => by simp [collectD] at h

theorem core_buildSlice (hC : TysOk P C.tys) (T n : Nat) (parts : Array (Nat × Operand)) : CoreOk P C ⟨dst, .buildSlice T n parts, ty, pos, af, gd⟩ := by
  intro R tr g w d dh st a h k r hk
  have ops : (⟨dst, .buildSlice T n parts, ty, pos, af, gd⟩ : Oper).op.operands.toList.map st.val = parts.toList.map fun p => st.val p.2 := by simp [Op.operands]
  rw [ops] at hk
  have hk' : (match C.ty T with
    | some ⟨.slice e, _, _, _⟩ =>
      if n * e.size ≤ 16777216 then
        match (parts.toList.map fun p => st.val p.2) with
        | [.zv a] => if e = stT a ∧ n = 1 ∧ parts.toList.map (·.1) = [0] then k (.zs a) [] st.H else none
        | _ => match collectD e 0 (parts.toList.map (·.1)) (parts.toList.map fun p => st.val p.2) with
        | some l => if l.length = n then k (.sl e l (some false) true) [] st.H else none
        | none => if e = .any ∧ parts.toList.map (·.1) = List.range n ∧ (parts.toList.map fun p => st.val p.2).all isRef = true then k (.lst ((parts.toList.map fun p => st.val p.2).map X.unown)) [] st.H else none
      else none
    | _ => none) = some r := hk
  split at hk'
  · rename_i e e1 e2 e3 he
    split at hk'
    · rename_i hn
      split at hk'
      · rename_i a1 hzv
        split at hk'
        · rename_i hcond
          obtain ⟨rfl, rfl, hidx⟩ := hcond
          obtain ⟨p, hps⟩ : ∃ p, parts.toList = [p] := by
            match hpl : parts.toList with
            | [] => rw [hpl] at hzv; simp at hzv
            | [p] => exact ⟨p, rfl⟩
            | p :: q :: l => rw [hpl] at hzv; simp at hzv
          rw [hps] at hzv hidx
          simp only [List.map_cons, List.map_nil, List.cons.injEq, and_true] at hzv hidx
          have hv := h.val p.2
          rw [hzv] at hv
          simp only [RepX] at hv
          obtain ⟨et, hu, ht, hpos⟩ := tyB_slice (Ctx.ty_ok hC he).1
          obtain ⟨inf, z, hi, hs, hz, hzs⟩ := tyB_info ht
          have e2 : (stT a1).size = 2 := rfl
          rw [e2] at hs hzs
          refine ⟨_, _, _, hk', fun next Q hnx => ?_⟩
          have hpm : (parts.map fun (i, x) => (i, a.eval x)).toList = [(0, .agg zstC.toArray)] := by
            simp [hps, hidx, hv]
          let init : Array Value := (Array.range (1 * 2)).map (z.cells[· % z.cells.size]!)
          have hinit : init.toList.length = 2 := by simp [init]
          have hfill : Instr.fill (fun i => some (i * 2, 2)) init [(0, .agg zstC.toArray)] = some zstC.toArray := by
            have hfold := foldl_set zstC 0 0 init [] init.toList [] (by simp) rfl (by rw [hinit]; rfl)
            simp only [Instr.fill]
            rw [if_neg (by simp [Value.cells, init, zstC])]
            congr 1
            apply Array.ext'
            rw [← Array.foldl_toList, Array.toList_zipIdx]
            simpa [Value.cells] using hfold
          have hrun : (execOp a.eval ⟨dst, .buildSlice T 1 parts, ty, pos, af, gd⟩).run P w = .ok (.value (.slice (some ⟨w.heap.size, 0, none⟩) 1 1)) { w with heap := w.heap.push (.cells zstC.toArray et) } := by
            have hlim : ¬ (1 * 2 > 2 ^ 24) := by omega
            have hz0 : ¬ (1 * 2 = 0) := by omega
            have hfill' := hfill
            simp only [init] at hfill'
            simp only [execOp, Sem.run_bind, Instr.buildSlice, run_underlying hu, Result.andThen_ok, sizeOf, typeInfo, run_program, hi, Sem.run_pure, hs, if_neg hlim, if_neg hz0, zeroValue, hz, hpm, hfill', newRow, run_newObj]
          have hE : Ext g w (g.block w.heap.size (kd ⟨dst, .buildSlice T 1 parts, ty, pos, af, gd⟩ d) 2) { w with heap := w.heap.push (.cells zstC.toArray et) } d (fun _ => False) := Ext.block h.wf _ _ _
          refine wp_value hrun (hnx _ _ (g.block w.heap.size (kd ⟨dst, .buildSlice T 1 parts, ty, pos, af, gd⟩ d) 2) ?_ (Ext.block h.wf _ _ _) (HRep.ext hE h.le (fun e => e) (fun _ _ e => e) rfl h.heap) (WF.block h.wf _ _ _))
          simp only [RepX]
          refine ⟨_, 1, rfl, Nat.le_refl _, fun i hi => ?_⟩
          refine ⟨_, zstC, rfl, rfl, rfl, rfl, fun j hj => ?_⟩
          have hi0 : i = 0 := by simpa using hi
          subst hi0
          have hj2 : j < 2 := hj
          refine ⟨?_, by simp [Ghost.block]; omega⟩
          simp only [World.cell?, Nat.zero_add, Nat.zero_mul]
          simp
        · cases hk'
      · rename_i hnz
        split at hk'
        · rename_i l hl
          split at hk'
          · rename_i hln
            obtain ⟨et, hu, ht, hpos⟩ := tyB_slice (Ctx.ty_ok hC he).1
            obtain ⟨inf, z, hi, hs, hz, hzs⟩ := tyB_info ht
            refine ⟨_, _, _, hk', fun next Q hnx => ?_⟩
            let zero : Array Value := if n * e.size = 0 then #[] else z.cells
            let init : Array Value := (Array.range (n * e.size)).map (zero[· % zero.size]!)
            have hinit : init.toList.length = l.length * e.size := by simp [init, hln]
            obtain ⟨out, cs, f1, f2, f3⟩ := collect_fill (g := g) (w := w) (dh := dh) rfl (parts.toList.map (·.1)) (parts.toList.map fun p => st.val p.2) (parts.toList.map fun p => a.eval p.2) 0 l init [] init.toList [] hl (fun j x v h1 h2 => by
              rw [List.getElem?_map, Option.map_eq_some_iff] at h1 h2
              obtain ⟨p, h1, rfl⟩ := h1
              obtain ⟨q, h2, rfl⟩ := h2
              rw [h1] at h2
              cases h2
              exact ⟨_, h.val p.2⟩) (by simp) (by simp) (by simp) hinit
            have hzip : (parts.map fun (i, x) => (i, a.eval x)).toList = (parts.toList.map (·.1)).zip (parts.toList.map fun p => a.eval p.2) := by
              simp [List.zip_map']
            have hol : out.toList.length = n * e.size := by
              rw [f2]
              simp
              rw [Parts.length (RepC.length (w := w) (g := g) e) l cs f3, hln]
            have hrun : (execOp a.eval ⟨dst, .buildSlice T n parts, ty, pos, af, gd⟩).run P w = .ok (.value (.slice (some ⟨w.heap.size, 0, none⟩) n n)) { w with heap := w.heap.push (.cells out et) } := by
              have hlim : ¬ (n * e.size > 2 ^ 24) := by omega
              have hfill : Instr.fill (fun i => some (i * e.size, e.size)) init (parts.map fun (i, x) => (i, a.eval x)).toList = some out := by rw [hzip]; exact f1
              simp only [execOp, Sem.run_bind, Instr.buildSlice, run_underlying hu, Result.andThen_ok, sizeOf, typeInfo, run_program, hi, Sem.run_pure, hs, if_neg hlim]
              by_cases hz0 : n * e.size = 0
              · rw [if_pos hz0]
                have hfill' := hfill
                simp only [init, zero, if_pos hz0] at hfill'
                simp only [Sem.run_bind, Sem.run_pure, Result.andThen_ok, hfill', newRow, run_newObj]
              · rw [if_neg hz0]
                have hfill' := hfill
                simp only [init, zero, if_neg hz0] at hfill'
                simp only [Sem.run_bind, zeroValue, typeInfo, run_program, hi, hz, Sem.run_pure, Result.andThen_ok, hfill', newRow, run_newObj]
            have hf := RepX.fresh (κ := kd ⟨dst, .buildSlice T n parts, ty, pos, af, gd⟩ d) (dh := dh) (b := true) (T := et) (g := g) (w := w) (e := e) (xs := l) (arr := out) (c := n) (cs := cs) f3 h.wf ?_ (by omega) (by simpa using hol) hpos (some false) (fun b hb => by cases hb; rfl) (0, 0) (.inl rfl)
            · rw [hln] at hf
              refine wp_value hrun (hnx _ _ _ hf ?_ ?_ (WF.block h.wf _ _ _))
              · exact Ext.block h.wf _ _ _
              · exact HRep.ext (Ext.block h.wf _ _ _ : Ext _ _ _ _ d (fun _ => False)) h.le (fun e => e) (fun _ _ e => e) rfl h.heap
            · rw [hln]
              rw [List.take_of_length_le (by omega), f2]
              simp
          · cases hk'
        · split at hk'
          · rename_i hcond
            obtain ⟨rfl, hidx, href⟩ := hcond
            obtain ⟨et, hu, ht, hpos⟩ := tyB_slice (Ctx.ty_ok hC he).1
            obtain ⟨inf, z, hi, hs, hz, hzs⟩ := tyB_info ht
            have hpl : parts.toList.length = n := by
              have := congrArg List.length hidx
              simpa using this
            have h1 : Ty.any.size = 1 := rfl
            rw [h1] at hs hzs hn
            refine ⟨_, _, _, hk', fun next Q hnx => ?_⟩
            let us : List Value := parts.toList.map fun p => a.eval p.2
            have hul : us.length = n := by simp [us, hpl]
            have hrs : ∀ (ps : List (Nat × Operand)), (ps.map fun p => st.val p.2).all isRef = true → RepXs g w dh ((ps.map fun p => st.val p.2).map X.unown) (ps.map fun p => a.eval p.2) ∧ ∀ v ∈ (ps.map fun p => a.eval p.2), v.oneCell' = true := by
              intro ps
              induction ps with
              | nil => intro _; exact ⟨by simp [RepXs], by simp⟩
              | cons p ps ih =>
                intro hall
                simp only [List.map_cons, List.all_cons, Bool.and_eq_true] at hall
                obtain ⟨i1, i2⟩ := ih hall.2
                have hv := h.val p.2
                refine ⟨?_, ?_⟩
                · simp only [List.map_cons, RepXs]
                  exact ⟨_, _, rfl, hv.unown', i1⟩
                · intro v hv'
                  simp only [List.map_cons, List.mem_cons] at hv'
                  rcases hv' with rfl | hv'
                  · cases hx : st.val p.2 <;> rw [hx] at hall hv <;> simp [isRef] at hall
                    · simp only [RepX] at hv
                      obtain ⟨_, _, _, _, e⟩ := hv
                      rw [e]; rfl
                    · simp only [RepX] at hv
                      obtain ⟨_, _, e, _⟩ := hv
                      rw [e]; rfl
                  · exact i2 v hv'
            obtain ⟨hrx, hone⟩ := hrs parts.toList href
            have hfill : ∀ (ps : List (Nat × Value)) (start : Nat) (cells : Array Value) (pre mid : List Value), (∀ p ∈ ps, p.2.oneCell' = true) → ps.map (·.1) = List.range' start ps.length → cells.toList = pre ++ mid → pre.length = start → mid.length = ps.length →
                ∃ out, Instr.fill (fun i => some (i * 1, 1)) cells ps = some out ∧ out.toList = pre ++ ps.map (·.2) := by
              intro ps
              induction ps with
              | nil =>
                intro start cells pre mid _ _ hc _ hm
                have : mid = [] := List.eq_nil_of_length_eq_zero (by simpa using hm)
                subst this
                exact ⟨cells, rfl, by simpa using hc⟩
              | cons p ps ih =>
                intro start cells pre mid ho hr hc hp hm
                obtain ⟨i, v⟩ := p
                simp only [List.map_cons, List.length_cons, List.range'_succ, List.cons.injEq] at hr
                obtain ⟨rfl, hr⟩ := hr
                have hv1 := ho (i, v) (by simp)
                have hvc : v.cells = #[v] := by
                  cases v <;> simp_all [Value.cells, Value.oneCell']
                match mid, hm with
                | m :: mid, hm =>
                  have hcs : cells.size = pre.length + (mid.length + 1) := by
                    have := congrArg List.length hc
                    simpa using this
                  obtain ⟨out, o1, o2⟩ := ih (i + 1) (cells.setIfInBounds i v) (pre ++ [v]) mid (fun q hq => ho q (by simp [hq])) hr (by rw [Array.toList_setIfInBounds, hc, ← hp]; simp) (by simp [hp]) (by simpa using hm)
                  refine ⟨out, ?_, by rw [o2]; simp⟩
                  simp only [Instr.fill, hvc, Nat.mul_one]
                  rw [if_neg (by simp; omega)]
                  simpa using o1
            let zero : Array Value := if n * 1 = 0 then #[] else z.cells
            let init : Array Value := (Array.range (n * 1)).map (zero[· % zero.size]!)
            have hzip : (parts.map fun (i, x) => (i, a.eval x)).toList = parts.toList.map fun p => (p.1, a.eval p.2) := by simp
            obtain ⟨out, o1, o2⟩ := hfill (parts.toList.map fun p => (p.1, a.eval p.2)) 0 init [] init.toList (fun p hp => by
              obtain ⟨q, hq, rfl⟩ := List.mem_map.1 hp
              exact hone _ (List.mem_map.2 ⟨q, hq, rfl⟩)) (by
                rw [List.map_map, List.length_map, hpl, ← List.range_eq_range']
                exact hidx) (by simp) rfl (by simp [init, hpl])
            have hout : out.toList = us := by rw [o2]; simp [us]
            have hrun : (execOp a.eval ⟨dst, .buildSlice T n parts, ty, pos, af, gd⟩).run P w = .ok (.value (.slice (some ⟨w.heap.size, 0, none⟩) n n)) { w with heap := w.heap.push (.cells out et) } := by
              have hlim : ¬ (n * 1 > 2 ^ 24) := by omega
              have hfl : Instr.fill (fun i => some (i * 1, 1)) init (parts.map fun (i, x) => (i, a.eval x)).toList = some out := by rw [hzip]; exact o1
              simp only [execOp, Sem.run_bind, Instr.buildSlice, run_underlying hu, Result.andThen_ok, sizeOf, typeInfo, run_program, hi, Sem.run_pure, hs, if_neg hlim]
              by_cases hz0 : n * 1 = 0
              · rw [if_pos hz0]
                have hfl' := hfl
                simp only [init, zero, if_pos hz0] at hfl'
                simp only [Sem.run_bind, Sem.run_pure, Result.andThen_ok, hfl', newRow, run_newObj]
              · rw [if_neg hz0]
                have hfl' := hfl
                simp only [init, zero, if_neg hz0] at hfl'
                simp only [Sem.run_bind, zeroValue, typeInfo, run_program, hi, hz, Sem.run_pure, Result.andThen_ok, hfl', newRow, run_newObj]
            have he2 : Ext g w (g.block w.heap.size (kd ⟨dst, .buildSlice T n parts, ty, pos, af, gd⟩ d) n) { w with heap := w.heap.push (.cells out et) } d (fun _ => False) := Ext.block h.wf _ _ _
            refine wp_value hrun (hnx _ _ _ ?_ (Ext.block h.wf _ _ _) (HRep.ext he2 h.le (fun e => e) (fun _ _ e => e) rfl h.heap) (WF.block h.wf _ _ _))
            simp only [RepX]
            refine ⟨some ⟨w.heap.size, 0, none⟩, us, n, by rw [hul], by rw [hul]; exact Nat.le_refl _, RepXs.ext he2 h.le (fun e => e) _ _ hrx, fun i hi => ⟨_, rfl, rfl, ?_, ?_⟩⟩
            · simp only [World.cell?, Nat.zero_add]
              have : out[i]? = some us[i] := by rw [← Array.getElem?_toList, hout, List.getElem?_eq_getElem hi]
              simp [this]
            · simp only [Ghost.block, if_true, Nat.zero_add]
              rw [hul] at hi
              exact hi
          · cases hk'
    · cases hk'
  · cases hk'

/-- One part of a struct put. -/
theorem setD_rep {g w} {dh : Nat} : ∀ (c : Ty) (x : c.den) (cs : List Value) (j : Nat) (v : X) (val : Value) (κ : Key) (y : c.den), RepC w g c x cs → setD c x j v = some y → RepX g w dh κ v val →
    ∃ o a pre mid post, chainAt c j = some (o, a) ∧ cs = pre ++ mid ++ post ∧ pre.length = o ∧ mid.length = a.size ∧ val.cells.toList.length = a.size ∧ RepC w g c y (pre ++ val.cells.toList ++ post)
  | .prod a b, x, cs, 0, v, val, κ, y, h, e, hv => by
    obtain ⟨c1, c2, rfl, h1, h2⟩ := h
    simp only [setD] at e
    split at e
    · rename_i u hu
      cases e
      have hr := toD_rep hv hu
      exact ⟨0, a, [], c1, c2, rfl, rfl, rfl, RepC.length a _ _ h1, RepC.length a _ _ hr, ⟨_, _, rfl, hr, h2⟩⟩
    · cases e
  | .prod a b, x, cs, j + 1, v, val, κ, y, h, e, hv => by
    obtain ⟨c1, c2, rfl, h1, h2⟩ := h
    simp only [setD] at e
    split at e
    · rename_i u hu
      cases e
      obtain ⟨o, t, pre, mid, post, f1, rfl, f3, f4, f5, f6⟩ := setD_rep b x.2 c2 j v val κ u h2 hu hv
      refine ⟨a.size + o, t, c1 ++ pre, mid, post, by simp [chainAt, f1], by simp, by simp [RepC.length a _ _ h1, f3], f4, f5, ?_⟩
      exact ⟨c1, pre ++ val.cells.toList ++ post, by simp, h1, f6⟩
    · cases e
  | .unit, _, _, _, _, _, _, _, _, e, _ | .int _, _, _, _, _, _, _, _, _, e, _ | .bool, _, _, _, _, _, _, _, _, e, _ | .str, _, _, _, _, _, _, _, _, e, _ | .any, _, _, _, _, _, _, _, _, e, _ | .slice _, _, _, _, _, _, _, _, _, e, _ | .arr _ _, _, _, _, _, _, _, _, _, e, _ | .struct _, _, _, _, _, _, _, _, _, e, _ => by
    simp [setD] at e

theorem fold_part {cells : Array Value} {off : Nat} {v : Value} {pre mid post : List Value} (hc : cells.toList = pre ++ mid ++ post) (hp : pre.length = off) (hm : mid.length = v.cells.toList.length) :
    (v.cells.zipIdx.foldl (fun cs (p : Value × Nat) => cs.setIfInBounds (off + p.2) p.1) cells).toList = pre ++ v.cells.toList ++ post := by
  rw [← Array.foldl_toList, Array.toList_zipIdx]
  exact foldl_set v.cells.toList off 0 cells pre mid post hc (by rw [hp]; simp) hm

theorem buildD_fill {g w} {dh : Nat} {c : Ty} {place : Nat → Option (Nat × Nat)} (hplace : ∀ j o a, chainAt c j = some (o, a) → place j = some (o, a.size)) : ∀ (js : List Nat) (xs : List X) (vs : List Value) (x y : c.den) (cells : Array Value),
    buildD c x js xs = some y → (∀ (j : Nat) (x : X) (v : Value), xs[j]? = some x → vs[j]? = some v → ∃ κ, RepX g w dh κ x v) → vs.length = xs.length → RepC w g c x cells.toList →
    ∃ out, Instr.fill place cells (js.zip vs) = some out ∧ RepC w g c y out.toList
  | [], [], vs, x, y, cells, h, _, hv, hc => by
    simp only [buildD, Option.some.injEq] at h
    subst h
    have : vs = [] := List.eq_nil_of_length_eq_zero (by simpa using hv)
    subst this
    exact ⟨cells, rfl, hc⟩
  | j :: js, z :: xs, [], _, _, _, _, _, hv, _ => by simp at hv
  | j :: js, z :: xs, v :: vs, x, y, cells, h, hr, hv, hc => by
    simp only [buildD] at h
    split at h
    · rename_i x' hx'
      obtain ⟨κ, hz⟩ := hr 0 z v rfl rfl
      obtain ⟨o, a, pre, mid, post, f1, f2, f3, f4, f5, f6⟩ := setD_rep c x cells.toList j z v κ x' hc hx' hz
      have hfold := fold_part (cells := cells) (off := o) (v := v) f2 f3 (by rw [f4, f5])
      obtain ⟨out, o1, o2⟩ := buildD_fill hplace js xs vs x' y _ h (fun j x v h1 h2 => hr (j + 1) x v (by simpa using h1) (by simpa using h2)) (by simpa using hv) (by rw [hfold]; exact f6)
      refine ⟨out, ?_, o2⟩
      have hsz : v.cells.size = a.size := by rw [← f5]; simp
      have hcs : cells.size = pre.length + (mid.length + post.length) := by
        have := congrArg List.length f2
        simpa using this
      simp only [List.zip_cons_cons, Instr.fill, hplace j o a f1]
      rw [if_neg (by simp [hsz]; omega)]
      exact o1
    · cases h
  | [], _ :: _, _, _, _, _, h, _, _, _ => by simp [buildD] at h
  | _ :: _, [], _, _, _, _, h, _, _, _ => by simp [buildD] at h

theorem buildA_fill {g w} {dh : Nat} {n : Nat} {e : Ty} : ∀ (js : List Nat) (xs : List X) (vs : List Value) (l y : List e.den) (cells : Array Value),
    buildA n e l js xs = some y → l.length = n → (∀ (j : Nat) (x : X) (v : Value), xs[j]? = some x → vs[j]? = some v → ∃ κ, RepX g w dh κ x v) → vs.length = xs.length → Parts (RepC w g e) l cells.toList →
    ∃ out, Instr.fill (fun i => some (i * e.size, e.size)) cells (js.zip vs) = some out ∧ y.length = n ∧ Parts (RepC w g e) y out.toList
  | [], [], vs, x, y, cells, h, hn, _, hv, hc => by
    simp only [buildA, Option.some.injEq] at h
    subst h
    have : vs = [] := List.eq_nil_of_length_eq_zero (by simpa using hv)
    subst this
    exact ⟨cells, rfl, hn, hc⟩
  | j :: js, z :: xs, [], _, _, _, _, _, _, hv, _ => by simp at hv
  | j :: js, z :: xs, v :: vs, x, y, cells, h, hn, hr, hv, hc => by
    simp only [buildA] at h
    split at h
    · rename_i hj
      split at h
      · rename_i u hu
        obtain ⟨κ, hz⟩ := hr 0 z v rfl rfl
        have hrep := toD_rep hz hu
        have hul := RepC.length e _ _ hrep
        obtain ⟨pre, mid, post, f2, f3, f4, f6⟩ := Parts.at (RepC.length (w := w) (g := g) e) x cells.toList j (by omega) hc
        have hml := RepC.length e _ _ f4
        have hfold := fold_part (cells := cells) (off := j * e.size) (v := v) f2 f3 (by rw [hml, hul])
        obtain ⟨out, o1, o2, o3⟩ := buildA_fill js xs vs (x.set j u) y _ h (by rw [List.length_set]; exact hn) (fun j x v h1 h2 => hr (j + 1) x v (by simpa using h1) (by simpa using h2)) (by simpa using hv) (by rw [hfold]; exact f6 u _ hrep)
        refine ⟨out, ?_, o2, o3⟩
        have hsz : v.cells.size = e.size := by rw [← hul]; simp
        have hcs : cells.size = pre.length + (mid.length + post.length) := by
          have := congrArg List.length f2
          simpa using this
        simp only [List.zip_cons_cons, Instr.fill]
        rw [if_neg (by simp [hsz]; omega)]
        exact o1
      · cases h
    · cases h
  | [], _ :: _, _, _, _, _, h, _, _, _, _ => by simp [buildA] at h
  | _ :: _, [], _, _, _, _, h, _, _, _, _ => by simp [buildA] at h

theorem places_run {w : World} : ∀ (fs : List Field), (∀ f ∈ fs, ∃ inf, P.info? f.type = some inf) → (fs.mapM (fun f => do pure (f.offset, ← sizeOf f.type) : Field → Sem (Nat × Nat))).run P w = .ok (fs.map fun f => (f.offset, P.cellsOf f.type)) w := by
  intro fs
  induction fs with
  | nil => intro _; rfl
  | cons f fs ih =>
    intro h
    obtain ⟨inf, hi⟩ := h f (by simp)
    have ih := ih fun f hf => h f (by simp [hf])
    have hc : P.cellsOf f.type = inf.size := by simp [Program.cellsOf, hi]
    rw [List.mapM_cons]
    simp only [Sem.run_bind, sizeOf, typeInfo, run_program, Result.andThen_ok, hi, Sem.run_pure, List.map_cons, hc]
    simp only [sizeOf, typeInfo] at ih
    rw [ih]
    rfl

theorem chB_info : ∀ (c : Ty) (fs : List Field) (off : Nat), chB P c fs off = true → ∀ f ∈ fs, ∃ inf, P.info? f.type = some inf
  | .unit, fs, off, h => by
    intro f hf
    simp only [chB, List.isEmpty_iff] at h
    rw [h] at hf; cases hf
  | .prod a b, [], off, h => by intro f hf; cases hf
  | .prod a b, f0 :: rest, off, h => by
    simp only [chB, Bool.and_eq_true, beq_iff_eq] at h
    intro f hf
    rcases List.mem_cons.1 hf with rfl | hf
    · obtain ⟨inf, z, hi, _⟩ := tyB_info h.1.2
      exact ⟨inf, hi⟩
    · exact chB_info b rest _ h.2 f hf
  | .int _, _, _, h | .bool, _, _, h | .str, _, _, h | .any, _, _, h | .err, _, _, h | .slice _, _, _, h | .arr _ _, _, _, h | .struct _, _, _, h => by simp [chB] at h

theorem core_build (hC : TysOk P C.tys) (T : Nat) (parts : Array (Nat × Operand)) : CoreOk P C ⟨dst, .build T parts, ty, pos, af, gd⟩ := by
  intro R tr g w d dh st a h k r hk
  have ops : (⟨dst, .build T parts, ty, pos, af, gd⟩ : Oper).op.operands.toList.map st.val = parts.toList.map fun p => st.val p.2 := by simp [Op.operands]
  rw [ops] at hk
  have hk' : (match C.ty T with
    | some ⟨.struct c, z, _, _⟩ => match buildD c z (parts.toList.map (·.1)) (parts.toList.map fun p => st.val p.2) with
      | some x => k (.d (.struct c) x) [] st.H
      | none => none
    | some ⟨.arr n e, z, _, _⟩ => match buildA n e z (parts.toList.map (·.1)) (parts.toList.map fun p => st.val p.2) with
      | some x => k (.d (.arr n e) x) [] st.H
      | none => none
    | _ => none) = some r := hk
  have hvals : ∀ (j : Nat) (x : X) (v : Value), (parts.toList.map fun p => st.val p.2)[j]? = some x → (parts.toList.map fun p => a.eval p.2)[j]? = some v → ∃ κ, RepX g w dh κ x v := fun j x v h1 h2 => by
    rw [List.getElem?_map, Option.map_eq_some_iff] at h1 h2
    obtain ⟨p, h1, rfl⟩ := h1
    obtain ⟨q, h2, rfl⟩ := h2
    rw [h1] at h2
    cases h2
    exact ⟨_, h.val p.2⟩
  have hzip : (parts.map fun (i, x) => (i, a.eval x)).toList = (parts.toList.map (·.1)).zip (parts.toList.map fun p => a.eval p.2) := by
    simp [List.zip_map']
  split at hk'
  · rename_i c z e1 e2 he
    split at hk'
    · rename_i x hx
      have hok := Ctx.ty_ok hC he
      obtain ⟨fs, hu, hch⟩ := tyB_struct hok.1
      obtain ⟨inf, hi, hz, hs, _⟩ := info_zero hok
      have hzr : RepC w g (.struct c) z (zval (.struct c) z).cells.toList := by
        rw [zval_cells hok.2.2.1]
        exact zcells_rep _ z hok.2.2.1
      obtain ⟨out, o1, o2⟩ := buildD_fill (g := g) (w := w) (dh := dh) (c := c) (place := fun j => (fs.map fun f => (f.offset, P.cellsOf f.type))[j]?) (fun j o t hj => by
        obtain ⟨f, f1, f2, f3⟩ := chB_at hch hj
        have : fs[j]? = some f := by simpa using f1
        simp [Array.getElem?_map, this, f2, cellsOf_ty f3]) (parts.toList.map (·.1)) (parts.toList.map fun p => st.val p.2) (parts.toList.map fun p => a.eval p.2) z x (zval (.struct c) z).cells hx hvals (by simp) hzr
      refine ⟨_, _, _, hk', OpWp.same h (val := .agg out) ?_ ?_⟩
      · have hpl : (fs.mapM (fun f => do pure (f.offset, ← sizeOf f.type) : Field → Sem (Nat × Nat))).run P w = .ok (fs.map fun f => (f.offset, P.cellsOf f.type)) w := by
          rw [Array.mapM_eq_mapM_toList, Sem.run_map, places_run (P := P) (w := w) fs.toList (chB_info c fs.toList 0 hch)]
          simp only [Result.andThen_ok]
          congr 1
          apply Array.ext'
          simp
        have hfl : Instr.fill (fun j => (fs.map fun f => (f.offset, P.cellsOf f.type))[j]?) (zval (.struct c) z).cells (parts.map fun (i, x) => (i, a.eval x)).toList = some out := by rw [hzip]; exact o1
        simp only [execOp, Sem.run_bind, Instr.build, zeroValue, typeInfo, run_program, Result.andThen_ok, hi, hz, Sem.run_pure, run_underlying hu, hpl, hfl]
      · simp only [RepX]
        exact ⟨out.toList, o2, by simp [IsVal, Ty.isAgg]⟩
    · cases hk'
  · rename_i n e z e1 e2 he
    split at hk'
    · rename_i x hx
      have hok := Ctx.ty_ok hC he
      obtain ⟨ei, hu, hte⟩ := tyB_arr hok.1
      obtain ⟨inf, hi, hz, hs, _⟩ := info_zero hok
      obtain ⟨infe, ze, hie, hse, _, _⟩ := tyB_info hte
      have hzr : RepC w g (.arr n e) z (zval (.arr n e) z).cells.toList := by
        rw [zval_cells hok.2.2.1]
        exact zcells_rep _ z hok.2.2.1
      obtain ⟨out, o1, o2, o3⟩ := buildA_fill (g := g) (w := w) (dh := dh) (n := n) (e := e) (parts.toList.map (·.1)) (parts.toList.map fun p => st.val p.2) (parts.toList.map fun p => a.eval p.2) z x (zval (.arr n e) z).cells hx hzr.1 hvals (by simp) hzr.2
      refine ⟨_, _, _, hk', OpWp.same h (val := .agg out) ?_ ?_⟩
      · have hfl : Instr.fill (fun i => some (i * e.size, e.size)) (zval (.arr n e) z).cells (parts.map fun (i, x) => (i, a.eval x)).toList = some out := by rw [hzip]; exact o1
        simp only [execOp, Sem.run_bind, Instr.build, zeroValue, sizeOf, typeInfo, run_program, Result.andThen_ok, hi, hz, hie, hse, Sem.run_pure, run_underlying hu, hfl]
      · simp only [RepX]
        exact ⟨out.toList, ⟨o2, o3⟩, by simp [IsVal, Ty.isAgg]⟩
    · cases hk'
  · cases hk'

end
end Go.Proofs.Ytnbfiifkaddehaa.V

/- What the evaluator tells is so: calls. -/
namespace Go.Proofs.Ytnbfiifkaddehaa.V
open Go
set_option linter.unusedVariables false
set_option linter.unusedSimpArgs false

/-- A function that is entered when it is called. -/
def FnOk (P : Program) (f : Nat) : Prop := ∀ (args : Array Value) (w : World), (callFunc f args).run P w = .ok (.enter f args) w

/-- What a call of a function owes that turns no variable of its caller's. -/
def PureOk (P : Program) (f : Nat) (F : List X → Option X) : Prop :=
  FnOk P f ∧ ∀ (args : List X) (r : X), F args = some r → ∀ (g : Ghost) (w : World) (d dh : Nat) (vs : List Value), dh ≤ d → WF g w → RepXs g w dh args vs →
    Calls P f vs.toArray w fun e w' => ∃ v g', e = .returned v ∧ RepX g' w' dh (.tmp (d + 1) 0) r v ∧ Ext g w g' w' d (fun κ => κ.deep (d + 1)) ∧ WF g' w'

/-- What a call of a function owes that may turn its caller's variables. -/
def EffOk (P : Program) (f : Nat) (F : List X → Hp → Option (X × Hp)) : Prop :=
  FnOk P f ∧ ∀ (args : List X) (H : Hp) (r : X) (H' : Hp), F args H = some (r, H') → ∀ (g : Ghost) (w : World) (d dh : Nat) (vs : List Value), dh ≤ d → WF g w → HRep g w dh H → RepXs g w dh args vs →
    Calls P f vs.toArray w fun e w' => ∃ v g', e = .returned v ∧ RepX g' w' dh (.tmp (d + 1) 0) r v ∧ Ext g w g' w' d (fun κ => κ.deep (d + 1) ∨ κ.heap dh) ∧ WF g' w' ∧ HRep g' w' dh H'

/-- What a call of a function owes that is handed its first argument's room. -/
def OwnOk (P : Program) (f : Nat) (F : List X → Option X) : Prop :=
  FnOk P f ∧ (∀ (e : Ty) (xs : List e.den) (nl : Option Bool) (rest : List X) (r : X), F (.sl e xs nl true :: rest) = some r → ∀ (g : Ghost) (w : World) (d dh : Nat) (v : Value) (vs : List Value), dh ≤ d → WF g w →
    RepX g w dh (.tmp (d + 1) 0) (.sl e xs nl true) v → RepXs g w dh rest vs →
    Calls P f (v :: vs).toArray w fun e w' => ∃ v g', e = .returned v ∧ RepX g' w' dh (.tmp (d + 1) 0) r v ∧ Ext g w g' w' d (fun κ => κ.deep (d + 1)) ∧ WF g' w') ∧
  (∀ (e : Ty) (xs : List e.den) (rest : List X) (r : X), F (.ps e xs :: rest) = some r → ∀ (g : Ghost) (w : World) (d dh : Nat) (v : Value) (vs : List Value), dh ≤ d → WF g w →
    RepX g w dh (.tmp (d + 1) 0) (.ps e xs) v → RepXs g w dh rest vs →
    Calls P f (v :: vs).toArray w fun e w' => ∃ v g', e = .returned v ∧ RepX g' w' dh (.tmp (d + 1) 0) r v ∧ Ext g w g' w' d (fun κ => κ.deep (d + 1)) ∧ WF g' w')

/-- What a call of a function owes that has no body: it is done at once. -/
def ExtOk (P : Program) (f : Nat) (F : List X → Option X) : Prop :=
  ∀ (args : List X) (r : X), F args = some r → ∀ (g : Ghost) (w : World) (dh : Nat) (vs : List Value), WF g w → RepXs g w dh args vs → ∃ v, (callFunc f vs.toArray).run P w = .ok (.value v) w ∧ RepX g w dh .no r v

/-- What a round of a range over a function owes. -/
def YldOk (P : Program) (key : Nat) (F : Nat → List X → List X → Hp → Option (Bool × Hp)) : Prop :=
  ∀ (id : Nat) (tms args : List X) (H : Hp) (b : Bool) (H' : Hp), H[id]? = some (.unit, .rnd key tms) → F id tms args H = some (b, H') → ∀ (g : Ghost) (w : World) (d dh : Nat) (vs : List Value), dh ≤ d → WF g w → HRep g w dh H → RepXs g w dh args vs →
    ∃ fn tmps assign body, (Instr.yield (g.μ dh id) vs.toArray).run P w = .ok (.round (g.μ dh id) fn tmps assign body) w ∧
      RoundIn (rdF none) 0 P (g.μ dh id) fn tmps assign body w fun e w' => ∃ g', e = .returned (.bool b) ∧ Ext g w g' w' d (fun κ => κ.deep (d + 1) ∨ κ.heap dh) ∧ WF g' w' ∧ HRep g' w' dh H'

def OrcOk (P : Program) (f : Nat) : Orc → Prop
  | .pure F => PureOk P f fun args => (F args).run some
  | .eff F => EffOk P f fun args H => (F args H).run some
  | .own F => OwnOk P f fun args => (F args).run some
  | .ext F => ExtOk P f fun args => (F args).run some

/-- What is told of an element's zero value is so. -/
def ZOk (P : Program) (Z : Nat → Option (Σ t : Ty, t.den)) : Prop := ∀ T z, Z T = some z → ∃ ei inf, P.underlying T = some (.slice ei) ∧ P.info? ei = some inf ∧ inf.zero = some (zval z.1 z.2) ∧ zB z.1 z.2 = true ∧ 0 < z.1.size

/-- All that the evaluator is given is so. -/
structure COk (P : Program) (C : Ctx) : Prop where
  ar : C.A = Ar.real
  tys : TysOk P C.tys
  orc : ∀ f o, C.O f = some o → OrcOk P f o
  yld : ∀ key F, C.Y key = some F → YldOk P key fun id tms args H => (F id tms args H).run some
  zer : ZOk P C.Z
  eqs : EOk P C
  mps : MpOk P C.Mp

section
variable {P : Program} {C : Ctx} {dst : Option Nat} {ty : Nat} {pos : String} {af : Array Edge} {gd : Option (Nat × Bool)}

theorem run_builtin (b : Builtin) (args : Array Operand) (argTypes : Array Nat) (a : Act) (w : World) :
    (execOp a.eval ⟨dst, .call ⟨.builtin b, args, argTypes⟩, ty, pos, af, gd⟩).run P w = (builtin b argTypes ty (args.map fun | .const _ => true | _ => false) (args.map a.eval)).run P w := by
  simp only [execOp, resolve, Sem.run_bind, Sem.run_pure, Result.andThen_ok, invoke]
  rfl

theorem core_len (hC : TysOk P C.tys) (args : Array Operand) (argTypes : Array Nat) : CoreOk P C ⟨dst, .call ⟨.builtin .len, args, argTypes⟩, ty, pos, af, gd⟩ := by
  intro R tr g w d dh st a h k r hk
  have ops : (⟨dst, .call ⟨.builtin .len, args, argTypes⟩, ty, pos, af, gd⟩ : Oper).op.operands.toList.map st.val = args.toList.map st.val := by simp [Op.operands, Call.operands]
  rw [ops] at hk
  have hk' : (match argTypes.toList.map C.ty, args.toList.map st.val with
      | [some ⟨.slice _, _, _, _⟩], [.sl _ xs _ _] => k (.d (.int .i64) (xs.length : Int)) [] st.H
      | [some ⟨.slice _, _, _, _⟩], [.mref _ _ _ _ len] => k (.d (.int .i64) (len : Int)) [] st.H
      | [some ⟨.slice _, _, _, _⟩], [.orf _ _ len] => k (.d (.int .i64) (len : Int)) [] st.H
      | [some ⟨.slice .any, _, _, _⟩], [.lst l] => k (.d (.int .i64) (l.length : Int)) [] st.H
      | [some ⟨.str, _, _, _⟩], [.d .str s] => k (.d (.int .i64) (s.size : Int)) [] st.H
      | [some ⟨.arr n _, _, _, _⟩], [_] => k (.d (.int .i64) (n : Int)) [] st.H
      | _, _ => none) = some r := hk
  have run : ∀ v w', (Builtin.len_ argTypes ty (args.map a.eval)).run P w = .ok v w' → (execOp a.eval ⟨dst, .call ⟨.builtin .len, args, argTypes⟩, ty, pos, af, gd⟩).run P w = .ok (.value v) w' := by
    intro v w' hr
    rw [run_builtin]
    simp only [builtin, Sem.run_bind, hr, Result.andThen_ok, Sem.run_pure]
  have one : ∀ {α β : Type} (l : List α) (f : α → β) (y : β), l.map f = [y] → ∃ x, l = [x] ∧ f x = y := by
    intro α β l f y e
    match l, e with
    | [x], e => exact ⟨x, rfl, by simpa using e⟩
  obtain ⟨al⟩ := args
  obtain ⟨tl⟩ := argTypes
  simp only [] at hk' run
  split at hk'
  · rename_i e1 e2 e3 e4 et xs nl own h1 h2
    obtain ⟨t, rfl, ht⟩ := one _ _ _ h1
    obtain ⟨x, rfl, hx⟩ := one _ _ _ h2
    have hv := h.val x
    rw [hx] at hv
    simp only [RepX] at hv
    obtain ⟨b, c, hv, _⟩ := hv
    obtain ⟨ei, hu, _⟩ := tyB_slice (Ctx.ty_ok hC ht).1
    refine ⟨_, _, _, hk', OpWp.same h (val := .int .i64 xs.length) (run _ _ ?_) (RepX.int_iff.2 rfl)⟩
    simp [Builtin.len_, run_underlying hu, hv, goInt]
  · rename_i e1 e2 e3 e4 et id p off len h1 h2
    obtain ⟨t, rfl, ht⟩ := one _ _ _ h1
    obtain ⟨x, rfl, hx⟩ := one _ _ _ h2
    have hv := h.val x
    rw [hx] at hv
    simp only [RepX] at hv
    obtain ⟨_, n, o, a0, c, _, _, _, hv, _⟩ := hv
    obtain ⟨ei, hu, _⟩ := tyB_slice (Ctx.ty_ok hC ht).1
    refine ⟨_, _, _, hk', OpWp.same h (val := .int .i64 len) (run _ _ ?_) (RepX.int_iff.2 rfl)⟩
    simp [Builtin.len_, run_underlying hu, hv, goInt]
  · rename_i e1 e2 e3 e4 a1 id len h1 h2
    obtain ⟨t, rfl, ht⟩ := one _ _ _ h1
    obtain ⟨x, rfl, hx⟩ := one _ _ _ h2
    have hv := h.val x
    rw [hx] at hv
    simp only [RepX] at hv
    obtain ⟨_, _, _, hv⟩ := hv
    obtain ⟨ei, hu, _⟩ := tyB_slice (Ctx.ty_ok hC ht).1
    refine ⟨_, _, _, hk', OpWp.same h (val := .int .i64 len) (run _ _ ?_) (RepX.int_iff.2 rfl)⟩
    simp [Builtin.len_, run_underlying hu, hv, goInt]
  · rename_i e1 e2 e3 l h1 h2
    obtain ⟨t, rfl, ht⟩ := one _ _ _ h1
    obtain ⟨x, rfl, hx⟩ := one _ _ _ h2
    have hv := h.val x
    rw [hx] at hv
    simp only [RepX] at hv
    obtain ⟨b, us, c, hv, _, hr, _⟩ := hv
    have hlen := RepXs.len l us hr
    obtain ⟨ei, hu, _⟩ := tyB_slice (Ctx.ty_ok hC ht).1
    refine ⟨_, _, _, hk', OpWp.same h (val := .int .i64 us.length) (run _ _ ?_) (RepX.int_iff.2 (by rw [hlen]))⟩
    simp [Builtin.len_, run_underlying hu, hv, goInt]
  · rename_i e2 e3 e4 s h1 h2
    obtain ⟨t, rfl, ht⟩ := one _ _ _ h1
    obtain ⟨x, rfl, hx⟩ := one _ _ _ h2
    have hv := h.val x
    rw [hx, RepX.str_iff] at hv
    have hu := tyB_str (Ctx.ty_ok hC ht).1
    refine ⟨_, _, _, hk', OpWp.same h (val := .int .i64 s.size) (run _ _ ?_) (RepX.int_iff.2 rfl)⟩
    simp [Builtin.len_, run_underlying hu, hv, goInt]
  · rename_i n e1 e2 e3 e4 x0 h1 h2
    obtain ⟨t, rfl, ht⟩ := one _ _ _ h1
    obtain ⟨x, rfl, hx⟩ := one _ _ _ h2
    obtain ⟨ei, hu, _⟩ := tyB_arr (Ctx.ty_ok hC ht).1
    refine ⟨_, _, _, hk', OpWp.same h (val := .int .i64 n) (run _ _ ?_) (RepX.int_iff.2 rfl)⟩
    simp [Builtin.len_, run_underlying hu, goInt]
  · cases hk'

theorem two_of_map {α β : Type} (l : List α) (f : α → β) (y z : β) (e : l.map f = [y, z]) : ∃ u v, l = [u, v] ∧ f u = y ∧ f v = z := by
  match l, e with
  | [u, v], e => exact ⟨u, v, rfl, by simpa using e⟩

theorem core_min (args : Array Operand) (argTypes : Array Nat) : CoreOk P C ⟨dst, .call ⟨.builtin .min, args, argTypes⟩, ty, pos, af, gd⟩ := by
  intro R tr g w d dh st a h k r hk
  have ops : (⟨dst, .call ⟨.builtin .min, args, argTypes⟩, ty, pos, af, gd⟩ : Oper).op.operands.toList.map st.val = args.toList.map st.val := by simp [Op.operands, Call.operands]
  rw [ops] at hk
  have hk' : (match args.toList.map st.val with
      | [.d (.int ka) a, .d (.int kb) b] => if ka = kb then k (.d (.int ka) (if b < a then b else a)) [] st.H else none
      | _ => none) = some r := hk
  obtain ⟨al⟩ := args
  split at hk'
  · rename_i ka u kb v h1
    split at hk'
    · rename_i hkk
      subst hkk
      obtain ⟨x, y, e1, hx, hy⟩ := two_of_map _ _ _ _ h1
      simp only at e1
      subst e1
      have hvx := h.val x
      have hvy := h.val y
      rw [hx, RepX.int_iff] at hvx
      rw [hy, RepX.int_iff] at hvy
      refine ⟨_, _, _, hk', OpWp.same h (val := .int ka (if v < u then v else u)) ?_ (RepX.int_iff.2 rfl)⟩
      rw [run_builtin]
      simp [builtin, Builtin.min_, Builtin.min2, hvx, hvy]
    · cases hk'
  · cases hk'

theorem core_max (args : Array Operand) (argTypes : Array Nat) : CoreOk P C ⟨dst, .call ⟨.builtin .max, args, argTypes⟩, ty, pos, af, gd⟩ := by
  intro R tr g w d dh st a h k r hk
  have ops : (⟨dst, .call ⟨.builtin .max, args, argTypes⟩, ty, pos, af, gd⟩ : Oper).op.operands.toList.map st.val = args.toList.map st.val := by simp [Op.operands, Call.operands]
  rw [ops] at hk
  have hk' : (match args.toList.map st.val with
      | [.d (.int ka) a, .d (.int kb) b] => if ka = kb then k (.d (.int ka) (if b > a then b else a)) [] st.H else none
      | _ => none) = some r := hk
  obtain ⟨al⟩ := args
  split at hk'
  · rename_i ka u kb v h1
    split at hk'
    · rename_i hkk
      subst hkk
      obtain ⟨x, y, e1, hx, hy⟩ := two_of_map _ _ _ _ h1
      simp only at e1
      subst e1
      have hvx := h.val x
      have hvy := h.val y
      rw [hx, RepX.int_iff] at hvx
      rw [hy, RepX.int_iff] at hvy
      refine ⟨_, _, _, hk', OpWp.same h (val := .int ka (if v > u then v else u)) ?_ (RepX.int_iff.2 rfl)⟩
      rw [run_builtin]
      simp [builtin, Builtin.max_, Builtin.max2, hvx, hvy]
    · cases hk'
  · cases hk'

/-- The first cells of a slice. -/
theorem firstCells_sl {g w} {dh : Nat} {κ : Key} {e : Ty} {xs : List e.den} {nl own v} (h : RepX g w dh κ (.sl e xs nl own) v) (hpos : 0 < e.size) :
    ∃ cs, Parts (RepC w g e) xs cs ∧ (∀ w', (Builtin.lenOf v).run P w' = .ok xs.length w') ∧ ∀ w', w'.heap = w.heap → (Builtin.firstCells e.size xs.length v).run P w' = .ok cs.toArray w' := by
  simp only [RepX] at h
  obtain ⟨base, c, rfl, h2, hrun, _⟩ := h
  obtain ⟨cs0, q1, q2, q3⟩ := Run.cells hrun hpos
  refine ⟨cs0, q1, fun w' => rfl, fun w' hw' => ?_⟩
  cases base with
  | none =>
    have hx : xs = [] := by
      cases xs with
      | nil => rfl
      | cons x xs => obtain ⟨A, _, e, _⟩ := hrun 0 (by simp); cases e
    have : cs0 = [] := List.eq_nil_of_length_eq_zero (by rw [q2, hx]; simp)
    subst this
    exact run_firstCells_none w' _ _ _ _
  | some A =>
    by_cases hne : xs = []
    · have : cs0 = [] := List.eq_nil_of_length_eq_zero (by rw [q2, hne]; simp)
      subst this
      exact run_firstCells_some w' _ _ A _ _ [] (by simp [hne]) (by simp)
    · refine run_firstCells_some w' _ _ A _ _ cs0 q2 (fun j v hj => ?_)
      have hjl : j < cs0.length := (List.getElem?_eq_some_iff.1 hj).1
      rw [Addr.add_plain A _ (hrun.spot hne)]
      obtain ⟨k1, _⟩ := q3 _ rfl j hjl
      rw [List.getElem?_eq_getElem hjl] at hj
      rw [← hj, ← k1]
      simp [World.cell?, hw']

theorem core_append (hC : TysOk P C.tys) (args : Array Operand) (argTypes : Array Nat) : CoreOk P C ⟨dst, .call ⟨.builtin .append, args, argTypes⟩, ty, pos, af, gd⟩ := by
  intro R tr g w d dh st a h k r hk
  have ops : (⟨dst, .call ⟨.builtin .append, args, argTypes⟩, ty, pos, af, gd⟩ : Oper).op.operands.toList.map st.val = args.toList.map st.val := by simp [Op.operands, Call.operands]
  rw [ops] at hk
  have hk' : (match argTypes.toList, args.toList.map st.val with
      | [ts, tx], [s, x] => match C.ty ts, C.ty tx, typed C ts s, typed C tx x with
        | some ⟨.slice e, _, _, eb⟩, some ⟨.slice _, _, _, _⟩, .sl e1 xs nl true, .sl e2 ys _ _ => if e = e1 ∧ 0 < eb then
            match castTo (.slice e2) (.slice e1) ys with
            | some zs => bif decide ((xs.length + List.length zs) * eb ≤ 140737488355328) then k (.sl e1 (xs ++ zs) (nl.map (· && List.isEmpty zs)) true) [true, false] st.H else none
            | none => none
          else none
        | some ⟨.slice (.int .u8), _, _, eb⟩, some ⟨.str, _, _, _⟩, .sl (.int .u8) xs nl true, .d .str str =>
          if 0 < eb then bif decide ((xs.length + (bytesOf str).length) * eb ≤ 140737488355328) then k (.sl (.int .u8) (xs ++ bytesOf str) (nl.map (· && (bytesOf str).isEmpty)) true) [true, false] st.H else none else none
        | some ⟨.slice e, _, _, eb⟩, some ⟨.slice _, _, _, _⟩, .ps e1 xs, .sl e2 ys _ _ => if e = e1 ∧ 0 < eb then
            match castTo (.slice e2) (.slice e1) ys with
            | some zs => bif decide ((xs.length + List.length zs) * eb ≤ 140737488355328) then k (.ps e1 (xs ++ zs)) [true, false] st.H else none
            | none => none
          else none
        | some ⟨.slice e, _, _, eb⟩, some ⟨.slice _, _, _, _⟩, .pd a xs, .zs _ => if e = stT a ∧ 0 < eb then
            bif decide ((xs.length + 1) * eb ≤ 140737488355328) then k (.pd a (xs ++ [(false, [], ())])) [true, false] st.H else none
          else none
        | _, _, _, _ => none
      | _, _ => none) = some r := hk
  obtain ⟨al⟩ := args
  obtain ⟨tl⟩ := argTypes
  simp only [] at hk'
  have run : ∀ v w', (Builtin.append_ tl.toArray ty (al.toArray.map a.eval)).run P w = .ok v w' → (execOp a.eval ⟨dst, .call ⟨.builtin .append, al.toArray, tl.toArray⟩, ty, pos, af, gd⟩).run P w = .ok (.value v) w' := by
    intro v w' hr
    rw [run_builtin]
    simp only [builtin, Sem.run_bind, hr, Result.andThen_ok, Sem.run_pure]
  split at hk'
  · rename_i ts tx s0 x0 h1
    obtain ⟨s, x, rfl, rfl, rfl⟩ := two_of_map _ _ _ _ h1
    -- the common end
    have fin : ∀ {e : Ty} {e1 e2 e3 eb : Nat} {ez : (Ty.slice e).den} {xs zs : List e.den} {nl : Option Bool} {cs : List Value}, C.ty ts = some ⟨.slice e, ez, e3, eb⟩ → 0 < eb → typed C ts (st.val s) = .sl e xs nl true →
        (∃ dx, P.underlying tx = some dx ∧ ∀ k, dx ≠ .int k) → (∀ w', (Builtin.lenOf (a.eval x)).run P w' = .ok zs.length w') → (∀ w', w'.heap = w.heap → (Builtin.firstCells e.size zs.length (a.eval x)).run P w' = .ok cs.toArray w') →
        Parts (RepC w g e) zs cs → (xs.length + zs.length) * eb ≤ 140737488355328 →
        OpWp P g w d dh ⟨dst, .call ⟨.builtin .append, [s, x].toArray, [ts, tx].toArray⟩, ty, pos, af, gd⟩ a (.sl e (xs ++ zs) (nl.map (· && List.isEmpty zs)) true) [true, false] st.H := by
      intro e e1 e2 e3 eb ez xs zs nl cs he heb hs htx hlen hfirst hparts hbound next Q hn
      have hok := Ctx.ty_ok hC he
      obtain ⟨ei, hu, ht, hpos⟩ := tyB_slice hok.1
      have hbb : (P.info? ei).map (·.bytes) = some eb := by
        have := hok.2.2.2
        rw [hu] at this
        exact this
      obtain ⟨g1, hg1, hy, hH1, hw1, eU, eN, eμ, eo, hown, hnone⟩ := h.moveTo (C := C) s ts (kd ⟨dst, .call ⟨.builtin .append, [s, x].toArray, [ts, tx].toArray⟩, ty, pos, af, gd⟩ d)
      rw [hs] at hy
      have hkno : kd ⟨dst, .call ⟨.builtin .append, [s, x].toArray, [ts, tx].toArray⟩, ty, pos, af, gd⟩ d ≠ .no := by
        unfold kd; split <;> simp
      have hkheap : ¬ (kd ⟨dst, .call ⟨.builtin .append, [s, x].toArray, [ts, tx].toArray⟩, ty, pos, af, gd⟩ d).heap dh := by
        unfold kd; split <;> simp [Key.heap]
      obtain ⟨val, w2, g2, r1, r2, r3, r4, r5⟩ := append_core ty hu ht hpos hbb heb htx h.le hkno hy hw1 hlen hfirst (Parts.imp (RepC.ext hg1 e) _ _ hparts) hbound
      refine wp_value (run _ _ (by simpa using r1)) (hn _ _ g2 r2 ?_ ?_ r4)
      · refine (hg1.mono (Nat.le_refl _) ?_).trans (r3.mono (Nat.le_refl _) ?_)
        · rintro κ ⟨t, rfl, rfl⟩
          exact .inl ⟨t, rfl, .inr (by cases x <;> simp [Op.operands, Call.operands, takenBy])⟩
        · rintro κ rfl
          unfold kd
          cases dst with
          | some t => exact .inl ⟨t, rfl, .inl rfl⟩
          | none => exact .inr (.inr (Nat.le_refl _))
      · exact HRep.ext r3 h.le (fun e => hkno e.symm) (fun κ hκ e => hkheap (e ▸ hκ)) (by rw [r5]) hH1
    have finP : ∀ {e : Ty} {e3 eb : Nat} {ez : (Ty.slice e).den} {xs zs : List e.den} {cs : List Value}, C.ty ts = some ⟨.slice e, ez, e3, eb⟩ → 0 < eb → typed C ts (st.val s) = .ps e xs →
        (∃ dx, P.underlying tx = some dx ∧ ∀ k, dx ≠ .int k) → (∀ w', (Builtin.lenOf (a.eval x)).run P w' = .ok zs.length w') → (∀ w', w'.heap = w.heap → (Builtin.firstCells e.size zs.length (a.eval x)).run P w' = .ok cs.toArray w') →
        Parts (RepC w g e) zs cs → (xs.length + zs.length) * eb ≤ 140737488355328 →
        OpWp P g w d dh ⟨dst, .call ⟨.builtin .append, [s, x].toArray, [ts, tx].toArray⟩, ty, pos, af, gd⟩ a (.ps e (xs ++ zs)) [true, false] st.H := by
      intro e e3 eb ez xs zs cs he heb hs htx hlen hfirst hparts hbound next Q hn
      have hok := Ctx.ty_ok hC he
      obtain ⟨ei, hu, ht, hpos⟩ := tyB_slice hok.1
      have hbb : (P.info? ei).map (·.bytes) = some eb := by
        have := hok.2.2.2
        rw [hu] at this
        exact this
      obtain ⟨g1, hg1, hy, hH1, hw1, eU, eN, eμ, eo, hown, hnone⟩ := h.moveTo (C := C) s ts (kd ⟨dst, .call ⟨.builtin .append, [s, x].toArray, [ts, tx].toArray⟩, ty, pos, af, gd⟩ d)
      rw [hs] at hy
      have hkno : kd ⟨dst, .call ⟨.builtin .append, [s, x].toArray, [ts, tx].toArray⟩, ty, pos, af, gd⟩ d ≠ .no := by
        unfold kd; split <;> simp
      have hkheap : ¬ (kd ⟨dst, .call ⟨.builtin .append, [s, x].toArray, [ts, tx].toArray⟩, ty, pos, af, gd⟩ d).heap dh := by
        unfold kd; split <;> simp [Key.heap]
      obtain ⟨val, w2, g2, r1, r2, r3, r4, r5⟩ := append_pris ty hu ht hpos hbb heb htx h.le hkno hy hw1 hlen hfirst (Parts.imp (RepC.ext hg1 e) _ _ hparts) hbound
      refine wp_value (run _ _ (by simpa using r1)) (hn _ _ g2 r2 ?_ ?_ r4)
      · refine (hg1.mono (Nat.le_refl _) ?_).trans (r3.mono (Nat.le_refl _) ?_)
        · rintro κ ⟨t, rfl, rfl⟩
          exact .inl ⟨t, rfl, .inr (by cases x <;> simp [Op.operands, Call.operands, takenBy])⟩
        · rintro κ rfl
          unfold kd
          cases dst with
          | some t => exact .inl ⟨t, rfl, .inl rfl⟩
          | none => exact .inr (.inr (Nat.le_refl _))
      · exact HRep.ext r3 h.le (fun e => hkno e.symm) (fun κ hκ e => hkheap (e ▸ hκ)) (by rw [r5]) hH1
    split at hk'
    · rename_i e ez e3 eb et tz tb teb e1 xs nl e2 ys nl2 own2 he hte hs hx
      split at hk'
      · rename_i hcond
        obtain ⟨rfl, heb⟩ := hcond
        split at hk'
        · rename_i zs hzs
          obtain ⟨hee, hz⟩ := castTo_some hzs
          cases hee
          simp only at hz
          subst hz
          cases hb : decide ((xs.length + List.length ys) * eb ≤ 140737488355328) <;> rw [hb] at hk'
          · cases hk'
          · have hbound : (xs.length + List.length ys) * eb ≤ 140737488355328 := by simpa using hb
            have hxr := typed_rep (C := C) (i := tx) (h.val x)
            rw [hx] at hxr
            obtain ⟨ei, hu, ht, hpos⟩ := tyB_slice (Ctx.ty_ok hC he).1
            obtain ⟨cs, c1, c2, c3⟩ := firstCells_sl (P := P) hxr hpos
            obtain ⟨ei2, hu2, _⟩ := tyB_slice (Ctx.ty_ok hC hte).1
            exact ⟨_, _, _, hk', fin (e1 := 0) (e2 := 0) he heb hs ⟨_, hu2, by simp⟩ c2 c3 c1 hbound⟩
        · cases hk'
      · cases hk'
    · rename_i ez e3 eb tz tb teb xs nl str he hte hs hx
      split at hk'
      · rename_i heb
        cases hb : decide ((xs.length + (bytesOf str).length) * eb ≤ 140737488355328) <;> rw [hb] at hk'
        · cases hk'
        · have hbound : (xs.length + (bytesOf str).length) * eb ≤ 140737488355328 := by simpa using hb
          have hxr := typed_rep (C := C) (i := tx) (h.val x)
          rw [hx, RepX.str_iff] at hxr
          have hlen : (bytesOf str).length = str.size := by rw [bytesOf, List.length_map, Array.length_toList]; rfl
          refine ⟨_, _, _, hk', fin (e1 := 0) (e2 := 0) (cs := str.data.toList.map fun b => Value.int .u8 b.toNat) he heb hs ⟨_, tyB_str (Ctx.ty_ok hC hte).1, by simp⟩ (fun w' => ?_) (fun w' _ => ?_) (bytes_cells str) hbound⟩
          · rw [hxr]
            show (Builtin.lenOf (.string str)).run P w' = _
            simp only [Builtin.lenOf, Sem.run_pure]
            rw [← hlen]
          · rw [hxr]
            show (Builtin.firstCells 1 (bytesOf str).length (.string str)).run P w' = _
            simp only [Builtin.firstCells, Sem.run_pure]
            congr 1
            have hex : str.extract 0 (bytesOf str).length = str := by
              rw [hlen]
              exact ByteArray.extract_zero_size
            rw [hex]
            apply Array.ext'
            simp
      · cases hk'
    · rename_i e ez e3 eb et tz tb teb e1 xs e2 ys nl2 own2 he hte hs hx
      split at hk'
      · rename_i hcond
        obtain ⟨rfl, heb⟩ := hcond
        split at hk'
        · rename_i zs hzs
          obtain ⟨hee, hz⟩ := castTo_some hzs
          cases hee
          simp only at hz
          subst hz
          cases hb : decide ((xs.length + List.length ys) * eb ≤ 140737488355328) <;> rw [hb] at hk'
          · cases hk'
          · have hbound : (xs.length + List.length ys) * eb ≤ 140737488355328 := by simpa using hb
            have hxr := typed_rep (C := C) (i := tx) (h.val x)
            rw [hx] at hxr
            obtain ⟨ei, hu, ht, hpos⟩ := tyB_slice (Ctx.ty_ok hC he).1
            obtain ⟨cs, c1, c2, c3⟩ := firstCells_sl (P := P) hxr hpos
            obtain ⟨ei2, hu2, _⟩ := tyB_slice (Ctx.ty_ok hC hte).1
            exact ⟨_, _, _, hk', finP he heb hs ⟨_, hu2, by simp⟩ c2 c3 c1 hbound⟩
        · cases hk'
      · cases hk'
    · rename_i e ez e3 eb et tz tb teb a1 xs a2 he hte hs hx
      split at hk'
      · rename_i hcond
        obtain ⟨rfl, heb⟩ := hcond
        cases hb : decide ((xs.length + 1) * eb ≤ 140737488355328) <;> rw [hb] at hk'
        · cases hk'
        · have hbound : (xs.length + 1) * eb ≤ 140737488355328 := by simpa using hb
          have hxr := typed_rep (C := C) (i := tx) (h.val x)
          rw [hx] at hxr
          simp only [RepX] at hxr
          obtain ⟨A, cA, hAv, hA1, hArun⟩ := hxr
          obtain ⟨ei2, hu2, _⟩ := tyB_slice (Ctx.ty_ok hC hte).1
          refine ⟨_, _, _, hk', fun next Q hn => ?_⟩
          have hok := Ctx.ty_ok hC he
          obtain ⟨ei, hu, ht, hpos⟩ := tyB_slice hok.1
          have hbb : (P.info? ei).map (·.bytes) = some eb := by
            have := hok.2.2.2
            rw [hu] at this
            exact this
          obtain ⟨g1, hg1, hy, hH1, hw1, eU, eN, eμ, eo, hown, hnone⟩ := h.moveTo (C := C) s ts (kd ⟨dst, .call ⟨.builtin .append, [s, x].toArray, [ts, tx].toArray⟩, ty, pos, af, gd⟩ d)
          rw [hs] at hy
          have hkno : kd ⟨dst, .call ⟨.builtin .append, [s, x].toArray, [ts, tx].toArray⟩, ty, pos, af, gd⟩ d ≠ .no := by
            unfold kd; split <;> simp
          have hkheap : ¬ (kd ⟨dst, .call ⟨.builtin .append, [s, x].toArray, [ts, tx].toArray⟩, ty, pos, af, gd⟩ d).heap dh := by
            unfold kd; split <;> simp [Key.heap]
          have hfirst : ∀ w', w'.heap = w.heap → (Builtin.firstCells 2 1 (a.eval x)).run P w' = .ok zstC.toArray w' := by
            intro w' hw'
            obtain ⟨A', cs, rfl, hs0, hcl, rfl, hcell⟩ := hArun 0 (by simp)
            rw [hAv]
            refine run_firstCells_some w' _ _ _ _ _ zstC rfl (fun j v hj => ?_)
            have hjl : j < zstC.length := (List.getElem?_eq_some_iff.1 hj).1
            rw [Addr.add_plain A' _ hs0]
            obtain ⟨k1, _⟩ := hcell j hjl
            rw [List.getElem?_eq_getElem hjl] at hj
            rw [← hj, ← k1]
            simp [World.cell?, hw']
          obtain ⟨val, w2, g2, r1, r2, r3, r4, r5⟩ := append_rows ty hu ht hbb heb ⟨_, hu2, by simp⟩ hkno hy hw1 (fun w' => by rw [hAv]; rfl) hfirst hbound
          refine wp_value (run _ _ (by simpa using r1)) (hn _ _ g2 r2 ?_ ?_ r4)
          · refine (hg1.mono (Nat.le_refl _) ?_).trans (r3.mono (Nat.le_refl _) ?_)
            · rintro κ ⟨t, rfl, rfl⟩
              exact .inl ⟨t, rfl, .inr (by cases x <;> simp [Op.operands, Call.operands, takenBy])⟩
            · rintro κ rfl
              unfold kd
              cases dst with
              | some t => exact .inl ⟨t, rfl, .inl rfl⟩
              | none => exact .inr (.inr (Nat.le_refl _))
          · exact HRep.ext r3 h.le (fun e => hkno e.symm) (fun κ hκ e => hkheap (e ▸ hκ)) (by rw [r5]) hH1
      · cases hk'
    · cases hk'
  · cases hk'

theorem Parts.split {α : Type} {R : α → List Value → Prop} : ∀ {xs ys : List α} {cs : List Value}, Parts R (xs ++ ys) cs → ∃ c1 c2, cs = c1 ++ c2 ∧ Parts R xs c1 ∧ Parts R ys c2
  | [], ys, cs, h => ⟨[], cs, rfl, rfl, h⟩
  | x :: xs, ys, cs, h => by
    obtain ⟨c1, c2, rfl, h1, h2⟩ := h
    obtain ⟨c3, c4, rfl, h3, h4⟩ := Parts.split (xs := xs) (ys := ys) h2
    exact ⟨c1 ++ c3, c4, by simp, ⟨c1, c3, rfl, h1, h3⟩, h4⟩

theorem zeroCells_succ (z : Array Value) (n : Nat) (hz : 0 < z.size) : (Builtin.zeroCells z (n + 1)).toList = z.toList ++ (Builtin.zeroCells z n).toList := by
  apply List.ext_getElem?
  intro i
  unfold Builtin.zeroCells
  simp only [Array.toList_map, Array.toList_range, List.getElem?_map]
  by_cases hi : i < z.size
  · rw [List.getElem?_append_left (by simpa using hi), List.getElem?_range (by rw [Nat.add_mul]; omega)]
    simp [Nat.mod_eq_of_lt hi, hi]
  · rw [List.getElem?_append_right (by simpa using hi)]
    simp only [List.getElem?_map, Array.length_toList]
    by_cases hi2 : i < (n + 1) * z.size
    · have h3 : i - z.size < n * z.size := by rw [Nat.add_mul] at hi2; omega
      rw [List.getElem?_range hi2, List.getElem?_range h3]
      simp only [Option.map_some]
      congr 2
      rw [Nat.mod_eq_sub_mod (by omega)]
    · rw [List.getElem?_eq_none (by simpa using hi2), List.getElem?_eq_none (by simp; rw [Nat.add_mul] at hi2; omega)]

theorem zeroCells_parts {w : World} {g : Ghost} {t : Ty} {x : t.den} {z : Array Value} (hz : RepC w g t x z.toList) (hpos : 0 < z.size) : ∀ n, Parts (RepC w g t) (List.replicate n x) (Builtin.zeroCells z n).toList
  | 0 => by simp [Builtin.zeroCells, Parts]
  | n + 1 => by
    rw [zeroCells_succ z n hpos, List.replicate_succ]
    exact ⟨_, _, rfl, hz, zeroCells_parts hz hpos n⟩

/-- A part of a variable is cleared. -/
theorem core_clear (hZ : ZOk P C.Z) (args : Array Operand) (argTypes : Array Nat) : CoreOk P C ⟨dst, .call ⟨.builtin .clear, args, argTypes⟩, ty, pos, af, gd⟩ := by
  intro R tr g w d dh st a h k r hk
  have ops : (⟨dst, .call ⟨.builtin .clear, args, argTypes⟩, ty, pos, af, gd⟩ : Oper).op.operands.toList.map st.val = args.toList.map st.val := by simp [Op.operands, Call.operands]
  rw [ops] at hk
  have hk' : (match argTypes.toList, args.toList.map st.val with
      | [T], [.mref e id p off len] => match C.Z T, st.H[id]? with
        | some z, some (t, c0) => match getP p c0 with
          | some (.d (.arr n e2) l) => if z.1 = e ∧ e = e2 then match castTo z.1 e2 z.2 with
            | some z2 => match setP p c0 (.d (.arr n e2) (List.take off l ++ List.replicate len z2 ++ List.drop (off + len) l)) with
              | some c' => k (.tup []) [] (st.H.set id (t, c'))
              | none => none
            | none => none
            else none
          | _ => none
        | _, _ => none
      | _, _ => none) = some r := hk
  obtain ⟨al⟩ := args
  obtain ⟨tl⟩ := argTypes
  simp only [] at hk'
  have run : ∀ v w', (Builtin.clear_ tl.toArray ty (al.toArray.map a.eval)).run P w = .ok v w' → (execOp a.eval ⟨dst, .call ⟨.builtin .clear, al.toArray, tl.toArray⟩, ty, pos, af, gd⟩).run P w = .ok (.value v) w' := by
    intro v w' hr
    rw [run_builtin]
    simp only [builtin, Sem.run_bind, hr, Result.andThen_ok, Sem.run_pure]
  split at hk'
  · rename_i T e id p off len h1
    obtain ⟨x, rfl, hxv⟩ : ∃ x, al = [x] ∧ st.val x = .mref e id p off len := by
      cases al with
      | nil => simp at h1
      | cons x al =>
        cases al with
        | nil => exact ⟨x, rfl, by simpa using h1⟩
        | cons y al => simp at h1
    split at hk'
    · rename_i z t c0 hz hid
      split at hk'
      · rename_i n e2 l hgp
        split at hk'
        · rename_i hcond
          obtain ⟨rfl, rfl⟩ := hcond
          split at hk'
          · rename_i z2 hz2
            obtain ⟨_, hz2⟩ := castTo_some hz2
            simp only at hz2
            subst hz2
            split at hk'
            · rename_i c' hset
              refine ⟨_, _, _, hk', fun next Q hn => ?_⟩
              obtain ⟨ei, inf, hu, hinf, hzero, hzB, hpos⟩ := hZ T z hz
              have hx := h.val x
              rw [hxv] at hx
              simp only [RepX] at hx
              obtain ⟨hN, n', o, a0, cp, hp, hn', hlc, hv, ha0⟩ := hx
              obtain ⟨r1, r2, hlive⟩ := h.heap.2 id t c0 hid
              obtain ⟨r3, r4, r56⟩ := hlive.at (setP_dead hset)
              rw [r1] at hp
              obtain ⟨arr, tyo, fr, r5, rf, r6⟩ := r56.cells (typeAt_of p t o _ hp) (by simp) (by
                rintro a xs hole rfl
                cases p with
                | nil =>
                  simp only [getP, Option.some.injEq] at hgp
                  cases hgp
                | cons j p => simp [getP] at hgp)
              obtain ⟨pre, mid, post, f1, f2, f3⟩ := RepO.get p c0 t 0 o _ (.arr n' z.1) _ r6 hp hgp
              rw [Nat.zero_add] at f3
              simp only [RepO] at f3
              obtain ⟨f4, f5, f6⟩ := f3
              simp only [Ty.arr.injEq, and_true] at f4
              subst f4
              have hzc := zcells_rep (w := w) (g := g) z.1 z.2 hzB
              rw [← zval_cells hzB] at hzc
              have hzsz : (zval z.1 z.2).cells.size = z.1.size := by
                rw [← Array.length_toList]; exact RepC.length _ _ _ hzc
              have hzp := zeroCells_parts hzc (by omega) len
              have hzl := Parts.length (RepC.length (w := w) (g := g) z.1) _ _ hzp
              rw [List.length_replicate] at hzl
              have hzpl := Parts.plain (RepC.plain z.1) _ _ hzp
              have hb : g.μ dh id < w.heap.size := (Array.getElem?_eq_some_iff.1 r5).1
              -- the parts
              have hl : l = List.take off l ++ (List.take len (List.drop off l) ++ List.drop (off + len) l) := by
                rw [← List.drop_drop, List.take_append_drop, List.take_append_drop]
              have f6' := f6
              rw [hl] at f6'
              obtain ⟨m1, m23, rfl, p1, p23⟩ := f6'.split
              obtain ⟨m2, m3, rfl, p2, p3⟩ := p23.split
              have l1 := Parts.length (RepC.length (w := w) (g := g) z.1) _ _ p1
              have l2 := Parts.length (RepC.length (w := w) (g := g) z.1) _ _ p2
              rw [List.length_take, Nat.min_eq_left (by omega)] at l1
              rw [List.length_take, List.length_drop, Nat.min_eq_left (by omega)] at l2
              have hall := List.take_append_drop t.size arr.toList
              rw [f1] at hall
              generalize hrest : arr.toList.drop t.size = rest at hall
              replace hall : arr.toList = (pre ++ m1) ++ (m2 ++ (m3 ++ (post ++ rest))) := by
                rw [← hall]
                simp only [List.append_assoc]
              have hasz : arr.size = o + off * z.1.size + (len * z.1.size + (m3 ++ (post ++ rest)).length) := by
                rw [← Array.length_toList, hall, List.length_append, List.length_append, List.length_append, f2, l1, l2]
              have hst := storeCells_run (P := P) (w := w) (g.μ dh id) (o + off * z.1.size) tyo fr (Builtin.zeroCells (zval z.1 z.2).cells len).toList 0 arr w r5 (by rw [hzl]; omega) (fun j _ j2 => frozen_open r5 rf (by rw [hzl] at j2; omega)) hzpl
              simp only [Nat.add_zero] at hst
              generalize hnew : (arr.toList.take (o + off * z.1.size) ++ (Builtin.zeroCells (zval z.1 z.2).cells len).toList ++ arr.toList.drop (o + off * z.1.size + (Builtin.zeroCells (zval z.1 z.2).cells len).toList.length)).toArray = new at hst
              have hnl : new.toList = pre ++ (m1 ++ (Builtin.zeroCells (zval z.1 z.2).cells len).toList ++ m3) ++ (post ++ rest) := by
                rw [← hnew]
                simp only []
                rw [hall, hzl]
                rw [List.take_left' (by rw [List.length_append, f2, l1]), ← List.append_assoc, List.drop_left' (by rw [List.length_append, List.length_append, f2, l1, l2])]
                simp only [List.append_assoc]
              have hnsz : new.size = arr.size := by
                rw [← Array.length_toList, hnl, hasz]
                simp only [List.length_append, hzl, f2, l1]
                omega
              have hrun : (Builtin.clear_ #[T] ty #[a.eval x]).run P w = .ok (.tuple #[]) (w.setRow (g.μ dh id) new) := by
                by_cases h0 : len = 0
                · subst h0
                  have hnw : w.setRow (g.μ dh id) new = w := by
                    have : new = arr := by
                      rw [← hnew]
                      simp [Builtin.zeroCells]
                    rw [this]
                    exact setRow_self w _ arr tyo fr r5
                  rw [hnw, hv]
                  simp [Builtin.clear_, run_underlying hu]
                · have ha1 := ha0 (by omega)
                  subst ha1
                  rw [hv]
                  obtain ⟨len', rfl⟩ : ∃ m, len = m + 1 := ⟨len - 1, by omega⟩
                  simp only [Builtin.clear_, List.getElem?_toArray, List.getElem?_cons_zero, Sem.run_bind, run_underlying hu, Result.andThen_ok, zeroValue, typeInfo, run_program, hinf, hzero, Sem.run_pure, hst]
              have he : Ext g w g (w.setRow (g.μ dh id) new) d (fun κ => κ = .obj dh id) := Ext.setRow r3 r4 hb
              have hy2 : RepO g (w.setRow (g.μ dh id) new) dh id (.d (.arr n z.1) (List.take off l ++ List.replicate len z.2 ++ List.drop (off + len) l)) (.arr n z.1) (0 + o) (m1 ++ (Builtin.zeroCells (zval z.1 z.2).cells len).toList ++ m3) := by
                simp only [RepO]
                refine ⟨trivial, ?_, ?_⟩
                · simp; omega
                · exact Parts.imp (RepC.ext he z.1) _ _ (Parts.append (Parts.append p1 hzp) p3)
              obtain ⟨pre', mid', post', g1, g2, g3, g4⟩ := RepO.set he h.le (by simp) p c0 t 0 o _ (.arr n z.1) _ c' _ r2 r6 hp hset (fun o' _ _ k => by cases k) hy2
              have hpp : pre' = pre ∧ post' = post := by
                have e1 : pre ++ ((m1 ++ (m2 ++ m3)) ++ post) = pre' ++ (mid' ++ post') := (List.append_assoc pre _ post).symm.trans ((f1.symm.trans g1).trans (List.append_assoc pre' mid' post'))
                obtain ⟨q1, q2⟩ := List.append_inj e1 (by rw [f2, g2])
                obtain ⟨q3, q4⟩ := List.append_inj q2 (by rw [g3, Parts.length (RepC.length (w := w) (g := g) z.1) _ _ f6, f5]; rfl)
                exact ⟨q1.symm, q4.symm⟩
              obtain ⟨rfl, rfl⟩ := hpp
              refine wp_value (run _ _ (by simpa using hrun)) (hn _ _ g ?_ (he.mono (Nat.le_refl _) (fun κ e => e ▸ .inr (.inl rfl))) (HRep.set h.heap he h.le (by simp) rfl hid ?_ r3 r4 (.inl ⟨new, tyo, fr, setRow_heap w _ arr new tyo fr r5, by rw [hnsz]; exact rf, ?_⟩)) ⟨fun b hb' => h.wf.1 b (by simpa using hb'), Tabs.ext he h.wf.2⟩)
              · simp only [RepX]
                exact ⟨[], rfl, by simp [RepXs]⟩
              · rintro κ _ rfl
                exact .inl rfl
              · have ht2 : (pre' ++ (m1 ++ (Builtin.zeroCells (zval z.1 z.2).cells len).toList ++ m3) ++ post').length = t.size := by
                  have := RepO.length _ _ _ _ r6
                  rw [f1] at this
                  rw [← this]
                  simp only [List.length_append, hzl, l2]
                  omega
                rw [hnl, ← List.append_assoc, List.take_left' ht2]
                exact g4
            · cases hk'
          · cases hk'
        · cases hk'
      · cases hk'
    · cases hk'
  · cases hk'

end
end Go.Proofs.Ytnbfiifkaddehaa.V

/- What the evaluator tells is so: what is made in another form. -/
namespace Go.Proofs.Ytnbfiifkaddehaa.V
open Go
set_option linter.unusedVariables false
set_option linter.unusedSimpArgs false

theorem new_sound {P : Program} {C : Ctx} (hC : COk P C) {R : Type} {n : Nat} {o : Oper} {g w} {d dh : Nat} {st : St} {a : Act} (h : Fr g w d dh st a) {k : X → Option R} {r : R} (hk : newK C n o (o.op.operands.toList.map st.val) k = some r) :
    ∃ v, k v = some r ∧ OpWp P g w d dh o a v [] st.H := by
  obtain ⟨dst, op, ty, pos, af, gd⟩ := o
  generalize hvals : (Oper.op ⟨dst, op, ty, pos, af, gd⟩).operands.toList.map st.val = vals at hk
  unfold newK at hk
  dsimp only at hk hvals
  split at hk
  · rename_i T parts
    split at hk
    · rename_i a1 z e1 e2 he
      cases hz1 : (show Bool from z.1) with
      | true =>
        have hz1' : z.1 = true := hz1
        rw [hz1'] at hk
        cases hk
      | false =>
        have hz1' : z.1 = false := hz1
        rw [hz1'] at hk
        refine ⟨_, hk, ?_⟩
        have hok := Ctx.ty_ok hC.tys he
        obtain ⟨fs, hu, hch⟩ := tyB_struct hok.1
        obtain ⟨inf, hi, hz, hs, _⟩ := info_zero hok
        have hnil : parts = #[] := by
          have : parts.toList = [] := by
            simp only [Op.operands] at hvals
            simpa using hvals
          cases parts; simp at this; subst this; rfl
        subst hnil
        have hpl : (fs.mapM (fun f => do pure (f.offset, ← sizeOf f.type) : Field → Sem (Nat × Nat))).run P w = .ok (fs.map fun f => (f.offset, P.cellsOf f.type)) w := by
          rw [Array.mapM_eq_mapM_toList, Sem.run_map, places_run (P := P) (w := w) fs.toList (chB_info _ fs.toList 0 hch)]
          simp only [Result.andThen_ok]
          congr 1
          apply Array.ext'
          simp
        have hzc : (zval (stT a1) z).cells = zstC.toArray := by
          obtain ⟨z1, z2, z3⟩ := z
          simp only at hz1'
          subst hz1'
          rfl
        refine OpWp.same h (val := .agg zstC.toArray) ?_ (by simp only [RepX])
        have hzc' := hzc
        simp only [execOp, Sem.run_bind, Instr.build, zeroValue, typeInfo, run_program, Result.andThen_ok, hi, hz, Sem.run_pure, run_underlying hu, hpl]
        simp [hzc, Instr.fill]
    · cases hk
  · rename_i T x0 y0 x y
    have hxy : st.val x0 = x ∧ st.val y0 = y := by
      simp only [Op.operands] at hvals
      simpa using hvals
    obtain ⟨rfl, rfl⟩ := hxy
    have hx := h.val x0
    have hy := h.val y0
    split at hk
    · rename_i e ez e1 eb zz l_ c_ he hz ex ey
      obtain ⟨l, rfl⟩ : ∃ u : Int, u = l_ := ⟨l_, rfl⟩
      obtain ⟨c, rfl⟩ : ∃ u : Int, u = c_ := ⟨c_, rfl⟩
      rw [ex, RepX.int_iff] at hx
      rw [ey, RepX.int_iff] at hy
      split at hk
      · rename_i z zs hcast
        obtain ⟨e2, hzz⟩ := castTo_some hcast
        cases e2
        simp only [List.cons.injEq] at hzz
        obtain ⟨hzz, _⟩ := hzz
        cases hb : decide (0 ≤ l ∧ l = c ∧ c * (eb : Int) ≤ 140737488355328 ∧ c ≤ 9223372036854775807) <;> rw [hb] at hk
        · cases hk
        · have hb' : 0 ≤ l ∧ l = c ∧ c * (eb : Int) ≤ 140737488355328 ∧ c ≤ 9223372036854775807 := by simpa using hb
          obtain ⟨hl0, rfl, hb1, hb2⟩ := hb'
          have hok := Ctx.ty_ok hC.tys he
          obtain ⟨et, hu, ht, hpos⟩ := tyB_slice hok.1
          obtain ⟨ei, inf, hu2, hinf, hzero, hzB, hpos2⟩ := hC.zer T zz hz
          have hei : ei = et := by
            rw [hu] at hu2
            simpa using hu2.symm
          subst hei
          obtain ⟨inf', z', hinf', hsz, hz', hzs⟩ := tyB_info ht
          rw [hinf] at hinf'
          cases hinf'
          rw [hzero] at hz'
          cases hz'
          have hbytes : inf.bytes = eb := by
            have := hok.2.2.2
            rw [hu] at this
            simpa [hinf] using this
          refine ⟨_, hk, fun next Q hn => ?_⟩
          have hmul : (inf.bytes : Int) * l ≤ 281474976710656 := by
            rw [hbytes, Int.mul_comm]
            omega
          have hrun := run_make (P := P) w T ei inf _ hu hinf hzero .i64 .i64 l l hl0 (Int.le_refl _) hmul hb2
          have hexec : (execOp a.eval ⟨dst, .makeSlice T x0 y0, ty, pos, af, gd⟩).run P w = .ok (.value (.slice (some ⟨w.heap.size, 0, none⟩) l.toNat l.toNat)) (w.alloc (.cells (madeCells (zval zz.1 zz.2).cells (l.toNat * inf.size)) ei)) := by
            simp only [execOp, hx, hy, Sem.run_bind, hrun, Result.andThen_ok, Sem.run_pure]
          have hmc : madeCells (zval zz.1 zz.2).cells (l.toNat * inf.size) = Builtin.zeroCells (zval zz.1 zz.2).cells l.toNat := by
            unfold madeCells Builtin.zeroCells
            rw [hsz, ← hzs]
          have hzr : RepC w g zz.1 zz.2 (zval zz.1 zz.2).cells.toList := by
            rw [zval_cells hzB]
            exact zcells_rep _ _ hzB
          have hparts := zeroCells_parts (w := w) (g := g) hzr (by rw [hzs]; exact hpos) l.toNat
          have hlen : (List.replicate l.toNat z).length = l.toNat := List.length_replicate
          have hzl : (Builtin.zeroCells (zval zz.1 zz.2).cells l.toNat).size = l.toNat * zz.1.size := by rw [size_zeroCells, hzs]
          subst hzz
          have hf := RepX.freshP (κ := kd ⟨dst, .makeSlice T x0 y0, ty, pos, af, gd⟩ d) (dh := dh) (T := ei) (g := g) (w := w) (e := zz.1) (xs := List.replicate l.toNat zz.2) (arr := Builtin.zeroCells (zval zz.1 zz.2).cells l.toNat) (c := l.toNat) hparts h.wf
            (by rw [List.length_replicate]; exact List.take_of_length_le (by rw [Array.length_toList, hzl]; exact Nat.le_refl _)) (by rw [List.length_replicate]; exact Nat.le_refl _) hzl (0, 0) (.inl rfl)
          rw [List.length_replicate] at hf
          rw [hmc] at hexec
          exact wp_value hexec (hn _ _ (g.block w.heap.size (kd ⟨dst, .makeSlice T x0 y0, ty, pos, af, gd⟩ d) 0) hf (Ext.block h.wf _ _ _)
            (HRep.ext (Ext.block (K := fun _ => False) h.wf _ _ _) h.le (fun e => e) (fun _ _ e => e) rfl h.heap) (WF.block h.wf _ _ _))
      · cases hk
    · cases hk
  · rename_i T parts b
    split at hk
    · rename_i a1 z e1 e2 he
      split at hk
      · rename_i hidx
        obtain ⟨p, hps⟩ : ∃ p, parts.toList = [p] := by
          match hpl : parts.toList with
          | [] => rw [hpl] at hidx; simp at hidx
          | [p] => exact ⟨p, rfl⟩
          | p :: q :: l => rw [hpl] at hidx; simp at hidx
        have hvals' : (parts.toList.map fun p => st.val p.2) = [.d .bool b] := by simpa [Op.operands] using hvals
        rw [hps] at hvals' hidx
        simp only [List.map_cons, List.map_nil, List.cons.injEq, and_true] at hvals' hidx
        have hv := h.val p.2
        rw [hvals', RepX.bool_iff] at hv
        refine ⟨_, hk, ?_⟩
        have hok := Ctx.ty_ok hC.tys he
        obtain ⟨fs, hu, hch⟩ := tyB_struct hok.1
        obtain ⟨inf, hi, hz, hs, _⟩ := info_zero hok
        have hpl : (fs.mapM (fun f => do pure (f.offset, ← sizeOf f.type) : Field → Sem (Nat × Nat))).run P w = .ok (fs.map fun f => (f.offset, P.cellsOf f.type)) w := by
          rw [Array.mapM_eq_mapM_toList, Sem.run_map, places_run (P := P) (w := w) fs.toList (chB_info _ fs.toList 0 hch)]
          simp only [Result.andThen_ok]
          congr 1
          apply Array.ext'
          simp
        have hf0 : (fs.map fun f => (f.offset, P.cellsOf f.type))[0]? = some (0, 1) := by
          rw [Array.getElem?_map, ← Array.getElem?_toList]
          match hfl : fs.toList, hch with
          | [], hch => simp [chB] at hch
          | f :: r, hch =>
            simp only [chB, Bool.and_eq_true, beq_iff_eq] at hch
            rw [List.getElem?_cons_zero, Option.map_some, hch.1.1, cellsOf_ty hch.1.2]
            rfl
        obtain ⟨z1, z2, z3⟩ := z
        have hzB := hok.2.2.1
        have hz2 : z2 = [] := by
          simp only [zB, Bool.and_eq_true, List.isEmpty_iff] at hzB
          exact hzB.2.1
        subst hz2
        have hzc : (zval (stT a1) (z1, ([] : List a1.den), z3)).cells = #[.bool z1, .slice none 0 0] := rfl
        have hpm : (parts.map fun (i, x) => (i, a.eval x)).toList = [(0, .bool b)] := by
          simp [hps, hidx, hv]
        have hfill : Instr.fill (fun j => (fs.map fun f => (f.offset, P.cellsOf f.type))[j]?) #[.bool z1, .slice none 0 0] [(0, .bool b)] = some (zwC b).toArray := by
          simp only [Instr.fill, hf0]
          rfl
        refine OpWp.same h (val := .agg (zwC b).toArray) ?_ (by simp only [RepX])
        have hzc' := hzc
        simp only [execOp, Sem.run_bind, Instr.build, zeroValue, typeInfo, run_program, Result.andThen_ok, hi, hz, Sem.run_pure, run_underlying hu, hpl, hpm]
        rw [hzc]
        simp only [hfill, Sem.run_pure, Result.andThen_ok]
      · cases hk
    · cases hk
  · rename_i T n parts a1
    split at hk
    · rename_i e e1 e2 e3 he
      split at hk
      · rename_i hcond
        obtain ⟨rfl, rfl, hidx⟩ := hcond
        have hvals' : (parts.toList.map fun p => st.val p.2) = [.zv a1] := by simpa [Op.operands] using hvals
        obtain ⟨p, hps⟩ : ∃ p, parts.toList = [p] := by
          match hpl : parts.toList with
          | [] => rw [hpl] at hvals'; simp at hvals'
          | [p] => exact ⟨p, rfl⟩
          | p :: q :: l => rw [hpl] at hvals'; simp at hvals'
        rw [hps] at hvals' hidx
        simp only [List.map_cons, List.map_nil, List.cons.injEq, and_true] at hvals' hidx
        have hv := h.val p.2
        rw [hvals'] at hv
        simp only [RepX] at hv
        obtain ⟨et, hu, ht, hpos⟩ := tyB_slice (Ctx.ty_ok hC.tys he).1
        obtain ⟨inf, z, hi, hs, hz, hzs⟩ := tyB_info ht
        have e2 : (stT a1).size = 2 := rfl
        rw [e2] at hs hzs
        refine ⟨_, hk, fun next Q hnx => ?_⟩
        have hpm : (parts.map fun (i, x) => (i, a.eval x)).toList = [(0, .agg zstC.toArray)] := by
          simp [hps, hidx, hv]
        let init : Array Value := (Array.range (1 * 2)).map (z.cells[· % z.cells.size]!)
        have hinit : init.toList.length = 2 := by simp [init]
        have hfill : Instr.fill (fun i => some (i * 2, 2)) init [(0, .agg zstC.toArray)] = some zstC.toArray := by
          have hfold := foldl_set zstC 0 0 init [] init.toList [] (by simp) rfl (by rw [hinit]; rfl)
          simp only [Instr.fill]
          rw [if_neg (by simp [Value.cells, init, zstC])]
          congr 1
          apply Array.ext'
          rw [← Array.foldl_toList, Array.toList_zipIdx]
          simpa [Value.cells] using hfold
        have hrun : (execOp a.eval ⟨dst, .buildSlice T 1 parts, ty, pos, af, gd⟩).run P w = .ok (.value (.slice (some ⟨w.heap.size, 0, none⟩) 1 1)) { w with heap := w.heap.push (.cells zstC.toArray et) } := by
          have hlim : ¬ (1 * 2 > 2 ^ 24) := by omega
          have hz0 : ¬ (1 * 2 = 0) := by omega
          have hfill' := hfill
          simp only [init] at hfill'
          simp only [execOp, Sem.run_bind, Instr.buildSlice, run_underlying hu, Result.andThen_ok, sizeOf, typeInfo, run_program, hi, Sem.run_pure, hs, if_neg hlim, if_neg hz0, zeroValue, hz, hpm, hfill', newRow, run_newObj]
        have hE : Ext g w (g.block w.heap.size (kd ⟨dst, .buildSlice T 1 parts, ty, pos, af, gd⟩ d) 0) { w with heap := w.heap.push (.cells zstC.toArray et) } d (fun _ => False) := Ext.block h.wf _ _ _
        refine wp_value hrun (hnx _ _ (g.block w.heap.size (kd ⟨dst, .buildSlice T 1 parts, ty, pos, af, gd⟩ d) 0) ?_ (Ext.block h.wf _ _ _) (HRep.ext hE h.le (fun e => e) (fun _ _ e => e) rfl h.heap) (WF.block h.wf _ _ _))
        simp only [RepX]
        refine ⟨_, 1, rfl, Nat.le_refl _, .inr ⟨w.heap.size, zstC.toArray, et, (0, 0), fun _ => (none, 0), rfl, by simp, rfl, rfl, by simp [Ghost.block], by simp [Ghost.block], ⟨fun i hi => ?_, fun i j _ _ _ _ _ hh => absurd rfl hh⟩, fun i _ hh => absurd rfl hh⟩⟩
        have hi0 : i = 0 := by simpa using hi
        subst hi0
        refine ⟨rfl, rfl, Nat.zero_le _, ?_, fun _ => .inl rfl⟩
        intro j hj
        exact absurd hj (by simp)
      · cases hk
    · cases hk
  · cases hk

end Go.Proofs.Ytnbfiifkaddehaa.V

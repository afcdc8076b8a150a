/-
  What the evaluator tells is so: appends.
  It speaks of whatever program; no condition.
-/
import Derived.Test.YtgickaihlebgmaaV12
namespace Go.Proofs.Ytgickaihlebgmaa.V
open Go
set_option linter.unusedVariables false
set_option linter.unusedSimpArgs false

theorem Run.of_cells {w : World} {g : Ghost} {α : Type} {R : α → List Value → Prop} {size : Nat} (hR : ∀ x cs, R x cs → cs.length = size) {xs : List α} {cs : List Value} {b off : Nat} (hp : Parts R xs cs)
    (hc : ∀ j (hj : j < cs.length), w.cell? ⟨b, off + j, none⟩ = some cs[j] ∧ off + j < g.U b) : Run w g R size xs (some ⟨b, off, none⟩) := by
  intro i hi
  obtain ⟨pre, mid, post, rfl, f2, f3, _⟩ := Parts.at hR xs cs i hi hp
  refine ⟨_, mid, rfl, rfl, hR _ _ f3, f3, fun j hj => ?_⟩
  obtain ⟨h1, h2⟩ := hc (i * size + j) (by simp; omega)
  refine ⟨?_, h2⟩
  rw [h1]
  congr 1
  have := getElem?_mid pre mid post j hj
  rw [f2, List.getElem?_eq_getElem (by simp; omega), List.getElem?_eq_getElem hj] at this
  exact Option.some.inj this

theorem Parts.append {α : Type} {R : α → List Value → Prop} : ∀ {xs ys : List α} {c1 c2 : List Value}, Parts R xs c1 → Parts R ys c2 → Parts R (xs ++ ys) (c1 ++ c2)
  | [], ys, c1, c2, h1, h2 => by
    have : c1 = [] := h1
    subst this
    simpa using h2
  | x :: xs, ys, c1, c2, h1, h2 => by
    obtain ⟨a1, a2, rfl, k1, k2⟩ := h1
    exact ⟨a1, a2 ++ c2, by simp, k1, Parts.append k2 h2⟩

section
variable {P : Program}

/-- Cells written one behind the other into a block that is not sealed there. -/
theorem storeCells_run {w : World} (g o : Nat) (t : TypeId) (fr : Nat × Nat) : ∀ (vs : List Value) (i : Nat) (cur : Array Value) (w : World), w.heap[g]? = some (.cells cur t fr) → o + i + vs.length ≤ cur.size → (∀ j, o + i ≤ j → j < o + i + vs.length → w.frozen? ⟨g, j, none⟩ = false) → Plain vs →
    (storeCells ⟨g, o, none⟩ vs i).run P w = .ok () (w.setRow g (cur.toList.take (o + i) ++ vs ++ cur.toList.drop (o + i + vs.length)).toArray)
  | [], i, cur, w, hg, _, _, _ => by
    simp only [storeCells, List.append_nil, List.length_nil, Nat.add_zero, List.take_append_drop, Array.toArray_toList]
    rw [setRow_self w g cur t fr hg]
    rfl
  | v :: rest, i, cur, w, hg, hl, hf, h1 => by
    have hi : o + i < cur.size := by simp at hl; omega
    have hadd : (⟨g, o, none⟩ : Addr).add i = ⟨g, o + i, none⟩ := Addr.add_lit g o i
    have hcell : w.cell? ⟨g, o + i, none⟩ = some cur[o + i] := by simp [World.cell?, hg, hi]
    have hfro : w.frozen? ⟨g, o + i, none⟩ = false := hf _ (Nat.le_refl _) (by simp)
    have hst : (store ((⟨g, o, none⟩ : Addr).add i) v).run P w = .ok () (w.setRow g (cur.setIfInBounds (o + i) v)) := by
      rw [hadd, run_store P w _ v _ (h1 v (by simp)), hcell]
      simp [hfro, setCell_eq_setRow w g (o + i) cur t fr v hg]
    have hh := setRow_heap w g cur (cur.setIfInBounds (o + i) v) t fr hg
    have ih := storeCells_run (w := w) g o t fr rest (i + 1) (cur.setIfInBounds (o + i) v) (w.setRow g (cur.setIfInBounds (o + i) v)) hh (by simp at hl ⊢; omega) (fun j l1 l2 => by
      have := hf j (by omega) (by simp; omega)
      simp only [World.frozen?, hg] at this
      simp only [World.frozen?, hh]
      exact this) (fun x hx => h1 x (by simp [hx]))
    simp only [storeCells, Sem.run_bind, hst, Result.andThen_ok, ih, setRow_setRow]
    congr 3
    have e := list_seg_step cur.toList (o + i) v rest (by simp at hl ⊢; omega)
    simpa [Array.toList_setIfInBounds, Nat.add_assoc] using e

theorem append_core {e : Ty} {ts tx elemT eb : Nat} (rty : Nat) (hu : P.underlying ts = some (.slice elemT)) (ht : tyB P e elemT = true) (hpos : 0 < e.size) (hb : (P.info? elemT).map (·.bytes) = some eb) (heb : 0 < eb)
    (htx : ∃ dx, P.underlying tx = some dx ∧ ∀ k, dx ≠ .int k) {g w} {d dh : Nat} {κ : Key} (hd : dh ≤ d) (hno : κ ≠ .no) {xs zs : List e.den} {nl : Option Bool} {vs vx : Value} (hs : RepX g w dh κ (.sl e xs nl true) vs) (hw : WF g w)
    {cs : List Value} (hlen : ∀ w', (Builtin.lenOf vx).run P w' = .ok zs.length w') (hfirst : ∀ w', w'.heap = w.heap → (Builtin.firstCells e.size zs.length vx).run P w' = .ok cs.toArray w') (hparts : Parts (RepC w g e) zs cs)
    (hbound : (xs.length + zs.length) * eb ≤ 140737488355328) :
    ∃ val w' g2, (Builtin.append_ #[ts, tx] rty #[vs, vx]).run P w = .ok val w' ∧ RepX g2 w' dh κ (.sl e (xs ++ zs) (nl.map (· && List.isEmpty zs)) true) val ∧ Ext g w g2 w' d (fun x => x = κ) ∧ WF g2 w' ∧ g2.N = g.N := by
  obtain ⟨inf, z, hi, hsz, hz, hzs⟩ := tyB_info ht
  have hby : inf.bytes = eb := by rw [hi] at hb; simpa using hb
  obtain ⟨dx, hux, hdx⟩ := htx
  have hzeros : ((dx matches .int _) : Bool) = false := by cases dx <;> first | rfl | exact absurd rfl (hdx _)
  have hcl := Parts.length (RepC.length (w := w) (g := g) e) zs cs hparts
  have hcp : Plain cs := Parts.plain (RepC.plain e) zs cs hparts
  simp only [RepX] at hs
  obtain ⟨base, c, rfl, hnc, hrun, hnl, hown⟩ := hs
  have hx0 : base = none → xs = [] := by
    rintro rfl
    cases xs with
    | nil => rfl
    | cons x xs => obtain ⟨A, _, e, _⟩ := hrun 0 (by simp); cases e
  by_cases hroom : xs.length + zs.length ≤ c
  · by_cases hm : zs = []
    · -- nothing is appended
      subst hm
      have hcs : cs = [] := List.eq_nil_of_length_eq_zero (by simpa using hcl)
      subst hcs
      refine ⟨.slice base xs.length c, w, g, ?_, ?_, Ext.refl _ _ _ _, hw, rfl⟩
      · have hf0 := hfirst w rfl
        simp only [List.length_nil] at hf0
        have hl0 := hlen w
        simp only [List.length_nil] at hl0
        simp only [Builtin.append_, List.getElem?_toArray, List.getElem?_cons_zero, List.getElem?_cons_succ, Sem.run_bind, run_underlying hu, Result.andThen_ok, sizeOf, typeInfo, run_program, hi, Sem.run_pure, hsz, run_underlying hux, hzeros, Bool.false_eq_true, if_false, hl0, Bool.not_false, if_true, Nat.add_zero, if_pos hnc, hf0]
        cases base <;> simp [storeCells]
      · simp only [RepX]
        rw [List.append_nil]
        refine ⟨base, c, rfl, hnc, hrun, fun b hb => hnl b ?_, hown⟩
        cases nl <;> simp_all
    · -- there is room: the block is the key's own
      have hzl : 0 < zs.length := List.length_pos_iff.2 hm
      rcases hown trivial with h | ⟨b, arr, tyo, fr, rfl, e2, e3, e4, e5, e6⟩
      · omega
      have e4' : ∀ off, off < arr.size → w.frozen? ⟨b, off, none⟩ = false := fun off ho => by
        simp only [World.frozen?, e2]
        simp
        omega
      obtain ⟨cs0, q1, q2, q3⟩ := Run.cells hrun hpos
      have hfit : 0 + (xs.length * e.size) + cs.length ≤ arr.size := by
        rw [e3, hcl, Nat.zero_add, ← Nat.add_mul]
        exact Nat.mul_le_mul_right _ hroom
      have hst := storeCells_run (P := P) (w := w) b (xs.length * e.size) tyo fr cs 0 arr w e2 (by simpa using hfit) (fun j h1 h2 => by
        have := e4' j (by simp at hfit; omega)
        simpa using this) hcp
      simp only [Nat.add_zero] at hst
      have hb : b < w.heap.size := (Array.getElem?_eq_some_iff.1 e2).1
      generalize hnew : (arr.toList.take (xs.length * e.size) ++ cs ++ arr.toList.drop (xs.length * e.size + cs.length)).toArray = new at hst
      have hnsz : new.size = arr.size := by
        rw [← hnew]
        simp
        simp at hfit
        omega
      have hold : arr.toList.take (xs.length * e.size) = cs0 := by
        apply List.ext_getElem?
        intro j
        by_cases hj : j < cs0.length
        · obtain ⟨k1, _⟩ := q3 _ rfl j hj
          rw [Nat.zero_add, cell_of_heap e2] at k1
          rw [List.getElem?_take, if_pos (by omega), Array.getElem?_toList, k1, List.getElem?_eq_getElem hj]
        · rw [List.getElem?_eq_none (Nat.le_of_not_lt hj), List.getElem?_eq_none]
          simp; omega
      let g2 : Ghost := { g with U := fun i => if i = b then (xs.length + zs.length) * e.size else g.U i }
      have hwhole : ∀ j (hj : j < (cs0 ++ cs).length), (w.setRow b new).cell? ⟨b, 0 + j, none⟩ = some (cs0 ++ cs)[j] := by
        intro j hj
        rw [Nat.zero_add, cell_of_heap (setRow_heap w b arr new tyo fr e2), ← Array.getElem?_toList, ← hnew]
        simp only []
        rw [hold, List.getElem?_append_left hj, List.getElem?_eq_getElem hj]
      have hbig : xs.length * e.size ≤ (xs.length + zs.length) * e.size := Nat.mul_le_mul_right _ (by omega)
      have he : Ext g w g2 (w.setRow b new) d (fun x => x = κ) := by
        refine ⟨rfl, rfl, rfl, by simp, fun i hi hk => ?_, fun i off ho => ?_, fun _ _ _ h => ⟨h, rfl, rfl⟩, fun _ _ => rfl⟩
        · have hne : i ≠ b := fun e => hk κ (e ▸ e6) rfl
          exact ⟨setRow_other w b i new hne, rfl, by simp [g2, hne]⟩
        · by_cases hib : i = b
          · subst hib
            rw [e5] at ho
            have hj : off < (cs0 ++ cs).length := by simp; omega
            have h1 := hwhole off hj
            rw [Nat.zero_add] at h1
            obtain ⟨k1, _⟩ := q3 _ rfl off (by omega)
            rw [Nat.zero_add] at k1
            refine ⟨?_, by simp [g2]; omega⟩
            rw [h1, k1, List.getElem_append_left]
          · exact ⟨World.cell?_of_block (a := ⟨i, off, none⟩) (setRow_other w b i new hib), by simp [g2, hib]; exact ho⟩
      refine ⟨.slice (some ⟨b, 0, none⟩) (xs.length + zs.length) c, w.setRow b new, g2, ?_, ?_, he, fun i hi => ?_, rfl⟩
      · simp only [Builtin.append_, List.getElem?_toArray, List.getElem?_cons_zero, List.getElem?_cons_succ, Sem.run_bind, run_underlying hu, Result.andThen_ok, sizeOf, typeInfo, run_program, hi, Sem.run_pure, hsz, run_underlying hux, hzeros, Bool.false_eq_true, if_false, hlen, Bool.not_false, if_true, if_pos hroom, hfirst w rfl, Addr.add_lit, Nat.zero_add, hst]
      · simp only [RepX]
        refine ⟨_, c, by rw [List.length_append], by rw [List.length_append]; exact hroom, ?_, fun b' hb' => ?_, fun _ => .inr ⟨b, new, tyo, fr, rfl, setRow_heap w b arr new tyo fr e2, by rw [hnsz, e3], by rw [hnsz]; exact e4, by simp [g2], e6⟩⟩
        · have hp := Parts.append (Parts.imp (RepC.ext he e) xs cs0 q1) (Parts.imp (RepC.ext he e) zs cs hparts)
          refine Run.of_cells (RepC.length e) hp (fun j hj => ⟨hwhole j hj, ?_⟩)
          simp only [g2, if_true, Nat.zero_add]
          simp [q2, hcl, ← Nat.add_mul] at hj
          exact hj
        · cases nl with
          | none => cases hb'
          | some b0 =>
            simp only [Option.map_some, Option.some.injEq] at hb'
            subst hb'
            have := hnl b0 rfl
            simp at this
            subst this
            rfl
      · have hne : i ≠ b := by simp at hi; omega
        have := hw i (by simpa using hi)
        simpa [g2, hne] using this
  · -- a new block
    have hfit : ¬ (Builtin.nextslicecap (xs.length + zs.length) c * inf.bytes > 2 ^ 48) := by
      have := growslice_fits (need := xs.length + zs.length) (old := c) (bytes := inf.bytes) (by omega) (by rw [hby]; exact hbound)
      omega
    have h64 : ¬ ((((xs.length + zs.length : Nat) : Int) > IntKind.i64.max) ∧ (False ∨ inf.bytes = 0)) := by
      rintro ⟨_, h | h⟩
      · cases h
      · omega
    let w1 : World := { w with drawn := w.drawn + 1 }
    let nc := (Question.appendCap (xs.length + zs.length) c elemT).cut (w.tape w.drawn (.appendCap (xs.length + zs.length) c elemT))
    have hnc2 : xs.length + zs.length ≤ nc := Nat.le_add_right _ _
    obtain ⟨cs0, q1, q2, q3⟩ := Run.cells hrun hpos
    have hold : (Builtin.firstCells e.size xs.length (.slice base xs.length c)).run P { w with drawn := w.drawn + 1 } = .ok cs0.toArray { w with drawn := w.drawn + 1 } := by
      cases base with
      | none =>
        have : cs0 = [] := List.eq_nil_of_length_eq_zero (by rw [q2, hx0 rfl]; simp)
        subst this
        exact run_firstCells_none w1 _ _ _ _
      | some A =>
        by_cases hne : xs = []
        · have : cs0 = [] := List.eq_nil_of_length_eq_zero (by rw [q2, hne]; simp)
          subst this
          exact run_firstCells_some w1 _ _ A _ _ [] (by simp [hne]) (by simp)
        · refine run_firstCells_some w1 _ _ A _ _ cs0 q2 (fun j v hj => ?_)
          have hjl : j < cs0.length := (List.getElem?_eq_some_iff.1 hj).1
          rw [Addr.add_plain A _ (hrun.spot hne)]
          obtain ⟨k1, _⟩ := q3 _ rfl j hjl
          rw [List.getElem?_eq_getElem hjl] at hj
          rw [← hj, ← k1]
          rfl
    have hfirst1 := hfirst { w with drawn := w.drawn + 1 } rfl
    let rest := Builtin.zeroCells z.cells (nc - (xs.length + zs.length))
    let arr : Array Value := cs0.toArray ++ cs.toArray ++ rest
    have hrest : rest.size = (nc - (xs.length + zs.length)) * e.size := by
      simp only [rest, size_zeroCells, hzs]
    have harr : arr.size = nc * e.size := by
      simp only [arr, Array.size_append, List.size_toArray, q2, hcl, hrest, ← Nat.add_mul]
      congr 1
      omega
    have hrun2 : (Builtin.append_ #[ts, tx] rty #[.slice base xs.length c, vx]).run P w = .ok (.slice (some ⟨w.heap.size, 0, none⟩) (xs.length + zs.length) nc) { w1 with heap := w1.heap.push (.cells arr elemT) } := by
      simp only [Builtin.append_, List.getElem?_toArray, List.getElem?_cons_zero, List.getElem?_cons_succ, Sem.run_bind, run_underlying hu, Result.andThen_ok, sizeOf, typeInfo, run_program, hi, Sem.run_pure, hsz, run_underlying hux, hzeros, Bool.false_eq_true, if_false, hlen, Bool.not_false, if_true, if_neg hroom, if_neg hfit, if_neg h64, run_choose, Question.forced, run_askRoom, zeroValue, hz, newRow, run_newObj, hold, hfirst1]
      rfl
    have hp := Parts.imp (RepC.ext (Ext.drawn (w := w) (g := g) (d := 0) (K := fun _ => False) (w.drawn + 1)) e) _ _ (Parts.append q1 hparts)
    have hl2 : (xs ++ zs).length = xs.length + zs.length := List.length_append
    have hw1 : WF g w1 := hw
    have hf := RepX.fresh (κ := κ) (dh := dh) (b := true) (T := elemT) (w := w1) (g := g) (e := e) (xs := xs ++ zs) (arr := arr) (c := nc) (cs := cs0 ++ cs) hp hw1 ?_ (by rw [hl2]; exact hnc2) harr hpos (nl.map (· && List.isEmpty zs)) ?_ (0, 0) (.inl rfl)
    · rw [hl2] at hf
      refine ⟨_, _, _, hrun2, hf, ?_, WF.block hw1 _ _ _, rfl⟩
      exact (Ext.drawn (w.drawn + 1)).trans (Ext.block hw1 _ _ _)
    · rw [hl2]
      simp only [arr, Array.toList_append]
      rw [List.take_append_of_le_length (by simp [q2, hcl, Nat.add_mul])]
      exact List.take_of_length_le (by simp [q2, hcl, Nat.add_mul])
    · intro b hb'
      cases nl with
      | none => cases hb'
      | some b0 =>
        simp only [Option.map_some, Option.some.injEq] at hb'
        subst hb'
        have h0 := hnl b0 rfl
        cases hb0 : b0 with
        | false => rfl
        | true =>
          subst hb0
          have hbn : base = none := by simpa using h0
          have hxs := hx0 hbn
          subst hxs
          have hz0 : zs ≠ [] := by
            rintro rfl
            simp at hroom
          cases zs with
          | nil => exact absurd rfl hz0
          | cons _ _ => rfl

end
end Go.Proofs.Ytgickaihlebgmaa.V

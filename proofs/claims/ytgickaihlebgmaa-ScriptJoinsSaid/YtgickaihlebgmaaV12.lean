/-
  What the evaluator tells is so: variables made; literals; appends; lengths.
  It speaks of whatever program; no condition.
-/
import Derived.Test.YtgickaihlebgmaaV11
namespace Go.Proofs.Ytgickaihlebgmaa.V
open Go
set_option linter.unusedVariables false
set_option linter.unusedSimpArgs false

section
variable {P : Program} {C : Ctx} {dst : Option Nat} {ty : Nat} {pos : String} {af : Array Edge} {gd : Option (Nat × Bool)}

mutual
theorem zeroX_rep {g w} {dh id : Nat} : ∀ (t : Ty) (x : t.den) (off : Nat), zB t x = true → good t = true → RepO g w dh id (zeroX t x) t off (zcells t x)
  | .struct c, x, off, h, hg => by
    simp only [zeroX, RepO, zcells]
    simp only [good, Bool.and_eq_true] at hg
    exact zeroXs_rep c x off h hg.1 hg.2
  | .slice e, x, off, h, _ => by
    simp only [zeroX, RepO, zcells]
    refine ⟨trivial, _, rfl, ?_⟩
    simp only [RepX]
    exact ⟨none, 0, rfl, Nat.le_refl _, Run.nil, (fun b hb => by simpa using hb), (fun _ => .inl rfl)⟩
  | .int _, x, off, h, _ => by simp only [zeroX, RepO]; exact ⟨trivial, zcells_rep _ x h⟩
  | .bool, x, off, h, _ => by simp only [zeroX, RepO]; exact ⟨trivial, zcells_rep _ x h⟩
  | .str, x, off, h, _ => by simp only [zeroX, RepO]; exact ⟨trivial, zcells_rep _ x h⟩
  | .any, x, off, h, _ => by simp only [zeroX, RepO]; exact ⟨trivial, zcells_rep _ x h⟩
  | .arr _ _, x, off, h, _ => by simp only [zeroX, RepO]; exact ⟨trivial, zcells_rep _ x h⟩
  | .unit, x, off, h, _ => by simp only [zeroX, RepO]; exact ⟨trivial, zcells_rep _ x h⟩
  | .prod _ _, x, off, h, _ => by simp only [zeroX, RepO]; exact ⟨trivial, zcells_rep _ x h⟩
theorem zeroXs_rep {g w} {dh id : Nat} : ∀ (c : Ty) (x : c.den) (off : Nat), zB c x = true → chain c = true → good c = true → RepOs g w dh id (zeroX.zeroXs c x) c off (zcells c x)
  | .unit, x, off, h, _, _ => by simp only [zeroX.zeroXs, RepOs]; exact ⟨trivial, rfl⟩
  | .prod a b, x, off, h, hc, hg => by
    simp only [zB, Bool.and_eq_true] at h
    simp only [good, Bool.and_eq_true] at hg
    simp only [zeroX.zeroXs, RepOs, zcells]
    exact ⟨_, _, rfl, zeroX_rep a x.1 off h.1 hg.1, zeroXs_rep b x.2 _ h.2 hc hg.2⟩
  | .int _, _, _, _, hc, _ | .bool, _, _, _, hc, _ | .str, _, _, _, hc, _ | .any, _, _, _, hc, _ | .slice _, _, _, _, hc, _ | .arr _ _, _, _, _, hc, _ | .struct _, _, _, _, hc, _ => by cases hc
end

mutual
theorem tyB_good {P : Program} : ∀ (t : Ty) (i : Nat), tyB P t i = true → good t = true
  | .int _, _, _ => rfl
  | .bool, _, _ => rfl
  | .str, _, _ => rfl
  | .any, _, _ => rfl
  | .slice e, i, h => by obtain ⟨ei, _, h, _⟩ := tyB_slice h; exact tyB_good e ei h
  | .arr n e, i, h => by obtain ⟨ei, _, h⟩ := tyB_arr h; exact tyB_good e ei h
  | .struct c, i, h => by
    obtain ⟨fs, _, h⟩ := tyB_struct h
    simp only [good, Bool.and_eq_true]
    exact ⟨chB_chain c _ _ h, chB_good c _ _ h⟩
  | .unit, _, h => by simp [tyB] at h
  | .prod _ _, _, h => by simp [tyB] at h
theorem chB_good {P : Program} : ∀ (c : Ty) (fs : List Field) (off : Nat), chB P c fs off = true → good c = true
  | .unit, _, _, _ => rfl
  | .prod a b, [], _, h => by simp [chB] at h
  | .prod a b, f :: fs, off, h => by
    simp only [chB, Bool.and_eq_true] at h
    simp only [good, Bool.and_eq_true]
    exact ⟨tyB_good a _ h.1.2, chB_good b fs _ h.2⟩
  | .int _, _, _, h | .bool, _, _, h | .str, _, _, h | .any, _, _, h | .slice _, _, _, h | .arr _ _, _, _, h | .struct _, _, _, h => by simp [chB] at h
end

/-- A new variable that has an address. -/
def Ghost.var (g : Ghost) (b dh : Nat) (t : Ty) : Ghost :=
  { U := g.U
    own := fun x => if x = b then some (.obj dh (g.N dh)) else g.own x
    N := fun h => if h = dh then g.N dh + 1 else g.N h
    μ := fun h id => if h = dh ∧ id = g.N dh then b else g.μ h id
    oty := fun h id => if h = dh ∧ id = g.N dh then t else g.oty h id }

theorem Ext.var {g w} {d dh : Nat} {K : Key → Prop} (hw : WF g w) (o : Obj) (t : Ty) (hK : K (.obj dh (g.N dh))) : Ext g w (g.var w.heap.size dh t) { w with heap := w.heap.push o } d K where
  os := rfl
  tape := rfl
  output := rfl
  size := by simp
  keep b hb _ := ⟨by simp [Array.getElem?_push, Nat.ne_of_lt hb], by simp [Ghost.var, Nat.ne_of_lt hb], rfl⟩
  cells b off ho := ⟨cell_push (hw.lt ho), ho⟩
  mu h _ id hid := by
    by_cases hh : h = dh
    · subst hh
      have : id ≠ g.N h := by omega
      simp [Ghost.var, this]; omega
    · simp [Ghost.var, hh, hid]
  num h hn := by
    by_cases hh : h = dh
    · subst hh
      exact absurd hK (hn _ rfl)
    · simp [Ghost.var, hh]

theorem HRep.var {g w} {d dh : Nat} {H : Hp} {t : Ty} {c : X} {arr : Array Value} {T : Nat} (h : HRep g w dh H) (hw : WF g w) (hg : good t = true)
    (hc : RepO (g.var w.heap.size dh t) { w with heap := w.heap.push (.cells arr T) } dh (g.N dh) c t 0 arr.toList) :
    HRep (g.var w.heap.size dh t) { w with heap := w.heap.push (.cells arr T) } dh (H ++ [(t, c)]) := by
  have he : Ext g w (g.var w.heap.size dh t) { w with heap := w.heap.push (.cells arr T) } dh (fun κ => κ = .obj dh (g.N dh)) := Ext.var hw _ t rfl
  refine ⟨by simp [h.1, Ghost.var], fun i ti ci e => ?_⟩
  by_cases hi : i < H.length
  · rw [List.getElem?_append_left hi] at e
    obtain ⟨r1, r2, r3, r4, arr', ty', r5, r6⟩ := h.2 i ti ci e
    have hidN : i < g.N dh := by rw [← h.1]; exact hi
    obtain ⟨k1, k2, k3⟩ := he.mu dh (Nat.le_refl _) i hidN
    have hb := (Array.getElem?_eq_some_iff.1 r5).1
    obtain ⟨l1, l2, l3⟩ := he.keep _ hb (fun κ e1 e2 => by
      rw [r3] at e1
      cases e1
      cases e2
      omega)
    rw [k2]
    exact ⟨k3.trans r1, r2, l2.trans r3, l3.trans r4, arr', ty', l1.trans r5, RepO.ext he (Nat.le_refl _) (by simp) ci ti 0 _ (fun _ _ _ => by simp) r6⟩
  · have hi2 : i = H.length := by
      have := (List.getElem?_eq_some_iff.1 e).1
      simp at this; omega
    subst hi2
    simp only [List.getElem?_concat_length, Option.some.injEq, Prod.mk.injEq] at e
    obtain ⟨rfl, rfl⟩ := e
    have hN : H.length = g.N dh := h.1
    rw [hN]
    refine ⟨by simp [Ghost.var], hg, by simp [Ghost.var], ?_, arr, T, by simp [Ghost.var], hc⟩
    simp only [Ghost.var]
    simp
    exact (hw _ (Nat.le_refl _)).2

theorem WF.var {g w} (hw : WF g w) (o : Obj) (dh : Nat) (t : Ty) : WF (g.var w.heap.size dh t) { w with heap := w.heap.push o } := by
  intro b hb
  simp only [Array.size_push] at hb
  have hne : b ≠ w.heap.size := by omega
  obtain ⟨h1, h2⟩ := hw b (by omega)
  simp [Ghost.var, hne, h1, h2]

theorem info_zero {e : TyE} {i : Nat} (h : e.ok P i) : ∃ inf, P.info? i = some inf ∧ inf.zero = some (zval e.t e.z) ∧ inf.size = e.t.size ∧ inf.bytes = e.bytes := by
  obtain ⟨h1, h2, _, _⟩ := h
  obtain ⟨inf, z, hi, hs, hz, _⟩ := tyB_info h1
  rw [hi] at h2
  simp only [Option.map_some, Option.some.injEq, Prod.mk.injEq] at h2
  exact ⟨inf, hi, h2.1, hs, h2.2⟩

theorem zval_cells {t : Ty} {x : t.den} (h : zB t x = true) : (zval t x).cells.toList = zcells t x := by
  have hr := zcells_rep (w := default) (g := ⟨fun _ => 0, fun _ => none, fun _ => 0, fun _ _ => 0, fun _ _ => .unit⟩) t x h
  have : IsVal t (zcells t x) (zval t x) := isVal_valOf hr
  exact this.cells' hr

theorem core_alloc (hC : TysOk P C.tys) (T : Nat) : CoreOk P C ⟨dst, .alloc T, ty, pos, af, gd⟩ := by
  intro R tr g w d dh st a h k r hk
  have hk' : (match C.ty T with
    | some e => k (.ptr st.H.length []) [] (st.H ++ [(e.t, zeroX e.t e.z)])
    | none => none) = some r := hk
  split at hk'
  · rename_i e he
    have hok := Ctx.ty_ok hC he
    obtain ⟨inf, hi, hz, hs, _⟩ := info_zero hok
    have hzB := hok.2.2.1
    have hg := tyB_good _ _ hok.1
    refine ⟨_, _, _, hk', fun next Q hn => ?_⟩
    have hrun : (execOp a.eval ⟨dst, .alloc T, ty, pos, af, gd⟩).run P w = .ok (.value (.pointer (some ⟨w.heap.size, 0, none⟩))) { w with heap := w.heap.push (.cells (zval e.t e.z).cells T) } := by
      simp only [execOp, Sem.run_bind, Instr.alloc, zeroValue, typeInfo, run_program, Result.andThen_ok, hi, Sem.run_pure, hz, newVar, newRow, run_newObj]
    have hN : st.H.length = g.N dh := h.heap.1
    refine wp_value hrun (hn _ _ (g.var w.heap.size dh e.t) ?_ (Ext.var h.wf _ _ (.inr (.inl rfl))) (HRep.var (d := d) h.heap h.wf hg ?_) (h.wf.var _ _ _))
    · simp only [RepX]
      rw [hN]
      exact ⟨by simp [Ghost.var], 0, e.t, by simp [Ghost.var, pathAt], by simp [Ghost.var]⟩
    · rw [zval_cells hzB]
      exact zeroX_rep _ _ _ hzB hg
  · cases hk'

theorem core_box (hC : TysOk P C.tys) (T : Nat) (x : Operand) : CoreOk P C ⟨dst, .box T x, ty, pos, af, gd⟩ := by
  intro R tr g w d dh st a h k r hk
  have hk' : (match C.ty T with
    | some e => if fitO (typed C T (st.val x)) e.t then k (.ptr st.H.length []) [true] (st.H ++ [(e.t, typed C T (st.val x))]) else none
    | none => none) = some r := hk
  split at hk'
  · rename_i e he
    split at hk'
    · rename_i hfit
      have hok := Ctx.ty_ok hC he
      have hg := tyB_good _ _ hok.1
      refine ⟨_, _, _, hk', fun next Q hn => ?_⟩
      have hrun : (execOp a.eval ⟨dst, .box T x, ty, pos, af, gd⟩).run P w = .ok (.value (.pointer (some ⟨w.heap.size, 0, none⟩))) { w with heap := w.heap.push (.cells (a.eval x).cells T) } := by
        simp only [execOp, Sem.run_bind, Instr.box, newVar, newRow, run_newObj, Sem.run_pure, Result.andThen_ok]
      obtain ⟨g1, hg1, hy, hH1, hw1, eU, eN, eμ, eo, hown, hnone⟩ := h.moveTo (C := C) x T (.cell dh (g.N dh) 0)
      have hN : st.H.length = g1.N dh := hH1.1
      have he2 : Ext g1 w (g1.var w.heap.size dh e.t) { w with heap := w.heap.push (.cells (a.eval x).cells T) } d (fun κ => κ = .obj dh (g1.N dh)) := Ext.var hw1 _ _ rfl
      refine wp_value hrun (hn _ _ (g1.var w.heap.size dh e.t) ?_ ?_ (HRep.var (d := d) hH1 hw1 hg ?_) (hw1.var _ _ _))
      · simp only [RepX]
        rw [hN]
        exact ⟨by simp [Ghost.var], 0, e.t, by simp [Ghost.var, pathAt], by simp [Ghost.var]⟩
      · refine (hg1.mono (Nat.le_refl _) ?_).trans (he2.mono (Nat.le_refl _) (fun κ e => e ▸ .inr (.inl rfl)))
        rintro κ ⟨t, rfl, rfl⟩
        exact .inl ⟨t, rfl, .inr (by simp [Op.operands, takenBy])⟩
      · rw [eN]
        exact RepO.ext he2 h.le (by simp) _ _ _ _ (fun _ _ _ => by simp) (RepO.of_fit hfit hy)
    · cases hk'
  · cases hk'

end
end Go.Proofs.Ytgickaihlebgmaa.V

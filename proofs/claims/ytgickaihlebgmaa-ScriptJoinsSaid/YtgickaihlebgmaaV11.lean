/-
  What the evaluator tells is so: variables read and written.
  It speaks of whatever program; no condition.
-/
import Derived.Test.YtgickaihlebgmaaV10
namespace Go.Proofs.Ytgickaihlebgmaa.V
open Go
set_option linter.unusedVariables false
set_option linter.unusedSimpArgs false

section
variable {P : Program} {C : Ctx} {dst : Option Nat} {ty : Nat} {pos : String} {af : Array Edge} {gd : Option (Nat × Bool)}

theorem isAgg_run {t : Ty} {T : Nat} (ht : tyB P t T = true) (w : World) : (isAgg T).run P w = .ok t.isAgg w := by
  cases t
  case struct c => obtain ⟨fs, hu, _⟩ := tyB_struct ht; simp only [isAgg, Sem.run_bind, run_underlying hu, Result.andThen_ok]; rfl
  case arr n e => obtain ⟨ei, hu, _⟩ := tyB_arr ht; simp only [isAgg, Sem.run_bind, run_underlying hu, Result.andThen_ok]; rfl
  case unit => simp [tyB] at ht
  case prod a b => simp [tyB] at ht
  case int k => simp only [isAgg, Sem.run_bind, run_underlying (tyB_int ht), Result.andThen_ok]; rfl
  case bool => simp only [isAgg, Sem.run_bind, run_underlying (tyB_bool ht), Result.andThen_ok]; rfl
  case str => simp only [isAgg, Sem.run_bind, run_underlying (tyB_str ht), Result.andThen_ok]; rfl
  case slice e => obtain ⟨ei, hu, _⟩ := tyB_slice ht; simp only [isAgg, Sem.run_bind, run_underlying hu, Result.andThen_ok]; rfl
  case any =>
    simp only [tyB, Bool.and_eq_true] at ht
    obtain ⟨_, ht⟩ := ht
    split at ht
    · cases ht
    · cases ht
    · rename_i d h1 h2 hu
      simp only [isAgg, Sem.run_bind, run_underlying hu, Result.andThen_ok]
      cases d <;> first | rfl | exact absurd hu (h1 _) | exact absurd hu (h2 _ _)
    · cases ht

theorem size_one {t : Ty} (h : t.isAgg = false) : t.size = 1 := by cases t <;> simp_all [Ty.isAgg, Ty.size]

/-- A variable, or a part of one, read. -/
theorem loadVar_run {t : Ty} {T : Nat} (ht : tyB P t T = true) {w : World} {b off : Nat} {cs : List Value} (hl : cs.length = t.size) (hc : ∀ j (hj : j < cs.length), w.cell? ⟨b, off + j, none⟩ = some cs[j]) :
    (loadVar T ⟨b, off, none⟩).run P w = .ok (valOf t cs) w := by
  obtain ⟨inf, z, hi, hs, _, _⟩ := tyB_info ht
  have hag := isAgg_run ht w
  cases hA : t.isAgg with
  | true =>
    rw [hA] at hag
    have hlc := run_loadCells_list (P := P) w ⟨b, off, none⟩ cs (fun j v hj => by
      have hjl : j < cs.length := (List.getElem?_eq_some_iff.1 hj).1
      rw [Addr.add_lit, hc j hjl]
      rw [List.getElem?_eq_getElem hjl] at hj
      exact hj)
    rw [hl] at hlc
    simp only [loadVar, Sem.run_bind, hag, Result.andThen_ok, if_true, sizeOf, typeInfo, run_program, hi, Sem.run_pure, hs, hlc, valOf, hA]
  | false =>
    rw [hA] at hag
    rw [size_one hA] at hl
    match cs, hl with
    | [v], _ =>
      have := hc 0 (by simp)
      simp only [Nat.add_zero, List.getElem_cons_zero] at this
      simp only [loadVar, Sem.run_bind, hag, Result.andThen_ok, Bool.false_eq_true, if_false, run_load, this, valOf, hA, List.headD]

theorem RepO.out {g w} {dh id : Nat} {t : Ty} {y z : X} {off : Nat} {cs : List Value} (h : RepO g w dh id y t off cs) (e : outX t y = some z) : RepX g w dh (.cell dh id off) z (valOf t cs) := by
  cases y
  case agg xs =>
    simp only [outX] at e
    split at e
    · rename_i v hv
      cases e
      have hr := RepO.toD _ t off cs v h hv
      exact RepX.mkX hr (isVal_valOf hr)
    · cases e
  case d t0 x =>
    simp only [outX, Option.some.injEq] at e
    subst e
    simp only [RepO] at h
    obtain ⟨rfl, h⟩ := h
    simp only [RepX]
    exact ⟨cs, h, isVal_valOf h⟩
  case sl e0 xs nl own =>
    simp only [outX, Option.some.injEq] at e
    subst e
    simp only [RepO] at h
    obtain ⟨rfl, v, rfl, h⟩ := h
    exact h
  case fn f a b =>
    simp only [outX, Option.some.injEq] at e
    subst e
    simp only [RepO] at h
    obtain ⟨rfl, v, rfl, h⟩ := h
    simp only [RepX] at h ⊢
    exact h
  case ptr i p =>
    simp only [outX, Option.some.injEq] at e
    subst e
    simp only [RepO] at h
    obtain ⟨rfl, v, rfl, h⟩ := h
    simp only [RepX] at h ⊢
    exact h
  all_goals simp [RepO] at h

theorem cell_of_heap {w : World} {b : Nat} {arr : Array Value} {T : Nat} {fr : Nat × Nat} (h : w.heap[b]? = some (.cells arr T fr)) (j : Nat) : w.cell? ⟨b, j, none⟩ = arr[j]? := by
  simp [World.cell?, h]

theorem RepO.unown_y {g w} {dh id : Nat} {t : Ty} {y : X} {off : Nat} {cs : List Value} {g' w'} {d : Nat} {K : Key → Prop} (he : Ext g w g' w' d K) (hd : dh ≤ d) (hno : ¬ K .no) (h : RepO g w dh id y t off cs) (hy : ∀ xs, y ≠ .agg xs) : RepO g' w' dh id y.unown t off cs := by
  cases y
  case agg xs => exact absurd rfl (hy xs)
  case sl e0 xs nl own =>
    simp only [X.unown, RepO] at h ⊢
    obtain ⟨rfl, v, rfl, h⟩ := h
    exact ⟨rfl, v, rfl, RepX.unown he hd hno (.sl e0 xs nl own) v h⟩
  case d t0 x =>
    simp only [X.unown, RepO] at h ⊢
    exact ⟨h.1, RepC.ext he _ _ _ h.2⟩
  case fn f a b =>
    simp only [X.unown, RepO] at h ⊢
    obtain ⟨r1, v, r2, r3⟩ := h
    exact ⟨r1, v, r2, RepX.ext he hd hno hno _ v r3⟩
  case ptr i p =>
    simp only [X.unown, RepO] at h ⊢
    obtain ⟨r1, v, r2, r3⟩ := h
    exact ⟨r1, v, r2, RepX.ext he hd hno hno _ v r3⟩
  all_goals simp [RepO] at h

/-- One variable's content has turned. -/
theorem HRep.set {g w g' w'} {d dh : Nat} {H : Hp} {K : Key → Prop} {id : Nat} {t : Ty} {c c' : X} (h : HRep g w dh H) (he : Ext g w g' w' d K) (hd : dh ≤ d) (hno : ¬ K .no) (hN : g'.N dh = g.N dh) (hid : H[id]? = some (t, c))
    (hK : ∀ κ, κ.heap dh → K κ → κ = .obj dh id ∨ ∃ o, κ = .cell dh id o)
    (hown : g'.own (g.μ dh id) = some (.obj dh id)) (hU : g'.U (g.μ dh id) = 0) (hn : ∃ arr ty, w'.heap[g.μ dh id]? = some (.cells arr ty (0, 0)) ∧ RepO g' w' dh id c' t 0 arr.toList) : HRep g' w' dh (H.set id (t, c')) := by
  refine ⟨by simp [h.1, hN], fun i ti ci e => ?_⟩
  by_cases hi : id = i
  · subst hi
    have hlt : id < H.length := (List.getElem?_eq_some_iff.1 hid).1
    rw [List.getElem?_set_self hlt] at e
    simp only [Option.some.injEq, Prod.mk.injEq] at e
    obtain ⟨rfl, rfl⟩ := e
    obtain ⟨r1, r2, r3, r4, arr, ty, r5, r6⟩ := h.2 id t c hid
    have hidN : id < g.N dh := by rw [← h.1]; exact hlt
    obtain ⟨k1, k2, k3⟩ := he.mu dh hd id hidN
    rw [k2]
    exact ⟨k3.trans r1, r2, hown, hU, hn⟩
  · rw [List.getElem?_set_ne hi] at e
    obtain ⟨r1, r2, r3, r4, arr, ty, r5, r6⟩ := h.2 i ti ci e
    have hidN : i < g.N dh := by
      rw [← h.1]
      exact (List.getElem?_eq_some_iff.1 e).1
    obtain ⟨k1, k2, k3⟩ := he.mu dh hd i hidN
    have hb := (Array.getElem?_eq_some_iff.1 r5).1
    have hnk : ¬ K (.obj dh i) := fun k => by
      rcases hK (.obj dh i) rfl k with e | ⟨o, e⟩
      · cases e; exact hi rfl
      · cases e
    obtain ⟨l1, l2, l3⟩ := he.keep _ hb (fun κ e' => by rw [r3] at e'; cases e'; exact hnk)
    rw [k2]
    refine ⟨k3.trans r1, r2, l2.trans r3, l3.trans r4, arr, ty, l1.trans r5, RepO.ext he hd hno ci ti 0 _ (fun off _ _ k => ?_) r6⟩
    rcases hK (.cell dh i off) rfl k with e | ⟨o, e⟩
    · cases e
    · cases e; exact hi rfl

theorem sliceX_or {t : Ty} {y z : X} (h : outX t y = some z) : (∃ xs, y = .agg xs) ∨ z = y := by
  cases y
  case agg xs => exact .inl ⟨xs, rfl⟩
  all_goals (simp only [outX, Option.some.injEq] at h; exact .inr h.symm)

theorem core_load (hC : TysOk P C.tys) (T : Nat) (x : Operand) : CoreOk P C ⟨dst, .load T x, ty, pos, af, gd⟩ := by
  intro R tr g w d dh st a h k r hk
  have hk' : (match C.ty T, st.val x with
    | some e, .cp t x => match castTo t e.t x with
      | some v => k (mkX e.t v) [] st.H
      | none => none
    | some e, .cx x => if e.t = .any then k x.unown [] st.H else none
    | some e, .ptr id p => match st.H[id]? with
      | some (t, c) => match typeAt t p, getP p c with
        | some t', some y => if t' = e.t then
            match outX e.t y with
            | some z => match (generalizing := false) tr, y with
              | true, .sl e1 xs nl own => match setP p c (.sl e1 xs nl false) with
                | some c' => k (.sl e1 xs nl own) [] (st.H.set id (t, c'))
                | none => none
              | _, _ => k z.unown [] st.H
            | none => none
          else none
        | _, _ => none
      | none => none
    | _, _ => none) = some r := hk
  have hx := h.val x
  have run : ∀ A v, a.eval x = .pointer (some A) → (loadVar T A).run P w = .ok v w → (execOp a.eval ⟨dst, .load T x, ty, pos, af, gd⟩).run P w = .ok (.value v) w := by
    intro A v hv hr
    simp only [execOp, Sem.run_bind, Instr.loadAt, hv, Instr.sureAddr, Sem.run_pure, Result.andThen_ok, hr]
  split at hk'
  · rename_i e t v he ev
    split at hk'
    · rename_i v' hv'
      obtain ⟨rfl, rfl⟩ := castTo_some hv'
      rw [ev] at hx
      simp only [RepX] at hx
      obtain ⟨A, cs, hv, hs, h1, h2⟩ := hx
      have ht := (Ctx.ty_ok hC he).1
      have hlv := loadVar_run (w := w) (b := A.block) (off := A.off) ht (RepC.length _ _ _ h1) (fun j hj => (h2 j hj).1)
      have hA : (⟨A.block, A.off, none⟩ : Addr) = A := by
        obtain ⟨b, o, s⟩ := A
        simp only at hs
        subst hs; rfl
      rw [hA] at hlv
      exact ⟨_, _, _, hk', OpWp.same h (run A _ hv hlv) (RepX.mkX h1 (isVal_valOf h1))⟩
    · cases hk'
  · rename_i e x0 he ev
    split at hk'
    · rename_i hea
      rw [ev] at hx
      simp only [RepX] at hx
      obtain ⟨A, u, hv, hs, h1, h2, h3⟩ := hx
      have ht := (Ctx.ty_ok hC he).1
      rw [hea] at ht
      have hlv := loadVar_run (w := w) (b := A.block) (off := A.off) (cs := [u]) ht rfl (fun j hj => by
        have : j = 0 := by simpa using hj
        subst this
        exact h2)
      have hA : (⟨A.block, A.off, none⟩ : Addr) = A := by
        obtain ⟨b, o, s⟩ := A
        simp only at hs
        subst hs; rfl
      rw [hA] at hlv
      exact ⟨_, _, _, hk', OpWp.same h (run A _ hv hlv) h1.unown'⟩
    · cases hk'
  · rename_i e id p he ev
    split at hk'
    · rename_i t c hid
      split at hk'
      · rename_i t' y htp hy
        split at hk'
        · rename_i hte
          subst hte
          split at hk'
          · rename_i z hz
            rw [ev] at hx
            simp only [RepX] at hx
            obtain ⟨hN, o, t1, hp, hv⟩ := hx
            obtain ⟨r1, r2, r3, r4, arr, tyo, r5, r6⟩ := h.heap.2 id t c hid
            rw [r1] at hp
            obtain rfl := typeAt_eq hp htp
            have ht := (Ctx.ty_ok hC he).1
            obtain ⟨pre, mid, post, f1, f2, f3⟩ := RepO.get p c t 0 o _ e.t y r6 hp hy
            rw [Nat.zero_add] at f3
            have hcell : ∀ j (hj : j < mid.length), w.cell? ⟨g.μ dh id, o + j, none⟩ = some mid[j] := by
              intro j hj
              rw [cell_of_heap r5, ← Array.getElem?_toList, f1, ← f2, getElem?_mid pre mid post j hj, List.getElem?_eq_getElem hj]
            have hlv := loadVar_run (w := w) (b := g.μ dh id) (off := o) ht (RepO.length _ _ _ _ f3) hcell
            have hz' := f3.out hz
            split at hk'
            · rename_i e1 xs nl own
              split at hk'
              · rename_i c' hc'
                simp only [outX, Option.some.injEq] at hz
                subst hz
                refine ⟨_, _, _, hk', fun next Q hn => ?_⟩
                have hge := Ghost.rekey_ext (g := g) (w := w) (d := d) (κ := .cell dh id o) (κ' := kd ⟨dst, .load T x, ty, pos, af, gd⟩ d)
                refine wp_value (run _ _ hv hlv) (hn _ w (g.rekey (.cell dh id o) (kd ⟨dst, .load T x, ty, pos, af, gd⟩ d)) (RepX.rekey h.le (by simp) _ _ hz') ?_ ?_ h.wf.rekey)
                · refine hge.mono (Nat.le_refl _) ?_
                  rintro κ rfl
                  exact .inr (.inl rfl)
                · refine HRep.set h.heap hge h.le (by simp) rfl hid ?_ ?_ r4 ?_
                  · rintro κ _ rfl
                    exact .inr ⟨o, rfl⟩
                  · simp only [Ghost.rekey, r3]
                    rw [if_neg (by simp)]
                  · refine ⟨arr, tyo, r5, ?_⟩
                    have hu := RepO.unown_y hge h.le (by simp) f3 (by simp)
                    have hsz : e.t.size = 1 := by
                      simp only [RepO] at f3
                      rw [f3.1]; rfl
                    obtain ⟨pre', mid', post', g1, g2, g3, g4⟩ := RepO.set hge h.le (by simp) p c t 0 o _ e.t _ c' mid r2 r6 hp hc' (fun o' _ _ k => by cases k; omega) (by rw [Nat.zero_add]; exact hu)
                    have g1' : pre ++ (mid ++ post) = pre' ++ (mid' ++ post') := by rw [← List.append_assoc, ← List.append_assoc, ← f1, ← g1]
                    obtain ⟨q1, q2⟩ := List.append_inj g1' (by rw [f2, g2])
                    obtain ⟨q3, q4⟩ := List.append_inj q2 (by rw [g3, RepO.length _ _ _ _ f3])
                    rw [g1, ← q3]
                    exact g4
              · cases hk'
            · exact ⟨_, _, _, hk', OpWp.same h (run _ _ hv hlv) hz'.unown'⟩
          · cases hk'
        · cases hk'
      · cases hk'
    · cases hk'
  · cases hk'

theorem RepO.of_fit {g w} {dh id : Nat} {t : Ty} {off : Nat} : ∀ {x : X} {v : Value}, fitO x t = true → RepX g w dh (.cell dh id off) x v → RepO g w dh id x t off v.cells.toList
  | .d t' x, v, hf, h => by
    simp only [fitO, decide_eq_true_eq] at hf
    subst hf
    simp only [RepX] at h
    obtain ⟨cs, h1, h2⟩ := h
    rw [h2.cells' h1]
    simp only [RepO]
    exact ⟨trivial, h1⟩
  | .agg xs, v, hf, h => by simp [RepX] at h
  | .sl e xs nl own, v, hf, h => by
    simp only [fitO, decide_eq_true_eq] at hf
    subst hf
    simp only [RepO]
    refine ⟨trivial, v, ?_, h⟩
    simp only [RepX] at h
    obtain ⟨a, c, rfl, _⟩ := h
    rfl
  | .fn f b c, v, hf, h => by
    simp only [fitO, decide_eq_true_eq] at hf
    subst hf
    simp only [RepO]
    simp only [RepX] at h
    refine ⟨trivial, v, ?_, by simp only [RepX]; exact h⟩
    obtain ⟨_, _, rfl, _⟩ := h
    rfl
  | .ptr i p, v, hf, h => by
    simp only [fitO, decide_eq_true_eq] at hf
    subst hf
    simp only [RepO]
    simp only [RepX] at h
    refine ⟨trivial, v, ?_, by simp only [RepX]; exact h⟩
    obtain ⟨_, _, _, _, rfl⟩ := h
    rfl
  | .dead, _, hf, _ => by simp [fitO] at hf
  | .undef, _, hf, _ => by simp [fitO] at hf
  | .nils, _, hf, _ => by simp [fitO] at hf
  | .cp _ _, _, hf, _ => by simp [fitO] at hf
  | .tup _, _, hf, _ => by simp [fitO] at hf
  | .lst _, _, hf, _ => by simp [fitO] at hf
  | .cx _, _, hf, _ => by simp [fitO] at hf
  | .mref _ _ _, _, hf, _ => by simp [fitO] at hf

/-- A block of one owner is written. -/
theorem Ext.setRow {g w} {d : Nat} {b : Nat} {arr : Array Value} {κ : Key} (ho : g.own b = some κ) (hU : g.U b = 0) (hb : b < w.heap.size) : Ext g w g (w.setRow b arr) d (fun x => x = κ) where
  os := rfl
  tape := rfl
  output := rfl
  size := by simp
  keep i hi hk := by
    have hne : i ≠ b := fun e => hk κ (e ▸ ho) rfl
    exact ⟨setRow_other w b i arr hne, rfl, rfl⟩
  cells i off hu := by
    have hne : i ≠ b := fun e => by subst e; omega
    exact ⟨World.cell?_of_block (a := ⟨i, off, none⟩) (setRow_other w b i arr hne), hu⟩
  mu _ _ _ h := ⟨h, rfl, rfl⟩
  num _ _ := rfl

theorem core_store (hC : TysOk P C.tys) (T : Nat) (x y : Operand) : CoreOk P C ⟨dst, .store T x y, ty, pos, af, gd⟩ := by
  intro R tr g w d dh st a h k r hk
  have hk' : (match C.ty T, st.val x with
    | some e, .ptr id p => match st.H[id]? with
      | some (t, c) => match typeAt t p, setP p c (typed C T (st.val y)) with
        | some t', some c' => if t' = e.t ∧ fitO (typed C T (st.val y)) t' = true then k .undef [false, true] (st.H.set id (t, c')) else none
        | _, _ => none
      | none => none
    | _, _ => none) = some r := hk
  have hx := h.val x
  split at hk'
  · rename_i e id p he ev
    split at hk'
    · rename_i t c hid
      split at hk'
      · rename_i t' c' htp hc'
        split at hk'
        · rename_i hcond
          obtain ⟨rfl, hfit⟩ := hcond
          rw [ev] at hx
          simp only [RepX] at hx
          obtain ⟨hN, o, t1, hp, hv⟩ := hx
          obtain ⟨r1, r2, r3, r4, arr, tyo, r5, r6⟩ := h.heap.2 id t c hid
          rw [r1] at hp
          obtain rfl := typeAt_eq hp htp
          have ht := (Ctx.ty_ok hC he).1
          obtain ⟨inf, z, hi, hs, _, _⟩ := tyB_info ht
          refine ⟨_, _, _, hk', fun next Q hn => ?_⟩
          obtain ⟨g1, hg1, hy, hH1, hw1, eU, eN, eμ, eo, hown, hnone⟩ := h.moveTo (C := C) y T (.cell dh id o)
          have hb : g.μ dh id < w.heap.size := (Array.getElem?_eq_some_iff.1 r5).1
          have hyo := RepO.of_fit hfit hy
          have hlen := RepO.length _ _ _ _ hyo
          have hpl := RepO.plain _ _ _ _ hyo
          have o1 : g1.own (g.μ dh id) = some (.obj dh id) := hown _ _ r3 rfl
          have U1 : g1.U (g.μ dh id) = 0 := by rw [eU]; exact r4
          -- the cells
          have hle : o + e.t.size ≤ arr.size := by
            have h1 := pathAt_le p t o e.t hp
            have h2 := RepO.length _ _ _ _ r6
            simp at h2
            omega
          have hst := run_storeCells_at P (g.μ dh id) o tyo (a.eval y).cells.toList 0 arr w r5 (by rw [hlen]; simpa using hle) hpl
          simp only [Nat.add_zero] at hst
          have hrun : (execOp a.eval ⟨dst, .store T x y, ty, pos, af, gd⟩).run P w = .ok .skip (w.setRow (g.μ dh id) (arr.toList.take o ++ (a.eval y).cells.toList ++ arr.toList.drop (o + (a.eval y).cells.toList.length)).toArray) := by
            have hsz : (a.eval y).cells.size = inf.size := by rw [hs, ← hlen]; simp
            simp only [execOp, Sem.run_bind, Instr.storeAt, hv, Instr.sureAddr, Sem.run_pure, Result.andThen_ok, storeVar, sizeOf, typeInfo, run_program, hi, hsz, ne_eq, not_true_eq_false, if_false, hst]
          generalize hnew : (arr.toList.take o ++ (a.eval y).cells.toList ++ arr.toList.drop (o + (a.eval y).cells.toList.length)).toArray = new at hrun
          have he2 : Ext g1 w g1 (w.setRow (g.μ dh id) new) d (fun κ => κ = .obj dh id) := Ext.setRow o1 U1 hb
          have he : Ext g w g1 (w.setRow (g.μ dh id) new) d (fun κ => (∃ t, y = .tmp t ∧ κ = .tmp d t) ∨ κ = .obj dh id) :=
            (hg1.mono (Nat.le_refl _) (fun κ e => .inl e)).trans (he2.mono (Nat.le_refl _) (fun κ e => .inr e))
          have hyo2 : RepO g1 (w.setRow (g.μ dh id) new) dh id (typed C T (st.val y)) e.t (0 + o) (a.eval y).cells.toList := by
            rw [Nat.zero_add]
            exact RepO.ext he2 h.le (by simp) _ _ _ _ (fun _ _ _ => by simp) hyo
          refine wp_skip' hrun (hn undef (w.setRow (g.μ dh id) new) g1 (by simp only [RepX]) ?_ ?_ ?_)
          · refine he.mono (Nat.le_refl _) ?_
            rintro κ (⟨t2, rfl, rfl⟩ | rfl)
            · refine .inl ⟨t2, rfl, .inr ?_⟩
              cases x <;> simp [Op.operands, takenBy]
            · exact .inr (.inl rfl)
          · refine HRep.set h.heap he h.le (by simp) (by rw [eN]) hid ?_ o1 U1 ?_
            · rintro κ hκ (⟨t2, rfl, rfl⟩ | rfl)
              · exact absurd hκ (by simp [Key.heap])
              · exact .inl rfl
            · obtain ⟨pre, mid, post, f1, f2, f3, f4⟩ := RepO.set he h.le (by simp) p c t 0 o _ e.t _ c' _ r2 r6 hp hc' (fun o' _ _ k => by rcases k with ⟨_, _, k⟩ | k <;> cases k) hyo2
              refine ⟨new, tyo, setRow_heap w _ arr new tyo _ r5, ?_⟩
              have : new.toList = pre ++ (a.eval y).cells.toList ++ post := by
                rw [← hnew]
                simp only []
                rw [f1, hlen, ← f3, ← f2]
                congr 1
                · congr 1
                  rw [List.append_assoc]
                  exact List.take_left
                · rw [List.append_assoc, ← List.append_assoc, show pre.length + mid.length = (pre ++ mid).length by simp]
                  exact List.drop_left
              rw [this]
              exact f4
          · intro b hb'
            exact hw1 b (by simpa using hb')
        · cases hk'
      · cases hk'
    · cases hk'
  · cases hk'

end
end Go.Proofs.Ytgickaihlebgmaa.V

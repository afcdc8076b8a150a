/-
  What the evaluator tells is so: operations that read settled memory.
  It speaks of whatever program; no condition.
-/
import Derived.Test.YtgickaihlebgmaaV7
namespace Go.Proofs.Ytgickaihlebgmaa.V
open Go
set_option linter.unusedVariables false
set_option linter.unusedSimpArgs false

section
variable {P : Program} {C : Ctx} {dst : Option Nat} {ty : Nat} {pos : String} {af : Array Edge} {gd : Option (Nat × Bool)}

theorem RepX.mkX {g w} {dh : Nat} {κ : Key} {t : Ty} {x : t.den} {cs : List Value} {v : Value} (h : RepC w g t x cs) (hv : IsVal t cs v) : RepX g w dh κ (V.mkX t x) v := by
  cases t
  case slice e =>
    obtain ⟨a, c, rfl, h2, h3⟩ := h
    simp only [V.mkX, RepX]
    have : v = .slice a (List.length x) c := by
      unfold IsVal at hv
      simp only [Ty.isAgg, Bool.false_eq_true, if_false, List.cons.injEq, and_true] at hv
      exact hv.symm
    exact ⟨a, c, this, h2, h3, (fun b hb => by cases hb), (fun hb => by cases hb)⟩
  all_goals (simp only [V.mkX, RepX]; exact ⟨cs, h, hv⟩)

theorem getElem?_mid {α : Type} (pre mid post : List α) (j : Nat) (h : j < mid.length) : (pre ++ mid ++ post)[pre.length + j]? = mid[j]? := by
  rw [List.append_assoc, List.getElem?_append_right (by omega)]
  rw [show pre.length + j - pre.length = j by omega, List.getElem?_append_left h]

/-- A part of an aggregate. -/
theorem part_run {g w} {t : Ty} {x : t.den} {T : Nat} {pre mid post : List Value} (ht : tyB P t T = true) (h : RepC w g t x mid) :
    (part T (pre ++ mid ++ post).toArray pre.length).run P w = .ok (valOf t mid) w := by
  obtain ⟨inf, z, hi, hs, _, _⟩ := tyB_info ht
  have hl := RepC.length t x mid h
  cases t
  case struct c =>
    obtain ⟨fs, hu, _⟩ := tyB_struct ht
    simp only [Go.part, isAgg, Sem.run_bind, run_underlying hu, Result.andThen_ok, Sem.run_pure, if_true, sizeOf, typeInfo, run_program, hi, valOf, Ty.isAgg]
    congr 2
    rw [hs, ← hl]
    apply Array.ext'
    simp
  case arr n e =>
    obtain ⟨ei, hu, _⟩ := tyB_arr ht
    simp only [Go.part, isAgg, Sem.run_bind, run_underlying hu, Result.andThen_ok, Sem.run_pure, if_true, sizeOf, typeInfo, run_program, hi, valOf, Ty.isAgg]
    congr 2
    rw [hs, ← hl]
    apply Array.ext'
    simp
  case unit => simp [tyB] at ht
  case prod a b => simp [tyB] at ht
  all_goals
    simp only [Ty.size] at hl
    match mid, hl with
    | [v], _ =>
      have hv : (pre ++ [v] ++ post).toArray[pre.length]? = some v := by simp
      have hu : ∃ d, P.underlying T = some d ∧ (∀ fs, d ≠ .struct fs) ∧ (∀ n e, d ≠ .array n e) := by
        first
          | exact ⟨_, tyB_int ht, by simp, by simp⟩
          | exact ⟨_, tyB_bool ht, by simp, by simp⟩
          | exact ⟨_, tyB_str ht, by simp, by simp⟩
          | (obtain ⟨ei, hu, _⟩ := tyB_slice ht; exact ⟨_, hu, by simp, by simp⟩)
          | (simp only [tyB, Bool.and_eq_true] at ht
             obtain ⟨_, ht⟩ := ht
             split at ht <;> first | (cases ht; done) | exact ⟨_, by assumption, by assumption, by assumption⟩)
      obtain ⟨d, hu, h1, h2⟩ := hu
      have hag : (isAgg T).run P w = .ok false w := by
        simp only [isAgg, Sem.run_bind, run_underlying hu, Result.andThen_ok]
        cases d <;> first | rfl | exact absurd rfl (h1 _) | exact absurd rfl (h2 _ _)
      simp only [Go.part, Sem.run_bind, hag, Result.andThen_ok, Bool.false_eq_true, if_false, hv, Sem.run_pure, valOf, Ty.isAgg, List.headD]

theorem core_field (hC : TysOk P C.tys) (S : Nat) (x : Operand) (j : Nat) : CoreOk P C ⟨dst, .field S x j, ty, pos, af, gd⟩ := by
  intro R tr g w d dh st a h k r hk
  have hk' : (match C.ty S, st.val x with
    | some ⟨.struct c, _, _, _⟩, .d (.struct c') v => if c = c' then
        match compAt c' v j with
        | some y => k (mkX y.1 y.2) [] st.H
        | none => none
      else none
    | _, _ => none) = some r := hk
  have hx := h.val x
  split at hk'
  · rename_i c e1 e2 e3 c' v he ev
    split at hk'
    · rename_i hcc
      subst hcc
      split at hk'
      · rename_i y hy
        rw [ev] at hx
        simp only [RepX] at hx
        obtain ⟨cs, h1, h2⟩ := hx
        obtain ⟨fs, hu, hch⟩ := tyB_struct (Ctx.ty_ok hC he).1
        obtain ⟨o, pre, mid, post, f1, rfl, f3, f4⟩ := RepC.comp c v cs j y h1 hy
        obtain ⟨f, g1, g2, g3⟩ := chB_at hch f1
        refine ⟨_, _, _, hk', OpWp.same h (val := valOf y.1 mid) ?_ (RepX.mkX f4 (isVal_valOf f4))⟩
        have hv : a.eval x = .agg (pre ++ mid ++ post).toArray := by simpa [IsVal, Ty.isAgg] using h2
        have hf : fs[j]? = some f := by simpa using g1
        have hp := part_run (P := P) (w := w) (g := g) (pre := pre) (post := post) g3 f4
        have ho : f.offset = pre.length := by rw [g2, f3]; omega
        simp only [execOp, Sem.run_bind, Instr.field, run_underlying hu, Result.andThen_ok, hf, hv, asAgg, Sem.run_pure, ho, hp]
      · cases hk'
    · cases hk'
  · cases hk'

theorem RepX.cp_part {g w} {dh : Nat} {κ : Key} {t : Ty} {y : t.den} {A : Addr} {pre mid post : List Value} (hs : A.spot = none)
    (hc : ∀ j (hj : j < (pre ++ mid ++ post).length), w.cell? ⟨A.block, A.off + j, none⟩ = some (pre ++ mid ++ post)[j] ∧ A.off + j < g.U A.block) (h : RepC w g t y mid) :
    RepX g w dh κ (.cp t y) (.pointer (some ⟨A.block, A.off + pre.length, none⟩)) := by
  simp only [RepX]
  refine ⟨_, mid, rfl, rfl, h, fun j hj => ?_⟩
  obtain ⟨h1, h2⟩ := hc (pre.length + j) (by simp; omega)
  rw [← Nat.add_assoc] at h1 h2
  refine ⟨?_, h2⟩
  rw [h1]
  congr 1
  have := getElem?_mid pre mid post j hj
  rw [List.getElem?_eq_getElem (by simp; omega), List.getElem?_eq_getElem hj] at this
  exact Option.some.inj this

theorem Addr.add_plain (A : Addr) (n : Nat) (h : A.spot = none) : A.add n = ⟨A.block, A.off + n, none⟩ := by
  obtain ⟨b, o, s⟩ := A
  simp only at h
  subst h
  exact Addr.add_lit b o n

theorem pathAt_snoc {j o2 : Nat} {u : Ty} : ∀ (p : List Nat) (t : Ty) (o1 : Nat) (t1 : Ty), pathAt t p = some (o1, t1) → stepAt t1 j = some (o2, u) → pathAt t (p ++ [j]) = some (o1 + o2, u)
  | [], t, o1, t1, e1, e2 => by
    simp only [pathAt, Option.some.injEq, Prod.mk.injEq] at e1
    obtain ⟨rfl, rfl⟩ := e1
    simp [pathAt, e2]
  | i :: p, t, o1, t1, e1, e2 => by
    simp only [pathAt] at e1
    simp only [List.cons_append, pathAt]
    split at e1
    · rename_i o3 t3 e3
      simp only [Option.map_eq_some_iff] at e1
      obtain ⟨⟨o4, t4⟩, e4, e5⟩ := e1
      simp only [Prod.mk.injEq] at e5
      obtain ⟨rfl, rfl⟩ := e5
      simp [pathAt_snoc p t3 o4 t4 e4 e2, Nat.add_assoc]
    · cases e1

theorem core_fieldAddr (hC : TysOk P C.tys) (S : Nat) (x : Operand) (j : Nat) : CoreOk P C ⟨dst, .fieldAddr S x j, ty, pos, af, gd⟩ := by
  intro R tr g w d dh st a h k r hk
  have hk' : (match C.ty S, st.val x with
    | some ⟨.struct c, _, _, _⟩, .cp (.struct c') v => if c = c' then
        match compAt c' v j with
        | some y => if y.1.size = 0 then none else k (.cp y.1 y.2) [] st.H
        | none => none
      else none
    | some ⟨.struct c, _, _, _⟩, .ptr id p => match st.H[id]? with
      | some (t, _) => match typeAt t p, chainAt c j with
        | some (.struct c'), some (_, u) => if c' = c ∧ u.size ≠ 0 then k (.ptr id (p ++ [j])) [] st.H else none
        | _, _ => none
      | none => none
    | _, _ => none) = some r := hk
  have hx := h.val x
  have place : ∀ (f : Field) (u : Ty) (A : Addr) (fsA : Array Field), P.underlying S = some (.struct fsA) → fsA[j]? = some f → tyB P u f.type = true → u.size ≠ 0 → a.eval x = .pointer (some A) → A.spot = none →
      (execOp a.eval ⟨dst, .fieldAddr S x j, ty, pos, af, gd⟩).run P w = .ok (.value (.pointer (some ⟨A.block, A.off + f.offset, none⟩))) w := by
    intro f u A fsA hu hf ht hsz hv hs
    obtain ⟨inf, z, hi, hsi, _, _⟩ := tyB_info ht
    have hfp : (fieldPlace A f).run P w = .ok (A.add f.offset) w := by
      simp only [fieldPlace, sizeOf, typeInfo, Sem.run_bind, run_program, Result.andThen_ok, hi, Sem.run_pure, hsi, if_neg hsz]
    simp only [execOp, Sem.run_bind, Instr.fieldAt, run_underlying hu, Result.andThen_ok, hf, hv, Instr.sureAddr, Sem.run_pure, hfp, Addr.add_plain A _ hs]
  split at hk'
  · rename_i c e1 e2 e3 c' v he ev
    split at hk'
    · rename_i hcc
      subst hcc
      split at hk'
      · rename_i y hy
        split at hk'
        · cases hk'
        · rename_i hsz
          rw [ev] at hx
          simp only [RepX] at hx
          obtain ⟨A, cs, hv, hs, h1, h2⟩ := hx
          obtain ⟨fs, hu, hch⟩ := tyB_struct (Ctx.ty_ok hC he).1
          obtain ⟨o, pre, mid, post, f1, rfl, f3, f4⟩ := RepC.comp c v cs j y h1 hy
          obtain ⟨f, g1, g2, g3⟩ := chB_at hch f1
          have ho : f.offset = pre.length := by rw [g2, f3]; omega
          refine ⟨_, _, _, hk', OpWp.same h (place f y.1 A fs hu (by simpa using g1) g3 hsz hv hs) ?_⟩
          rw [ho]
          exact RepX.cp_part hs h2 f4
      · cases hk'
    · cases hk'
  · rename_i c e1 e2 e3 id p he ev
    split at hk'
    · rename_i t ct hid
      split at hk'
      · rename_i c' o2 u htp hch2
        split at hk'
        · rename_i hcond
          obtain ⟨rfl, hsz⟩ := hcond
          rw [ev] at hx
          simp only [RepX] at hx
          obtain ⟨hN, o1, t1, hp, hv⟩ := hx
          have ht : g.oty dh id = t := (h.heap.2 id t ct hid).1
          rw [ht] at hp
          obtain rfl := typeAt_eq hp htp
          obtain ⟨fs, hu, hch⟩ := tyB_struct (Ctx.ty_ok hC he).1
          obtain ⟨f, g1, g2, g3⟩ := chB_at hch hch2
          refine ⟨_, _, _, hk', OpWp.same h (place f u _ fs hu (by simpa using g1) g3 hsz hv rfl) ?_⟩
          simp only [RepX]
          refine ⟨hN, o1 + o2, u, ?_, by rw [g2]; simp⟩
          rw [ht]
          exact pathAt_snoc p t o1 _ hp (by simpa [stepAt] using hch2)
        · cases hk'
      · cases hk'
    · cases hk'
  · cases hk'

theorem RepX.index {g w} {dh : Nat} {κ κ' : Key} {e : Ty} {xs : List e.den} {nl own v} (h : RepX g w dh κ (.sl e xs nl own) v) {i : Nat} (hi : i < xs.length) :
    ∃ A c cs, v = .slice (some A) xs.length c ∧ A.spot = none ∧ cs.length = e.size ∧ RepC w g e xs[i] cs ∧ RepX g w dh κ' (.cp e (xs.getD i e.zero)) (.pointer (some ⟨A.block, A.off + i * e.size, none⟩)) := by
  simp only [RepX] at h
  obtain ⟨a, c, rfl, h2, h3, _⟩ := h
  obtain ⟨A, cs, rfl, hs, hl, hr, hc⟩ := h3 i hi
  refine ⟨A, c, cs, rfl, hs, hl, hr, ?_⟩
  simp only [RepX]
  refine ⟨_, cs, rfl, rfl, ?_, fun j hj => ?_⟩
  · rw [List.getD_eq_getElem?_getD, List.getElem?_eq_getElem hi]; exact hr
  · have := hc j hj
    simpa [Nat.add_assoc] using this

theorem indexOf_rep {g w} {dh : Nat} {κ : Key} {x : X} {v : Value} {i : Int} (h : RepX g w dh κ x v) (e : indexOf x = some i) : ∃ k, v = .int k i := by
  unfold indexOf at e
  split at e
  · rename_i k n
    cases e
    exact ⟨k, RepX.int_iff.1 h⟩
  · cases e

theorem RepXs.len {g w} {dh : Nat} : ∀ (xs : List X) (vs : List Value), RepXs g w dh xs vs → xs.length = vs.length
  | [], vs, h => by simp only [RepXs] at h; subst h; rfl
  | x :: xs, vs, h => by
    simp only [RepXs] at h
    obtain ⟨v, us, rfl, _, h2⟩ := h
    simp [RepXs.len xs us h2]
theorem RepXs.nth {g w} {dh : Nat} : ∀ (xs : List X) (vs : List Value) (j : Nat) (x : X), RepXs g w dh xs vs → xs[j]? = some x → ∃ v, vs[j]? = some v ∧ RepX g w dh .no x v
  | [], _, _, _, _, e => by simp at e
  | y :: ys, vs, j, x, h, e => by
    simp only [RepXs] at h
    obtain ⟨v, us, rfl, h1, h2⟩ := h
    cases j with
    | zero => simp at e; subst e; exact ⟨v, rfl, h1⟩
    | succ j =>
      obtain ⟨u, k1, k2⟩ := RepXs.nth ys us j x h2 (by simpa using e)
      exact ⟨u, by simpa using k1, k2⟩

theorem core_indexAddr (hC : TysOk P C.tys) (T : Nat) (x ix : Operand) : CoreOk P C ⟨dst, .indexAddr T x ix, ty, pos, af, gd⟩ := by
  intro R tr g w d dh st a h k r hk
  have hk' : (match C.ty T, st.val x, indexOf (st.val ix) with
    | some ⟨.slice e, _, _, _⟩, .sl e' xs _ _, some i => if e = e' then bif decide (0 ≤ i ∧ i < (xs.length : Int)) then k (.cp e' (xs.getD i.toNat e'.zero)) [] st.H else none else none
    | some ⟨.slice .any, _, _, _⟩, .lst l, some i => bif decide (0 ≤ i ∧ i < (l.length : Int)) then k (.cx (l.getD i.toNat .dead)) [] st.H else none
    | some ⟨.arr n e, _, _, _⟩, .cp (.arr n' e') l, some i => if n = n' ∧ e = e' then bif decide (0 ≤ i ∧ i < (n' : Int)) then k (.cp e' (List.getD l i.toNat e'.zero)) [] st.H else none else none
    | some ⟨.arr n e, _, _, _⟩, .ptr id p, some i => match st.H[id]? with
      | some (t, _) => match typeAt t p with
        | some (.arr n' e') => if n = n' ∧ e = e' then bif decide (0 ≤ i ∧ i < (n' : Int)) then k (.ptr id (p ++ [i.toNat])) [] st.H else none else none
        | _ => none
      | none => none
    | _, _, _ => none) = some r := hk
  have hx := h.val x
  have hix := h.val ix
  split at hk'
  · rename_i e e1 e2 e3 e' xs nl own i he ev ei
    split at hk'
    · rename_i hee
      subst hee
      cases hb : decide (0 ≤ i ∧ i < (xs.length : Int)) <;> rw [hb] at hk'
      · cases hk'
      · have hb' : 0 ≤ i ∧ i < (xs.length : Int) := by simpa using hb
        rw [ev] at hx
        obtain ⟨ki, hki⟩ := indexOf_rep hix ei
        obtain ⟨et, hu, ht, _⟩ := tyB_slice (Ctx.ty_ok hC he).1
        obtain ⟨inf, z, hinf, hsz, _, _⟩ := tyB_info ht
        obtain ⟨A, c, cs, hv, hs, hl, hr, hp⟩ := RepX.index (κ' := kd ⟨dst, .indexAddr T x ix, ty, pos, af, gd⟩ d) hx (i := i.toNat) (by omega)
        refine ⟨_, _, _, hk', OpWp.same h ?_ hp⟩
        have hi2 : (0 ≤ i ∧ i < ((xs.length : Nat) : Int)) := hb'
        simp only [execOp, Sem.run_bind, Instr.indexAt, hki, asIntOf, Sem.run_pure, Result.andThen_ok, run_underlying hu, hv, if_pos hi2, sizeOf, typeInfo, run_program, hinf, hsz, Addr.add_plain A _ hs]
    · cases hk'
  · rename_i e1 e2 e3 l i he ev ei
    cases hb : decide (0 ≤ i ∧ i < (l.length : Int)) <;> rw [hb] at hk'
    · cases hk'
    · have hb' : 0 ≤ i ∧ i < (l.length : Int) := by simpa using hb
      rw [ev] at hx
      simp only [RepX] at hx
      obtain ⟨a0, us, c, hv, hl, hr, hcell⟩ := hx
      have hlen := RepXs.len l us hr
      obtain ⟨ki, hki⟩ := indexOf_rep hix ei
      obtain ⟨et, hu, ht, _⟩ := tyB_slice (Ctx.ty_ok hC he).1
      obtain ⟨inf, z, hinf, hsz, _, _⟩ := tyB_info ht
      have hil : i.toNat < us.length := by omega
      obtain ⟨A, rfl, hs, hc1, hc2⟩ := hcell i.toNat hil
      obtain ⟨u, hu1, hu2⟩ := RepXs.nth l us i.toNat (l.getD i.toNat .dead) hr (by rw [List.getD_eq_getElem?_getD, List.getElem?_eq_getElem (by omega)]; rfl)
      rw [List.getElem?_eq_getElem hil] at hu1
      cases hu1
      refine ⟨_, _, _, hk', OpWp.same h (val := .pointer (some ⟨A.block, A.off + i.toNat, none⟩)) ?_ ?_⟩
      · have hi2 : (0 ≤ i ∧ i < ((us.length : Nat) : Int)) := by omega
        have h1 : Ty.any.size = 1 := rfl
        rw [h1] at hsz
        simp only [execOp, Sem.run_bind, Instr.indexAt, hki, asIntOf, Sem.run_pure, Result.andThen_ok, run_underlying hu, hv, if_pos hi2, sizeOf, typeInfo, run_program, hinf, hsz, Nat.mul_one, Addr.add_plain A _ hs]
      · simp only [RepX]
        exact ⟨_, us[i.toNat], rfl, rfl, hu2, hc1, hc2⟩
  · rename_i n e e1 e2 e3 n' e' l i he ev ei
    split at hk'
    · rename_i hee
      obtain ⟨rfl, rfl⟩ := hee
      cases hb : decide (0 ≤ i ∧ i < (n : Int)) <;> rw [hb] at hk'
      · cases hk'
      · have hb' : 0 ≤ i ∧ i < (n : Int) := by simpa using hb
        rw [ev] at hx
        simp only [RepX] at hx
        obtain ⟨A, cs, hv, hs, ⟨h1, h2⟩, h3⟩ := hx
        obtain ⟨ki, hki⟩ := indexOf_rep hix ei
        obtain ⟨et, hu, ht⟩ := tyB_arr (Ctx.ty_ok hC he).1
        obtain ⟨inf, z, hinf, hsz, _, _⟩ := tyB_info ht
        have hil : i.toNat < List.length l := by omega
        obtain ⟨pre, mid, post, rfl, f2, f3, _⟩ := Parts.at (RepC.length (w := w) (g := g) e) l cs i.toNat hil h2
        refine ⟨_, _, _, hk', OpWp.same h (val := .pointer (some ⟨A.block, A.off + pre.length, none⟩)) ?_ ?_⟩
        · have hi2 : (0 ≤ i ∧ i < ((n : Nat) : Int)) := hb'
          simp only [execOp, Sem.run_bind, Instr.indexAt, hki, asIntOf, Sem.run_pure, Result.andThen_ok, run_underlying hu, hv, Instr.sureAddr, if_pos hi2, sizeOf, typeInfo, run_program, hinf, hsz, Addr.add_plain A _ hs, f2]
        · refine RepX.cp_part hs h3 ?_
          rw [List.getD_eq_getElem?_getD, List.getElem?_eq_getElem hil]
          exact f3
    · cases hk'
  · rename_i n e e1 e2 e3 id p i he ev ei
    split at hk'
    · rename_i t ct hid
      split at hk'
      · rename_i n' e' htp
        split at hk'
        · rename_i hee
          obtain ⟨rfl, rfl⟩ := hee
          cases hb : decide (0 ≤ i ∧ i < (n : Int)) <;> rw [hb] at hk'
          · cases hk'
          · have hb' : 0 ≤ i ∧ i < (n : Int) := by simpa using hb
            rw [ev] at hx
            simp only [RepX] at hx
            obtain ⟨hN, o1, t1, hp, hv⟩ := hx
            have ht : g.oty dh id = t := (h.heap.2 id t ct hid).1
            rw [ht] at hp
            obtain rfl := typeAt_eq hp htp
            obtain ⟨ki, hki⟩ := indexOf_rep hix ei
            obtain ⟨et, hu, ht'⟩ := tyB_arr (Ctx.ty_ok hC he).1
            obtain ⟨inf, z, hinf, hsz, _, _⟩ := tyB_info ht'
            refine ⟨_, _, _, hk', OpWp.same h (val := .pointer (some ⟨g.μ dh id, o1 + i.toNat * e.size, none⟩)) ?_ ?_⟩
            · have hi2 : (0 ≤ i ∧ i < ((n : Nat) : Int)) := hb'
              simp only [execOp, Sem.run_bind, Instr.indexAt, hki, asIntOf, Sem.run_pure, Result.andThen_ok, run_underlying hu, hv, Instr.sureAddr, if_pos hi2, sizeOf, typeInfo, run_program, hinf, hsz, Addr.add_lit]
            · simp only [RepX]
              refine ⟨hN, _, e, ?_, rfl⟩
              rw [ht]
              exact pathAt_snoc p t o1 _ hp (by simp only [stepAt]; rw [if_pos (by omega)])
        · cases hk'
      · cases hk'
    · cases hk'
  · cases hk'

end
end Go.Proofs.Ytgickaihlebgmaa.V

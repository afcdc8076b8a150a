/-
  What the evaluator tells is so: indexes, conversions, slices of slices, lengths.
  It speaks of whatever program; no condition.
-/
import Derived.Test.YtgickaihlebgmaaV8
namespace Go.Proofs.Ytgickaihlebgmaa.V
open Go
set_option linter.unusedVariables false
set_option linter.unusedSimpArgs false

section
variable {P : Program} {C : Ctx} {dst : Option Nat} {ty : Nat} {pos : String} {af : Array Edge} {gd : Option (Nat × Bool)}

theorem bytesOf_getD (s : ByteArray) (i : Nat) (h : i < s.size) : (bytesOf s).getD i 0 = ((s[i]'h).toNat : Int) := by
  have h' : i < s.data.size := h
  rw [bytesOf, List.getD_eq_getElem?_getD, List.getElem?_map, Array.getElem?_toList, Array.getElem?_eq_getElem h']
  rfl

theorem core_index (hC : TysOk P C.tys) (T : Nat) (x ix : Operand) : CoreOk P C ⟨dst, .index T x ix, ty, pos, af, gd⟩ := by
  intro R tr g w d dh st a h k r hk
  have hk' : (match C.ty T, st.val x, indexOf (st.val ix) with
    | some ⟨.arr n e, _, _, _⟩, .d (.arr n' e') l, some i => if n = n' ∧ e = e' then bif decide (0 ≤ i ∧ i < (n' : Int)) then k (mkX e' (List.getD l i.toNat e'.zero)) [] st.H else none else none
    | some ⟨.str, _, _, _⟩, .d .str s, some i => bif decide (0 ≤ i ∧ i < (s.size : Int)) then k (.d (.int .u8) ((bytesOf s).getD i.toNat 0)) [] st.H else none
    | _, _, _ => none) = some r := hk
  have hx := h.val x
  have hix := h.val ix
  split at hk'
  · rename_i n e e1 e2 e3 n' e' l i he ev ei
    split at hk'
    · rename_i hee
      obtain ⟨rfl, rfl⟩ := hee
      cases hb : decide (0 ≤ i ∧ i < (n : Int)) <;> rw [hb] at hk'
      · cases hk'
      · have hb' : 0 ≤ i ∧ i < (n : Int) := by simpa using hb
        rw [ev] at hx
        simp only [RepX] at hx
        obtain ⟨cs, ⟨h1, h2⟩, hv⟩ := hx
        obtain ⟨ki, hki⟩ := indexOf_rep hix ei
        obtain ⟨et, hu, ht⟩ := tyB_arr (Ctx.ty_ok hC he).1
        obtain ⟨inf, z, hinf, hsz, _, _⟩ := tyB_info ht
        have hil : i.toNat < List.length l := by omega
        obtain ⟨pre, mid, post, rfl, f2, f3, _⟩ := Parts.at (RepC.length (w := w) (g := g) e) l cs i.toNat hil h2
        have f3' : RepC w g e (List.getD l i.toNat e.zero) mid := by
          rw [List.getD_eq_getElem?_getD, List.getElem?_eq_getElem hil]
          exact f3
        refine ⟨_, _, _, hk', OpWp.same h (val := valOf e mid) ?_ (RepX.mkX f3' (isVal_valOf f3'))⟩
        have hv' : a.eval x = .agg (pre ++ mid ++ post).toArray := by simpa [IsVal, Ty.isAgg] using hv
        have hp := part_run (P := P) (w := w) (g := g) (pre := pre) (post := post) ht f3'
        have hi2 : (0 ≤ i ∧ i < ((n : Nat) : Int)) := hb'
        simp only [execOp, Sem.run_bind, Instr.index, hki, asIntOf, Sem.run_pure, Result.andThen_ok, run_underlying hu, hv', if_pos hi2, sizeOf, typeInfo, run_program, hinf, hsz, ← f2, hp]
    · cases hk'
  · rename_i e1 e2 e3 s i he ev ei
    cases hb : decide (0 ≤ i ∧ i < (s.size : Int)) <;> rw [hb] at hk'
    · cases hk'
    · have hb' : 0 ≤ i ∧ i < (s.size : Int) := by simpa using hb
      rw [ev, RepX.str_iff] at hx
      obtain ⟨ki, hki⟩ := indexOf_rep hix ei
      have hu := tyB_str (Ctx.ty_ok hC he).1
      have hil : i.toNat < s.size := by omega
      refine ⟨_, _, _, hk', OpWp.same h (val := .int .u8 ((bytesOf s).getD i.toNat 0)) ?_ (RepX.int_iff.2 rfl)⟩
      have hg : (if 0 ≤ i then s[i.toNat]? else none) = some (s[i.toNat]'hil) := by
        rw [if_pos hb'.1]
        exact getElem?_pos s i.toNat hil
      simp only [execOp, Sem.run_bind, Instr.index, hki, asIntOf, Sem.run_pure, Result.andThen_ok, run_underlying hu, hx, hg, bytesOf_getD s _ hil]
  · cases hk'

theorem run_elem {w : World} {T e : Nat} (hu : P.underlying T = some (.slice e)) : P.underlying T = some (.slice (P.elem T)) ∧ P.elem T = e := by
  have : P.elem T = e := by simp [Program.elem, hu]
  exact ⟨by rw [this]; exact hu, this⟩

theorem Run.take {w : World} {g : Ghost} {α : Type} {R : α → List Value → Prop} {size : Nat} {xs : List α} {a : Option Addr} (h : Run w g R size xs a) (n : Nat) : Run w g R size (xs.take n) a := by
  intro i hi
  have hi' : i < xs.length := by simp at hi; omega
  obtain ⟨A, cs, h1, h2, h3, h4, h5⟩ := h i hi'
  exact ⟨A, cs, h1, h2, h3, by simpa using h4, h5⟩

theorem Run.drop {w : World} {g : Ghost} {α : Type} {R : α → List Value → Prop} {size : Nat} {xs : List α} {a : Option Addr} (h : Run w g R size xs a) (n : Nat) : Run w g R size (xs.drop n) (a.map (·.add (n * size))) := by
  intro i hi
  have hi' : n + i < xs.length := by simp at hi; omega
  obtain ⟨A, cs, rfl, h2, h3, h4, h5⟩ := h (n + i) hi'
  refine ⟨A.add (n * size), cs, rfl, by rw [Addr.add_plain A _ h2], h3, by simpa using h4, fun j hj => ?_⟩
  have := h5 j hj
  rw [Addr.add_plain A _ h2]
  simp only []
  rw [Nat.add_mul, show A.off + (n * size + i * size + j) = A.off + n * size + (i * size + j) by omega] at this
  exact this

theorem Run.nil {w : World} {g : Ghost} {α : Type} {R : α → List Value → Prop} {size : Nat} {a : Option Addr} : Run w g R size ([] : List α) a := fun i hi => absurd hi (by simp)

/-- A slice of a slice. -/
theorem RepX.sliced {g w} {dh : Nat} {κ κ' : Key} {e : Ty} {xs : List e.den} {nl own v} (h : RepX g w dh κ (.sl e xs nl own) v) {l n m : Nat} (hl : l ≤ n) (hn : n ≤ xs.length) {a : Option Addr} {c : Nat} (hv : v = .slice a xs.length c) (hm : n ≤ m) (hmc : m ≤ c) :
    RepX g w dh κ' (.sl e ((xs.take n).drop l) nl false) (sliced a l n m e.size) := by
  simp only [RepX] at h ⊢
  obtain ⟨a', c', rfl, h2, h3, h4, h5⟩ := h
  simp only [Value.slice.injEq] at hv
  obtain ⟨rfl, _, rfl⟩ := hv
  have hlen : ((xs.take n).drop l).length = n - l := by simp; omega
  refine ⟨if m = l then a' else a'.map (·.add (l * e.size)), m - l, ?_, by rw [hlen]; omega, ?_, ?_, fun hd => by cases hd⟩
  · rw [hlen]; rfl
  · split
    · rename_i hml
      have : (xs.take n).drop l = [] := by
        apply List.eq_nil_of_length_eq_zero
        rw [hlen]; omega
      rw [this]; exact Run.nil
    · exact (h3.take n).drop l
  · intro b hb
    rw [← h4 b hb]
    split
    · rfl
    · cases a' <;> rfl

theorem RepXs.take {g w} {dh : Nat} : ∀ (xs : List X) (vs : List Value) (n : Nat), RepXs g w dh xs vs → RepXs g w dh (xs.take n) (vs.take n)
  | [], vs, n, h => by
    simp only [RepXs] at h
    subst h
    simp [RepXs]
  | x :: xs, vs, 0, h => by simp [RepXs]
  | x :: xs, vs, n + 1, h => by
    simp only [RepXs] at h
    obtain ⟨v, us, rfl, h1, h2⟩ := h
    simp only [List.take_succ_cons, RepXs]
    exact ⟨v, us.take n, rfl, h1, RepXs.take xs us n h2⟩

theorem core_slice (hC : TysOk P C.tys) (T : Nat) (x : Operand) (lo hi mx : Option Operand) : CoreOk P C ⟨dst, .slice T x lo hi mx, ty, pos, af, gd⟩ := by
  intro R tr g w d dh st a h k r hk
  have hx := h.val x
  have ops : (⟨dst, .slice T x lo hi mx, ty, pos, af, gd⟩ : Oper).op.operands.toList.map st.val = st.val x :: (lo.toList ++ hi.toList ++ mx.toList).map st.val := by
    cases lo <;> cases hi <;> cases mx <;> simp [Op.operands]
  rw [ops] at hk
  clear ops
  have run : ∀ v w', (Instr.sliceAt T (a.eval x) (lo.map a.eval) (hi.map a.eval) (mx.map a.eval)).run P w = .ok v w' → (execOp a.eval ⟨dst, .slice T x lo hi mx, ty, pos, af, gd⟩).run P w = .ok (.value v) w' := by
    intro v w' hr
    simp only [execOp, Sem.run_bind, hr, Result.andThen_ok, Sem.run_pure]
  unfold coreK at hk
  simp only [] at hk
  split at hk
  · rename_i e0 e1 e2 e3 e xs nl own he ev
    rw [ev] at hx
    obtain ⟨et, hu, ht, hpos⟩ := tyB_slice (Ctx.ty_ok hC he).1
    have hee : ∃ c, a.eval x = .slice (match a.eval x with | .slice b _ _ => b | _ => none) xs.length c := by
      simp only [RepX] at hx
      obtain ⟨a', c', hv, _⟩ := hx
      exact ⟨c', by rw [hv]⟩
    obtain ⟨c, hv⟩ := hee
    generalize (match a.eval x with | .slice b _ _ => b | _ => none : Option Addr) = b at hv
    have hc : xs.length ≤ c := by
      simp only [RepX] at hx
      obtain ⟨a', c', hv', h2, _⟩ := hx
      rw [hv] at hv'
      simp only [Value.slice.injEq] at hv'
      rw [hv'.2.2]; exact h2
    obtain ⟨hu', hel⟩ := run_elem (w := w) hu
    split at hk
    · rename_i hee
      subst hee
      obtain ⟨inf, z, hinf, hsz, _, _⟩ := tyB_info ht
      have hsize : (sizeOf (P.elem T)).run P w = .ok e0.size w := by
        rw [hel]; simp only [sizeOf, typeInfo, Sem.run_bind, run_program, Result.andThen_ok, hinf, Sem.run_pure, hsz]
      have hat : ∀ lo hi mx, (Instr.sliceAt T (a.eval x) lo hi mx).run P w = (Instr.slice T (a.eval x) lo hi mx).run P w := fun lo hi mx => run_sliceAt_slice w T _ lo hi mx hu'
      cases lo <;> cases hi <;> cases mx <;> simp only [Option.isSome_none, Option.isSome_some, Option.toList_none, Option.toList_some, List.nil_append, List.append_nil, List.map_nil, List.map_cons, List.singleton_append, List.cons_append] at hk
      case none.none.none =>
        refine ⟨_, _, _, hk, OpWp.same h (val := sliced b 0 xs.length c e0.size) (run _ _ ?_) ?_⟩
        · rw [hat, hv]
          simp only [Option.map_none, run_slice_all w T b xs.length c hu', hsize, Result.andThen_ok]
        · have := RepX.sliced (κ' := kd ⟨dst, .slice T x none none none, ty, pos, af, gd⟩ d) hx (l := 0) (n := xs.length) (m := c) (Nat.zero_le _) (Nat.le_refl _) hv hc (Nat.le_refl _)
          simp only [List.take_length, List.drop_zero] at this
          exact this.unown' (κ' := _)
      case some.none.none lo =>
        split at hk
        case h_2 =>
          rename_i kl l_ _ _ _ hq
          obtain ⟨l, rfl⟩ : ∃ u : Int, u = l_ := ⟨l_, rfl⟩
          simp only [List.cons_append, List.nil_append, List.map_cons, List.map_nil, List.cons.injEq, and_true] at hq
          have ql := hq
          have vl := h.val lo
          rw [ql, RepX.int_iff] at vl
          cases hb : decide (0 ≤ l ∧ l ≤ (xs.length : Int)) <;> rw [hb] at hk
          · cases hk
          · have hb' : 0 ≤ l ∧ l ≤ (xs.length : Int) := by simpa using hb
            refine ⟨_, _, _, hk, OpWp.same h (val := sliced b l.toNat xs.length c e0.size) (run _ _ ?_) ?_⟩
            · rw [hat, hv]
              simp only [Option.map_none, Option.map_some, vl, run_slice_l w T b xs.length c hu' kl l hb'.1 hb'.2, hsize, Result.andThen_ok]
            · have := RepX.sliced (κ' := kd ⟨dst, .slice T x (some lo) none none, ty, pos, af, gd⟩ d) hx (l := l.toNat) (n := xs.length) (m := c) (by omega) (by omega) hv (by omega) (by omega)
              simp only [List.take_length] at this
              exact this.unown' (κ' := _)
        all_goals contradiction
      case none.some.none hi =>
        split at hk
        case h_3 =>
          rename_i kh h_ _ _ _ hq
          obtain ⟨h', rfl⟩ : ∃ u : Int, u = h_ := ⟨h_, rfl⟩
          simp only [List.cons_append, List.nil_append, List.map_cons, List.map_nil, List.cons.injEq, and_true] at hq
          have qh := hq
          have vh := h.val hi
          rw [qh, RepX.int_iff] at vh
          cases hb : decide (0 ≤ h' ∧ h' ≤ (xs.length : Int)) <;> rw [hb] at hk
          · cases hk
          · have hb' : 0 ≤ h' ∧ h' ≤ (xs.length : Int) := by simpa using hb
            refine ⟨_, _, _, hk, OpWp.same h (val := sliced b 0 h'.toNat c e0.size) (run _ _ ?_) ?_⟩
            · rw [hat, hv]
              simp only [Option.map_none, Option.map_some, vh, run_slice_h w T b xs.length c hu' kh h' hb'.1 (by omega), hsize, Result.andThen_ok]
            · have := RepX.sliced (κ' := kd ⟨dst, .slice T x none (some hi) none, ty, pos, af, gd⟩ d) hx (l := 0) (n := h'.toNat) (m := c) (by omega) (by omega) hv (by omega) (by omega)
              simp only [List.drop_zero] at this
              exact this.unown' (κ' := _)
        all_goals contradiction
      case some.some.none lo hi =>
        split at hk
        case h_4 =>
          rename_i kl l_ kh h_ _ _ _ hq
          obtain ⟨l, rfl⟩ : ∃ u : Int, u = l_ := ⟨l_, rfl⟩
          obtain ⟨h', rfl⟩ : ∃ u : Int, u = h_ := ⟨h_, rfl⟩
          simp only [List.cons_append, List.nil_append, List.map_cons, List.map_nil, List.cons.injEq, and_true] at hq
          obtain ⟨ql, qh⟩ := hq
          have vl := h.val lo
          rw [ql, RepX.int_iff] at vl
          have vh := h.val hi
          rw [qh, RepX.int_iff] at vh
          cases hb : decide (0 ≤ h' ∧ h' ≤ (xs.length : Int)) <;> rw [hb] at hk
          · cases hk
          · have hb' : 0 ≤ h' ∧ h' ≤ (xs.length : Int) := by simpa using hb
            try simp only [cond_true] at hk
            cases hc' : decide (0 ≤ l ∧ l ≤ h') <;> rw [hc'] at hk
            · cases hk
            have hb2 : 0 ≤ l ∧ l ≤ h' := by simpa using hc'
            refine ⟨_, _, _, hk, OpWp.same h (val := sliced b l.toNat h'.toNat c e0.size) (run _ _ ?_) ?_⟩
            · rw [hat, hv]
              simp only [Option.map_none, Option.map_some, vl, vh, run_slice_lh w T b xs.length c hu' kl kh l h' hb2.1 hb2.2 (by omega), hsize, Result.andThen_ok]
            · have := RepX.sliced (κ' := kd ⟨dst, .slice T x (some lo) (some hi) none, ty, pos, af, gd⟩ d) hx (l := l.toNat) (n := h'.toNat) (m := c) (by omega) (by omega) hv (by omega) (by omega)
              exact this.unown' (κ' := _)
        all_goals contradiction
      case none.some.some hi mx =>
        split at hk
        case h_5 =>
          rename_i kh h_ km m_ _ _ _ hq
          obtain ⟨h', rfl⟩ : ∃ u : Int, u = h_ := ⟨h_, rfl⟩
          obtain ⟨m, rfl⟩ : ∃ u : Int, u = m_ := ⟨m_, rfl⟩
          simp only [List.cons_append, List.nil_append, List.map_cons, List.map_nil, List.cons.injEq, and_true] at hq
          obtain ⟨qh, qm⟩ := hq
          have vh := h.val hi
          rw [qh, RepX.int_iff] at vh
          have vm := h.val mx
          rw [qm, RepX.int_iff] at vm
          cases hb : decide (0 ≤ h' ∧ h' ≤ m) <;> rw [hb] at hk
          · cases hk
          · have hb' : 0 ≤ h' ∧ h' ≤ m := by simpa using hb
            try simp only [cond_true] at hk
            cases hc' : decide (m ≤ (xs.length : Int)) <;> rw [hc'] at hk
            · cases hk
            have hb2 : m ≤ (xs.length : Int) := by simpa using hc'
            refine ⟨_, _, _, hk, OpWp.same h (val := sliced b 0 h'.toNat m.toNat e0.size) (run _ _ ?_) ?_⟩
            · rw [hat, hv]
              simp only [Option.map_none, Option.map_some, vh, vm, run_slice_hm w T b xs.length c hu' kh km h' m hb'.1 hb'.2 (by omega), hsize, Result.andThen_ok]
            · have := RepX.sliced (κ' := kd ⟨dst, .slice T x none (some hi) (some mx), ty, pos, af, gd⟩ d) hx (l := 0) (n := h'.toNat) (m := m.toNat) (by omega) (by omega) hv (by omega) (by omega)
              simp only [List.drop_zero] at this
              exact this
        all_goals contradiction
      case some.some.some lo hi mx =>
        split at hk
        case h_6 =>
          rename_i kl l_ kh h_ km m_ _ _ _ hq
          obtain ⟨l, rfl⟩ : ∃ u : Int, u = l_ := ⟨l_, rfl⟩
          obtain ⟨h', rfl⟩ : ∃ u : Int, u = h_ := ⟨h_, rfl⟩
          obtain ⟨m, rfl⟩ : ∃ u : Int, u = m_ := ⟨m_, rfl⟩
          simp only [List.cons_append, List.nil_append, List.map_cons, List.map_nil, List.cons.injEq, and_true] at hq
          obtain ⟨ql, qh, qm⟩ := hq
          have vl := h.val lo
          rw [ql, RepX.int_iff] at vl
          have vh := h.val hi
          rw [qh, RepX.int_iff] at vh
          have vm := h.val mx
          rw [qm, RepX.int_iff] at vm
          cases hb : decide (0 ≤ l ∧ l ≤ h') <;> rw [hb] at hk
          · cases hk
          · have hb' : 0 ≤ l ∧ l ≤ h' := by simpa using hb
            try simp only [cond_true] at hk
            cases hc' : decide (h' ≤ m ∧ m ≤ (xs.length : Int)) <;> rw [hc'] at hk
            · cases hk
            have hb2 : h' ≤ m ∧ m ≤ (xs.length : Int) := by simpa using hc'
            refine ⟨_, _, _, hk, OpWp.same h (val := sliced b l.toNat h'.toNat m.toNat e0.size) (run _ _ ?_) ?_⟩
            · rw [hat, hv]
              simp only [Option.map_none, Option.map_some, vl, vh, vm, run_slice_lhm w T b xs.length c hu' kl kh km l h' m hb'.1 hb'.2 hb2.1 (by omega), hsize, Result.andThen_ok]
            · have := RepX.sliced (κ' := kd ⟨dst, .slice T x (some lo) (some hi) (some mx), ty, pos, af, gd⟩ d) hx (l := l.toNat) (n := h'.toNat) (m := m.toNat) (by omega) (by omega) hv (by omega) (by omega)
              exact this
        all_goals contradiction
      all_goals first | contradiction | (split at hk <;> contradiction)
    · cases hk
  · rename_i e1 e2 e3 l he ev
    rw [ev] at hx
    obtain ⟨et, hu, ht, hpos⟩ := tyB_slice (Ctx.ty_ok hC he).1
    simp only [RepX] at hx
    obtain ⟨b, us, c, hv, hlc, hr, hcell⟩ := hx
    have hlen := RepXs.len l us hr
    obtain ⟨hu', hel⟩ := run_elem (w := w) hu
    obtain ⟨inf, z, hinf, hsz, _, _⟩ := tyB_info ht
    have hsize : (sizeOf (P.elem T)).run P w = .ok Ty.any.size w := by
      rw [hel]; simp only [sizeOf, typeInfo, Sem.run_bind, run_program, Result.andThen_ok, hinf, Sem.run_pure, hsz]
    have hat : ∀ lo hi mx, (Instr.sliceAt T (a.eval x) lo hi mx).run P w = (Instr.slice T (a.eval x) lo hi mx).run P w := fun lo hi mx => run_sliceAt_slice w T _ lo hi mx hu'
    cases lo <;> cases hi <;> cases mx <;> simp only [Option.isSome_none, Option.isSome_some, Option.toList_none, Option.toList_some, List.nil_append, List.append_nil, List.map_nil, List.map_cons, List.singleton_append, List.cons_append] at hk
    case none.some.none hi =>
      split at hk
      case h_1 =>
        rename_i kh h_ _ _ _ hq
        obtain ⟨h', rfl⟩ : ∃ u : Int, u = h_ := ⟨h_, rfl⟩
        simp only [List.cons_append, List.nil_append, List.map_cons, List.map_nil, List.cons.injEq, and_true] at hq
        have vh := h.val hi
        rw [hq, RepX.int_iff] at vh
        cases hb : decide (0 ≤ h' ∧ h' ≤ (l.length : Int)) <;> rw [hb] at hk
        · cases hk
        · have hb' : 0 ≤ h' ∧ h' ≤ (l.length : Int) := by simpa using hb
          refine ⟨_, _, _, hk, OpWp.same h (val := sliced b 0 h'.toNat c Ty.any.size) (run _ _ ?_) ?_⟩
          · rw [hat, hv]
            simp only [Option.map_none, Option.map_some, vh, run_slice_h w T b us.length c hu' kh h' hb'.1 (by omega), hsize, Result.andThen_ok]
          · simp only [RepX]
            have htl : (us.take h'.toNat).length = h'.toNat := by rw [List.length_take]; omega
            refine ⟨if c = 0 then b else b.map (·.add 0), us.take h'.toNat, c, ?_, by rw [htl]; omega, RepXs.take l us _ hr, fun i hi => ?_⟩
            · rw [htl]
              simp only [sliced, Nat.sub_zero, Nat.zero_mul]
            · rw [htl] at hi
              obtain ⟨A, rfl, hs, hc1, hc2⟩ := hcell i (by omega)
              refine ⟨A, ?_, hs, ?_, hc2⟩
              · split
                · rfl
                · simp [Addr.add]
              · rw [hc1, List.getElem_take]
      all_goals contradiction
    all_goals first | contradiction | (split at hk <;> contradiction)
  · rename_i e1 e2 e3 s he ev
    rw [ev, RepX.str_iff] at hx
    have hu := tyB_str (Ctx.ty_ok hC he).1
    have hat : ∀ lo hi mx, (Instr.sliceAt T (a.eval x) lo hi mx).run P w = (Instr.slice T (a.eval x) lo hi mx).run P w := fun lo hi mx => run_sliceAt_string w T _ lo hi mx hu
    cases lo <;> cases hi <;> cases mx <;> simp only [Option.isSome_none, Option.isSome_some, Option.toList_none, Option.toList_some, List.nil_append, List.append_nil, List.map_nil, List.map_cons, List.singleton_append, List.cons_append] at hk
    case some.none.none lo =>
      split at hk
      case h_1 =>
        rename_i kl l_ _ _ _ hq
        obtain ⟨l, rfl⟩ : ∃ u : Int, u = l_ := ⟨l_, rfl⟩
        simp only [List.cons_append, List.nil_append, List.map_cons, List.map_nil, List.cons.injEq, and_true] at hq
        have vl := h.val lo
        rw [hq, RepX.int_iff] at vl
        cases hb : decide (0 ≤ l ∧ l ≤ (s.size : Int)) <;> rw [hb] at hk
        · cases hk
        · have hb' : 0 ≤ l ∧ l ≤ (s.size : Int) := by simpa using hb
          refine ⟨_, _, _, hk, OpWp.same h (val := .string (s.extract l.toNat s.size)) (run _ _ ?_) (RepX.str_iff.2 rfl)⟩
          rw [hat, hx]
          simp [Instr.slice, run_underlying hu, Instr.sliceBounds, vl, run_sliceBound w kl l s.size .sliceB hb'.1 hb'.2]
      all_goals contradiction
    case none.some.none hi =>
      split at hk
      case h_2 =>
        rename_i kh h_ _ _ _ hq
        obtain ⟨h', rfl⟩ : ∃ u : Int, u = h_ := ⟨h_, rfl⟩
        simp only [List.cons_append, List.nil_append, List.map_cons, List.map_nil, List.cons.injEq, and_true] at hq
        have vh := h.val hi
        rw [hq, RepX.int_iff] at vh
        cases hb : decide (0 ≤ h' ∧ h' ≤ (s.size : Int)) <;> rw [hb] at hk
        · cases hk
        · have hb' : 0 ≤ h' ∧ h' ≤ (s.size : Int) := by simpa using hb
          refine ⟨_, _, _, hk, OpWp.same h (val := .string (s.extract 0 h'.toNat)) (run _ _ ?_) (RepX.str_iff.2 rfl)⟩
          rw [hat, hx]
          simp [Instr.slice, run_underlying hu, Instr.sliceBounds, vh, run_sliceBound w kh h' s.size _ hb'.1 hb'.2]
      all_goals contradiction
    case some.some.none lo hi =>
      split at hk
      case h_3 =>
        rename_i kl l_ kh h_ _ _ _ hq
        obtain ⟨l, rfl⟩ : ∃ u : Int, u = l_ := ⟨l_, rfl⟩
        obtain ⟨h', rfl⟩ : ∃ u : Int, u = h_ := ⟨h_, rfl⟩
        simp only [List.cons_append, List.nil_append, List.map_cons, List.map_nil, List.cons.injEq, and_true] at hq
        obtain ⟨ql, qh⟩ := hq
        have vl := h.val lo
        rw [ql, RepX.int_iff] at vl
        have vh := h.val hi
        rw [qh, RepX.int_iff] at vh
        cases hb : decide (0 ≤ h' ∧ h' ≤ (s.size : Int)) <;> rw [hb] at hk
        · cases hk
        · have hb' : 0 ≤ h' ∧ h' ≤ (s.size : Int) := by simpa using hb
          try simp only [cond_true] at hk
          cases hc' : decide (0 ≤ l ∧ l ≤ h') <;> rw [hc'] at hk
          · cases hk
          have hb2 : 0 ≤ l ∧ l ≤ h' := by simpa using hc'
          refine ⟨_, _, _, hk, OpWp.same h (val := .string (s.extract l.toNat h'.toNat)) (run _ _ ?_) (RepX.str_iff.2 rfl)⟩
          rw [hat, hx]
          simp [Instr.slice, run_underlying hu, Instr.sliceBounds, vl, vh, run_sliceBound w kh h' s.size _ hb'.1 hb'.2, run_sliceBound w kl l h'.toNat _ hb2.1 (by omega)]
      all_goals contradiction
    all_goals first | contradiction | (split at hk <;> contradiction)
  · cases hk

end
end Go.Proofs.Ytgickaihlebgmaa.V

/-
  What the evaluator tells is so: operations that only reckon.
  It speaks of whatever program; no condition.
-/
import Derived.Test.YtgickaihlebgmaaV6
import Derived.Laws.Slices
namespace Go.Proofs.Ytgickaihlebgmaa.V
open Go
set_option linter.unusedVariables false
set_option linter.unusedSimpArgs false

section
variable {g : Ghost} {w : World} {dh : Nat} {κ : Key}
theorem RepX.int_iff {k : IntKind} {n : Int} {v : Value} : RepX g w dh κ (.d (.int k) n) v ↔ v = .int k n := by
  simp [RepX, RepC, IsVal, Ty.isAgg, eq_comm]
theorem RepX.bool_iff {b : Bool} {v : Value} : RepX g w dh κ (.d .bool b) v ↔ v = .bool b := by
  simp [RepX, RepC, IsVal, Ty.isAgg, eq_comm]
theorem RepX.str_iff {s : ByteArray} {v : Value} : RepX g w dh κ (.d .str s) v ↔ v = .string s := by
  simp [RepX, RepC, IsVal, Ty.isAgg, eq_comm]
end

theorem run_eqGuard {P : Program} (op : BinOp) (t : TypeId) (x y : Operand) (u v : Value) (w : World) (h : (u.oneCell' = true ∧ u ≠ .nilIface) ∨ (v.oneCell' = true ∧ v ≠ .nilIface)) :
    (eqGuard op t x y u v).run P w = .ok () w := by
  unfold eqGuard
  cases op
  case eql => cases u <;> cases v <;> first | (exfalso; rcases h with ⟨h1, h2⟩ | ⟨h1, h2⟩ <;> first | exact h2 rfl | cases h1; done) | rfl
  case neq => cases u <;> cases v <;> first | (exfalso; rcases h with ⟨h1, h2⟩ | ⟨h1, h2⟩ <;> first | exact h2 rfl | cases h1; done) | rfl
  all_goals rfl

/-- A value's one cell. -/
theorem tyRun_bool {P : Program} {t : TypeId} (h : P.underlying t = some .bool) (x y : Bool) (w : World) : (Op.equal t (.bool x) (.bool y)).run P w = .ok (x == y) w := by
  have key : ∀ n, (Op.equalIn (n + 1) t (.bool x) (.bool y)).run P w = .ok (x == y) w := fun n => by simp [Op.equalIn, run_underlying h]
  exact key 9999

theorem bin_sound {P : Program} {C : Ctx} (hC : TysOk P C.tys) {R : Type} {g w} {dh : Nat} {κ1 κ2 : Key} (op : BinOp) (T : Nat) (xo yo : Operand) (x y : X) (vx vy : Value) (k : X → Option R) (r : R)
    (hx : RepX g w dh κ1 x vx) (hy : RepX g w dh κ2 y vy) (hT : binTy C op T x y = true) (hk : binK Ar.real op x y k = some r) :
    ∃ v val, k v = some r ∧ (do eqGuard op T xo yo vx vy; binOp op T vx vy : Sem Value).run P w = .ok val w ∧ ∀ κ, RepX g w dh κ v val := by
  unfold binK Ar.real at hk
  dsimp only at hk
  split at hk
  · rename_i ka a kb b
    rw [RepX.int_iff] at hx hy
    subst hx; subst hy
    have hg := run_eqGuard (P := P) op T xo yo (.int ka a) (.int kb b) w (.inl ⟨rfl, by simp⟩)
    have hkk : op = .shl ∨ op = .shr ∨ ka = kb := by
      by_cases hkk : ka = kb
      · exact .inr (.inr hkk)
      · cases op <;> first | exact .inl rfl | exact .inr (.inl rfl) | (simp only [if_neg hkk] at hk; cases hk)
    cases op
    case shl =>
      simp only [] at hk
      cases hb : decide (0 ≤ b) <;> rw [hb] at hk
      · cases hk
      · refine ⟨_, _, hk, ?_, fun κ => RepX.int_iff.2 rfl⟩
        have hb' : ¬ b < 0 := by simpa using hb
        simp [hg, binOp, Op.shift, hb']
    case shr =>
      simp only [] at hk
      cases hb : decide (0 ≤ b) <;> rw [hb] at hk
      · cases hk
      · refine ⟨_, _, hk, ?_, fun κ => RepX.int_iff.2 rfl⟩
        have hb' : ¬ b < 0 := by simpa using hb
        simp [hg, binOp, Op.shift, hb']
    case quo =>
      obtain rfl : ka = kb := by rcases hkk with h | h | h <;> first | exact h | cases h
      simp only [if_true] at hk
      cases hb : decide (b = 0) <;> rw [hb] at hk
      · refine ⟨_, _, hk, ?_, fun κ => RepX.int_iff.2 rfl⟩
        have hb' : ¬ b = 0 := by simpa using hb
        simp [hg, binOp, Op.intDiv, hb']
      · cases hk
    case rem =>
      obtain rfl : ka = kb := by rcases hkk with h | h | h <;> first | exact h | cases h
      simp only [if_true] at hk
      cases hb : decide (b = 0) <;> rw [hb] at hk
      · refine ⟨_, _, hk, ?_, fun κ => RepX.int_iff.2 rfl⟩
        have hb' : ¬ b = 0 := by simpa using hb
        simp [hg, binOp, Op.intDiv, hb']
      · cases hk
    all_goals
      obtain rfl : ka = kb := by rcases hkk with h | h | h <;> first | exact h | cases h
    all_goals simp only [if_true] at hk
    all_goals first
      | (cases hk; done)
      | (refine ⟨_, _, hk, ?_, fun κ => RepX.int_iff.2 rfl⟩; simp [hg, binOp, Op.intArith, Op.intBits]; done)
      | (refine ⟨_, _, hk, ?_, fun κ => RepX.bool_iff.2 rfl⟩; simp [hg, binOp, Op.intCmp]; done)
  · rename_i a b
    rw [RepX.str_iff] at hx hy
    subst hx; subst hy
    have hg := run_eqGuard (P := P) op T xo yo (.string a) (.string b) w (.inl ⟨rfl, by simp⟩)
    cases op <;> simp only [] at hk
    case add =>
      cases hb : decide (a.size + b.size ≤ 9223372036854775807) <;> rw [hb] at hk
      · cases hk
      · refine ⟨_, _, hk, ?_, fun κ => RepX.str_iff.2 rfl⟩
        have hb' : a.size + b.size ≤ 9223372036854775807 := by simpa using hb
        have hb2 : ¬ (((a.size + b.size : Nat) : Int) > IntKind.i64.max) := by
          have : IntKind.i64.max = 9223372036854775807 := by decide
          rw [this]; omega
        simp only [Sem.run_bind, hg, Result.andThen_ok, binOp, Op.stringOp, if_neg hb2]
        rfl
    all_goals first
      | (cases hk; done)
      | (refine ⟨_, _, hk, ?_, fun κ => RepX.bool_iff.2 rfl⟩; simp [hg, binOp, Op.stringOp]; done)
  · rename_i a b
    rw [RepX.bool_iff] at hx hy
    subst hx; subst hy
    have hg := run_eqGuard (P := P) op T xo yo (.bool a) (.bool b) w (.inl ⟨rfl, by simp⟩)
    have ht : P.underlying T = some .bool := by
      simp only [binTy] at hT
      split at hT
      · rename_i e1 e2 e3 he
        exact tyB_bool (Ctx.ty_ok hC he).1
      · cases hT
    have hq := tyRun_bool ht a b w
    cases op <;> simp only [] at hk
    all_goals first
      | (cases hk; done)
      | (refine ⟨_, _, hk, ?_, fun κ => RepX.bool_iff.2 rfl⟩; simp [hg, binOp, hq]; done)
  · rename_i e xs nl own
    simp only [RepX] at hx hy
    obtain ⟨b0, c0, rfl, h2, h3, h4, h5⟩ := hx
    subst hy
    have hg := run_eqGuard (P := P) op T xo yo (.slice b0 xs.length c0) (.slice none 0 0) w (.inl ⟨rfl, by simp⟩)
    have ht : ∃ ei, P.underlying T = some (.slice ei) := by
      simp only [binTy] at hT
      split at hT
      · rename_i e1 e2 e3 e4 he
        obtain ⟨ei, h, _⟩ := tyB_slice (Ctx.ty_ok hC he).1
        exact ⟨ei, h⟩
      · cases hT
    obtain ⟨ei, ht⟩ := ht
    have hq : (Op.equal T (.slice b0 xs.length c0) (.slice none 0 0)).run P w = .ok nl w := by
      rw [← h4 nl rfl]
      have key : ∀ n, (Op.equalIn (n + 1) T (.slice b0 xs.length c0) (.slice none 0 0)).run P w = .ok b0.isNone w := fun n => by
        cases b0 <;> simp [Op.equalIn, run_underlying ht]
      exact key 9999
    cases op <;> simp only [] at hk
    all_goals first
      | (cases hk; done)
      | (refine ⟨_, _, hk, ?_, fun κ => RepX.bool_iff.2 rfl⟩; simp [hg, binOp, hq]; done)
  · cases hk

theorem un_sound {P : Program} {g w} {dh : Nat} {κ1 : Key} (op : UnOp) (x v : X) (vx : Value) (hx : RepX g w dh κ1 x vx) (hk : unK Ar.real op x = some v) :
    ∃ val, (Op.unary op vx).run P w = .ok val w ∧ ∀ κ, RepX g w dh κ v val := by
  unfold unK Ar.real at hk
  dsimp only at hk
  split at hk
  · rw [RepX.int_iff] at hx; subst hx; cases hk
    exact ⟨_, by simp [Op.unary, Op.intArith], fun κ => RepX.int_iff.2 rfl⟩
  · rw [RepX.int_iff] at hx; subst hx; cases hk
    exact ⟨_, by simp [Op.unary, Op.intBits], fun κ => RepX.int_iff.2 rfl⟩
  · rw [RepX.bool_iff] at hx; subst hx; cases hk
    exact ⟨_, by simp [Op.unary], fun κ => RepX.bool_iff.2 rfl⟩
  · cases hk

/-- What an operation owes: the evaluator has come through it. -/
def CoreOk (P : Program) (C : Ctx) (o : Oper) : Prop :=
  ∀ {R : Type} (tr : Bool) {g w} {d dh : Nat} {st : St} {a : Act} (h : Fr g w d dh st a) (k : X → List Bool → Hp → Option R) (r : R),
    coreK C tr o (o.op.operands.toList.map st.val) st.H k = some r → ∃ v cons H', k v cons H' = some r ∧ OpWp P g w d dh o a v cons H'

section
variable {P : Program} {C : Ctx} {dst : Option Nat} {ty : Nat} {pos : String} {af : Array Edge} {gd : Option (Nat × Bool)}

theorem core_move (x : Operand) : CoreOk P C ⟨dst, .move x, ty, pos, af, gd⟩ := by
  intro R tr g w d dh st a h k r hk
  have hr : (execOp a.eval ⟨dst, .move x, ty, pos, af, gd⟩).run P w = .ok (.value (a.eval x)) w := by simp [execOp]
  cases tr with
  | true => exact ⟨_, _, _, hk, OpWp.take h hr rfl⟩
  | false => exact ⟨_, _, _, hk, OpWp.same h hr (typed_rep (h.val x)).unown'⟩

theorem core_assign (x : Operand) : CoreOk P C ⟨dst, .assign x, ty, pos, af, gd⟩ := by
  intro R tr g w d dh st a h k r hk
  have hr : (execOp a.eval ⟨dst, .assign x, ty, pos, af, gd⟩).run P w = .ok (.value (a.eval x)) w := by simp [execOp]
  exact ⟨_, _, _, hk, OpWp.take h hr rfl⟩

theorem core_pick (c x y : Operand) : CoreOk P C ⟨dst, .pick c x y, ty, pos, af, gd⟩ := by
  intro R tr g w d dh st a h k r hk
  have hk' : (match st.val c with
    | .d .bool c => bif c then k (typed C ty (st.val x)).unown [] st.H else k (typed C ty (st.val y)).unown [] st.H
    | _ => none) = some r := hk
  split at hk'
  · rename_i b hb
    have hc := h.val c
    rw [hb, RepX.bool_iff] at hc
    cases b with
    | true =>
      refine ⟨_, _, _, hk', OpWp.same h (val := a.eval x) ?_ (typed_rep (h.val x)).unown'⟩
      (show Sem.run P (do pure (.value (if ← asBool (a.eval c) then a.eval x else a.eval y)) : Sem Next) w = _; rw [hc]; rfl)
    | false =>
      refine ⟨_, _, _, hk', OpWp.same h (val := a.eval y) ?_ (typed_rep (h.val y)).unown'⟩
      (show Sem.run P (do pure (.value (if ← asBool (a.eval c) then a.eval x else a.eval y)) : Sem Next) w = _; rw [hc]; rfl)
  · cases hk'

theorem core_binOp (hA : C.A = Ar.real) (hC : TysOk P C.tys) (op : BinOp) (T U : Nat) (x y : Operand) : CoreOk P C ⟨dst, .binOp op T x y U, ty, pos, af, gd⟩ := by
  intro R tr g w d dh st a h k r hk
  have hk' : (if binTy C op T (st.val x) (st.val y) then binK Ar.real op (st.val x) (st.val y) fun v => k v [] st.H else none) = some r := hA ▸ hk
  split at hk'
  · rename_i hT
    obtain ⟨v, val, h1, h2, h3⟩ := bin_sound hC op T x y _ _ _ _ _ r (h.val x) (h.val y) hT hk'
    refine ⟨v, [], st.H, h1, OpWp.same h (val := val) ?_ (h3 _)⟩
    have : (execOp a.eval ⟨dst, .binOp op T x y U, ty, pos, af, gd⟩) = (do pure (.value (← (do eqGuard op T x y (a.eval x) (a.eval y); binOp op T (a.eval x) (a.eval y) : Sem Value))) : Sem Next) := rfl
    rw [this, Sem.run_bind, h2]
    rfl
  · cases hk'

theorem core_unOp (hA : C.A = Ar.real) (op : UnOp) (T : Nat) (x : Operand) : CoreOk P C ⟨dst, .unOp op T x, ty, pos, af, gd⟩ := by
  intro R tr g w d dh st a h k r hk
  have hk' : (match unK Ar.real op (st.val x) with
    | some v => k v [] st.H
    | none => none) = some r := hA ▸ hk
  split at hk'
  · rename_i v hv
    obtain ⟨val, h1, h2⟩ := un_sound (P := P) op _ v _ (h.val x) hv
    refine ⟨_, _, _, hk', OpWp.same h (val := val) ?_ (h2 _)⟩
    simp [execOp, h1]
  · cases hk'

theorem core_nilCheck (x : Operand) : CoreOk P C ⟨dst, .nilCheck x, ty, pos, af, gd⟩ := by
  intro R tr g w d dh st a h k r hk
  have hk' : (match st.val x with
    | .ptr id p => k (.ptr id p) [] st.H
    | .cp t v => k (.cp t v) [] st.H
    | .fn f a b => k (.fn f a b) [] st.H
    | _ => none) = some r := hk
  have hx := h.val x
  split at hk'
  · rename_i id p e
    rw [e] at hx
    refine ⟨_, _, _, hk', OpWp.same h (val := a.eval x) ?_ (by simpa only [RepX] using hx)⟩
    simp only [RepX] at hx
    obtain ⟨_, _, _, _, hv⟩ := hx
    simp [execOp, hv]
  · rename_i t v e
    rw [e] at hx
    refine ⟨_, _, _, hk', OpWp.same h (val := a.eval x) ?_ (by simpa only [RepX] using hx)⟩
    simp only [RepX] at hx
    obtain ⟨_, _, hv, _⟩ := hx
    simp [execOp, hv]
  · rename_i f b c e
    rw [e] at hx
    refine ⟨_, _, _, hk', OpWp.same h (val := a.eval x) ?_ (by simpa only [RepX] using hx)⟩
    simp only [RepX] at hx
    obtain ⟨_, _, hv, _⟩ := hx
    simp [execOp, hv]
  · cases hk'

theorem RepXs.get {g w} {dh : Nat} : ∀ (xs : List X) (vs : List Value) (j : Nat) (x : X), RepXs g w dh xs vs → xs[j]? = some x → ∃ v, vs[j]? = some v ∧ RepX g w dh .no x v
  | [], _, _, _, _, e => by simp at e
  | x :: xs, vs, 0, y, h, e => by
    simp only [RepXs] at h
    obtain ⟨v, us, rfl, h1, h2⟩ := h
    simp at e; subst e
    exact ⟨v, rfl, h1⟩
  | x :: xs, vs, j + 1, y, h, e => by
    simp only [RepXs] at h
    obtain ⟨v, us, rfl, h1, h2⟩ := h
    obtain ⟨u, e1, e2⟩ := RepXs.get xs us j y h2 (by simpa using e)
    exact ⟨u, by simpa using e1, e2⟩

theorem core_extract (x : Operand) (j : Nat) : CoreOk P C ⟨dst, .extract x j, ty, pos, af, gd⟩ := by
  intro R tr g w d dh st a h k r hk
  have hk' : (match st.val x with
    | .tup xs => match xs[j]? with
      | some y => k y.unown [] st.H
      | none => none
    | _ => none) = some r := hk
  have hx := h.val x
  split at hk'
  · rename_i xs e
    rw [e] at hx
    simp only [RepX] at hx
    obtain ⟨vs, hv, hs⟩ := hx
    split at hk'
    · rename_i y ey
      obtain ⟨v, e1, e2⟩ := RepXs.get xs vs j y hs ey
      refine ⟨_, _, _, hk', OpWp.same h (val := v) ?_ e2.unown'⟩
      simp [execOp, Instr.extract, hv, e1]
    · cases hk'
  · cases hk'

end
end Go.Proofs.Ytgickaihlebgmaa.V

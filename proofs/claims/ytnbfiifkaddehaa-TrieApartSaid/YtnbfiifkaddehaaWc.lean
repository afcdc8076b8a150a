/-
  What the evaluator tells is so: operations that reckon, parts, literals.
  It speaks of whatever program; no condition.
-/
import Derived.Test.YtnbfiifkaddehaaWb
import Derived.Laws.Slices
import Derived.Laws.StructEq
import Derived.ChangeKeysEq

/- What the evaluator tells is so: operations that only reckon. -/
namespace Go.Proofs.Ytnbfiifkaddehaa.V
open Go
set_option linter.unusedVariables false
set_option linter.unusedSimpArgs false

section
variable {g : Ghost} {w : World} {dh : Nat} {κ : Key}
theorem RepX.int_iff {k : IntKind} {n : Int} {v : Value} : RepX g w dh κ (.d (.int k) n) v ↔ v = .int k n := by
  simp [RepX, RepC, IsVal, Ty.isAgg, eq_comm]
theorem RepX.bool_iff {b : Bool} {v : Value} : RepX g w dh κ (.d .bool b) v ↔ v = .bool b := by
  simp [RepX, RepC, IsVal, Ty.isAgg, eq_comm]
theorem RepX.str_iff {s : ByteArray} {v : Value} : RepX g w dh κ (.d .str s) v ↔ v = .string s := by
  simp [RepX, RepC, IsVal, Ty.isAgg, eq_comm]
end

theorem run_eqGuard {P : Program} (op : BinOp) (t : TypeId) (x y : Operand) (u v : Value) (w : World) (h : (u.oneCell' = true ∧ u ≠ .nilIface) ∨ (v.oneCell' = true ∧ v ≠ .nilIface)) :
    (eqGuard op t x y u v).run P w = .ok () w := by
  unfold eqGuard
  cases op
  case eql => cases u <;> cases v <;> first | (exfalso; rcases h with ⟨h1, h2⟩ | ⟨h1, h2⟩ <;> first | exact h2 rfl | cases h1; done) | rfl
  case neq => cases u <;> cases v <;> first | (exfalso; rcases h with ⟨h1, h2⟩ | ⟨h1, h2⟩ <;> first | exact h2 rfl | cases h1; done) | rfl
  all_goals rfl

/-- A value's one cell. -/
theorem tyRun_bool {P : Program} {t : TypeId} (h : P.underlying t = some .bool) (x y : Bool) (w : World) : (Op.equal t (.bool x) (.bool y)).run P w = .ok (x == y) w := by
  have key : ∀ n, (Op.equalIn (n + 1) t (.bool x) (.bool y)).run P w = .ok (x == y) w := fun n => by simp [Op.equalIn, run_underlying h]
  exact key 9999

section
variable {P : Program}
theorem getElem?_mid {α : Type} (pre mid post : List α) (j : Nat) (h : j < mid.length) : (pre ++ mid ++ post)[pre.length + j]? = mid[j]? := by
  rw [List.append_assoc, List.getElem?_append_right (by omega)]
  rw [show pre.length + j - pre.length = j by omega, List.getElem?_append_left h]

/-- A part of an aggregate. -/
theorem part_run {g w} {t : Ty} {x : t.den} {T : Nat} {pre mid post : List Value} (ht : tyB P t T = true) (h : RepC w g t x mid) :
    (part T (pre ++ mid ++ post).toArray pre.length).run P w = .ok (valOf t mid) w := by
  obtain ⟨inf, z, hi, hs, _, _⟩ := tyB_info ht
  have hl := RepC.length t x mid h
  cases t
  case struct c =>
    obtain ⟨fs, hu, _⟩ := tyB_struct ht
    simp only [Go.part, isAgg, Sem.run_bind, run_underlying hu, Result.andThen_ok, Sem.run_pure, if_true, sizeOf, typeInfo, run_program, hi, valOf, Ty.isAgg]
    congr 2
    rw [hs, ← hl]
    apply Array.ext'
    simp
  case arr n e =>
    obtain ⟨ei, hu, _⟩ := tyB_arr ht
    simp only [Go.part, isAgg, Sem.run_bind, run_underlying hu, Result.andThen_ok, Sem.run_pure, if_true, sizeOf, typeInfo, run_program, hi, valOf, Ty.isAgg]
    congr 2
    rw [hs, ← hl]
    apply Array.ext'
    simp
  case unit => simp [tyB] at ht
  case prod a b => simp [tyB] at ht
  all_goals
    simp only [Ty.size] at hl
    match mid, hl with
    | [v], _ =>
      have hv : (pre ++ [v] ++ post).toArray[pre.length]? = some v := by simp
      have hu : ∃ d, P.underlying T = some d ∧ (∀ fs, d ≠ .struct fs) ∧ (∀ n e, d ≠ .array n e) := by
        first
          | exact ⟨_, tyB_int ht, by simp, by simp⟩
          | exact ⟨_, tyB_bool ht, by simp, by simp⟩
          | exact ⟨_, tyB_str ht, by simp, by simp⟩
          | (obtain ⟨ei, hu, _⟩ := tyB_slice ht; exact ⟨_, hu, by simp, by simp⟩)
          | (obtain ⟨ei, hu⟩ := tyB_err ht; exact ⟨_, hu, by simp, by simp⟩)
          | (simp only [tyB, Bool.and_eq_true] at ht
             obtain ⟨_, ht⟩ := ht
             split at ht <;> first | (cases ht; done) | exact ⟨_, by assumption, by assumption, by assumption⟩)
      obtain ⟨d, hu, h1, h2⟩ := hu
      have hag : (isAgg T).run P w = .ok false w := by
        simp only [isAgg, Sem.run_bind, run_underlying hu, Result.andThen_ok]
        cases d <;> first | rfl | exact absurd rfl (h1 _) | exact absurd rfl (h2 _ _)
      simp only [Go.part, Sem.run_bind, hag, Result.andThen_ok, Bool.false_eq_true, if_false, hv, Sem.run_pure, valOf, Ty.isAgg, List.headD]

end

mutual
/-- Kinds of which each two values can be compared, part by part. -/
def eqB (P : Program) : Ty → Nat → Bool
  | .int _, _ => true
  | .bool, _ => true
  | .str, _ => true
  | .arr _ e, i => match P.underlying i with | some (.array _ ei) => eqB P e ei | _ => false
  | .struct c, i => !P.stoodInHeld i && match P.underlying i with | some (.struct fs) => eqBs P c fs.toList | _ => false
  | _, _ => false
def eqBs (P : Program) : Ty → List Field → Bool
  | .unit, fs => fs.isEmpty
  | .prod a b, fs => match fs with | f :: r => f.name != "_" && (eqB P a f.type && eqBs P b r) | [] => false
  | _, _ => false
end
def Ty.deep : Ty → Nat
  | .arr _ e => e.deep + 1
  | .struct c => c.deep + 1
  | .prod a b => max a.deep b.deep
  | _ => 1
/-- What is to be known of the types whose values are compared. -/
def EOk (P : Program) (C : Ctx) : Prop := ∀ i e, C.E i = true → C.ty i = some e → eqB P e.t i = true ∧ e.t.deep ≤ 10000 ∧ P.eqGuardType P.depth i = false

theorem eq_run {P : Program} {w : World} {g : Ghost} : ∀ t : Ty,
    (∀ (T : Nat) (x y : t.den) (cx cy : List Value), tyB P t T = true → eqB P t T = true → RepC w g t x cx → RepC w g t y cy → ∀ d, t.deep ≤ d → (Op.equalIn d T (valOf t cx) (valOf t cy)).run P w = .ok (eqD t x y) w) ∧
    (∀ (fs : List Field) (off : Nat) (x y : t.den) (px cx py cy : List Value), chB P t fs off = true → eqBs P t fs = true → RepC w g t x cx → RepC w g t y cy → px.length = off → py.length = off → ∀ d, t.deep ≤ d →
      (Op.eqFields d (px ++ cx).toArray (py ++ cy).toArray fs).run P w = .ok (eqD t x y) w) := by
  intro t
  induction t with
  | int k =>
    refine ⟨fun T x y cx cy ht _ hx hy d hd => ?_, fun fs off x y px cx py cy hc => by simp [chB] at hc⟩
    cases hx; cases hy
    obtain ⟨d, rfl⟩ : ∃ d', d = d' + 1 := ⟨d - 1, by simp [Ty.deep] at hd; omega⟩
    exact run_equalIn_int w d T k k x y (tyB_int ht)
  | bool =>
    refine ⟨fun T x y cx cy ht _ hx hy d hd => ?_, fun fs off x y px cx py cy hc => by simp [chB] at hc⟩
    cases hx; cases hy
    obtain ⟨d, rfl⟩ : ∃ d', d = d' + 1 := ⟨d - 1, by simp [Ty.deep] at hd; omega⟩
    exact run_equalIn_bool' w d T x y (tyB_bool ht)
  | str =>
    refine ⟨fun T x y cx cy ht _ hx hy d hd => ?_, fun fs off x y px cx py cy hc => by simp [chB] at hc⟩
    cases hx; cases hy
    obtain ⟨d, rfl⟩ : ∃ d', d = d' + 1 := ⟨d - 1, by simp [Ty.deep] at hd; omega⟩
    exact run_equalIn_string w d T x y (tyB_str ht)
  | any => exact ⟨fun T x y cx cy ht he => by simp [eqB] at he, fun fs off x y px cx py cy hc => by simp [chB] at hc⟩
  | err => exact ⟨fun T x y cx cy ht he => by simp [eqB] at he, fun fs off x y px cx py cy hc => by simp [chB] at hc⟩
  | slice e _ => exact ⟨fun T x y cx cy ht he => by simp [eqB] at he, fun fs off x y px cx py cy hc => by simp [chB] at hc⟩
  | unit =>
    refine ⟨fun T x y cx cy ht he => by simp [eqB] at he, fun fs off x y px cx py cy hc he hx hy _ _ d _ => ?_⟩
    simp only [eqBs, List.isEmpty_iff] at he
    subst he
    rfl
  | prod a b iha ihb =>
    refine ⟨fun T x y cx cy ht he => by simp [eqB] at he, fun fs off x y px cx py cy hc he hx hy hpx hpy d hd => ?_⟩
    cases fs with
    | nil => simp [chB] at hc
    | cons f rest =>
      simp only [chB, eqBs, Bool.and_eq_true, beq_iff_eq, bne_iff_ne] at hc he
      obtain ⟨⟨h1, h2⟩, h3⟩ := hc
      obtain ⟨e1, e2, e3⟩ := he
      obtain ⟨c1, c2, rfl, x1, x2⟩ := hx
      obtain ⟨c3, c4, rfl, y1, y2⟩ := hy
      have hdd : a.deep ≤ d ∧ b.deep ≤ d := by simp only [Ty.deep] at hd; omega
      have p1 := part_run (P := P) (pre := px) (post := c2) h2 x1
      have p2 := part_run (P := P) (pre := py) (post := c4) h2 y1
      rw [List.append_assoc, hpx, ← h1] at p1
      rw [List.append_assoc, hpy, ← h1] at p2
      have q := iha.1 f.type x.1 y.1 c1 c3 h2 e2 x1 y1 d hdd.1
      have l1 := RepC.length _ _ _ x1
      have l3 := RepC.length _ _ _ y1
      have q2 := ihb.2 rest (off + a.size) x.2 y.2 (px ++ c1) c2 (py ++ c3) c4 h3 e3 x2 y2 (by simp [hpx, l1]) (by simp [hpy, l3]) d hdd.2
      rw [List.append_assoc, List.append_assoc] at q2
      simp only [Op.eqFields]
      rw [if_pos e1]
      simp only [Sem.run_bind, p1, p2, q, Result.andThen_ok]
      show _ = Result.ok (eqD a x.1 y.1 && eqD b x.2 y.2) w
      cases eqD a x.1 y.1 with
      | false => simp
      | true => simpa using q2
  | struct c ih =>
    refine ⟨fun T x y cx cy ht he hx hy d hd => ?_, fun fs off x y px cx py cy hc => by simp [chB] at hc⟩
    obtain ⟨fs, hu, hc⟩ := tyB_struct ht
    simp only [eqB, hu, Bool.and_eq_true, Bool.not_eq_true'] at he
    obtain ⟨d, rfl⟩ : ∃ d', d = d' + 1 := ⟨d - 1, by simp [Ty.deep] at hd; omega⟩
    have hf : P.fieldsOf T = fs := by simp [Program.fieldsOf, hu]
    have := ih.2 fs.toList 0 x y [] cx [] cy hc he.2 hx hy rfl rfl d (by simp only [Ty.deep] at hd; omega)
    have e1 : valOf (.struct c) cx = .agg cx.toArray := rfl
    have e2 : valOf (.struct c) cy = .agg cy.toArray := rfl
    rw [e1, e2, run_equalIn_struct w d T _ _ (by rw [hf]; exact hu) he.1, hf]
    exact this
  | arr n e ih =>
    refine ⟨fun T x y cx cy ht he hx hy d hd => ?_, fun fs off x y px cx py cy hc => by simp [chB] at hc⟩
    obtain ⟨ei, hu, hte⟩ := tyB_arr ht
    simp only [eqB, hu] at he
    obtain ⟨d, rfl⟩ : ∃ d', d = d' + 1 := ⟨d - 1, by simp [Ty.deep] at hd; omega⟩
    obtain ⟨inf, z, hi, _⟩ := tyB_info hte
    have hsz := cellsOf_ty hte
    obtain ⟨lx, px⟩ := hx
    obtain ⟨ly, py⟩ := hy
    have e1 : valOf (.arr n e) cx = .agg cx.toArray := rfl
    have e2 : valOf (.arr n e) cy = .agg cy.toArray := rfl
    rw [e1, e2, run_equalIn_array w d _ _ hu hi, hsz]
    have key : ∀ (m k : Nat) (x y : List e.den) (qx cx qy cy : List Value), x.length = m → y.length = m → Parts (RepC w g e) x cx → Parts (RepC w g e) y cy → qx.length = k * e.size → qy.length = k * e.size →
        (Op.eqItems d ei e.size (qx ++ cx).toArray (qy ++ cy).toArray (List.range' k m)).run P w = .ok (eqD.eqL (eqD e) x y) w := by
      intro m
      induction m with
      | zero =>
        intro k x y qx cx qy cy hx hy _ _ _ _
        rw [List.eq_nil_of_length_eq_zero hx, List.eq_nil_of_length_eq_zero hy]
        rfl
      | succ m ihm =>
        intro k x y qx cx qy cy hx hy hpx hpy hqx hqy
        match x, y, hx, hy with
        | x :: xs, y :: ys, hx, hy =>
          obtain ⟨c1, c2, rfl, x1, x2⟩ := hpx
          obtain ⟨c3, c4, rfl, y1, y2⟩ := hpy
          have p1 := part_run (P := P) (pre := qx) (post := c2) hte x1
          have p2 := part_run (P := P) (pre := qy) (post := c4) hte y1
          rw [List.append_assoc, hqx] at p1
          rw [List.append_assoc, hqy] at p2
          have q := ih.1 ei x y c1 c3 hte he x1 y1 d (by simp only [Ty.deep] at hd; omega)
          have l1 := RepC.length _ _ _ x1
          have l3 := RepC.length _ _ _ y1
          have q2 := ihm (k + 1) xs ys (qx ++ c1) c2 (qy ++ c3) c4 (by simpa using hx) (by simpa using hy) x2 y2 (by simp [hqx, l1, Nat.add_mul]) (by simp [hqy, l3, Nat.add_mul])
          rw [List.append_assoc, List.append_assoc] at q2
          rw [List.range'_succ]
          simp only [Op.eqItems, Sem.run_bind, p1, p2, q, Result.andThen_ok]
          show _ = Result.ok (eqD e x y && eqD.eqL (eqD e) xs ys) w
          cases eqD e x y with
          | false => simp
          | true => simpa using q2
    have := key n 0 x y [] cx [] cy lx ly px py (by simp) (by simp)
    rw [← List.range_eq_range'] at this
    exact this

theorem bin_sound {P : Program} {C : Ctx} (hC : TysOk P C.tys) (hE : EOk P C) {R : Type} {g w} {dh : Nat} {κ1 κ2 : Key} (op : BinOp) (T : Nat) (xo yo : Operand) (x y : X) (vx vy : Value) (k : X → Option R) (r : R)
    (hx : RepX g w dh κ1 x vx) (hy : RepX g w dh κ2 y vy) (hT : binTy C op T yo x y = true) (hk : binK Ar.real op x y k = some r) :
    ∃ v val, k v = some r ∧ (do eqGuard op T xo yo vx vy; binOp op T vx vy : Sem Value).run P w = .ok val w ∧ ∀ κ, RepX g w dh κ v val := by
  unfold binK Ar.real at hk
  dsimp only at hk
  split at hk
  · rename_i ka a kb b
    rw [RepX.int_iff] at hx hy
    subst hx; subst hy
    have hg := run_eqGuard (P := P) op T xo yo (.int ka a) (.int kb b) w (.inl ⟨rfl, by simp⟩)
    have hkk : op = .shl ∨ op = .shr ∨ ka = kb := by
      by_cases hkk : ka = kb
      · exact .inr (.inr hkk)
      · cases op <;> first | exact .inl rfl | exact .inr (.inl rfl) | (simp only [if_neg hkk] at hk; cases hk)
    cases op
    case shl =>
      simp only [] at hk
      cases hb : decide (0 ≤ b) <;> rw [hb] at hk
      · cases hk
      · refine ⟨_, _, hk, ?_, fun κ => RepX.int_iff.2 rfl⟩
        have hb' : ¬ b < 0 := by simpa using hb
        simp [hg, binOp, Op.shift, hb']
    case shr =>
      simp only [] at hk
      cases hb : decide (0 ≤ b) <;> rw [hb] at hk
      · cases hk
      · refine ⟨_, _, hk, ?_, fun κ => RepX.int_iff.2 rfl⟩
        have hb' : ¬ b < 0 := by simpa using hb
        simp [hg, binOp, Op.shift, hb']
    case quo =>
      obtain rfl : ka = kb := by rcases hkk with h | h | h <;> first | exact h | cases h
      simp only [if_true] at hk
      cases hb : decide (b = 0) <;> rw [hb] at hk
      · refine ⟨_, _, hk, ?_, fun κ => RepX.int_iff.2 rfl⟩
        have hb' : ¬ b = 0 := by simpa using hb
        simp [hg, binOp, Op.intDiv, hb']
      · cases hk
    case rem =>
      obtain rfl : ka = kb := by rcases hkk with h | h | h <;> first | exact h | cases h
      simp only [if_true] at hk
      cases hb : decide (b = 0) <;> rw [hb] at hk
      · refine ⟨_, _, hk, ?_, fun κ => RepX.int_iff.2 rfl⟩
        have hb' : ¬ b = 0 := by simpa using hb
        simp [hg, binOp, Op.intDiv, hb']
      · cases hk
    all_goals
      obtain rfl : ka = kb := by rcases hkk with h | h | h <;> first | exact h | cases h
    all_goals simp only [if_true] at hk
    all_goals first
      | (cases hk; done)
      | (refine ⟨_, _, hk, ?_, fun κ => RepX.int_iff.2 rfl⟩; simp [hg, binOp, Op.intArith, Op.intBits]; done)
      | (refine ⟨_, _, hk, ?_, fun κ => RepX.bool_iff.2 rfl⟩; simp [hg, binOp, Op.intCmp]; done)
  · rename_i a b
    rw [RepX.str_iff] at hx hy
    subst hx; subst hy
    have hg := run_eqGuard (P := P) op T xo yo (.string a) (.string b) w (.inl ⟨rfl, by simp⟩)
    cases op <;> simp only [] at hk
    case add =>
      cases hb : decide (a.size + b.size ≤ 9223372036854775807) <;> rw [hb] at hk
      · cases hk
      · refine ⟨_, _, hk, ?_, fun κ => RepX.str_iff.2 rfl⟩
        have hb' : a.size + b.size ≤ 9223372036854775807 := by simpa using hb
        have hb2 : ¬ (((a.size + b.size : Nat) : Int) > IntKind.i64.max) := by
          have : IntKind.i64.max = 9223372036854775807 := by decide
          rw [this]; omega
        simp only [Sem.run_bind, hg, Result.andThen_ok, binOp, Op.stringOp, if_neg hb2]
        rfl
    all_goals first
      | (cases hk; done)
      | (refine ⟨_, _, hk, ?_, fun κ => RepX.bool_iff.2 rfl⟩; simp [hg, binOp, Op.stringOp]; done)
  · rename_i a b
    rw [RepX.bool_iff] at hx hy
    subst hx; subst hy
    have hg := run_eqGuard (P := P) op T xo yo (.bool a) (.bool b) w (.inl ⟨rfl, by simp⟩)
    have ht : P.underlying T = some .bool := by
      simp only [binTy] at hT
      split at hT
      · rename_i e1 e2 e3 he
        exact tyB_bool (Ctx.ty_ok hC he).1
      · cases hT
    have hq := tyRun_bool ht a b w
    cases op <;> simp only [] at hk
    all_goals first
      | (cases hk; done)
      | (refine ⟨_, _, hk, ?_, fun κ => RepX.bool_iff.2 rfl⟩; simp [hg, binOp, hq]; done)
  · rename_i e xs nl own
    simp only [RepX] at hx hy
    obtain ⟨b0, c0, rfl, h2, h3, h4, h5⟩ := hx
    subst hy
    have hg := run_eqGuard (P := P) op T xo yo (.slice b0 xs.length c0) (.slice none 0 0) w (.inl ⟨rfl, by simp⟩)
    have ht : ∃ ei, P.underlying T = some (.slice ei) := by
      simp only [binTy] at hT
      split at hT
      · rename_i e1 e2 e3 e4 he
        obtain ⟨ei, h, _⟩ := tyB_slice (Ctx.ty_ok hC he).1
        exact ⟨ei, h⟩
      · cases hT
    obtain ⟨ei, ht⟩ := ht
    have hq : (Op.equal T (.slice b0 xs.length c0) (.slice none 0 0)).run P w = .ok nl w := by
      rw [← h4 nl rfl]
      have key : ∀ n, (Op.equalIn (n + 1) T (.slice b0 xs.length c0) (.slice none 0 0)).run P w = .ok b0.isNone w := fun n => by
        cases b0 <;> simp [Op.equalIn, run_underlying ht]
      exact key 9999
    cases op <;> simp only [] at hk
    all_goals first
      | (cases hk; done)
      | (refine ⟨_, _, hk, ?_, fun κ => RepX.bool_iff.2 rfl⟩; simp [hg, binOp, hq]; done)
  · rename_i e id p off len
    simp only [RepX] at hx hy
    obtain ⟨_, n, o, a0, c0, _, _, _, rfl, _⟩ := hx
    subst hy
    have hg := run_eqGuard (P := P) op T xo yo (.slice (some a0) len c0) (.slice none 0 0) w (.inl ⟨rfl, by simp⟩)
    have ht : ∃ ei, P.underlying T = some (.slice ei) := by
      simp only [binTy] at hT
      split at hT
      · rename_i e1 e2 e3 e4 he
        obtain ⟨ei, h, _⟩ := tyB_slice (Ctx.ty_ok hC he).1
        exact ⟨ei, h⟩
      · cases hT
    obtain ⟨ei, ht⟩ := ht
    have hq : (Op.equal T (.slice (some a0) len c0) (.slice none 0 0)).run P w = .ok false w := by
      have key : ∀ n, (Op.equalIn (n + 1) T (.slice (some a0) len c0) (.slice none 0 0)).run P w = .ok false w := fun n => by
        simp [Op.equalIn, run_underlying ht]
      exact key 9999
    cases op <;> simp only [] at hk
    all_goals first
      | (cases hk; done)
      | (refine ⟨_, _, hk, ?_, fun κ => RepX.bool_iff.2 rfl⟩; simp [hg, binOp, hq]; done)
  · rename_i b
    have hvy : vy = .nilIface := by
      simp only [RepX] at hy
      obtain ⟨cs, ⟨rfl, _⟩, h2⟩ := hy
      simpa [IsVal, Ty.isAgg, eq_comm] using h2
    subst hvy
    have hvx : (b = true ∧ vx = .nilIface) ∨ (b = false ∧ ∃ t p, vx = .iface t p) := by
      simp only [RepX] at hx
      obtain ⟨cs, ⟨v, rfl, h1, h2⟩, h3⟩ := hx
      have : vx = v := by simpa [IsVal, Ty.isAgg, eq_comm] using h3
      subst this
      cases b
      · exact .inr ⟨rfl, h2 rfl⟩
      · exact .inl ⟨rfl, h1 rfl⟩
    have ht : (∃ ms, P.underlying T = some (.interface ms)) ∧ ∃ c, yo = .const c := by
      simp only [binTy] at hT
      split at hT
      · rename_i e1 e2 e3 c he
        exact ⟨tyB_err (Ctx.ty_ok hC he).1, _, rfl⟩
      · cases hT
    obtain ⟨⟨ms, ht⟩, cy, rfl⟩ := ht
    have hq : (Op.equal T vx .nilIface).run P w = .ok b w := by
      have key : ∀ n, (Op.equalIn (n + 1) T vx .nilIface).run P w = .ok b w := fun n => by
        rcases hvx with ⟨rfl, rfl⟩ | ⟨rfl, t, p, rfl⟩ <;> simp [Op.equalIn, run_underlying ht]
      exact key 9999
    have hg : (eqGuard op T xo (.const cy) vx .nilIface).run P w = .ok () w := by
      rcases hvx with ⟨rfl, rfl⟩ | ⟨rfl, t, p, rfl⟩
      · unfold eqGuard
        cases op <;> cases xo <;> rfl
      · exact run_eqGuard (P := P) op T xo (.const cy) (.iface t p) .nilIface w (.inl ⟨rfl, by simp⟩)
    have hb : ∀ op2 : BinOp, op2 = .eql ∨ op2 = .neq → (binOp op2 T vx .nilIface).run P w = .ok (.bool (if op2 = .eql then b else !b)) w := by
      rintro op2 (rfl | rfl)
      · rcases hvx with ⟨rfl, rfl⟩ | ⟨rfl, t, p, rfl⟩ <;> simp [binOp, hq]
      · rcases hvx with ⟨rfl, rfl⟩ | ⟨rfl, t, p, rfl⟩ <;> simp [binOp, hq]
    cases op <;> simp only [] at hk
    case eql =>
      refine ⟨_, _, hk, ?_, fun κ => RepX.bool_iff.2 rfl⟩
      rw [Sem.run_bind, hg, Result.andThen_ok, hb _ (.inl rfl)]
      rfl
    case neq =>
      refine ⟨_, _, hk, ?_, fun κ => RepX.bool_iff.2 rfl⟩
      rw [Sem.run_bind, hg, Result.andThen_ok, hb _ (.inr rfl)]
      rfl
    all_goals cases hk
  · rename_i c xa c' xb
    split at hk
    · rename_i b hb
      obtain ⟨rfl, rfl⟩ := castTo_some hb
      simp only [binTy, Bool.and_eq_true] at hT
      obtain ⟨hT1, hT2⟩ := hT
      split at hT2
      · rename_i c2 e1 e2 e3 he
        have hcc : c2 = c' := by simpa using hT2
        subst hcc
        obtain ⟨q1, q2, q3⟩ := hE _ _ hT1 he
        simp only [RepX] at hx hy
        obtain ⟨cx, x1, x2⟩ := hx
        obtain ⟨cy, y1, y2⟩ := hy
        have ex : vx = .agg cx.toArray := by simpa [IsVal, Ty.isAgg] using x2
        have ey : vy = .agg cy.toArray := by simpa [IsVal, Ty.isAgg] using y2
        have hq := (eq_run (P := P) (w := w) (g := g) (.struct c2)).1 T xa xb cx cy (Ctx.ty_ok hC he).1 q1 x1 y1 10000 q2
        have e4 : valOf (.struct c2) cx = .agg cx.toArray := rfl
        have e5 : valOf (.struct c2) cy = .agg cy.toArray := rfl
        rw [e4, e5] at hq
        subst ex ey
        have hg := run_eqGuard_agg (P := P) w op T xo yo cx.toArray cy.toArray q3
        have e6 : eqD (.struct c2) xa xb = eqD c2 xa xb := by rw [eqD]
        cases op <;> simp only [] at hk
        case eql =>
          refine ⟨_, _, hk, ?_, fun κ => RepX.bool_iff.2 rfl⟩
          rw [Sem.run_bind, hg, Result.andThen_ok, run_eql_struct, hq, Result.andThen_ok, e6]
        case neq =>
          refine ⟨_, _, hk, ?_, fun κ => RepX.bool_iff.2 rfl⟩
          rw [Sem.run_bind, hg, Result.andThen_ok, run_neq_struct, hq, Result.andThen_ok, e6]
        all_goals cases hk
      · cases hT2
    · cases hk
  · cases hk

theorem un_sound {P : Program} {g w} {dh : Nat} {κ1 : Key} (op : UnOp) (x v : X) (vx : Value) (hx : RepX g w dh κ1 x vx) (hk : unK Ar.real op x = some v) :
    ∃ val, (Op.unary op vx).run P w = .ok val w ∧ ∀ κ, RepX g w dh κ v val := by
  unfold unK Ar.real at hk
  dsimp only at hk
  split at hk
  · rw [RepX.int_iff] at hx; subst hx; cases hk
    exact ⟨_, by simp [Op.unary, Op.intArith], fun κ => RepX.int_iff.2 rfl⟩
  · rw [RepX.int_iff] at hx; subst hx; cases hk
    exact ⟨_, by simp [Op.unary, Op.intBits], fun κ => RepX.int_iff.2 rfl⟩
  · rw [RepX.bool_iff] at hx; subst hx; cases hk
    exact ⟨_, by simp [Op.unary], fun κ => RepX.bool_iff.2 rfl⟩
  · cases hk

/-- What an operation owes: the evaluator has come through it. -/
def CoreOk (P : Program) (C : Ctx) (o : Oper) : Prop :=
  ∀ {R : Type} (tr : Bool) {g w} {d dh : Nat} {st : St} {a : Act} (h : Fr g w d dh st a) (k : X → List Bool → Hp → Option R) (r : R),
    coreK C tr o (o.op.operands.toList.map st.val) st.H k = some r → ∃ v cons H', k v cons H' = some r ∧ OpWp P g w d dh o a v cons H'

section
variable {P : Program} {C : Ctx} {dst : Option Nat} {ty : Nat} {pos : String} {af : Array Edge} {gd : Option (Nat × Bool)}

theorem core_move (x : Operand) : CoreOk P C ⟨dst, .move x, ty, pos, af, gd⟩ := by
  intro R tr g w d dh st a h k r hk
  have hr : (execOp a.eval ⟨dst, .move x, ty, pos, af, gd⟩).run P w = .ok (.value (a.eval x)) w := by simp [execOp]
  cases tr with
  | true => exact ⟨_, _, _, hk, OpWp.take h hr rfl⟩
  | false => exact ⟨_, _, _, hk, OpWp.same h hr (typed_rep (h.val x)).unown'⟩

theorem core_assign (x : Operand) : CoreOk P C ⟨dst, .assign x, ty, pos, af, gd⟩ := by
  intro R tr g w d dh st a h k r hk
  have hr : (execOp a.eval ⟨dst, .assign x, ty, pos, af, gd⟩).run P w = .ok (.value (a.eval x)) w := by simp [execOp]
  exact ⟨_, _, _, hk, OpWp.take h hr rfl⟩

theorem core_pick (c x y : Operand) : CoreOk P C ⟨dst, .pick c x y, ty, pos, af, gd⟩ := by
  intro R tr g w d dh st a h k r hk
  have hk' : (match st.val c with
    | .d .bool c => bif c then k (typed C ty (st.val x)).unown [] st.H else k (typed C ty (st.val y)).unown [] st.H
    | _ => none) = some r := hk
  split at hk'
  · rename_i b hb
    have hc := h.val c
    rw [hb, RepX.bool_iff] at hc
    cases b with
    | true =>
      refine ⟨_, _, _, hk', OpWp.same h (val := a.eval x) ?_ (typed_rep (h.val x)).unown'⟩
      (show Sem.run P (do pure (.value (if ← asBool (a.eval c) then a.eval x else a.eval y)) : Sem Next) w = _; rw [hc]; rfl)
    | false =>
      refine ⟨_, _, _, hk', OpWp.same h (val := a.eval y) ?_ (typed_rep (h.val y)).unown'⟩
      (show Sem.run P (do pure (.value (if ← asBool (a.eval c) then a.eval x else a.eval y)) : Sem Next) w = _; rw [hc]; rfl)
  · cases hk'

theorem core_binOp (hA : C.A = Ar.real) (hC : TysOk P C.tys) (hE : EOk P C) (op : BinOp) (T U : Nat) (x y : Operand) : CoreOk P C ⟨dst, .binOp op T x y U, ty, pos, af, gd⟩ := by
  intro R tr g w d dh st a h k r hk
  have hk' : (if binTy C op T y (st.val x) (st.val y) then binK Ar.real op (st.val x) (st.val y) fun v => k v [] st.H else none) = some r := hA ▸ hk
  split at hk'
  · rename_i hT
    obtain ⟨v, val, h1, h2, h3⟩ := bin_sound hC hE op T x y _ _ _ _ _ r (h.val x) (h.val y) hT hk'
    refine ⟨v, [], st.H, h1, OpWp.same h (val := val) ?_ (h3 _)⟩
    have : (execOp a.eval ⟨dst, .binOp op T x y U, ty, pos, af, gd⟩) = (do pure (.value (← (do eqGuard op T x y (a.eval x) (a.eval y); binOp op T (a.eval x) (a.eval y) : Sem Value))) : Sem Next) := rfl
    rw [this, Sem.run_bind, h2]
    rfl
  · cases hk'

theorem core_unOp (hA : C.A = Ar.real) (op : UnOp) (T : Nat) (x : Operand) : CoreOk P C ⟨dst, .unOp op T x, ty, pos, af, gd⟩ := by
  intro R tr g w d dh st a h k r hk
  have hk' : (match unK Ar.real op (st.val x) with
    | some v => k v [] st.H
    | none => none) = some r := hA ▸ hk
  split at hk'
  · rename_i v hv
    obtain ⟨val, h1, h2⟩ := un_sound (P := P) op _ v _ (h.val x) hv
    refine ⟨_, _, _, hk', OpWp.same h (val := val) ?_ (h2 _)⟩
    simp [execOp, h1]
  · cases hk'

theorem core_nilCheck (x : Operand) : CoreOk P C ⟨dst, .nilCheck x, ty, pos, af, gd⟩ := by
  intro R tr g w d dh st a h k r hk
  have hk' : (match st.val x with
    | .ptr id p => k (.ptr id p) [] st.H
    | .cp t v => k (.cp t v) [] st.H
    | .fn f a b => k (.fn f a b) [] st.H
    | _ => none) = some r := hk
  have hx := h.val x
  split at hk'
  · rename_i id p e
    rw [e] at hx
    refine ⟨_, _, _, hk', OpWp.same h (val := a.eval x) ?_ (by simpa only [RepX] using hx)⟩
    simp only [RepX] at hx
    obtain ⟨_, _, _, _, hv⟩ := hx
    simp [execOp, hv]
  · rename_i t v e
    rw [e] at hx
    refine ⟨_, _, _, hk', OpWp.same h (val := a.eval x) ?_ (by simpa only [RepX] using hx)⟩
    simp only [RepX] at hx
    obtain ⟨_, _, hv, _⟩ := hx
    simp [execOp, hv]
  · rename_i f b c e
    rw [e] at hx
    refine ⟨_, _, _, hk', OpWp.same h (val := a.eval x) ?_ (by simpa only [RepX] using hx)⟩
    simp only [RepX] at hx
    obtain ⟨_, _, hv, _⟩ := hx
    simp [execOp, hv]
  · cases hk'

theorem RepXs.get {g w} {dh : Nat} : ∀ (xs : List X) (vs : List Value) (j : Nat) (x : X), RepXs g w dh xs vs → xs[j]? = some x → ∃ v, vs[j]? = some v ∧ RepX g w dh .no x v
  | [], _, _, _, _, e => by simp at e
  | x :: xs, vs, 0, y, h, e => by
    simp only [RepXs] at h
    obtain ⟨v, us, rfl, h1, h2⟩ := h
    simp at e; subst e
    exact ⟨v, rfl, h1⟩
  | x :: xs, vs, j + 1, y, h, e => by
    simp only [RepXs] at h
    obtain ⟨v, us, rfl, h1, h2⟩ := h
    obtain ⟨u, e1, e2⟩ := RepXs.get xs us j y h2 (by simpa using e)
    exact ⟨u, by simpa using e1, e2⟩

theorem core_extract (x : Operand) (j : Nat) : CoreOk P C ⟨dst, .extract x j, ty, pos, af, gd⟩ := by
  intro R tr g w d dh st a h k r hk
  have hk' : (match st.val x with
    | .tup xs => match xs[j]? with
      | some y => k y.unown [] st.H
      | none => none
    | _ => none) = some r := hk
  have hx := h.val x
  split at hk'
  · rename_i xs e
    rw [e] at hx
    simp only [RepX] at hx
    obtain ⟨vs, hv, hs⟩ := hx
    split at hk'
    · rename_i y ey
      obtain ⟨v, e1, e2⟩ := RepXs.get xs vs j y hs ey
      refine ⟨_, _, _, hk', OpWp.same h (val := v) ?_ e2.unown'⟩
      simp [execOp, Instr.extract, hv, e1]
    · cases hk'
  · cases hk'

end
end Go.Proofs.Ytnbfiifkaddehaa.V

/- What the evaluator tells is so: operations that read settled memory. -/
namespace Go.Proofs.Ytnbfiifkaddehaa.V
open Go
set_option linter.unusedVariables false
set_option linter.unusedSimpArgs false

section
variable {P : Program} {C : Ctx} {dst : Option Nat} {ty : Nat} {pos : String} {af : Array Edge} {gd : Option (Nat × Bool)}

theorem RepX.mkX {g w} {dh : Nat} {κ : Key} {t : Ty} {x : t.den} {cs : List Value} {v : Value} (h : RepC w g t x cs) (hv : IsVal t cs v) : RepX g w dh κ (V.mkX t x) v := by
  cases t
  case slice e =>
    obtain ⟨a, c, rfl, h2, h3⟩ := h
    simp only [V.mkX, RepX]
    have : v = .slice a (List.length x) c := by
      unfold IsVal at hv
      simp only [Ty.isAgg, Bool.false_eq_true, if_false, List.cons.injEq, and_true] at hv
      exact hv.symm
    exact ⟨a, c, this, h2, h3, (fun b hb => by cases hb), (fun hb => by cases hb)⟩
  all_goals (simp only [V.mkX, RepX]; exact ⟨cs, h, hv⟩)

theorem core_field (hC : TysOk P C.tys) (S : Nat) (x : Operand) (j : Nat) : CoreOk P C ⟨dst, .field S x j, ty, pos, af, gd⟩ := by
  intro R tr g w d dh st a h k r hk
  have hk' : (match C.ty S, st.val x with
    | some ⟨.struct c, _, _, _⟩, .d (.struct c') v => if c = c' then
        match compAt c' v j with
        | some y => k (mkX y.1 y.2) [] st.H
        | none => none
      else none
    | _, _ => none) = some r := hk
  have hx := h.val x
  split at hk'
  · rename_i c e1 e2 e3 c' v he ev
    split at hk'
    · rename_i hcc
      subst hcc
      split at hk'
      · rename_i y hy
        rw [ev] at hx
        simp only [RepX] at hx
        obtain ⟨cs, h1, h2⟩ := hx
        obtain ⟨fs, hu, hch⟩ := tyB_struct (Ctx.ty_ok hC he).1
        obtain ⟨o, pre, mid, post, f1, rfl, f3, f4⟩ := RepC.comp c v cs j y h1 hy
        obtain ⟨f, g1, g2, g3⟩ := chB_at hch f1
        refine ⟨_, _, _, hk', OpWp.same h (val := valOf y.1 mid) ?_ (RepX.mkX f4 (isVal_valOf f4))⟩
        have hv : a.eval x = .agg (pre ++ mid ++ post).toArray := by simpa [IsVal, Ty.isAgg] using h2
        have hf : fs[j]? = some f := by simpa using g1
        have hp := part_run (P := P) (w := w) (g := g) (pre := pre) (post := post) g3 f4
        have ho : f.offset = pre.length := by rw [g2, f3]; omega
        simp only [execOp, Sem.run_bind, Instr.field, run_underlying hu, Result.andThen_ok, hf, hv, asAgg, Sem.run_pure, ho, hp]
      · cases hk'
    · cases hk'
  · cases hk'

theorem RepX.cp_part {g w} {dh : Nat} {κ : Key} {t : Ty} {y : t.den} {A : Addr} {pre mid post : List Value} (hs : A.spot = none)
    (hc : ∀ j (hj : j < (pre ++ mid ++ post).length), w.cell? ⟨A.block, A.off + j, none⟩ = some (pre ++ mid ++ post)[j] ∧ A.off + j < g.U A.block) (h : RepC w g t y mid) :
    RepX g w dh κ (.cp t y) (.pointer (some ⟨A.block, A.off + pre.length, none⟩)) := by
  simp only [RepX]
  refine ⟨_, mid, rfl, rfl, h, fun j hj => ?_⟩
  obtain ⟨h1, h2⟩ := hc (pre.length + j) (by simp; omega)
  rw [← Nat.add_assoc] at h1 h2
  refine ⟨?_, h2⟩
  rw [h1]
  congr 1
  have := getElem?_mid pre mid post j hj
  rw [List.getElem?_eq_getElem (by simp; omega), List.getElem?_eq_getElem hj] at this
  exact Option.some.inj this

theorem Addr.add_plain (A : Addr) (n : Nat) (h : A.spot = none) : A.add n = ⟨A.block, A.off + n, none⟩ := by
  obtain ⟨b, o, s⟩ := A
  simp only at h
  subst h
  exact Addr.add_lit b o n

theorem pathAt_snoc {j o2 : Nat} {u : Ty} : ∀ (p : List Nat) (t : Ty) (o1 : Nat) (t1 : Ty), pathAt t p = some (o1, t1) → stepAt t1 j = some (o2, u) → pathAt t (p ++ [j]) = some (o1 + o2, u)
  | [], t, o1, t1, e1, e2 => by
    simp only [pathAt, Option.some.injEq, Prod.mk.injEq] at e1
    obtain ⟨rfl, rfl⟩ := e1
    simp [pathAt, e2]
  | i :: p, t, o1, t1, e1, e2 => by
    simp only [pathAt] at e1
    simp only [List.cons_append, pathAt]
    split at e1
    · rename_i o3 t3 e3
      simp only [Option.map_eq_some_iff] at e1
      obtain ⟨⟨o4, t4⟩, e4, e5⟩ := e1
      simp only [Prod.mk.injEq] at e5
      obtain ⟨rfl, rfl⟩ := e5
      simp [pathAt_snoc p t3 o4 t4 e4 e2, Nat.add_assoc]
    · cases e1

theorem core_fieldAddr (hC : TysOk P C.tys) (S : Nat) (x : Operand) (j : Nat) : CoreOk P C ⟨dst, .fieldAddr S x j, ty, pos, af, gd⟩ := by
  intro R tr g w d dh st a h k r hk
  have hk' : (match C.ty S, st.val x with
    | some ⟨.struct c, _, _, _⟩, .cp (.struct c') v => if c = c' then
        match compAt c' v j with
        | some y => if y.1.size = 0 then none else k (.cp y.1 y.2) [] st.H
        | none => none
      else none
    | some ⟨.struct c, _, _, _⟩, .ptr id p => match st.H[id]? with
      | some (t, _) => match typeAt t p, chainAt c j with
        | some (.struct c'), some (_, u) => if c' = c ∧ u.size ≠ 0 then k (.ptr id (p ++ [j])) [] st.H else none
        | _, _ => none
      | none => none
    | _, _ => none) = some r := hk
  have hx := h.val x
  have place : ∀ (f : Field) (u : Ty) (A : Addr) (fsA : Array Field), P.underlying S = some (.struct fsA) → fsA[j]? = some f → tyB P u f.type = true → u.size ≠ 0 → a.eval x = .pointer (some A) → A.spot = none →
      (execOp a.eval ⟨dst, .fieldAddr S x j, ty, pos, af, gd⟩).run P w = .ok (.value (.pointer (some ⟨A.block, A.off + f.offset, none⟩))) w := by
    intro f u A fsA hu hf ht hsz hv hs
    obtain ⟨inf, z, hi, hsi, _, _⟩ := tyB_info ht
    have hfp : (fieldPlace A f).run P w = .ok (A.add f.offset) w := by
      simp only [fieldPlace, sizeOf, typeInfo, Sem.run_bind, run_program, Result.andThen_ok, hi, Sem.run_pure, hsi, if_neg hsz]
    simp only [execOp, Sem.run_bind, Instr.fieldAt, run_underlying hu, Result.andThen_ok, hf, hv, Instr.sureAddr, Sem.run_pure, hfp, Addr.add_plain A _ hs]
  split at hk'
  · rename_i c e1 e2 e3 c' v he ev
    split at hk'
    · rename_i hcc
      subst hcc
      split at hk'
      · rename_i y hy
        split at hk'
        · cases hk'
        · rename_i hsz
          rw [ev] at hx
          simp only [RepX] at hx
          obtain ⟨A, cs, hv, hs, h1, h2⟩ := hx
          obtain ⟨fs, hu, hch⟩ := tyB_struct (Ctx.ty_ok hC he).1
          obtain ⟨o, pre, mid, post, f1, rfl, f3, f4⟩ := RepC.comp c v cs j y h1 hy
          obtain ⟨f, g1, g2, g3⟩ := chB_at hch f1
          have ho : f.offset = pre.length := by rw [g2, f3]; omega
          refine ⟨_, _, _, hk', OpWp.same h (place f y.1 A fs hu (by simpa using g1) g3 hsz hv hs) ?_⟩
          rw [ho]
          exact RepX.cp_part hs h2 f4
      · cases hk'
    · cases hk'
  · rename_i c e1 e2 e3 id p he ev
    split at hk'
    · rename_i t ct hid
      split at hk'
      · rename_i c' o2 u htp hch2
        split at hk'
        · rename_i hcond
          obtain ⟨rfl, hsz⟩ := hcond
          rw [ev] at hx
          simp only [RepX] at hx
          obtain ⟨hN, o1, t1, hp, hv⟩ := hx
          have ht : g.oty dh id = t := (h.heap.2 id t ct hid).1
          rw [ht] at hp
          obtain rfl := typeAt_eq hp htp
          obtain ⟨fs, hu, hch⟩ := tyB_struct (Ctx.ty_ok hC he).1
          obtain ⟨f, g1, g2, g3⟩ := chB_at hch hch2
          refine ⟨_, _, _, hk', OpWp.same h (place f u _ fs hu (by simpa using g1) g3 hsz hv rfl) ?_⟩
          simp only [RepX]
          refine ⟨hN, o1 + o2, u, ?_, by rw [g2]; simp⟩
          rw [ht]
          exact pathAt_snoc p t o1 _ hp (by simpa [stepAt] using hch2)
        · cases hk'
      · cases hk'
    · cases hk'
  · cases hk'

theorem RepX.index {g w} {dh : Nat} {κ κ' : Key} {e : Ty} {xs : List e.den} {nl own v} (h : RepX g w dh κ (.sl e xs nl own) v) {i : Nat} (hi : i < xs.length) :
    ∃ A c cs, v = .slice (some A) xs.length c ∧ A.spot = none ∧ cs.length = e.size ∧ RepC w g e xs[i] cs ∧ RepX g w dh κ' (.cp e (xs.getD i e.zero)) (.pointer (some ⟨A.block, A.off + i * e.size, none⟩)) := by
  simp only [RepX] at h
  obtain ⟨a, c, rfl, h2, h3, _⟩ := h
  obtain ⟨A, cs, rfl, hs, hl, hr, hc⟩ := h3 i hi
  refine ⟨A, c, cs, rfl, hs, hl, hr, ?_⟩
  simp only [RepX]
  refine ⟨_, cs, rfl, rfl, ?_, fun j hj => ?_⟩
  · rw [List.getD_eq_getElem?_getD, List.getElem?_eq_getElem hi]; exact hr
  · have := hc j hj
    simpa [Nat.add_assoc] using this

theorem indexOf_rep {g w} {dh : Nat} {κ : Key} {x : X} {v : Value} {i : Int} (h : RepX g w dh κ x v) (e : indexOf x = some i) : ∃ k, v = .int k i := by
  unfold indexOf at e
  split at e
  · rename_i k n
    cases e
    exact ⟨k, RepX.int_iff.1 h⟩
  · cases e

theorem RepXs.len {g w} {dh : Nat} : ∀ (xs : List X) (vs : List Value), RepXs g w dh xs vs → xs.length = vs.length
  | [], vs, h => by simp only [RepXs] at h; subst h; rfl
  | x :: xs, vs, h => by
    simp only [RepXs] at h
    obtain ⟨v, us, rfl, _, h2⟩ := h
    simp [RepXs.len xs us h2]
theorem RepXs.nth {g w} {dh : Nat} : ∀ (xs : List X) (vs : List Value) (j : Nat) (x : X), RepXs g w dh xs vs → xs[j]? = some x → ∃ v, vs[j]? = some v ∧ RepX g w dh .no x v
  | [], _, _, _, _, e => by simp at e
  | y :: ys, vs, j, x, h, e => by
    simp only [RepXs] at h
    obtain ⟨v, us, rfl, h1, h2⟩ := h
    cases j with
    | zero => simp at e; subst e; exact ⟨v, rfl, h1⟩
    | succ j =>
      obtain ⟨u, k1, k2⟩ := RepXs.nth ys us j x h2 (by simpa using e)
      exact ⟨u, by simpa using k1, k2⟩

theorem core_indexAddr (hC : TysOk P C.tys) (T : Nat) (x ix : Operand) : CoreOk P C ⟨dst, .indexAddr T x ix, ty, pos, af, gd⟩ := by
  intro R tr g w d dh st a h k r hk
  have hk' : (match C.ty T, st.val x, indexOf (st.val ix) with
    | some ⟨.slice e, _, _, _⟩, .sl e' xs _ _, some i => if e = e' then bif decide (0 ≤ i ∧ i < (xs.length : Int)) then k (.cp e' (xs.getD i.toNat e'.zero)) [] st.H else none else none
    | some ⟨.slice .any, _, _, _⟩, .lst l, some i => bif decide (0 ≤ i ∧ i < (l.length : Int)) then k (.cx (l.getD i.toNat .dead)) [] st.H else none
    | some ⟨.slice e, _, _, _⟩, .orf a id len, some i => if e = stT a then bif decide (0 ≤ i ∧ i < (len : Int)) then k (.ptr id [i.toNat]) [] st.H else none else none
    | some ⟨.slice e, _, _, _⟩, .mref e' id p off len, some i => if e = e' then bif decide (0 ≤ i ∧ i < (len : Int)) then k (.ptr id (p ++ [off + i.toNat])) [] st.H else none else none
    | some ⟨.arr n e, _, _, _⟩, .cp (.arr n' e') l, some i => if n = n' ∧ e = e' then bif decide (0 ≤ i ∧ i < (n' : Int)) then k (.cp e' (List.getD l i.toNat e'.zero)) [] st.H else none else none
    | some ⟨.arr n e, _, _, _⟩, .ptr id p, some i => match st.H[id]? with
      | some (t, _) => match typeAt t p with
        | some (.arr n' e') => if n = n' ∧ e = e' then bif decide (0 ≤ i ∧ i < (n' : Int)) then k (.ptr id (p ++ [i.toNat])) [] st.H else none else none
        | _ => none
      | none => none
    | _, _, _ => none) = some r := hk
  have hx := h.val x
  have hix := h.val ix
  split at hk'
  · rename_i e e1 e2 e3 e' xs nl own i he ev ei
    split at hk'
    · rename_i hee
      subst hee
      cases hb : decide (0 ≤ i ∧ i < (xs.length : Int)) <;> rw [hb] at hk'
      · cases hk'
      · have hb' : 0 ≤ i ∧ i < (xs.length : Int) := by simpa using hb
        rw [ev] at hx
        obtain ⟨ki, hki⟩ := indexOf_rep hix ei
        obtain ⟨et, hu, ht, _⟩ := tyB_slice (Ctx.ty_ok hC he).1
        obtain ⟨inf, z, hinf, hsz, _, _⟩ := tyB_info ht
        obtain ⟨A, c, cs, hv, hs, hl, hr, hp⟩ := RepX.index (κ' := kd ⟨dst, .indexAddr T x ix, ty, pos, af, gd⟩ d) hx (i := i.toNat) (by omega)
        refine ⟨_, _, _, hk', OpWp.same h ?_ hp⟩
        have hi2 : (0 ≤ i ∧ i < ((xs.length : Nat) : Int)) := hb'
        simp only [execOp, Sem.run_bind, Instr.indexAt, hki, asIntOf, Sem.run_pure, Result.andThen_ok, run_underlying hu, hv, if_pos hi2, sizeOf, typeInfo, run_program, hinf, hsz, Addr.add_plain A _ hs]
    · cases hk'
  · rename_i e1 e2 e3 l i he ev ei
    cases hb : decide (0 ≤ i ∧ i < (l.length : Int)) <;> rw [hb] at hk'
    · cases hk'
    · have hb' : 0 ≤ i ∧ i < (l.length : Int) := by simpa using hb
      rw [ev] at hx
      simp only [RepX] at hx
      obtain ⟨a0, us, c, hv, hl, hr, hcell⟩ := hx
      have hlen := RepXs.len l us hr
      obtain ⟨ki, hki⟩ := indexOf_rep hix ei
      obtain ⟨et, hu, ht, _⟩ := tyB_slice (Ctx.ty_ok hC he).1
      obtain ⟨inf, z, hinf, hsz, _, _⟩ := tyB_info ht
      have hil : i.toNat < us.length := by omega
      obtain ⟨A, rfl, hs, hc1, hc2⟩ := hcell i.toNat hil
      obtain ⟨u, hu1, hu2⟩ := RepXs.nth l us i.toNat (l.getD i.toNat .dead) hr (by rw [List.getD_eq_getElem?_getD, List.getElem?_eq_getElem (by omega)]; rfl)
      rw [List.getElem?_eq_getElem hil] at hu1
      cases hu1
      refine ⟨_, _, _, hk', OpWp.same h (val := .pointer (some ⟨A.block, A.off + i.toNat, none⟩)) ?_ ?_⟩
      · have hi2 : (0 ≤ i ∧ i < ((us.length : Nat) : Int)) := by omega
        have h1 : Ty.any.size = 1 := rfl
        rw [h1] at hsz
        simp only [execOp, Sem.run_bind, Instr.indexAt, hki, asIntOf, Sem.run_pure, Result.andThen_ok, run_underlying hu, hv, if_pos hi2, sizeOf, typeInfo, run_program, hinf, hsz, Nat.mul_one, Addr.add_plain A _ hs]
      · simp only [RepX]
        exact ⟨_, us[i.toNat], rfl, rfl, hu2, hc1, hc2⟩
  · rename_i e e1 e2 e3 a1 id len i he ev ei
    split at hk'
    · rename_i hee
      subst hee
      cases hb : decide (0 ≤ i ∧ i < (len : Int)) <;> rw [hb] at hk'
      · cases hk'
      · have hb' : 0 ≤ i ∧ i < (len : Int) := by simpa using hb
        rw [ev] at hx
        simp only [RepX] at hx
        obtain ⟨hN, hp, hc, hv⟩ := hx
        obtain ⟨ki, hki⟩ := indexOf_rep hix ei
        obtain ⟨et, hu, ht, _⟩ := tyB_slice (Ctx.ty_ok hC he).1
        obtain ⟨inf, z, hinf, hsz, _, _⟩ := tyB_info ht
        refine ⟨_, _, _, hk', OpWp.same h (val := .pointer (some ⟨g.μ dh id, i.toNat * (stT a1).size, none⟩)) ?_ ?_⟩
        · have hi2 : (0 ≤ i ∧ i < ((len : Nat) : Int)) := hb'
          simp only [execOp, Sem.run_bind, Instr.indexAt, hki, asIntOf, Sem.run_pure, Result.andThen_ok, run_underlying hu, hv, if_pos hi2, sizeOf, typeInfo, run_program, hinf, hsz, Addr.add_lit, Nat.zero_add]
        · simp only [RepX]
          refine ⟨Nat.lt_of_succ_lt hN, _, stT a1, ?_, rfl⟩
          rw [hp]
          simp only [pathAt, stepAt]
          rw [if_pos (by omega)]
          simp
    · cases hk'
  · rename_i e e1 e2 e3 e' id p off len i he ev ei
    split at hk'
    · rename_i hee
      subst hee
      cases hb : decide (0 ≤ i ∧ i < (len : Int)) <;> rw [hb] at hk'
      · cases hk'
      · have hb' : 0 ≤ i ∧ i < (len : Int) := by simpa using hb
        rw [ev] at hx
        simp only [RepX] at hx
        obtain ⟨hN, n, o, a0, c, hp, hn, hc, hv, ha0⟩ := hx
        have ha0 := ha0 (by omega)
        subst ha0
        obtain ⟨ki, hki⟩ := indexOf_rep hix ei
        obtain ⟨et, hu, ht, _⟩ := tyB_slice (Ctx.ty_ok hC he).1
        obtain ⟨inf, z, hinf, hsz, _, _⟩ := tyB_info ht
        refine ⟨_, _, _, hk', OpWp.same h (val := .pointer (some ⟨g.μ dh id, o + (off + i.toNat) * e.size, none⟩)) ?_ ?_⟩
        · have hi2 : (0 ≤ i ∧ i < ((len : Nat) : Int)) := hb'
          simp only [execOp, Sem.run_bind, Instr.indexAt, hki, asIntOf, Sem.run_pure, Result.andThen_ok, run_underlying hu, hv, if_pos hi2, sizeOf, typeInfo, run_program, hinf, hsz, Addr.add_lit]
          rw [Nat.add_mul, Nat.add_assoc]
        · simp only [RepX]
          refine ⟨hN, _, e, ?_, rfl⟩
          exact pathAt_snoc p _ o _ hp (by simp only [stepAt]; rw [if_pos (by omega)])
    · cases hk'
  · rename_i n e e1 e2 e3 n' e' l i he ev ei
    split at hk'
    · rename_i hee
      obtain ⟨rfl, rfl⟩ := hee
      cases hb : decide (0 ≤ i ∧ i < (n : Int)) <;> rw [hb] at hk'
      · cases hk'
      · have hb' : 0 ≤ i ∧ i < (n : Int) := by simpa using hb
        rw [ev] at hx
        simp only [RepX] at hx
        obtain ⟨A, cs, hv, hs, ⟨h1, h2⟩, h3⟩ := hx
        obtain ⟨ki, hki⟩ := indexOf_rep hix ei
        obtain ⟨et, hu, ht⟩ := tyB_arr (Ctx.ty_ok hC he).1
        obtain ⟨inf, z, hinf, hsz, _, _⟩ := tyB_info ht
        have hil : i.toNat < List.length l := by omega
        obtain ⟨pre, mid, post, rfl, f2, f3, _⟩ := Parts.at (RepC.length (w := w) (g := g) e) l cs i.toNat hil h2
        refine ⟨_, _, _, hk', OpWp.same h (val := .pointer (some ⟨A.block, A.off + pre.length, none⟩)) ?_ ?_⟩
        · have hi2 : (0 ≤ i ∧ i < ((n : Nat) : Int)) := hb'
          simp only [execOp, Sem.run_bind, Instr.indexAt, hki, asIntOf, Sem.run_pure, Result.andThen_ok, run_underlying hu, hv, Instr.sureAddr, if_pos hi2, sizeOf, typeInfo, run_program, hinf, hsz, Addr.add_plain A _ hs, f2]
        · refine RepX.cp_part hs h3 ?_
          rw [List.getD_eq_getElem?_getD, List.getElem?_eq_getElem hil]
          exact f3
    · cases hk'
  · rename_i n e e1 e2 e3 id p i he ev ei
    split at hk'
    · rename_i t ct hid
      split at hk'
      · rename_i n' e' htp
        split at hk'
        · rename_i hee
          obtain ⟨rfl, rfl⟩ := hee
          cases hb : decide (0 ≤ i ∧ i < (n : Int)) <;> rw [hb] at hk'
          · cases hk'
          · have hb' : 0 ≤ i ∧ i < (n : Int) := by simpa using hb
            rw [ev] at hx
            simp only [RepX] at hx
            obtain ⟨hN, o1, t1, hp, hv⟩ := hx
            have ht : g.oty dh id = t := (h.heap.2 id t ct hid).1
            rw [ht] at hp
            obtain rfl := typeAt_eq hp htp
            obtain ⟨ki, hki⟩ := indexOf_rep hix ei
            obtain ⟨et, hu, ht'⟩ := tyB_arr (Ctx.ty_ok hC he).1
            obtain ⟨inf, z, hinf, hsz, _, _⟩ := tyB_info ht'
            refine ⟨_, _, _, hk', OpWp.same h (val := .pointer (some ⟨g.μ dh id, o1 + i.toNat * e.size, none⟩)) ?_ ?_⟩
            · have hi2 : (0 ≤ i ∧ i < ((n : Nat) : Int)) := hb'
              simp only [execOp, Sem.run_bind, Instr.indexAt, hki, asIntOf, Sem.run_pure, Result.andThen_ok, run_underlying hu, hv, Instr.sureAddr, if_pos hi2, sizeOf, typeInfo, run_program, hinf, hsz, Addr.add_lit]
            · simp only [RepX]
              refine ⟨hN, _, e, ?_, rfl⟩
              rw [ht]
              exact pathAt_snoc p t o1 _ hp (by simp only [stepAt]; rw [if_pos (by omega)])
        · cases hk'
      · cases hk'
    · cases hk'
  · cases hk'

end
end Go.Proofs.Ytnbfiifkaddehaa.V

/- What the evaluator tells is so: indexes, conversions, slices of slices, lengths. -/
namespace Go.Proofs.Ytnbfiifkaddehaa.V
open Go
set_option linter.unusedVariables false
set_option linter.unusedSimpArgs false

section
variable {P : Program} {C : Ctx} {dst : Option Nat} {ty : Nat} {pos : String} {af : Array Edge} {gd : Option (Nat × Bool)}

theorem bytesOf_getD (s : ByteArray) (i : Nat) (h : i < s.size) : (bytesOf s).getD i 0 = ((s[i]'h).toNat : Int) := by
  have h' : i < s.data.size := h
  rw [bytesOf, List.getD_eq_getElem?_getD, List.getElem?_map, Array.getElem?_toList, Array.getElem?_eq_getElem h']
  rfl

theorem core_index (hC : TysOk P C.tys) (T : Nat) (x ix : Operand) : CoreOk P C ⟨dst, .index T x ix, ty, pos, af, gd⟩ := by
  intro R tr g w d dh st a h k r hk
  have hk' : (match C.ty T, st.val x, indexOf (st.val ix) with
    | some ⟨.arr n e, _, _, _⟩, .d (.arr n' e') l, some i => if n = n' ∧ e = e' then bif decide (0 ≤ i ∧ i < (n' : Int)) then k (mkX e' (List.getD l i.toNat e'.zero)) [] st.H else none else none
    | some ⟨.str, _, _, _⟩, .d .str s, some i => bif decide (0 ≤ i ∧ i < (s.size : Int)) then k (.d (.int .u8) ((bytesOf s).getD i.toNat 0)) [] st.H else none
    | _, _, _ => none) = some r := hk
  have hx := h.val x
  have hix := h.val ix
  split at hk'
  · rename_i n e e1 e2 e3 n' e' l i he ev ei
    split at hk'
    · rename_i hee
      obtain ⟨rfl, rfl⟩ := hee
      cases hb : decide (0 ≤ i ∧ i < (n : Int)) <;> rw [hb] at hk'
      · cases hk'
      · have hb' : 0 ≤ i ∧ i < (n : Int) := by simpa using hb
        rw [ev] at hx
        simp only [RepX] at hx
        obtain ⟨cs, ⟨h1, h2⟩, hv⟩ := hx
        obtain ⟨ki, hki⟩ := indexOf_rep hix ei
        obtain ⟨et, hu, ht⟩ := tyB_arr (Ctx.ty_ok hC he).1
        obtain ⟨inf, z, hinf, hsz, _, _⟩ := tyB_info ht
        have hil : i.toNat < List.length l := by omega
        obtain ⟨pre, mid, post, rfl, f2, f3, _⟩ := Parts.at (RepC.length (w := w) (g := g) e) l cs i.toNat hil h2
        have f3' : RepC w g e (List.getD l i.toNat e.zero) mid := by
          rw [List.getD_eq_getElem?_getD, List.getElem?_eq_getElem hil]
          exact f3
        refine ⟨_, _, _, hk', OpWp.same h (val := valOf e mid) ?_ (RepX.mkX f3' (isVal_valOf f3'))⟩
        have hv' : a.eval x = .agg (pre ++ mid ++ post).toArray := by simpa [IsVal, Ty.isAgg] using hv
        have hp := part_run (P := P) (w := w) (g := g) (pre := pre) (post := post) ht f3'
        have hi2 : (0 ≤ i ∧ i < ((n : Nat) : Int)) := hb'
        simp only [execOp, Sem.run_bind, Instr.index, hki, asIntOf, Sem.run_pure, Result.andThen_ok, run_underlying hu, hv', if_pos hi2, sizeOf, typeInfo, run_program, hinf, hsz, ← f2, hp]
    · cases hk'
  · rename_i e1 e2 e3 s i he ev ei
    cases hb : decide (0 ≤ i ∧ i < (s.size : Int)) <;> rw [hb] at hk'
    · cases hk'
    · have hb' : 0 ≤ i ∧ i < (s.size : Int) := by simpa using hb
      rw [ev, RepX.str_iff] at hx
      obtain ⟨ki, hki⟩ := indexOf_rep hix ei
      have hu := tyB_str (Ctx.ty_ok hC he).1
      have hil : i.toNat < s.size := by omega
      refine ⟨_, _, _, hk', OpWp.same h (val := .int .u8 ((bytesOf s).getD i.toNat 0)) ?_ (RepX.int_iff.2 rfl)⟩
      have hg : (if 0 ≤ i then s[i.toNat]? else none) = some (s[i.toNat]'hil) := by
        rw [if_pos hb'.1]
        exact getElem?_pos s i.toNat hil
      simp only [execOp, Sem.run_bind, Instr.index, hki, asIntOf, Sem.run_pure, Result.andThen_ok, run_underlying hu, hx, hg, bytesOf_getD s _ hil]
  · cases hk'

theorem run_elem {w : World} {T e : Nat} (hu : P.underlying T = some (.slice e)) : P.underlying T = some (.slice (P.elem T)) ∧ P.elem T = e := by
  have : P.elem T = e := by simp [Program.elem, hu]
  exact ⟨by rw [this]; exact hu, this⟩

theorem Run.take {w : World} {g : Ghost} {α : Type} {R : α → List Value → Prop} {size : Nat} {xs : List α} {a : Option Addr} (h : Run w g R size xs a) (n : Nat) : Run w g R size (xs.take n) a := by
  intro i hi
  have hi' : i < xs.length := by simp at hi; omega
  obtain ⟨A, cs, h1, h2, h3, h4, h5⟩ := h i hi'
  exact ⟨A, cs, h1, h2, h3, by simpa using h4, h5⟩

theorem Run.drop {w : World} {g : Ghost} {α : Type} {R : α → List Value → Prop} {size : Nat} {xs : List α} {a : Option Addr} (h : Run w g R size xs a) (n : Nat) : Run w g R size (xs.drop n) (a.map (·.add (n * size))) := by
  intro i hi
  have hi' : n + i < xs.length := by simp at hi; omega
  obtain ⟨A, cs, rfl, h2, h3, h4, h5⟩ := h (n + i) hi'
  refine ⟨A.add (n * size), cs, rfl, by rw [Addr.add_plain A _ h2], h3, by simpa using h4, fun j hj => ?_⟩
  have := h5 j hj
  rw [Addr.add_plain A _ h2]
  simp only []
  rw [Nat.add_mul, show A.off + (n * size + i * size + j) = A.off + n * size + (i * size + j) by omega] at this
  exact this

theorem Run.nil {w : World} {g : Ghost} {α : Type} {R : α → List Value → Prop} {size : Nat} {a : Option Addr} : Run w g R size ([] : List α) a := fun i hi => absurd hi (by simp)

/-- A slice of a slice. -/
theorem RepX.sliced {g w} {dh : Nat} {κ κ' : Key} {e : Ty} {xs : List e.den} {nl own v} (h : RepX g w dh κ (.sl e xs nl own) v) {l n m : Nat} (hl : l ≤ n) (hn : n ≤ xs.length) {a : Option Addr} {c : Nat} (hv : v = .slice a xs.length c) (hm : n ≤ m) (hmc : m ≤ c) :
    RepX g w dh κ' (.sl e ((xs.take n).drop l) nl false) (sliced a l n m e.size) := by
  simp only [RepX] at h ⊢
  obtain ⟨a', c', rfl, h2, h3, h4, h5⟩ := h
  simp only [Value.slice.injEq] at hv
  obtain ⟨rfl, _, rfl⟩ := hv
  have hlen : ((xs.take n).drop l).length = n - l := by simp; omega
  refine ⟨if m = l then a' else a'.map (·.add (l * e.size)), m - l, ?_, by rw [hlen]; omega, ?_, ?_, fun hd => by cases hd⟩
  · rw [hlen]; rfl
  · split
    · rename_i hml
      have : (xs.take n).drop l = [] := by
        apply List.eq_nil_of_length_eq_zero
        rw [hlen]; omega
      rw [this]; exact Run.nil
    · exact (h3.take n).drop l
  · intro b hb
    rw [← h4 b hb]
    split
    · rfl
    · cases a' <;> rfl

/-- A slice of a part of a variable. -/
theorem RepX.msliced {g w} {dh : Nat} {κ κ' : Key} {e : Ty} {id off len : Nat} {p : List Nat} {v : Value} (h : RepX g w dh κ (.mref e id p off len) v) {l n : Nat} (hl : l ≤ n) (hn : n ≤ len) {a : Addr} {c : Nat} (hv : v = .slice (some a) len c) :
    RepX g w dh κ' (.mref e id p (off + l) (n - l)) (Go.sliced (some a) l n c e.size) := by
  simp only [RepX] at h ⊢
  obtain ⟨h1, m, o, a', c', h2, h3, h4, rfl, h6⟩ := h
  simp only [Value.slice.injEq, Option.some.injEq] at hv
  obtain ⟨rfl, _, rfl⟩ := hv
  refine ⟨h1, m, o, if c' = l then a' else a'.add (l * e.size), c' - l, h2, by omega, by omega, ?_, fun hp => ?_⟩
  · unfold Go.sliced
    split <;> rfl
  · rw [if_neg (by omega), h6 (by omega), Addr.add_lit, Nat.add_mul, Nat.add_assoc]

theorem RepXs.take {g w} {dh : Nat} : ∀ (xs : List X) (vs : List Value) (n : Nat), RepXs g w dh xs vs → RepXs g w dh (xs.take n) (vs.take n)
  | [], vs, n, h => by
    simp only [RepXs] at h
    subst h
    simp [RepXs]
  | x :: xs, vs, 0, h => by simp [RepXs]
  | x :: xs, vs, n + 1, h => by
    simp only [RepXs] at h
    obtain ⟨v, us, rfl, h1, h2⟩ := h
    simp only [List.take_succ_cons, RepXs]
    exact ⟨v, us.take n, rfl, h1, RepXs.take xs us n h2⟩

theorem core_slice (hC : TysOk P C.tys) (T : Nat) (x : Operand) (lo hi mx : Option Operand) : CoreOk P C ⟨dst, .slice T x lo hi mx, ty, pos, af, gd⟩ := by
  intro R tr g w d dh st a h k r hk
  have hx := h.val x
  have ops : (⟨dst, .slice T x lo hi mx, ty, pos, af, gd⟩ : Oper).op.operands.toList.map st.val = st.val x :: (lo.toList ++ hi.toList ++ mx.toList).map st.val := by
    cases lo <;> cases hi <;> cases mx <;> simp [Op.operands]
  rw [ops] at hk
  clear ops
  have run : ∀ v w', (Instr.sliceAt T (a.eval x) (lo.map a.eval) (hi.map a.eval) (mx.map a.eval)).run P w = .ok v w' → (execOp a.eval ⟨dst, .slice T x lo hi mx, ty, pos, af, gd⟩).run P w = .ok (.value v) w' := by
    intro v w' hr
    simp only [execOp, Sem.run_bind, hr, Result.andThen_ok, Sem.run_pure]
  unfold coreK at hk
  simp only [] at hk
  split at hk
  · rename_i e0 e1 e2 e3 e id p off len he ev
    rw [ev] at hx
    obtain ⟨et, hu, ht, hpos⟩ := tyB_slice (Ctx.ty_ok hC he).1
    have hee : ∃ a0 c, a.eval x = .slice (some a0) len c ∧ len ≤ c := by
      simp only [RepX] at hx
      obtain ⟨_, n, o, a0, c, _, _, h4, h5, _⟩ := hx
      exact ⟨a0, c, h5, h4⟩
    obtain ⟨a0, c, hv, hc⟩ := hee
    obtain ⟨hu', hel⟩ := run_elem (w := w) hu
    split at hk
    · rename_i hee
      subst hee
      obtain ⟨inf, z, hinf, hsz, _, _⟩ := tyB_info ht
      have hsize : (sizeOf (P.elem T)).run P w = .ok e0.size w := by
        rw [hel]; simp only [sizeOf, typeInfo, Sem.run_bind, run_program, Result.andThen_ok, hinf, Sem.run_pure, hsz]
      have hat : ∀ lo hi mx, (Instr.sliceAt T (a.eval x) lo hi mx).run P w = (Instr.slice T (a.eval x) lo hi mx).run P w := fun lo hi mx => run_sliceAt_slice w T _ lo hi mx hu'
      cases lo <;> cases hi <;> cases mx <;> simp only [Option.isSome_none, Option.isSome_some, Option.toList_none, Option.toList_some, List.nil_append, List.append_nil, List.map_nil, List.map_cons, List.singleton_append, List.cons_append] at hk
      case none.none.none =>
        refine ⟨_, _, _, hk, OpWp.same h (val := sliced (some a0) 0 len c e0.size) (run _ _ ?_) ?_⟩
        · rw [hat, hv]
          simp only [Option.map_none, run_slice_all w T (some a0) len c hu', hsize, Result.andThen_ok]
        · have := RepX.msliced (κ' := kd ⟨dst, .slice T x none none none, ty, pos, af, gd⟩ d) hx (l := 0) (n := len) (Nat.zero_le _) (Nat.le_refl _) hv
          simpa using this
      case some.none.none lo =>
        split at hk
        case h_2 =>
          rename_i kl l_ _ _ _ hq
          obtain ⟨l, rfl⟩ : ∃ u : Int, u = l_ := ⟨l_, rfl⟩
          simp only [List.cons_append, List.nil_append, List.map_cons, List.map_nil, List.cons.injEq, and_true] at hq
          have ql := hq
          have vl := h.val lo
          rw [ql, RepX.int_iff] at vl
          cases hb : decide (0 ≤ l ∧ l ≤ (len : Int)) <;> rw [hb] at hk
          · cases hk
          · have hb' : 0 ≤ l ∧ l ≤ (len : Int) := by simpa using hb
            refine ⟨_, _, _, hk, OpWp.same h (val := sliced (some a0) l.toNat len c e0.size) (run _ _ ?_) ?_⟩
            · rw [hat, hv]
              simp only [Option.map_none, Option.map_some, vl, run_slice_l w T (some a0) len c hu' kl l hb'.1 hb'.2, hsize, Result.andThen_ok]
            · exact RepX.msliced (κ' := kd ⟨dst, .slice T x (some lo) none none, ty, pos, af, gd⟩ d) hx (l := l.toNat) (n := len) (by omega) (by omega) hv
        all_goals contradiction
      case none.some.none hi =>
        split at hk
        case h_3 =>
          rename_i kh h_ _ _ _ hq
          obtain ⟨h', rfl⟩ : ∃ u : Int, u = h_ := ⟨h_, rfl⟩
          simp only [List.cons_append, List.nil_append, List.map_cons, List.map_nil, List.cons.injEq, and_true] at hq
          have qh := hq
          have vh := h.val hi
          rw [qh, RepX.int_iff] at vh
          cases hb : decide (0 ≤ h' ∧ h' ≤ (len : Int)) <;> rw [hb] at hk
          · cases hk
          · have hb' : 0 ≤ h' ∧ h' ≤ (len : Int) := by simpa using hb
            refine ⟨_, _, _, hk, OpWp.same h (val := sliced (some a0) 0 h'.toNat c e0.size) (run _ _ ?_) ?_⟩
            · rw [hat, hv]
              simp only [Option.map_none, Option.map_some, vh, run_slice_h w T (some a0) len c hu' kh h' hb'.1 (by omega), hsize, Result.andThen_ok]
            · have := RepX.msliced (κ' := kd ⟨dst, .slice T x none (some hi) none, ty, pos, af, gd⟩ d) hx (l := 0) (n := h'.toNat) (by omega) (by omega) hv
              simpa using this
        all_goals contradiction
      all_goals first | (cases hk; done) | (split at hk <;> first | contradiction | cases hk)
    · cases hk
  · rename_i n e0 e1 e2 e3 id p he ev
    split at hk
    · rename_i t ct hid
      split at hk
      · rename_i n' e htp
        split at hk
        · rename_i hee
          obtain ⟨rfl, rfl⟩ := hee
          rw [ev] at hx
          simp only [RepX] at hx
          obtain ⟨hN, o1, t1, hp, hv⟩ := hx
          have ht : g.oty dh id = t := (h.heap.2 id t ct hid).1
          rw [ht] at hp
          obtain rfl := typeAt_eq hp htp
          obtain ⟨et, hu, ht'⟩ := tyB_arr (Ctx.ty_ok hC he).1
          obtain ⟨inf, z, hinf, hsz, _, _⟩ := tyB_info ht'
          have hel : P.elem T = et := by simp [Program.elem, hu]
          have hal : P.arrayLen T = n := by simp [Program.arrayLen, hu]
          have hu' : P.underlying T = some (.array (P.arrayLen T) (P.elem T)) := by rw [hel, hal]; exact hu
          have hsize : (sizeOf (P.elem T)).run P w = .ok e0.size w := by
            rw [hel]; simp only [sizeOf, typeInfo, Sem.run_bind, run_program, Result.andThen_ok, hinf, Sem.run_pure, hsz]
          have hres : ∀ κ m, m ≤ n → RepX g w dh κ (.mref e0 id p 0 m) (slicedAt ⟨g.μ dh id, o1, none⟩ 0 m (P.arrayLen T) e0.size) := by
            intro κ m hm
            simp only [RepX, slicedAt]
            refine ⟨hN, n, o1, if P.arrayLen T = 0 then ⟨g.μ dh id, o1, none⟩ else (⟨g.μ dh id, o1, none⟩ : Addr).add (0 * e0.size), P.arrayLen T - 0, by rw [ht]; exact hp, by omega, by rw [hal]; omega, rfl, fun _ => ?_⟩
            split <;> simp [Addr.add_lit]
          cases lo <;> cases hi <;> cases mx <;> simp only [Option.isSome_none, Option.isSome_some, Option.toList_none, Option.toList_some, List.nil_append, List.append_nil, List.map_nil, List.map_cons, List.singleton_append, List.cons_append] at hk
          case none.none.none =>
            refine ⟨_, _, _, hk, OpWp.same h (val := slicedAt ⟨g.μ dh id, o1, none⟩ 0 (P.arrayLen T) (P.arrayLen T) e0.size) (run _ _ ?_) ?_⟩
            · rw [hv]
              simp only [Option.map_none, run_sliceAt_array_all w T ⟨g.μ dh id, o1, none⟩ hu', hsize, Result.andThen_ok]
            · rw [hal]
              have := hres (kd ⟨dst, .slice T x none none none, ty, pos, af, gd⟩ d) n (Nat.le_refl _)
              rw [hal] at this
              exact this
          case none.some.none hi =>
            split at hk
            case h_2 =>
              rename_i kh h_ _ _ _ hq
              obtain ⟨h', rfl⟩ : ∃ u : Int, u = h_ := ⟨h_, rfl⟩
              simp only [List.cons_append, List.nil_append, List.map_cons, List.map_nil, List.cons.injEq, and_true] at hq
              have qh := hq
              have vh := h.val hi
              rw [qh, RepX.int_iff] at vh
              cases hb : decide (0 ≤ h' ∧ h' ≤ (n : Int)) <;> rw [hb] at hk
              · cases hk
              · have hb' : 0 ≤ h' ∧ h' ≤ (n : Int) := by simpa using hb
                refine ⟨_, _, _, hk, OpWp.same h (val := slicedAt ⟨g.μ dh id, o1, none⟩ 0 h'.toNat (P.arrayLen T) e0.size) (run _ _ ?_) ?_⟩
                · rw [hv]
                  simp only [Option.map_none, Option.map_some, vh, run_sliceAt_array_h w T ⟨g.μ dh id, o1, none⟩ hu' kh h' hb'.1 (by rw [hal]; exact hb'.2), hsize, Result.andThen_ok]
                · exact hres _ _ (by omega)
            all_goals contradiction
          all_goals first | (cases hk; done) | (split at hk <;> first | contradiction | cases hk)
        · cases hk
      · cases hk
    · cases hk
  · rename_i e0 e1 e2 e3 e xs nl own he ev
    rw [ev] at hx
    obtain ⟨et, hu, ht, hpos⟩ := tyB_slice (Ctx.ty_ok hC he).1
    have hee : ∃ c, a.eval x = .slice (match a.eval x with | .slice b _ _ => b | _ => none) xs.length c := by
      simp only [RepX] at hx
      obtain ⟨a', c', hv, _⟩ := hx
      exact ⟨c', by rw [hv]⟩
    obtain ⟨c, hv⟩ := hee
    generalize (match a.eval x with | .slice b _ _ => b | _ => none : Option Addr) = b at hv
    have hc : xs.length ≤ c := by
      simp only [RepX] at hx
      obtain ⟨a', c', hv', h2, _⟩ := hx
      rw [hv] at hv'
      simp only [Value.slice.injEq] at hv'
      rw [hv'.2.2]; exact h2
    obtain ⟨hu', hel⟩ := run_elem (w := w) hu
    split at hk
    · rename_i hee
      subst hee
      obtain ⟨inf, z, hinf, hsz, _, _⟩ := tyB_info ht
      have hsize : (sizeOf (P.elem T)).run P w = .ok e0.size w := by
        rw [hel]; simp only [sizeOf, typeInfo, Sem.run_bind, run_program, Result.andThen_ok, hinf, Sem.run_pure, hsz]
      have hat : ∀ lo hi mx, (Instr.sliceAt T (a.eval x) lo hi mx).run P w = (Instr.slice T (a.eval x) lo hi mx).run P w := fun lo hi mx => run_sliceAt_slice w T _ lo hi mx hu'
      cases lo <;> cases hi <;> cases mx <;> simp only [Option.isSome_none, Option.isSome_some, Option.toList_none, Option.toList_some, List.nil_append, List.append_nil, List.map_nil, List.map_cons, List.singleton_append, List.cons_append] at hk
      case none.none.none =>
        refine ⟨_, _, _, hk, OpWp.same h (val := sliced b 0 xs.length c e0.size) (run _ _ ?_) ?_⟩
        · rw [hat, hv]
          simp only [Option.map_none, run_slice_all w T b xs.length c hu', hsize, Result.andThen_ok]
        · have := RepX.sliced (κ' := kd ⟨dst, .slice T x none none none, ty, pos, af, gd⟩ d) hx (l := 0) (n := xs.length) (m := c) (Nat.zero_le _) (Nat.le_refl _) hv hc (Nat.le_refl _)
          simp only [List.take_length, List.drop_zero] at this
          exact this.unown' (κ' := _)
      case some.none.none lo =>
        split at hk
        case h_2 =>
          rename_i kl l_ _ _ _ hq
          obtain ⟨l, rfl⟩ : ∃ u : Int, u = l_ := ⟨l_, rfl⟩
          simp only [List.cons_append, List.nil_append, List.map_cons, List.map_nil, List.cons.injEq, and_true] at hq
          have ql := hq
          have vl := h.val lo
          rw [ql, RepX.int_iff] at vl
          cases hb : decide (0 ≤ l ∧ l ≤ (xs.length : Int)) <;> rw [hb] at hk
          · cases hk
          · have hb' : 0 ≤ l ∧ l ≤ (xs.length : Int) := by simpa using hb
            refine ⟨_, _, _, hk, OpWp.same h (val := sliced b l.toNat xs.length c e0.size) (run _ _ ?_) ?_⟩
            · rw [hat, hv]
              simp only [Option.map_none, Option.map_some, vl, run_slice_l w T b xs.length c hu' kl l hb'.1 hb'.2, hsize, Result.andThen_ok]
            · have := RepX.sliced (κ' := kd ⟨dst, .slice T x (some lo) none none, ty, pos, af, gd⟩ d) hx (l := l.toNat) (n := xs.length) (m := c) (by omega) (by omega) hv (by omega) (by omega)
              simp only [List.take_length] at this
              exact this.unown' (κ' := _)
        all_goals contradiction
      case none.some.none hi =>
        split at hk
        case h_3 =>
          rename_i kh h_ _ _ _ hq
          obtain ⟨h', rfl⟩ : ∃ u : Int, u = h_ := ⟨h_, rfl⟩
          simp only [List.cons_append, List.nil_append, List.map_cons, List.map_nil, List.cons.injEq, and_true] at hq
          have qh := hq
          have vh := h.val hi
          rw [qh, RepX.int_iff] at vh
          cases hb : decide (0 ≤ h' ∧ h' ≤ (xs.length : Int)) <;> rw [hb] at hk
          · cases hk
          · have hb' : 0 ≤ h' ∧ h' ≤ (xs.length : Int) := by simpa using hb
            refine ⟨_, _, _, hk, OpWp.same h (val := sliced b 0 h'.toNat c e0.size) (run _ _ ?_) ?_⟩
            · rw [hat, hv]
              simp only [Option.map_none, Option.map_some, vh, run_slice_h w T b xs.length c hu' kh h' hb'.1 (by omega), hsize, Result.andThen_ok]
            · have := RepX.sliced (κ' := kd ⟨dst, .slice T x none (some hi) none, ty, pos, af, gd⟩ d) hx (l := 0) (n := h'.toNat) (m := c) (by omega) (by omega) hv (by omega) (by omega)
              simp only [List.drop_zero] at this
              exact this.unown' (κ' := _)
        all_goals contradiction
      case some.some.none lo hi =>
        split at hk
        case h_4 =>
          rename_i kl l_ kh h_ _ _ _ hq
          obtain ⟨l, rfl⟩ : ∃ u : Int, u = l_ := ⟨l_, rfl⟩
          obtain ⟨h', rfl⟩ : ∃ u : Int, u = h_ := ⟨h_, rfl⟩
          simp only [List.cons_append, List.nil_append, List.map_cons, List.map_nil, List.cons.injEq, and_true] at hq
          obtain ⟨ql, qh⟩ := hq
          have vl := h.val lo
          rw [ql, RepX.int_iff] at vl
          have vh := h.val hi
          rw [qh, RepX.int_iff] at vh
          cases hb : decide (0 ≤ h' ∧ h' ≤ (xs.length : Int)) <;> rw [hb] at hk
          · cases hk
          · have hb' : 0 ≤ h' ∧ h' ≤ (xs.length : Int) := by simpa using hb
            try simp only [cond_true] at hk
            cases hc' : decide (0 ≤ l ∧ l ≤ h') <;> rw [hc'] at hk
            · cases hk
            have hb2 : 0 ≤ l ∧ l ≤ h' := by simpa using hc'
            refine ⟨_, _, _, hk, OpWp.same h (val := sliced b l.toNat h'.toNat c e0.size) (run _ _ ?_) ?_⟩
            · rw [hat, hv]
              simp only [Option.map_none, Option.map_some, vl, vh, run_slice_lh w T b xs.length c hu' kl kh l h' hb2.1 hb2.2 (by omega), hsize, Result.andThen_ok]
            · have := RepX.sliced (κ' := kd ⟨dst, .slice T x (some lo) (some hi) none, ty, pos, af, gd⟩ d) hx (l := l.toNat) (n := h'.toNat) (m := c) (by omega) (by omega) hv (by omega) (by omega)
              exact this.unown' (κ' := _)
        all_goals contradiction
      case none.some.some hi mx =>
        split at hk
        case h_5 =>
          rename_i kh h_ km m_ _ _ _ hq
          obtain ⟨h', rfl⟩ : ∃ u : Int, u = h_ := ⟨h_, rfl⟩
          obtain ⟨m, rfl⟩ : ∃ u : Int, u = m_ := ⟨m_, rfl⟩
          simp only [List.cons_append, List.nil_append, List.map_cons, List.map_nil, List.cons.injEq, and_true] at hq
          obtain ⟨qh, qm⟩ := hq
          have vh := h.val hi
          rw [qh, RepX.int_iff] at vh
          have vm := h.val mx
          rw [qm, RepX.int_iff] at vm
          cases hb : decide (0 ≤ h' ∧ h' ≤ m) <;> rw [hb] at hk
          · cases hk
          · have hb' : 0 ≤ h' ∧ h' ≤ m := by simpa using hb
            try simp only [cond_true] at hk
            cases hc' : decide (m ≤ (xs.length : Int)) <;> rw [hc'] at hk
            · cases hk
            have hb2 : m ≤ (xs.length : Int) := by simpa using hc'
            refine ⟨_, _, _, hk, OpWp.same h (val := sliced b 0 h'.toNat m.toNat e0.size) (run _ _ ?_) ?_⟩
            · rw [hat, hv]
              simp only [Option.map_none, Option.map_some, vh, vm, run_slice_hm w T b xs.length c hu' kh km h' m hb'.1 hb'.2 (by omega), hsize, Result.andThen_ok]
            · have := RepX.sliced (κ' := kd ⟨dst, .slice T x none (some hi) (some mx), ty, pos, af, gd⟩ d) hx (l := 0) (n := h'.toNat) (m := m.toNat) (by omega) (by omega) hv (by omega) (by omega)
              simp only [List.drop_zero] at this
              exact this
        all_goals contradiction
      case some.some.some lo hi mx =>
        split at hk
        case h_6 =>
          rename_i kl l_ kh h_ km m_ _ _ _ hq
          obtain ⟨l, rfl⟩ : ∃ u : Int, u = l_ := ⟨l_, rfl⟩
          obtain ⟨h', rfl⟩ : ∃ u : Int, u = h_ := ⟨h_, rfl⟩
          obtain ⟨m, rfl⟩ : ∃ u : Int, u = m_ := ⟨m_, rfl⟩
          simp only [List.cons_append, List.nil_append, List.map_cons, List.map_nil, List.cons.injEq, and_true] at hq
          obtain ⟨ql, qh, qm⟩ := hq
          have vl := h.val lo
          rw [ql, RepX.int_iff] at vl
          have vh := h.val hi
          rw [qh, RepX.int_iff] at vh
          have vm := h.val mx
          rw [qm, RepX.int_iff] at vm
          cases hb : decide (0 ≤ l ∧ l ≤ h') <;> rw [hb] at hk
          · cases hk
          · have hb' : 0 ≤ l ∧ l ≤ h' := by simpa using hb
            try simp only [cond_true] at hk
            cases hc' : decide (h' ≤ m ∧ m ≤ (xs.length : Int)) <;> rw [hc'] at hk
            · cases hk
            have hb2 : h' ≤ m ∧ m ≤ (xs.length : Int) := by simpa using hc'
            refine ⟨_, _, _, hk, OpWp.same h (val := sliced b l.toNat h'.toNat m.toNat e0.size) (run _ _ ?_) ?_⟩
            · rw [hat, hv]
              simp only [Option.map_none, Option.map_some, vl, vh, vm, run_slice_lhm w T b xs.length c hu' kl kh km l h' m hb'.1 hb'.2 hb2.1 (by omega), hsize, Result.andThen_ok]
            · have := RepX.sliced (κ' := kd ⟨dst, .slice T x (some lo) (some hi) (some mx), ty, pos, af, gd⟩ d) hx (l := l.toNat) (n := h'.toNat) (m := m.toNat) (by omega) (by omega) hv (by omega) (by omega)
              exact this
        all_goals contradiction
      all_goals first | contradiction | (split at hk <;> contradiction)
    · cases hk
  · rename_i e1 e2 e3 l he ev
    rw [ev] at hx
    obtain ⟨et, hu, ht, hpos⟩ := tyB_slice (Ctx.ty_ok hC he).1
    simp only [RepX] at hx
    obtain ⟨b, us, c, hv, hlc, hr, hcell⟩ := hx
    have hlen := RepXs.len l us hr
    obtain ⟨hu', hel⟩ := run_elem (w := w) hu
    obtain ⟨inf, z, hinf, hsz, _, _⟩ := tyB_info ht
    have hsize : (sizeOf (P.elem T)).run P w = .ok Ty.any.size w := by
      rw [hel]; simp only [sizeOf, typeInfo, Sem.run_bind, run_program, Result.andThen_ok, hinf, Sem.run_pure, hsz]
    have hat : ∀ lo hi mx, (Instr.sliceAt T (a.eval x) lo hi mx).run P w = (Instr.slice T (a.eval x) lo hi mx).run P w := fun lo hi mx => run_sliceAt_slice w T _ lo hi mx hu'
    cases lo <;> cases hi <;> cases mx <;> simp only [Option.isSome_none, Option.isSome_some, Option.toList_none, Option.toList_some, List.nil_append, List.append_nil, List.map_nil, List.map_cons, List.singleton_append, List.cons_append] at hk
    case none.some.none hi =>
      split at hk
      case h_1 =>
        rename_i kh h_ _ _ _ hq
        obtain ⟨h', rfl⟩ : ∃ u : Int, u = h_ := ⟨h_, rfl⟩
        simp only [List.cons_append, List.nil_append, List.map_cons, List.map_nil, List.cons.injEq, and_true] at hq
        have vh := h.val hi
        rw [hq, RepX.int_iff] at vh
        cases hb : decide (0 ≤ h' ∧ h' ≤ (l.length : Int)) <;> rw [hb] at hk
        · cases hk
        · have hb' : 0 ≤ h' ∧ h' ≤ (l.length : Int) := by simpa using hb
          refine ⟨_, _, _, hk, OpWp.same h (val := sliced b 0 h'.toNat c Ty.any.size) (run _ _ ?_) ?_⟩
          · rw [hat, hv]
            simp only [Option.map_none, Option.map_some, vh, run_slice_h w T b us.length c hu' kh h' hb'.1 (by omega), hsize, Result.andThen_ok]
          · simp only [RepX]
            have htl : (us.take h'.toNat).length = h'.toNat := by rw [List.length_take]; omega
            refine ⟨if c = 0 then b else b.map (·.add 0), us.take h'.toNat, c, ?_, by rw [htl]; omega, RepXs.take l us _ hr, fun i hi => ?_⟩
            · rw [htl]
              simp only [sliced, Nat.sub_zero, Nat.zero_mul]
            · rw [htl] at hi
              obtain ⟨A, rfl, hs, hc1, hc2⟩ := hcell i (by omega)
              refine ⟨A, ?_, hs, ?_, hc2⟩
              · split
                · rfl
                · simp [Addr.add]
              · rw [hc1, List.getElem_take]
      all_goals contradiction
    all_goals first | contradiction | (split at hk <;> contradiction)
  · rename_i e1 e2 e3 s he ev
    rw [ev, RepX.str_iff] at hx
    have hu := tyB_str (Ctx.ty_ok hC he).1
    have hat : ∀ lo hi mx, (Instr.sliceAt T (a.eval x) lo hi mx).run P w = (Instr.slice T (a.eval x) lo hi mx).run P w := fun lo hi mx => run_sliceAt_string w T _ lo hi mx hu
    cases lo <;> cases hi <;> cases mx <;> simp only [Option.isSome_none, Option.isSome_some, Option.toList_none, Option.toList_some, List.nil_append, List.append_nil, List.map_nil, List.map_cons, List.singleton_append, List.cons_append] at hk
    case some.none.none lo =>
      split at hk
      case h_1 =>
        rename_i kl l_ _ _ _ hq
        obtain ⟨l, rfl⟩ : ∃ u : Int, u = l_ := ⟨l_, rfl⟩
        simp only [List.cons_append, List.nil_append, List.map_cons, List.map_nil, List.cons.injEq, and_true] at hq
        have vl := h.val lo
        rw [hq, RepX.int_iff] at vl
        cases hb : decide (0 ≤ l ∧ l ≤ (s.size : Int)) <;> rw [hb] at hk
        · cases hk
        · have hb' : 0 ≤ l ∧ l ≤ (s.size : Int) := by simpa using hb
          refine ⟨_, _, _, hk, OpWp.same h (val := .string (s.extract l.toNat s.size)) (run _ _ ?_) (RepX.str_iff.2 rfl)⟩
          rw [hat, hx]
          simp [Instr.slice, run_underlying hu, Instr.sliceBounds, vl, run_sliceBound w kl l s.size .sliceB hb'.1 hb'.2]
      all_goals contradiction
    case none.some.none hi =>
      split at hk
      case h_2 =>
        rename_i kh h_ _ _ _ hq
        obtain ⟨h', rfl⟩ : ∃ u : Int, u = h_ := ⟨h_, rfl⟩
        simp only [List.cons_append, List.nil_append, List.map_cons, List.map_nil, List.cons.injEq, and_true] at hq
        have vh := h.val hi
        rw [hq, RepX.int_iff] at vh
        cases hb : decide (0 ≤ h' ∧ h' ≤ (s.size : Int)) <;> rw [hb] at hk
        · cases hk
        · have hb' : 0 ≤ h' ∧ h' ≤ (s.size : Int) := by simpa using hb
          refine ⟨_, _, _, hk, OpWp.same h (val := .string (s.extract 0 h'.toNat)) (run _ _ ?_) (RepX.str_iff.2 rfl)⟩
          rw [hat, hx]
          simp [Instr.slice, run_underlying hu, Instr.sliceBounds, vh, run_sliceBound w kh h' s.size _ hb'.1 hb'.2]
      all_goals contradiction
    case some.some.none lo hi =>
      split at hk
      case h_3 =>
        rename_i kl l_ kh h_ _ _ _ hq
        obtain ⟨l, rfl⟩ : ∃ u : Int, u = l_ := ⟨l_, rfl⟩
        obtain ⟨h', rfl⟩ : ∃ u : Int, u = h_ := ⟨h_, rfl⟩
        simp only [List.cons_append, List.nil_append, List.map_cons, List.map_nil, List.cons.injEq, and_true] at hq
        obtain ⟨ql, qh⟩ := hq
        have vl := h.val lo
        rw [ql, RepX.int_iff] at vl
        have vh := h.val hi
        rw [qh, RepX.int_iff] at vh
        cases hb : decide (0 ≤ h' ∧ h' ≤ (s.size : Int)) <;> rw [hb] at hk
        · cases hk
        · have hb' : 0 ≤ h' ∧ h' ≤ (s.size : Int) := by simpa using hb
          try simp only [cond_true] at hk
          cases hc' : decide (0 ≤ l ∧ l ≤ h') <;> rw [hc'] at hk
          · cases hk
          have hb2 : 0 ≤ l ∧ l ≤ h' := by simpa using hc'
          refine ⟨_, _, _, hk, OpWp.same h (val := .string (s.extract l.toNat h'.toNat)) (run _ _ ?_) (RepX.str_iff.2 rfl)⟩
          rw [hat, hx]
          simp [Instr.slice, run_underlying hu, Instr.sliceBounds, vl, vh, run_sliceBound w kh h' s.size _ hb'.1 hb'.2, run_sliceBound w kl l h'.toNat _ hb2.1 (by omega)]
      all_goals contradiction
    all_goals first | contradiction | (split at hk <;> contradiction)
  · cases hk

end
end Go.Proofs.Ytnbfiifkaddehaa.V

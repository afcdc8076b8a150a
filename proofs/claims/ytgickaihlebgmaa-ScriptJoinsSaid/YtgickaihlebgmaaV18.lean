/-
  What the evaluator tells is so: an operation's answer does not hang on what is done with it.
  It speaks of whatever program; no condition.
-/
import Derived.Test.YtgickaihlebgmaaV17
namespace Go.Proofs.Ytgickaihlebgmaa.V
open Go
set_option linter.unusedVariables false
set_option linter.unusedSimpArgs false

theorem bif_bind {α β : Type} (c : Bool) (x y : Option α) (f : α → Option β) : (bif c then x else y).bind f = bif c then x.bind f else y.bind f := by cases c <;> rfl

theorem bif_none {α : Type} {c : Bool} {x : Option α} {r : α} (h : (bif c then x else none) = some r) : x = some r := by
  cases c
  · cases h
  · exact h

theorem bif_or {α : Type} {c : Bool} {x y : Option α} {r : α} (h : (bif c then x else y) = some r) : x = some r ∨ y = some r := by
  cases c
  · exact .inr h
  · exact .inl h

theorem binK_nat {R : Type} (A : Ar) (op : BinOp) (x y : X) (k : X → Option R) : binK A op x y k = (binK A op x y some).bind k := by
  unfold binK
  split
  · cases op <;> simp only [bif_bind, Option.bind_some, Option.bind_none] <;> first | rfl | (split <;> simp [bif_bind])
  · cases op <;> simp only [bif_bind, Option.bind_some, Option.bind_none]
  · cases op <;> simp only [bif_bind, Option.bind_some, Option.bind_none]
  · cases op <;> simp only [bif_bind, Option.bind_some, Option.bind_none]
  · rfl

theorem run_bind {α β γ : Type} (f : α → Option β) (g : β → Option γ) : ∀ t : Tr α, (t.run f).bind g = t.run fun a => (f a).bind g
  | .no => rfl
  | .give _ => rfl
  | .test c a b => by
    cases c
    · exact run_bind f g b
    · exact run_bind f g a

theorem coreK_nat {R : Type} (C : Ctx) (tr : Bool) (o : Oper) (vals : List X) (H : Hp) (k : X → List Bool → Hp → Option R) :
    coreK C tr o vals H k = (coreK C tr o vals H fun v c H' => some (v, c, H')).bind fun p => k p.1 p.2.1 p.2.2 := by
  unfold coreK
  split
  all_goals try rfl
  all_goals (repeat' (first | rfl | (rw [run_bind]; rfl) | simp only [bif_bind, Option.bind_some, Option.bind_none] | split))
  all_goals
    rw [binK_nat]
    conv => rhs; rw [binK_nat]
    generalize binK _ _ _ _ some = z
    cases z <;> rfl

theorem vals_call (st : St) (cal : Operand) (args : Array Operand) (tys : Array Nat) : (Op.call ⟨.value cal, args, tys⟩).operands.toList.map st.val = st.val cal :: args.toList.map st.val := by simp [Op.operands, Call.operands]

/-- An operation that neither looks at variables nor turns them. -/
theorem coreK_far {R : Type} {C : Ctx} {tr : Bool} {all : List Oper} {o : Oper} {st : St} {H H2 : Hp} {k : X → List Bool → Hp → Option R} (h1 : readsH C o = false) (h2 : writesH C all o = false) :
    coreK C tr o (o.op.operands.toList.map st.val) H k = coreK C tr o (o.op.operands.toList.map st.val) H2 (fun v c _ => k v c H) := by
  obtain ⟨dst, op, ty, pos, af, gd⟩ := o
  cases op
  case call c =>
    obtain ⟨cal, args, tys⟩ := c
    cases cal
    case value f =>
      cases f
      case func f =>
        simp only [vals_call]
        simp only [readsH] at h1
        unfold coreK
        simp only [St.val]
        split at h1
        · rename_i F hF
          (try dsimp only)
          simp only [hF]
          repeat' (first | rfl | contradiction | split)
        · cases h1
      all_goals simp [readsH] at h1
    case builtin b =>
      generalize (List.map st.val _) = vals
      unfold coreK
      dsimp only
      cases b <;> (try dsimp only) <;> repeat' (first | rfl | contradiction | split)
    all_goals
      generalize (List.map st.val _) = vals
      unfold coreK
      try dsimp only
  all_goals first
    | (simp [readsH] at h1; done)
    | (generalize (List.map st.val _) = vals
       unfold coreK
       repeat' (first | rfl | contradiction | split))

/-- An operation that does not turn variables leaves them. -/
theorem coreK_still {C : Ctx} {all : List Oper} {o : Oper} {st : St} {H : Hp} {v : X} {cons : List Bool} {H' : Hp} (h2 : writesH C all o = false) (h : coreK C (asked all o) o (o.op.operands.toList.map st.val) H (fun v c H' => some (v, c, H')) = some (v, cons, H')) : H' = H := by
  by_cases h1 : readsH C o = false
  · rw [coreK_far (H2 := H) h1 h2] at h
    have := coreK_far (k := fun v c H' => some (v, c, H')) (tr := asked all o) (st := st) (H := H) (H2 := []) h1 h2
    rw [coreK_nat] at h
    generalize coreK C (asked all o) o (o.op.operands.toList.map st.val) H (fun v c H' => some (v, c, H')) = z at h
    cases z <;> simp at h
    exact h.2.2.symm
  · obtain ⟨dst, op, ty, pos, af, gd⟩ := o
    cases op
    case load T x =>
      have ha : asked all ⟨dst, .load T x, ty, pos, af, gd⟩ = false := by simpa [writesH] using h2
      rw [ha] at h
      generalize (List.map st.val _) = vals at h
      unfold coreK at h
      repeat' (first | contradiction | (cases h; rfl) | split at h)
    case fieldAddr S x j =>
      generalize (List.map st.val _) = vals at h
      unfold coreK at h
      repeat' (first | contradiction | (cases h; rfl) | split at h)
    case indexAddr S x j =>
      generalize (List.map st.val _) = vals at h
      unfold coreK at h
      repeat' (first | contradiction | (cases h; rfl) | split at h)
      all_goals
        replace h := bif_none h
        cases h; rfl
    case call c =>
      exfalso
      obtain ⟨cal, args, tys⟩ := c
      cases cal
      case value f =>
        cases f
        case func f =>
          simp only [readsH, writesH] at h1 h2
          split at h2
          · simp_all
          · cases h2
        all_goals simp [writesH] at h2
      all_goals simp [readsH] at h1
    all_goals first
      | (simp [writesH] at h2; done)
      | (simp [readsH] at h1; done)

/-- What an operation takes over, its text tells. -/
theorem coreK_takes {C : Ctx} {all : List Oper} {o : Oper} {st : St} {H : Hp} {v : X} {cons : List Bool} {H' : Hp} (h : coreK C (asked all o) o (o.op.operands.toList.map st.val) H (fun v c H' => some (v, c, H')) = some (v, cons, H')) :
    ∀ t ∈ takenBy o.op.operands.toList cons, t ∈ takes all o := by
  have nil : ∀ (l : List Operand), takenBy l [] = [] := by
    intro l
    cases l with
    | nil => rfl
    | cons x l => cases x <;> rfl
  obtain ⟨dst, op, ty, pos, af, gd⟩ := o
  cases op
  case move x =>
    have h' : (if asked all ⟨dst, .move x, ty, pos, af, gd⟩ then some (typed C ty (st.val x), [true], H) else some ((typed C ty (st.val x)).unown, ([] : List Bool), H)) = some (v, cons, H') := h
    split at h'
    · rename_i ha
      cases h'
      intro t ht
      cases x <;> simp [Op.operands, takenBy] at ht
      subst ht
      simp [takes, ha, tmpsOf, Op.operands]
    · cases h'
      simp [nil]
  case assign x =>
    have h' : some (typed C ty (st.val x), [true], H) = some (v, cons, H') := h
    cases h'
    intro t ht
    cases x <;> simp [Op.operands, takenBy] at ht
    subst ht
    simp [takes, tmpsOf, Op.operands]
  case convert s1 t1 x =>
    have hx : cons = [] ∨ (s1 = t1 ∧ cons = [true]) := by
      have h' : (match C.ty s1, C.ty t1, st.val x with
        | some ⟨.int _, _, _, _⟩, some ⟨.int kt, _, _, _⟩, .d (.int _) n => some (X.d (.int kt) (C.A.wrap kt n), ([] : List Bool), H)
        | some ⟨.slice (.int .u8), _, _, _⟩, some ⟨.str, _, _, _⟩, .sl (.int .u8) xs _ _ => some (.d .str (strOf xs), [], H)
        | some ⟨.str, _, _, _⟩, some ⟨.slice (.int .u8), _, _, _⟩, .d .str s => some (.sl (.int .u8) (bytesOf s) (some false) true, [], H)
        | some ⟨.str, _, _, _⟩, some ⟨.str, _, _, _⟩, .d .str s => some (.d .str s, [], H)
        | some ⟨.slice (.int .u8), _, _, _⟩, some ⟨.slice (.int .u8), _, _, _⟩, .sl (.int .u8) (y :: ys) (some false) true => if s1 = t1 then some (.sl (.int .u8) (y :: ys) (some false) true, [true], H) else none
        | _, _, _ => none) = some (v, cons, H') := h
      repeat' (first | contradiction | (cases h'; exact .inl rfl) | (cases h'; rename_i e; exact .inr ⟨e, rfl⟩) | split at h')
    rcases hx with rfl | ⟨rfl, rfl⟩
    · simp [nil]
    · intro t ht
      cases x <;> simp [Op.operands, takenBy] at ht
      subst ht
      simp [takes]
  case box T x =>
    generalize hvals : (List.map st.val _) = vals at h
    unfold coreK at h
    repeat' (first | contradiction | split at h)
    all_goals
      cases h
      intro t ht
      cases x <;> simp [Op.operands, takenBy] at ht
      subst ht
      simp [takes, tmpsOf, Op.operands]
  case store T x y =>
    generalize hvals : (List.map st.val _) = vals at h
    unfold coreK at h
    repeat' (first | contradiction | split at h)
    all_goals
      cases h
      intro t ht
      cases x <;> cases y <;> simp [Op.operands, takenBy] at ht
      all_goals
        subst ht
        simp [takes]
  case call c =>
    obtain ⟨cal, args, tys⟩ := c
    have only : cons = [] ∨ (∃ s x, cal = .builtin .append ∧ args.toList = [s, x] ∧ cons = [true, false]) := by
      cases cal
      case builtin b =>
        have hv : (List.map st.val (Op.call ⟨.builtin b, args, tys⟩).operands.toList) = args.toList.map st.val := by simp [Op.operands, Call.operands]
        simp only [hv] at h
        generalize hvals : args.toList.map st.val = vals at h
        unfold coreK at h
        dsimp only at h
        cases b
        case append =>
          dsimp only at h
          split at h
          · obtain ⟨s, x, hs, _, _⟩ := two_of_map _ _ _ _ hvals
            refine .inr ⟨s, x, rfl, hs, ?_⟩
            repeat' (first | contradiction | split at h)
            all_goals
              replace h := bif_none h
              cases h; rfl
          · cases h
        all_goals
          refine .inl ?_
          (try dsimp only at h)
          repeat' (first | contradiction | (cases h; rfl) | split at h)
      all_goals
        refine .inl ?_
        generalize (List.map st.val _) = vals at h
        unfold coreK at h
        (try dsimp only at h)
        repeat' (first | contradiction | (cases h; rfl) | (obtain ⟨_, _, h⟩ := Tr.run_some h; cases h; rfl) | split at h)
    rcases only with rfl | ⟨s, x, rfl, ha, rfl⟩
    · simp [nil]
    · intro t ht
      have hops : (Op.call ⟨.builtin .append, args, tys⟩).operands.toList = [s, x] := by simp [Op.operands, Call.operands, ha]
      simp only [hops] at ht
      cases s <;> cases x <;> simp [takenBy] at ht
      all_goals
        subst ht
        simp [takes, ha]
  all_goals
    have hc : cons = [] := by
      generalize (List.map st.val _) = vals at h
      unfold coreK at h
      repeat' (first | contradiction | (cases h; rfl) | (replace h := bif_none h) | (replace h := bif_or h; rcases h with h | h) | (rw [binK_nat] at h; generalize binK _ _ _ _ some = z at h; cases z) | split at h)
    subst hc
    simp [nil]

end Go.Proofs.Ytgickaihlebgmaa.V

/-
  What the evaluator tells is so: code, loops, functions.
  It speaks of whatever program; no condition.
-/
import Derived.Test.YtnjlfeigcappjaaDoorWf

/- What the evaluator tells is so: regions, in whatever order is drawn. -/
namespace Go.Proofs.YtnjlfeigcappjaaDoor.V
open Go
set_option linter.unusedVariables false
set_option linter.unusedSimpArgs false

theorem opsK_runL {R : Type} (C : Ctx) (all : List Oper) (k : St → Option R) : ∀ (l : List Oper) (n : Nat), (∀ j, j < l.length → all[n + j]? = l[j]?) → ∀ st, opsK C all l st k = (runL C all (List.range' n l.length) st).bind k
  | [], n, _, st => rfl
  | o :: l, n, h, st => by
    rw [opsK_cons, stepG_nat]
    have h0 := h 0 (by simp)
    simp only [Nat.add_zero, List.getElem?_cons_zero] at h0
    simp only [List.length_cons, List.range'_succ, runL, h0, Option.bind_assoc]
    congr 1
    funext s
    exact opsK_runL C all k l (n + 1) (fun j hj => by have := h (j + 1) (by simpa using hj); rw [Nat.add_assoc, Nat.add_comm 1 j]; simpa using this) s

/-- What stands ahead of an operation, one entry an operation. -/
def aheadStep (acc : List (List Nat)) (o : Oper) : List (List Nat) := acc ++ [(o.after.toList.filter fun e => Region.binds .any e).foldl (fun s e => bif s.contains e.on then s else e.on :: addNew (acc.getD e.on []) s) []]

theorem aheadOf_eq (all : List Oper) : aheadOf all = all.foldl aheadStep [] := rfl

theorem addNew_mem : ∀ (l s : List Nat) (m : Nat), m ∈ addNew l s → m ∈ l ∨ m ∈ s
  | [], s, m, h => .inr h
  | x :: l, s, m, h => by
    have e : addNew (x :: l) s = bif (addNew l s).contains x then addNew l s else x :: addNew l s := rfl
    rw [e] at h
    cases hc : (addNew l s).contains x with
    | true =>
      rw [hc] at h
      exact (addNew_mem l s m h).imp_left (List.mem_cons_of_mem _)
    | false =>
      rw [hc] at h
      rcases List.mem_cons.1 h with rfl | h
      · exact .inl (by simp)
      · exact (addNew_mem l s m h).imp_left (List.mem_cons_of_mem _)

theorem foldl_mem (acc : List (List Nat)) : ∀ (es : List Edge) (s : List Nat) (m : Nat), m ∈ es.foldl (fun s e => bif s.contains e.on then s else e.on :: addNew (acc.getD e.on []) s) s → m ∈ s ∨ ∃ e ∈ es, m = e.on ∨ m ∈ acc.getD e.on []
  | [], s, m, h => .inl h
  | e :: es, s, m, h => by
    rw [List.foldl_cons] at h
    rcases foldl_mem acc es _ m h with h | ⟨e', h1, h2⟩
    · have h' : m = e.on ∨ m ∈ acc.getD e.on [] ∨ m ∈ s := by
        cases hc : s.contains e.on with
        | true => rw [hc] at h; exact .inr (.inr h)
        | false =>
          rw [hc] at h
          rcases List.mem_cons.1 h with h | h
          · exact .inl h
          · exact .inr (addNew_mem _ _ _ h)
      rcases h' with h | h | h
      · exact .inr ⟨e, by simp, .inl h⟩
      · exact .inr ⟨e, by simp, .inr h⟩
      · exact .inl h
    · exact .inr ⟨e', by simp [h1], h2⟩

theorem ahead_spec : ∀ (l : List Oper) (acc : List (List Nat)), (∀ i, i < acc.length → (l.foldl aheadStep acc).getD i [] = acc.getD i []) ∧ (l.foldl aheadStep acc).length = acc.length + l.length ∧
    ∀ i o, l[i]? = some o → ∀ m ∈ (l.foldl aheadStep acc).getD (acc.length + i) [], ∃ e ∈ o.after.toList, Region.binds .any e = true ∧ (m = e.on ∨ m ∈ (l.foldl aheadStep acc).getD e.on [])
  | [], acc => ⟨fun _ _ => rfl, rfl, fun i o h => by simp at h⟩
  | o :: l, acc => by
    obtain ⟨h1, h2, h3⟩ := ahead_spec l (aheadStep acc o)
    have hlen : (aheadStep acc o).length = acc.length + 1 := by simp [aheadStep]
    have hold : ∀ i, i < acc.length → (l.foldl aheadStep (aheadStep acc o)).getD i [] = acc.getD i [] := by
      intro i hi
      rw [h1 i (by omega)]
      simp only [aheadStep, List.getD_eq_getElem?_getD]
      rw [List.getElem?_append_left hi]
    rw [List.foldl_cons]
    refine ⟨hold, by rw [h2, hlen]; simp; omega, fun i p hp m hm => ?_⟩
    cases i with
    | zero =>
      simp only [List.getElem?_cons_zero, Option.some.injEq] at hp
      subst hp
      rw [Nat.add_zero, h1 _ (by omega)] at hm
      simp only [aheadStep, List.getD_eq_getElem?_getD, List.getElem?_concat_length, Option.getD_some] at hm
      rcases foldl_mem acc _ _ m (by simpa [List.getD_eq_getElem?_getD] using hm) with h | ⟨e, he, h⟩
      · cases h
      · rw [List.mem_filter] at he
        refine ⟨e, he.1, he.2, ?_⟩
        rcases h with h | h
        · exact .inl h
        · by_cases hlt : e.on < acc.length
          · exact .inr (by rw [hold _ hlt]; exact h)
          · rw [List.getD_eq_getElem?_getD, List.getElem?_eq_none (Nat.le_of_not_lt hlt)] at h
            cases h
    | succ i =>
      simp only [List.getElem?_cons_succ] at hp
      exact h3 i p hp m (by rw [hlen, Nat.add_assoc, Nat.add_comm 1 i]; exact hm)

theorem ahead_mem {all : List Oper} {i : Nat} {o : Oper} (ho : all[i]? = some o) {m : Nat} (hm : m ∈ (aheadOf all).getD i []) : ∃ e ∈ o.after.toList, Region.binds .any e = true ∧ (m = e.on ∨ m ∈ (aheadOf all).getD e.on []) := by
  rw [aheadOf_eq] at hm ⊢
  exact (ahead_spec all []).2.2 i o ho m (by simpa using hm)

/-- The places that are not yet done. -/
def unl (n : Nat) (listed : Array Bool) : List Nat := (List.range n).filter fun i => !listed.getD i true

theorem range_split {n i : Nat} (h : i < n) : List.range n = List.range i ++ i :: (List.range' (i + 1) (n - i - 1)) := by
  rw [List.range_eq_range', List.range_eq_range', ← List.range'_succ]
  have h1 := List.range'_append_1 (s := 0) (m := i) (n := n - i - 1 + 1)
  rw [Nat.zero_add] at h1
  rw [h1]
  congr 1
  omega

theorem unl_split {n i : Nat} {listed : Array Bool} (h : i < n) (hs : listed.size = n) (hl : listed.getD i true = false) :
    ∃ l1 l2, unl n listed = l1 ++ i :: l2 ∧ unl n (listed.setIfInBounds i true) = l1 ++ l2 ∧ ∀ j ∈ l1, j < i ∧ listed.getD j true = false := by
  refine ⟨(List.range i).filter fun i => !listed.getD i true, (List.range' (i + 1) (n - i - 1)).filter fun i => !listed.getD i true, ?_, ?_, ?_⟩
  · unfold unl
    rw [range_split h, List.filter_append, List.filter_cons, if_pos (by simp only [hl]; rfl)]
  · unfold unl
    have hi : (listed.setIfInBounds i true).getD i true = true := by simp [Array.getD]
    have hne : ∀ j, j ≠ i → (listed.setIfInBounds i true).getD j true = listed.getD j true := by
      intro j hj
      simp [Array.getD_eq_getD_getElem?, Array.getElem?_setIfInBounds_ne (Ne.symm hj)]
    rw [range_split h, List.filter_append, List.filter_cons, if_neg (by simp only [hi]; simp)]
    congr 1
    · exact List.filter_congr fun j hj => by
        simp only [List.mem_range] at hj
        rw [hne j (by omega)]
    · exact List.filter_congr fun j hj => by
        rw [List.mem_range'] at hj
        obtain ⟨k, _, rfl⟩ := hj
        rw [hne _ (by omega)]
  · intro j hj
    simp only [List.mem_filter, List.mem_range, Bool.not_eq_true'] at hj
    exact hj

theorem drawn_any {P : Program} {C : Ctx} (hC : COk P C) {R : Type} {all : List Oper} (hok : drawOk C all = true) {d dh : Nat} {k : St → Option R} {r : R} {Q : Exit → Act → World → Prop} {sf : St} :
    ∀ (fuel : Nat) (listed : Array Bool) (g : Ghost) (w : World) (st : St) (a : Act), Fr g w d dh st a → listed.size = all.length → (unl all.length listed).length ≤ fuel → runL C all (unl all.length listed) st = some sf → k sf = some r →
      (∀ i, listed.getD i false = true → ∀ m ∈ (aheadOf all).getD i [], listed.getD m false = true) →
      (∀ a' w' g', Fr g' w' d dh sf a' → Ext g w g' w' d (Kf d dh) → a'.defers = a.defers → Q .normal a' w') → wpAny P .any all.toArray Q fuel listed a w := by
  have hedge : ∀ i o, all[i]? = some o → ∀ e ∈ o.after.toList, Region.binds .any e = true → e.on < i := by
    intro i o ho e he hb
    have hi : i < all.length := (List.getElem?_eq_some_iff.1 ho).1
    simp only [drawOk, List.all_eq_true, List.mem_range] at hok
    have := hok i hi
    rw [ho] at this
    simp only [Bool.and_eq_true, List.all_eq_true, Bool.or_eq_true, Bool.not_eq_true', decide_eq_true_eq] at this
    rcases this.1 e he with h | h
    · rw [hb] at h; cases h
    · exact h
  have hap : ∀ i o j x, all[i]? = some o → all[j]? = some x → j < i → j ∉ (aheadOf all).getD i [] → apartB C all x o = true := by
    intro i o j x ho hx hj hn
    have hi : i < all.length := (List.getElem?_eq_some_iff.1 ho).1
    simp only [drawOk, List.all_eq_true, List.mem_range] at hok
    have := hok i hi
    rw [ho] at this
    simp only [Bool.and_eq_true, List.all_eq_true, List.mem_range, Bool.or_eq_true] at this
    have h2 := this.2 j hj
    rw [hx] at h2
    simp only [Bool.or_eq_true, List.contains_eq_mem, decide_eq_true_eq] at h2
    exact h2.resolve_left hn
  -- as long as some are left, one is ready
  have hleft : ∀ listed : Array Bool, listed.size = all.length → Region.ready .any all.toArray listed = [] → unl all.length listed = [] := by
    intro listed hs hr
    apply Classical.byContradiction
    intro hne
    obtain ⟨i0, hi0⟩ := List.exists_mem_of_ne_nil _ hne
    simp only [unl, List.mem_filter, List.mem_range, Bool.not_eq_true'] at hi0
    -- the least one
    have least : ∀ n i, i ≤ n → i < all.length → listed.getD i true = false → ∃ m, m < all.length ∧ listed.getD m true = false ∧ ∀ j, j < m → listed.getD j true = true := by
      intro n
      induction n with
      | zero =>
        intro i hi h1 h2
        have : i = 0 := by omega
        subst this
        exact ⟨0, h1, h2, fun j hj => absurd hj (by omega)⟩
      | succ n ih =>
        intro i hi h1 h2
        by_cases hex : ∃ j, j < i ∧ listed.getD j true = false
        · obtain ⟨j, hj, hj2⟩ := hex
          exact ih j (by omega) (by omega) hj2
        · refine ⟨i, h1, h2, fun j hj => ?_⟩
          cases hc : listed.getD j true with
          | true => rfl
          | false => exact absurd ⟨j, hj, hc⟩ hex
    obtain ⟨m, hm, hm2, hm3⟩ := least i0 i0 (Nat.le_refl _) hi0.1 hi0.2
    have : m ∈ Region.ready .any all.toArray listed := by
      simp only [Region.ready, List.mem_filter, List.mem_range, List.size_toArray]
      refine ⟨hm, ?_⟩
      have ho : all.toArray[m]? = some all[m] := by simp [hm]
      simp only [hm2, Bool.not_false, Bool.true_and, ho, Option.map_some, Option.getD_some]
      rw [← Array.all_toList, List.all_eq_true]
      intro e he
      cases hb : Region.binds .any e with
      | false => simp
      | true =>
        have hlt := hedge m all[m] (by simp [hm]) e he hb
        have h1 := hm3 _ hlt
        have hsz : e.on < listed.size := by omega
        simp only [Bool.not_true, Bool.false_or]
        simpa [Array.getD, hsz] using h1
    rw [hr] at this
    cases this
  intro fuel
  induction fuel with
  | zero =>
    intro listed g w st a h hs hf hrun hk hcl hn
    have hnil : unl all.length listed = [] := List.eq_nil_of_length_eq_zero (by omega)
    rw [hnil] at hrun
    simp only [runL, Option.some.injEq] at hrun
    subst hrun
    refine ⟨?_, hn a w g h (Ext.refl _ _ _ _) rfl⟩
    apply List.eq_nil_iff_forall_not_mem.2
    intro i hi
    simp only [Region.ready, List.mem_filter, List.mem_range, List.size_toArray, Bool.and_eq_true] at hi
    have : i ∈ unl all.length listed := by
      simp only [unl, List.mem_filter, List.mem_range]
      exact ⟨hi.1, hi.2.1⟩
    rw [hnil] at this
    cases this
  | succ fuel ih =>
    intro listed g w st a h hs hf hrun hk hcl hn
    refine ⟨fun hr => ?_, fun i hi => ?_⟩
    · rw [hleft listed hs hr] at hrun
      simp only [runL, Option.some.injEq] at hrun
      subst hrun
      exact hn a w g h (Ext.refl _ _ _ _) rfl
    · simp only [Region.ready, List.mem_filter, List.mem_range, List.size_toArray, Bool.and_eq_true, Bool.not_eq_true'] at hi
      obtain ⟨hin, hl, hedges⟩ := hi
      have ho : all[i]? = some all[i] := by simp [hin]
      have hoA : all.toArray[i]? = some all[i] := by simp [hin]
      rw [hoA] at hedges
      simp only [Option.map_some, Option.getD_some] at hedges
      rw [← Array.all_toList, List.all_eq_true] at hedges
      have hahead : ∀ m ∈ (aheadOf all).getD i [], listed.getD m false = true := by
        intro m hm
        obtain ⟨e, he, hb, hm⟩ := ahead_mem ho hm
        have h1 := hedges e he
        rw [hb] at h1
        simp only [Bool.not_true, Bool.false_or] at h1
        rcases hm with rfl | hm
        · exact h1
        · exact hcl e.on h1 m hm
      obtain ⟨l1, l2, e1, e2, e3⟩ := unl_split hin hs hl
      rw [e1] at hrun
      obtain ⟨s1, k1, k2⟩ := runL_bubble ho l2 l1 (fun j hj => by
        obtain ⟨hj1, hj2⟩ := e3 j hj
        have hjn : j < all.length := by omega
        refine ⟨all[j], by simp [hjn], hap i _ j _ ho (by simp [hjn]) hj1 (fun hm => ?_)⟩
        have h1 := hahead j hm
        have hsz : j < listed.size := by omega
        simp [Array.getD, hsz] at h1 hj2
        rw [h1] at hj2
        cases hj2) st sf hrun
      have key : if Region.wanted all[i] (yielded all.toArray a.tmps) then all[i].wp P a w (wpAny P .any all.toArray Q fuel (listed.setIfInBounds i true)) Q else wpAny P .any all.toArray Q fuel (listed.setIfInBounds i true) (a.put all[i].dst undef) w := by
        refine stepG_sound hC h (k := some) (r := s1) k1 fun st' val w' g' h1 h2 h3 => ?_
        simp only [Option.some.injEq] at h1
        subst h1
        refine ih (listed.setIfInBounds i true) g' w' st' _ h2 (by simpa using hs) ?_ (by rw [e2]; exact k2) hk ?_ ?_
        · rw [e2]
          rw [e1] at hf
          simp at hf ⊢
          omega
        · intro i' hi' m hm
          by_cases hii : i' = i
          · subst hii
            have h1 := hahead m hm
            by_cases hmi : m = i'
            · subst hmi
              simp [Array.getD, hs, hin]
            · simp only [Array.getD_eq_getD_getElem?, Array.getElem?_setIfInBounds_ne (Ne.symm hmi)] at h1 ⊢
              exact h1
          · have hi2 : listed.getD i' false = true := by
              simp only [Array.getD_eq_getD_getElem?, Array.getElem?_setIfInBounds_ne (Ne.symm hii)] at hi' ⊢
              exact hi'
            have h1 := hcl i' hi2 m hm
            by_cases hmi : m = i
            · subst hmi
              simp [Array.getD, hs, hin]
            · simp only [Array.getD_eq_getD_getElem?, Array.getElem?_setIfInBounds_ne (Ne.symm hmi)] at h1 ⊢
              exact h1
        · intro a' w'' g'' q1 q2 q3
          exact hn a' w'' g'' q1 (h3.trans q2) (q3.trans (Act.put_defers' _ _ _))
      unfold wpOp
      rw [hoA]
      simp only []
      split
      · rename_i hw
        rw [if_pos hw] at key
        exact .inl key
      · rename_i hw
        rw [if_neg hw] at key
        exact key

end Go.Proofs.YtnjlfeigcappjaaDoor.V

/- What the evaluator tells is so: code. -/
namespace Go.Proofs.YtnjlfeigcappjaaDoor.V
open Go
set_option linter.unusedVariables false
set_option linter.unusedSimpArgs false

def Ex.to : Ex → Exit
  | .normal => .normal
  | .exit id => .exit id
  | .goto l => .goto l
  | .ret => .ret

/-- A scope whose code leaves it by a jump to one of its labels goes on there. -/
theorem wp_scope_jump {P : Program} {Q : Exit → Act → World → Prop} {a : Act} {w : World} {c : Code}
    (h : c.wp P (fun e a w => match e with
      | .goto l => (∃ rest, findLabel c l = some rest ∧ rest.wp P (Exit.noGoto Q) a w) ∨ (findLabel c l = none ∧ Q (.goto l) a w)
      | e => Q e a w) a w) : (Code.scope c).wp P Q a w := by
  intro b k cs
  obtain ⟨e, a₁, w₁, hq, harr⟩ := h b (.inScope c :: k) cs
  cases e with
  | normal => exact ⟨.normal, a₁, w₁, hq, .head step_scope (Steps.trans harr (.one step_inScope))⟩
  | exit id => exact ⟨.exit id, a₁, w₁, hq, fun k' hk => .head step_scope (harr k' (by simp [exitTo, hk]))⟩
  | goto l =>
    rcases hq with ⟨rest, hl, hr⟩ | ⟨hl, hq⟩
    · have hs := harr (.code rest :: .inScope c :: k) (by simp [gotoIn, hl])
      obtain ⟨e₂, a₂, w₂, hq₂, harr₂⟩ := hr b (.inScope c :: k) cs
      have hall : Steps P (lone (b.at a (.code (.scope c) :: k)) cs w) (lone (b.at a₁ (.code rest :: .inScope c :: k)) cs w₁) := .head step_scope hs
      cases e₂ with
      | normal => exact ⟨.normal, a₂, w₂, hq₂, Steps.trans hall (Steps.trans harr₂ (.one step_inScope))⟩
      | exit id => exact ⟨.exit id, a₂, w₂, hq₂, fun k' hk => Steps.trans hall (harr₂ k' (by simp [exitTo, hk]))⟩
      | goto l => exact hq₂.elim
      | ret => exact ⟨_, a₂, w₂, hq₂, .of_steps hall harr₂⟩
      | panic ch => exact ⟨_, a₂, w₂, hq₂, .of_steps hall harr₂⟩
      | outgrown => exact ⟨_, a₂, w₂, hq₂, .of_steps (b := b) (k := k) (cs := cs) (e := .outgrown) hall harr₂⟩
    · exact ⟨.goto l, a₁, w₁, hq, fun k' hk => .head step_scope (harr k' (by simp [gotoIn, hl, hk]))⟩
  | ret => exact ⟨_, a₁, w₁, hq, .of_steps (.one step_scope) harr⟩
  | panic ch => exact ⟨_, a₁, w₁, hq, .of_steps (.one step_scope) harr⟩
  | outgrown => exact ⟨_, a₁, w₁, hq, .of_steps (.one step_scope) harr⟩

/-- A loop, by a number that each round lowers and that stands nowhere in the frame. -/
theorem wp_loop_fuel {P : Program} {Q : Exit → Act → World → Prop} {c : Code} (I : Nat → Act → World → Prop)
    (round : ∀ n a w, I n a w → c.wp P (Exit.then (fun a' w' => ∃ m, m < n ∧ I m a' w') Q) a w) {n : Nat} {a : Act} {w : World} (h₀ : I n a w) : (Code.loop c).wp P Q a w := by
  intro b k cs
  have key : ∀ n a w, I n a w →
      ∃ e a' w', Q e a' w' ∧ Arrives P (lone (b.at a (.code c :: .inLoop c :: k)) cs w) b k cs e a' w' := by
    intro n
    induction n using Nat.strongRecOn with
    | _ n ih =>
      intro a w hI
      obtain ⟨e, a₁, w₁, hq, harr⟩ := round n a w hI b (.inLoop c :: k) cs
      cases e with
      | normal =>
        obtain ⟨m, hlt, hI₁⟩ := hq
        obtain ⟨e₂, a₂, w₂, hq₂, harr₂⟩ := ih m hlt a₁ w₁ hI₁
        exact ⟨e₂, a₂, w₂, hq₂, .of_steps (Steps.trans harr (.one step_inLoop)) harr₂⟩
      | exit id => exact ⟨_, a₁, w₁, hq, .pass (x := .inLoop c) rfl (fun _ _ => .inl (by simp)) harr⟩
      | goto l => exact ⟨_, a₁, w₁, hq, .pass (x := .inLoop c) rfl (fun _ _ => .inl (by simp)) harr⟩
      | ret => exact ⟨_, a₁, w₁, hq, .pass (x := .inLoop c) rfl (fun _ _ => .inl (by simp)) harr⟩
      | panic ch => exact ⟨_, a₁, w₁, hq, .pass (x := .inLoop c) rfl (fun _ _ => .inl (by simp)) harr⟩
      | outgrown => exact ⟨_, a₁, w₁, hq, .pass (x := .inLoop c) rfl (fun _ _ => .inl (by simp)) harr⟩
  obtain ⟨e, a', w', hq, harr⟩ := key _ a w h₀
  exact ⟨e, a', w', hq, .of_steps (.one step_loop) harr⟩

/-- The loops of a piece of code, those inside others apart. -/
def loopsOf : Code → List Code
  | .loop b => [b]
  | .seq a b => loopsOf a ++ loopsOf b
  | .cond _ a b => loopsOf a ++ loopsOf b
  | .block _ c => loopsOf c
  | .scope c => loopsOf c
  | _ => []

theorem loopsOf_findLabel : ∀ (c : Code) (l : Nat) (rest : Code), findLabel c l = some rest → ∀ b ∈ loopsOf rest, b ∈ loopsOf c
  | .seq a b, l, rest, h => by
    simp only [findLabel] at h
    intro x hx
    split at h
    · rename_i r hr
      cases h
      simp only [loopsOf, List.mem_append] at hx ⊢
      rcases hx with hx | hx
      · exact .inl (loopsOf_findLabel a l r hr x hx)
      · exact .inr hx
    · simp only [loopsOf, List.mem_append]
      exact .inr (loopsOf_findLabel b l rest h x hx)
  | .label l', l, rest, h => by
    simp only [findLabel] at h
    split at h
    · cases h; intro x hx; simp [loopsOf] at hx
    · cases h
  | .skip, _, _, h | .region _ _ _, _, _, h | .cond _ _ _, _, _, h | .block _ _, _, _, h | .loop _, _, _, h | .rangeFunc _ _ _ _, _, _, h | .exit _, _, _, h | .scope _, _, _, h | .goto _, _, _, h | .ret, _, _, h | .refuse _, _, _, h => by
    simp [findLabel] at h

/-- What a loop's summary owes. -/
def LoopOk (P : Program) (d dh : Nat) (body : Code) (N : Nat) (ks : List Nat) (F : List X → Hp → Option (Ex × List X × Hp)) : Prop :=
  ∀ (st : St) (e : Ex) (xs : List X) (H : Hp), st.tm.length = N → F (ks.map fun t => st.tm.getD t .dead) st.H = some (e, xs, H) → ∀ (g : Ghost) (w : World) (a : Act), Fr g w d dh st a →
    (Code.loop body).wp P (fun ex a' w' => ex = e.to ∧ ∃ g', Fr g' w' d dh { tm := keepOnly N ks xs, H := H } a' ∧ Ext g w g' w' d (Kf d dh) ∧ a'.defers = a.defers) a w

def LoopsOk (P : Program) (C : Ctx) (d dh : Nat) (bodies : List Code) : Prop :=
  ∀ body ∈ bodies, ∀ key N ks F, firstRegion body = some key → C.L key = some (N, ks, F) → LoopOk P d dh body N ks fun xs H => (F xs H).run some

theorem codeK_sound {P : Program} {C : Ctx} (hC : COk P C) (hmix : P.follows .mixedOrders = true) {R : Type} {d dh : Nat} {r : R} : ∀ (n : Nat) (c : Code) (g : Ghost) (w : World) (st : St) (a : Act) (k : Ex → St → Option R) (Q : Exit → Act → World → Prop), Fr g w d dh st a →
    codeK C n c st k = some r → LoopsOk P C d dh (loopsOf c) → (∀ e st' a' w' g', k e st' = some r → Fr g' w' d dh st' a' → Ext g w g' w' d (Kf d dh) → a'.defers = a.defers → Q e.to a' w') → c.wp P Q a w := by
  intro n
  induction n with
  | zero => intro c g w st a k Q h hk; simp [codeK] at hk
  | succ n ih =>
    intro c g w st a k Q h hk hL hn
    cases c with
    | skip => exact wp_skip (hn .normal st a w g (by simpa only [codeK] using hk) h (Ext.refl _ _ _ _) rfl)
    | label l => exact wp_label (hn .normal st a w g (by simpa only [codeK] using hk) h (Ext.refl _ _ _ _) rfl)
    | region id ops draw =>
      simp only [codeK] at hk
      cases draw with
      | false =>
        simp only [Bool.false_and, cond_false] at hk
        refine wp_region_list ?_
        have := opsK_sound hC (all := ops.toList) ops.toList g w st a h hk (fun st' a' w' g' h1 h2 h3 h4 => hn .normal st' a' w' g' h1 h2 h3 h4)
        simpa using this
      | true =>
        simp only [Bool.true_and] at hk
        cases hok : drawOk C ops.toList with
        | false => rw [hok] at hk; cases hk
        | true =>
          rw [hok] at hk
          simp only [Bool.not_true, cond_false] at hk
          have hrl := opsK_runL C ops.toList (k .normal) ops.toList 0 (fun j _ => by simp) st
          rw [hk] at hrl
          have hrl := hrl.symm
          rw [Option.bind_eq_some_iff] at hrl
          obtain ⟨sf, h1, h2⟩ := hrl
          refine wp_region_any hmix ?_
          have hfr : Fr g { w with drawn := w.drawn + 1 } d dh st a :=
            ⟨h.len, fun t x hx => RepX.ext (Ext.drawn (K := fun _ => False) (w.drawn + 1)) h.le (fun e => e) (fun e => e) x _ (h.rep t x hx), HRep.ext (Ext.drawn (K := fun _ => False) (w.drawn + 1)) h.le (fun e => e) (fun _ _ e => e) rfl h.heap, h.wf.drawn _, h.le⟩
          have hunl : unl ops.toList.length (Array.replicate ops.size false) = List.range' 0 ops.toList.length := by
            unfold unl
            rw [← List.range_eq_range']
            apply List.filter_eq_self.2
            intro i hi
            simp only [List.mem_range] at hi
            have : i < ops.size := by simpa using hi
            simp [Array.getD, this]
          have hany := drawn_any hC hok (d := d) (dh := dh) (k := k .normal) (r := r) (Q := Q) (sf := sf) ops.size (Array.replicate ops.size false) g _ st a hfr (by simp) (by rw [hunl]; simp) (by rw [hunl]; exact h1) h2 (fun i hi => by
            exfalso
            simp only [Array.getD] at hi
            split at hi <;> simp at hi) (fun a' w' g' q1 q2 q3 => hn .normal sf a' w' g' h2 q1 ((Ext.drawn (w.drawn + 1)).trans q2) q3)
          simpa using hany
    | seq x y =>
      simp only [codeK] at hk
      simp only [loopsOf] at hL
      refine wp_seq ?_
      refine ih x g w st a _ _ h hk (fun b hb => hL b (List.mem_append_left _ hb)) fun e st' a' w' g' h1 h2 h3 h4 => ?_
      cases e with
      | normal =>
        exact ih y g' w' st' a' k Q h2 h1 (fun b hb => hL b (List.mem_append_right _ hb)) fun e2 st2 a2 w2 g2 k1 k2 k3 k4 => hn e2 st2 a2 w2 g2 k1 k2 (h3.trans k3) (k4.trans h4)
      | exit id => exact hn (.exit id) st' a' w' g' h1 h2 h3 h4
      | goto l => exact hn (.goto l) st' a' w' g' h1 h2 h3 h4
      | ret => exact hn .ret st' a' w' g' h1 h2 h3 h4
    | cond c x y =>
      simp only [codeK] at hk
      simp only [loopsOf] at hL
      cases c with
      | tmp t =>
        simp only at hk
        split at hk
        · rename_i v hv
          have hx := h.val (.tmp t)
          simp only [St.val] at hx
          rw [hv, RepX.bool_iff] at hx
          cases v with
          | true =>
            simp only [cond_true] at hk
            rw [set_same st.tm t .dead _ hv (by simp)] at hk
            exact wp_cond_true hx (ih x g w st a k Q h hk (fun b hb => hL b (List.mem_append_left _ hb)) hn)
          | false =>
            simp only [cond_false] at hk
            rw [set_same st.tm t .dead _ hv (by simp)] at hk
            exact wp_cond_false hx (ih y g w st a k Q h hk (fun b hb => hL b (List.mem_append_right _ hb)) hn)
        · cases hk
      | const v =>
        cases v <;> simp only at hk <;> try (cases hk; done)
        rename_i v
        cases v with
        | true =>
          simp only [if_true] at hk
          exact wp_cond_true rfl (ih x g w st a k Q h hk (fun b hb => hL b (List.mem_append_left _ hb)) hn)
        | false =>
          simp only [Bool.false_eq_true, if_false] at hk
          exact wp_cond_false rfl (ih y g w st a k Q h hk (fun b hb => hL b (List.mem_append_right _ hb)) hn)
      | global g => cases hk
      | func f => cases hk
    | block id c =>
      simp only [codeK] at hk
      simp only [loopsOf] at hL
      refine wp_block ?_
      refine ih c g w st a _ _ h hk hL fun e st' a' w' g' h1 h2 h3 h4 => ?_
      cases e with
      | normal => exact hn .normal st' a' w' g' h1 h2 h3 h4
      | exit i =>
        simp only [Ex.to, Exit.inBlock]
        simp only at h1
        split
        · rename_i hi
          rw [if_pos hi] at h1
          exact hn .normal st' a' w' g' h1 h2 h3 h4
        · rename_i hi
          rw [if_neg hi] at h1
          exact hn (.exit i) st' a' w' g' h1 h2 h3 h4
      | goto l => exact hn (.goto l) st' a' w' g' h1 h2 h3 h4
      | ret => exact hn .ret st' a' w' g' h1 h2 h3 h4
    | loop body =>
      simp only [codeK] at hk
      split at hk
      · cases hk
      · rename_i key hkey
        split at hk
        · cases hk
        · rename_i N ks F hF
          split at hk
          · rename_i hN
            · obtain ⟨⟨e, xs, H⟩, hres, hk⟩ := Tr.run_some hk
              have := hL body (by simp [loopsOf]) key N ks F hkey hF st e xs H hN hres g w a h
              refine Go.wp_mono this ?_
              rintro ex a' w' ⟨rfl, g', h1, h2, h3⟩
              exact hn e _ a' w' g' hk h1 h2 h3
          · cases hk
    | rangeFunc f ps x y => simp [codeK] at hk
    | exit id => exact wp_exit (hn (.exit id) st a w g (by simpa only [codeK] using hk) h (Ext.refl _ _ _ _) rfl)
    | scope c =>
      simp only [codeK] at hk
      simp only [loopsOf] at hL
      refine wp_scope_jump ?_
      refine ih c g w st a _ _ h hk hL fun e st' a' w' g' h1 h2 h3 h4 => ?_
      cases e with
      | normal => exact hn .normal st' a' w' g' h1 h2 h3 h4
      | exit i => exact hn (.exit i) st' a' w' g' h1 h2 h3 h4
      | ret => exact hn .ret st' a' w' g' h1 h2 h3 h4
      | goto l =>
        simp only at h1
        split at h1
        · rename_i rest hrest
          refine .inl ⟨rest, hrest, ?_⟩
          refine ih rest g' w' st' a' _ _ h2 h1 (fun b hb => hL b (loopsOf_findLabel c l rest hrest b hb)) fun e2 st2 a2 w2 g2 k1 k2 k3 k4 => ?_
          cases e2 with
          | normal => exact hn .normal st2 a2 w2 g2 k1 k2 (h3.trans k3) (k4.trans h4)
          | exit i => exact hn (.exit i) st2 a2 w2 g2 k1 k2 (h3.trans k3) (k4.trans h4)
          | ret => exact hn .ret st2 a2 w2 g2 k1 k2 (h3.trans k3) (k4.trans h4)
          | goto l => cases k1
        · rename_i hrest
          exact .inr ⟨hrest, hn (.goto l) st' a' w' g' h1 h2 h3 h4⟩
    | goto l => exact wp_goto (hn (.goto l) st a w g (by simpa only [codeK] using hk) h (Ext.refl _ _ _ _) rfl)
    | ret => exact wp_ret (hn .ret st a w g (by simpa only [codeK] using hk) h (Ext.refl _ _ _ _) rfl)
    | refuse why => simp [codeK] at hk

end Go.Proofs.YtnjlfeigcappjaaDoor.V

/- What the evaluator tells is so: loops by their rounds; functions. -/
namespace Go.Proofs.YtnjlfeigcappjaaDoor.V
open Go
set_option linter.unusedVariables false
set_option linter.unusedSimpArgs false

/-- One round of a loop. -/
def stepF {R : Type} (C : Ctx) (fuel : Nat) (body : Code) (N : Nat) (ks : List Nat) (xs : List X) (H : Hp) (k : Ex → List X → Hp → Option R) : Option R :=
  codeK C fuel body { tm := keepOnly N ks xs, H := H } fun e st => if st.tm.length = N then k e (ks.map fun t => st.tm.getD t .dead) st.H else none

mutual
/-- Does it lead to variables below a number alone? -/
def belowB (n : Nat) : X → Bool
  | .ptr id _ => decide (id < n)
  | .mref id _ _ => decide (id < n)
  | .fn _ a b => belowBs n a && belowBs n b
  | .tup l => belowBs n l
  | .lst l => belowBs n l
  | .agg l => belowBs n l
  | .cx x => belowB n x
  | _ => true
def belowBs (n : Nat) : List X → Bool
  | [] => true
  | x :: xs => belowB n x && belowBs n xs
end

theorem belowBs_iff (n : Nat) : ∀ (xs : List X), belowBs n xs = true ↔ ∀ x ∈ xs, belowB n x = true
  | [] => by simp [belowBs]
  | x :: xs => by simp [belowBs, belowBs_iff n xs]

/-- Variables behind the first ones are told of no more. -/
def Ghost.trunc (g : Ghost) (dh n : Nat) : Ghost := { g with N := fun h => if h = dh then n else g.N h }

/-- Data stay where what is settled does. -/
theorem Run.cellsExt {g w g' w'} (h : ∀ b off, off < g.U b → w'.cell? ⟨b, off, none⟩ = w.cell? ⟨b, off, none⟩ ∧ off < g'.U b) {α : Type} {R R' : α → List Value → Prop} (hR : ∀ x cs, R x cs → R' x cs) {size : Nat} {xs : List α} {a : Option Addr}
    (hr : Run w g R size xs a) : Run w' g' R' size xs a := by
  intro i hi
  obtain ⟨A, cs, ha, hs, hl, hx, hc⟩ := hr i hi
  refine ⟨A, cs, ha, hs, hl, hR _ _ hx, fun j hj => ?_⟩
  obtain ⟨h1, h2⟩ := hc j hj
  obtain ⟨k1, k2⟩ := h _ _ h2
  exact ⟨k1.trans h1, k2⟩
theorem RepC.cellsExt {g w g' w'} (h : ∀ b off, off < g.U b → w'.cell? ⟨b, off, none⟩ = w.cell? ⟨b, off, none⟩ ∧ off < g'.U b) : ∀ (t : Ty) (x : t.den) (cs : List Value), RepC w g t x cs → RepC w' g' t x cs
  | .int _, _, _, r => r
  | .bool, _, _, r => r
  | .str, _, _, r => r
  | .any, _, _, r => r
  | .slice e, _, _, ⟨a, c, e1, e2, r⟩ => ⟨a, c, e1, e2, r.cellsExt h (RepC.cellsExt h e)⟩
  | .arr _ e, _, _, ⟨e1, r⟩ => ⟨e1, r.imp (RepC.cellsExt h e)⟩
  | .struct c, x, cs, r => RepC.cellsExt h c x cs r
  | .unit, _, _, r => r
  | .prod a b, _, _, ⟨c1, c2, e, r1, r2⟩ => ⟨c1, c2, e, RepC.cellsExt h a _ _ r1, RepC.cellsExt h b _ _ r2⟩

theorem RepC.trunc {g w} {dh n : Nat} (t : Ty) (x : t.den) (cs : List Value) (r : RepC w g t x cs) : RepC w (g.trunc dh n) t x cs :=
  RepC.cellsExt (g := g) (w := w) (g' := g.trunc dh n) (w' := w) (fun _ _ h => ⟨rfl, h⟩) t x cs r

mutual
theorem RepX.trunc {g w} {dh n : Nat} (hn : n ≤ g.N dh) {κ : Key} : ∀ (x : X) (v : Value), belowB n x = true → RepX g w dh κ x v → RepX (g.trunc dh n) w dh κ x v
  | .dead, _, _, _ => by simp [RepX]
  | .undef, v, _, r => by simpa only [RepX] using r
  | .nils, v, _, r => by simpa only [RepX] using r
  | .d t x, v, _, r => by
    simp only [RepX] at r ⊢
    obtain ⟨cs, h1, h2⟩ := r
    exact ⟨cs, h1.trunc, h2⟩
  | .sl e xs nl own, v, _, r => by
    simp only [RepX] at r ⊢
    obtain ⟨a, c, h1, h2, h3, h4, h5⟩ := r
    refine ⟨a, c, h1, h2, Run.cellsExt (g := g) (w := w) (g' := g.trunc dh n) (w' := w) (fun _ _ h => ⟨rfl, h⟩) (fun y cs hy => hy.trunc) h3, h4, fun ho => ?_⟩
    rcases h5 ho with h0 | ⟨b, arr, ty, fr, e1, e2, e3, e4, e5, e6⟩
    · exact .inl h0
    · exact .inr ⟨b, arr, ty, fr, e1, e2, e3, e4, e5, e6⟩
  | .cp t x, v, _, r => by
    simp only [RepX] at r ⊢
    obtain ⟨A, cs, h1, h2, h3, h4⟩ := r
    exact ⟨A, cs, h1, h2, h3.trunc, h4⟩
  | .ptr id path, v, hb, r => by
    simp only [belowB, decide_eq_true_eq] at hb
    simp only [RepX] at r ⊢
    obtain ⟨h1, off, t, h2, h3⟩ := r
    exact ⟨by simp [Ghost.trunc, hb], off, t, h2, h3⟩
  | .fn f first captured, v, hb, r => by
    simp only [belowB, Bool.and_eq_true] at hb
    simp only [RepX] at r ⊢
    obtain ⟨vs, us, h1, h2, h3⟩ := r
    exact ⟨vs, us, h1, RepXs.trunc hn first vs hb.1 h2, RepXs.trunc hn captured us hb.2 h3⟩
  | .tup xs, v, hb, r => by
    simp only [belowB] at hb
    simp only [RepX] at r ⊢
    obtain ⟨vs, h1, h2⟩ := r
    exact ⟨vs, h1, RepXs.trunc hn xs vs hb h2⟩
  | .agg _, v, _, r => by simp [RepX] at r
  | .lst l, v, hb, r => by
    simp only [belowB] at hb
    simp only [RepX] at r ⊢
    obtain ⟨a, us, c, h1, h2, h3, h4⟩ := r
    exact ⟨a, us, c, h1, h2, RepXs.trunc hn l us hb h3, h4⟩
  | .cx x, v, hb, r => by
    simp only [belowB] at hb
    simp only [RepX] at r ⊢
    obtain ⟨A, u, h1, h2, h3, h4, h5⟩ := r
    exact ⟨A, u, h1, h2, RepX.trunc hn x u hb h3, h4, h5⟩
  | .mref id off len, v, hb, r => by
    simp only [belowB, decide_eq_true_eq] at hb
    simp only [RepX] at r ⊢
    obtain ⟨h1, h2⟩ := r
    exact ⟨by simp [Ghost.trunc, hb], h2⟩
theorem RepXs.trunc {g w} {dh n : Nat} (hn : n ≤ g.N dh) : ∀ (xs : List X) (vs : List Value), belowBs n xs = true → RepXs g w dh xs vs → RepXs (g.trunc dh n) w dh xs vs
  | [], vs, _, r => by simpa only [RepXs] using r
  | x :: xs, vs, hb, r => by
    simp only [belowBs, Bool.and_eq_true] at hb
    simp only [RepXs] at r ⊢
    obtain ⟨v, us, h1, h2, h3⟩ := r
    exact ⟨v, us, h1, RepX.trunc hn x v hb.1 h2, RepXs.trunc hn xs us hb.2 h3⟩
end

mutual
theorem RepO.trunc {g w} {dh id n : Nat} (hn : n ≤ g.N dh) : ∀ (x : X) (t : Ty) (off : Nat) (cs : List Value), belowB n x = true → RepO g w dh id x t off cs → RepO (g.trunc dh n) w dh id x t off cs
  | .d t' x, t, off, cs, _, r => by
    simp only [RepO] at r ⊢
    exact ⟨r.1, r.2.trunc⟩
  | .agg xs, t, off, cs, hb, r => by
    simp only [belowB] at hb
    cases t <;> simp only [RepO] at r ⊢
    exact RepOs.trunc hn xs _ off cs hb r
  | .sl e xs nl own, t, off, cs, hb, r => by
    simp only [RepO] at r ⊢
    obtain ⟨r1, v, r2, r3⟩ := r
    exact ⟨r1, v, r2, RepX.trunc hn _ v hb r3⟩
  | .fn f a b, t, off, cs, hb, r => by
    simp only [RepO] at r ⊢
    obtain ⟨r1, v, r2, r3⟩ := r
    exact ⟨r1, v, r2, RepX.trunc hn _ v hb r3⟩
  | .ptr i p, t, off, cs, hb, r => by
    simp only [RepO] at r ⊢
    obtain ⟨r1, v, r2, r3⟩ := r
    exact ⟨r1, v, r2, RepX.trunc hn _ v hb r3⟩
  | .dead, _, _, _, _, r => by simp [RepO] at r
  | .undef, _, _, _, _, r => by simp [RepO] at r
  | .nils, _, _, _, _, r => by simp [RepO] at r
  | .cp _ _, _, _, _, _, r => by simp [RepO] at r
  | .tup _, _, _, _, _, r => by simp [RepO] at r
  | .lst _, _, _, _, _, r => by simp [RepO] at r
  | .cx _, _, _, _, _, r => by simp [RepO] at r
  | .mref _ _ _, _, _, _, _, r => by simp [RepO] at r
theorem RepOs.trunc {g w} {dh id n : Nat} (hn : n ≤ g.N dh) : ∀ (xs : List X) (t : Ty) (off : Nat) (cs : List Value), belowBs n xs = true → RepOs g w dh id xs t off cs → RepOs (g.trunc dh n) w dh id xs t off cs
  | [], t, off, cs, _, r => by simpa only [RepOs] using r
  | x :: xs, t, off, cs, hb, r => by
    simp only [belowBs, Bool.and_eq_true] at hb
    cases t <;> simp only [RepOs] at r ⊢
    obtain ⟨c1, c2, r1, r2, r3⟩ := r
    exact ⟨c1, c2, r1, RepO.trunc hn x _ off c1 hb.1 r2, RepOs.trunc hn xs _ _ c2 hb.2 r3⟩
end

/-- Of variables less may be told: of the last ones nothing; of others their data alone. -/
def HWeak (H1 H2 : Hp) : Prop := H2.length ≤ H1.length ∧ (∀ (id : Nat) (t : Ty) (c : X), H2[id]? = some (t, c) → ∃ c1, H1[id]? = some (t, c1) ∧ (c = c1 ∨ ∃ y, toD t c1 = some y ∧ c = .d t y)) ∧
  (H2.length = H1.length ∨ ∀ (id : Nat) (t : Ty) (c : X), H2[id]? = some (t, c) → belowB H2.length c = true)
theorem HWeak.refl (H : Hp) : HWeak H H := ⟨Nat.le_refl _, fun id t c h => ⟨c, h, .inl rfl⟩, .inl rfl⟩

/-- A part of the variables at the front, each as it is, or its data. -/
def frontB : Hp → Hp → Prop
  | _, [] => True
  | (t, c) :: H, (t', c') :: H' => t' = t ∧ (c' = c ∨ ∃ y, toD t c = some y ∧ c' = .d t y) ∧ frontB H H'
  | [], _ :: _ => False
theorem frontB_get : ∀ (H H' : Hp), frontB H H' → H'.length ≤ H.length ∧ ∀ (id : Nat) (t : Ty) (c : X), H'[id]? = some (t, c) → ∃ c1, H[id]? = some (t, c1) ∧ (c = c1 ∨ ∃ y, toD t c1 = some y ∧ c = .d t y)
  | H, [], _ => ⟨by simp, fun id t c e => by simp at e⟩
  | (t, c) :: H, (t', c') :: H', h => by
    obtain ⟨rfl, h2, h3⟩ := h
    obtain ⟨k1, k2⟩ := frontB_get H H' h3
    refine ⟨by simpa using k1, fun id t2 c2 e => ?_⟩
    cases id with
    | zero =>
      simp only [List.getElem?_cons_zero, Option.some.injEq, Prod.mk.injEq] at e
      obtain ⟨rfl, rfl⟩ := e
      exact ⟨c, rfl, h2⟩
    | succ id => exact k2 id t2 c2 (by simpa using e)
  | [], _ :: _, h => h.elim
theorem HWeak.of {H H' : Hp} (h : frontB H H') (hb : (H'.all fun p => belowB H'.length p.2) = true) : HWeak H H' := by
  obtain ⟨k1, k2⟩ := frontB_get H H' h
  refine ⟨k1, k2, .inr fun id t c e => ?_⟩
  exact List.all_eq_true.1 hb (t, c) (List.mem_of_getElem? e)

theorem HRep.hweak {g w} {dh : Nat} {H1 H2 : Hp} (h : HRep g w dh H1) (k : HWeak H1 H2) : HRep (g.trunc dh H2.length) w dh H2 := by
  obtain ⟨k1, k2, k3⟩ := k
  have hn : H2.length ≤ g.N dh := by rw [← h.1]; exact k1
  refine ⟨by simp [Ghost.trunc], fun id t c e => ?_⟩
  obtain ⟨c1, e1, e2⟩ := k2 id t c e
  obtain ⟨r1, r2, r3, r4, r5⟩ := h.2 id t c1 e1
  refine ⟨r1, r2, r3, r4, ?_⟩
  rcases r5 with ⟨arr, ty, r5, r6⟩ | ⟨rfl, o, r5, r6⟩
  case inr =>
    refine .inr ⟨rfl, o, r5, ?_⟩
    rcases e2 with rfl | ⟨y, hy, rfl⟩
    · exact r6
    · obtain ⟨s, n, rfl, _⟩ := r6
      simp [iterX, V.toD] at hy
  refine .inl ⟨arr, ty, r5, ?_⟩
  have r7 : RepO g w dh id c t 0 arr.toList := by
    rcases e2 with rfl | ⟨y, hy, rfl⟩
    · exact r6
    · simp only [RepO]
      exact ⟨trivial, RepO.toD c1 t 0 _ y r6 hy⟩
  rcases k3 with k3 | k3
  · have hg : g.trunc dh H2.length = g := by
      unfold Ghost.trunc
      rw [k3, h.1]
      have : (fun h => if h = dh then g.N dh else g.N h) = g.N := by
        funext x
        split
        · rename_i e; rw [e]
        · rfl
      rw [this]
    rw [hg]; exact r7
  · exact RepO.trunc hn c t 0 _ (k3 id t c e) r7

theorem Ext.trunc {g w g' w'} {d dh n : Nat} {K : Key → Prop} (h : Ext g w g' w' d K) (hK : K (.obj dh 0)) (hn : g.N dh ≤ n) : Ext g w (g'.trunc dh n) w' d K where
  os := h.os
  tape := h.tape
  output := h.output
  size := h.size
  keep := h.keep
  cells := h.cells
  mu x hx id hid := by
    obtain ⟨k1, k2, k3⟩ := h.mu x hx id hid
    refine ⟨?_, k2, k3⟩
    simp only [Ghost.trunc]
    split
    · rename_i e; subst e; omega
    · exact k1
  num x hx := by
    simp only [Ghost.trunc]
    split
    · rename_i e
      subst e
      exact absurd hK (hx _ rfl)
    · exact h.num x hx

/-- A frame of which less is told. -/
theorem Fr.forget {g w} {d dh : Nat} {st st' : St} {a : Act} (h : Fr g w d dh st a) (hl : st'.tm.length = st.tm.length) (hH : st'.H = st.H) (hx : ∀ (t : Nat) (x : X), st'.tm[t]? = some x → x = .dead ∨ st.tm[t]? = some x ∨ ∃ y, st.tm[t]? = some y ∧ x = y.unown) : Fr g w d dh st' a := by
  refine ⟨hl.trans h.len, fun t x e => ?_, hH ▸ h.heap, h.wf, h.le⟩
  rcases hx t x e with rfl | e' | ⟨y, e', rfl⟩
  · simp [RepX]
  · exact h.rep t x e'
  · exact (h.rep t y e').unown'

theorem idxOf_get : ∀ (ks : List Nat) (t i : Nat), ks.idxOf? t = some i → ks[i]? = some t
  | [], _, _, h => by simp at h
  | k :: ks, t, i, h => by
    rw [List.idxOf?_cons] at h
    split at h
    · rename_i hk
      cases h
      simp at hk
      simp [hk]
    · rw [Option.map_eq_some_iff] at h
      obtain ⟨j, hj, rfl⟩ := h
      simpa using idxOf_get ks t j hj

theorem keepOnly_get {n : Nat} {ks : List Nat} {xs : List X} {t : Nat} {x : X} (h : (keepOnly n ks xs)[t]? = some x) : x = .dead ∨ ∃ i, ks[i]? = some t ∧ xs.getD i .dead = x := by
  unfold keepOnly at h
  rw [List.getElem?_map, Option.map_eq_some_iff] at h
  obtain ⟨j, hj, rfl⟩ := h
  have : j = t := by
    rw [List.getElem?_range] at hj
    · simpa using hj.symm
    · have := (List.getElem?_eq_some_iff.1 hj).1
      simpa using this
  subst this
  split
  · rename_i i hi
    exact .inr ⟨i, idxOf_get ks j i hi, rfl⟩
  · exact .inl rfl

theorem Fr.keep {g w} {d dh : Nat} {st : St} {a : Act} (h : Fr g w d dh st a) (N : Nat) (hN : st.tm.length = N) (ks : List Nat) : Fr g w d dh { tm := keepOnly N ks (ks.map fun t => st.tm.getD t .dead), H := st.H } a := by
  refine h.forget (by simp [keepOnly, hN]) rfl fun t x e => ?_
  rcases keepOnly_get e with e | ⟨i, hi, hx⟩
  · exact .inl e
  · rw [List.getD_eq_getElem?_getD, List.getElem?_map, hi] at hx
    simp only [Option.map_some, Option.getD_some] at hx
    by_cases hd : x = .dead
    · exact .inl hd
    · refine .inr (.inl ?_)
      rw [List.getD_eq_getElem?_getD] at hx
      cases ht : st.tm[t]? with
      | none => rw [ht] at hx; simp at hx; exact absurd hx.symm hd
      | some y => rw [ht] at hx; simp at hx; rw [hx]

/-- Of places less may be told. -/
def Forget (ys xs : List X) : Prop := ∀ i, xs.getD i .dead = .dead ∨ xs.getD i .dead = ys.getD i .dead ∨ xs.getD i .dead = (ys.getD i .dead).unown

/-- What lives on leads to no variable that is told of no more. -/
def LeadsB (H1 H2 : Hp) (xs : List X) : Prop := H2.length = H1.length ∨ belowBs H2.length xs = true

theorem Fr.weak {g w} {d dh : Nat} {N : Nat} {ks : List Nat} {xs ys : List X} {H H' : Hp} {a : Act} (h : Fr g w d dh { tm := keepOnly N ks ys, H := H } a) (hf : Forget ys xs) (hH : HWeak H H') (hl : LeadsB H H' xs) :
    Fr (g.trunc dh H'.length) w d dh { tm := keepOnly N ks xs, H := H' } a := by
  have h1 : Fr g w d dh { tm := keepOnly N ks xs, H := H } a := by
    refine h.forget (by simp [keepOnly]) rfl fun t x e => ?_
    have ht : t < N := by
      have := (List.getElem?_eq_some_iff.1 e).1
      simpa [keepOnly] using this
    have hk : ∀ zs : List X, (keepOnly N ks zs)[t]? = some (match ks.idxOf? t with | some i => zs.getD i .dead | none => .dead) := by
      intro zs
      unfold keepOnly
      rw [List.getElem?_map, List.getElem?_range ht]
      rfl
    rw [hk] at e ⊢
    simp only [Option.some.injEq] at e ⊢
    cases hi : ks.idxOf? t with
    | none => rw [hi] at e; exact .inl e.symm
    | some i =>
      rw [hi] at e
      simp only at e ⊢
      rcases hf i with h0 | h0 | h0
      · exact .inl (e.symm.trans h0)
      · exact .inr (.inl (h0.symm.trans e))
      · exact .inr (.inr ⟨_, rfl, e.symm.trans h0⟩)
  have hn : H'.length ≤ g.N dh := by rw [← h1.heap.1]; exact hH.1
  refine ⟨h1.len, fun t x e => ?_, h1.heap.hweak hH, h1.wf, h1.le⟩
  have hr := h1.rep t x e
  rcases hl with hl | hl
  · have hg : g.trunc dh H'.length = g := by
      unfold Ghost.trunc
      rw [hl, h1.heap.1]
      have : (fun h => if h = dh then g.N dh else g.N h) = g.N := by
        funext x
        split
        · rename_i e; rw [e]
        · rfl
      rw [this]
    rw [hg]; exact hr
  · refine RepX.trunc hn x _ ?_ hr
    rcases keepOnly_get e with rfl | ⟨i, _, hx⟩
    · rfl
    · rw [← hx]
      by_cases hi : i < xs.length
      · rw [List.getD_eq_getElem?_getD, List.getElem?_eq_getElem hi]
        exact (belowBs_iff _ _).1 hl _ (List.getElem_mem hi)
      · rw [List.getD_eq_getElem?_getD, List.getElem?_eq_none (by omega)]
        rfl

/-- A loop comes to this, in so many rounds. Between rounds less may be told. -/
def LoopN (C : Ctx) (fuel : Nat) (body : Code) (N : Nat) (ks : List Nat) : Nat → List X → Hp → Ex × List X × Hp → Prop
  | 0, _, _, _ => False
  | m + 1, xs, H, r =>
    (∃ ys H1, r.1 ≠ .normal ∧ stepF C fuel body N ks xs H (fun e xs H => some (e, xs, H)) = some (r.1, ys, H1) ∧ Forget ys r.2.1 ∧ HWeak H1 r.2.2 ∧ H.length ≤ r.2.2.length ∧ LeadsB H1 r.2.2 r.2.1) ∨
    (∃ ys H1 xs' H', stepF C fuel body N ks xs H (fun e xs H => some (e, xs, H)) = some (Ex.normal, ys, H1) ∧ Forget ys xs' ∧ HWeak H1 H' ∧ H.length ≤ H'.length ∧ LeadsB H1 H' xs' ∧ LoopN C fuel body N ks m xs' H' r)

theorem loopN_ok {P : Program} {C : Ctx} (hC : COk P C) (hmix : P.follows .mixedOrders = true) {d dh fuel : Nat} {body : Code} {N : Nat} {ks : List Nat} (hL : LoopsOk P C d dh (loopsOf body)) {F : List X → Hp → Option (Ex × List X × Hp)}
    (hF : ∀ xs H r, F xs H = some r → ∃ m, LoopN C fuel body N ks m xs H r) : LoopOk P d dh body N ks F := by
  intro st e xsF HF hN hres g w a h
  obtain ⟨m, hm⟩ := hF _ _ _ hres
  refine wp_loop_fuel (fun n a' w' => ∃ g' xs H', LoopN C fuel body N ks n xs H' (e, xsF, HF) ∧ Fr g' w' d dh { tm := keepOnly N ks xs, H := H' } a' ∧ Ext g w g' w' d (Kf d dh) ∧ a'.defers = a.defers ∧ g.N dh ≤ H'.length) ?_ (n := m) ?_
  · rintro n a' w' ⟨g', xs, H', h1, h2, h3, h4, h5⟩
    cases n with
    | zero => exact h1.elim
    | succ n =>
      have hK : Kf d dh (.obj dh 0) := .inr rfl
      rcases h1 with ⟨ys, H1, q1, q2, q3, q4, q6, q7⟩ | ⟨ys, H1, xs', H2, q2, q3, q4, q6, q7, q5⟩
      · have hs := q2
        unfold stepF at hs
        refine codeK_sound hC hmix fuel body g' w' _ a' _ _ h2 hs hL fun e2 st2 a2 w2 g2 k1 k2 k3 k4 => ?_
        simp only at k1
        split at k1
        · rename_i hN2
          simp only [Option.some.injEq, Prod.mk.injEq] at k1
          obtain ⟨rfl, rfl, rfl⟩ := k1
          have hfin : e2.to = e2.to ∧ ∃ g', Fr g' w2 d dh { tm := keepOnly N ks xsF, H := HF } a2 ∧ Ext g w g' w2 d (Kf d dh) ∧ a2.defers = a.defers := ⟨rfl, _, (k2.keep N hN2 ks).weak q3 q4 q7, (h3.trans k3).trunc hK (Nat.le_trans h5 q6), k4.trans h4⟩
          cases e2 with
          | normal => exact absurd rfl q1
          | exit i => exact hfin
          | goto i => exact hfin
          | ret => exact hfin
        · cases k1
      · have hs := q2
        unfold stepF at hs
        refine codeK_sound hC hmix fuel body g' w' _ a' _ _ h2 hs hL fun e2 st2 a2 w2 g2 k1 k2 k3 k4 => ?_
        simp only at k1
        split at k1
        · rename_i hN2
          simp only [Option.some.injEq, Prod.mk.injEq] at k1
          obtain ⟨rfl, rfl, rfl⟩ := k1
          exact ⟨n, Nat.lt_succ_self n, _, _, _, q5, (k2.keep N hN2 ks).weak q3 q4 q7, (h3.trans k3).trunc hK (Nat.le_trans h5 q6), k4.trans h4, Nat.le_trans h5 q6⟩
        · cases k1
  · exact ⟨g, _, _, hm, h.keep N hN ks, Ext.refl _ _ _ _, rfl, Nat.le_of_eq h.heap.1.symm⟩

mutual
/-- An argument that leads to no variable and whose room is not its own. -/
def argB : X → Bool
  | .d _ _ => true
  | .sl _ _ _ own => !own
  | .nils => true
  | .undef => true
  | .dead => true
  | .cp _ _ => true
  | .fn _ a b => argsB a && argsB b
  | .tup xs => argsB xs
  | .lst l => argsB l
  | .cx x => argB x
  | _ => false
def argsB : List X → Bool
  | [] => true
  | x :: xs => argB x && argsB xs
end

mutual
theorem RepX.far {g w} {dh dh2 : Nat} {κ κ2 : Key} : ∀ (x : X) (v : Value), argB x = true → RepX g w dh κ x v → RepX g w dh2 κ2 x v
  | .d t x, v, _, h => by simpa only [RepX] using h
  | .sl e xs nl own, v, hb, h => by
    simp only [argB, Bool.not_eq_true'] at hb
    subst hb
    simp only [RepX] at h ⊢
    obtain ⟨a, c, h1, h2, h3, h4, _⟩ := h
    exact ⟨a, c, h1, h2, h3, h4, (fun e => by cases e)⟩
  | .nils, v, _, h => by simpa only [RepX] using h
  | .undef, v, _, h => by simpa only [RepX] using h
  | .dead, v, _, h => by simp only [RepX]
  | .cp t x, v, _, h => by simpa only [RepX] using h
  | .fn f a b, v, hb, h => by
    simp only [argB, Bool.and_eq_true] at hb
    simp only [RepX] at h ⊢
    obtain ⟨vs, us, h1, h2, h3⟩ := h
    exact ⟨vs, us, h1, RepXs.far a vs hb.1 h2, RepXs.far b us hb.2 h3⟩
  | .tup xs, v, hb, h => by
    simp only [argB] at hb
    simp only [RepX] at h ⊢
    obtain ⟨vs, h1, h2⟩ := h
    exact ⟨vs, h1, RepXs.far xs vs hb h2⟩
  | .ptr _ _, _, hb, _ => by simp [argB] at hb
  | .mref _ _ _, _, hb, _ => by simp [argB] at hb
  | .lst l, v, hb, h => by
    simp only [argB] at hb
    simp only [RepX] at h ⊢
    obtain ⟨a, us, c, h1, h2, h3, h4⟩ := h
    exact ⟨a, us, c, h1, h2, RepXs.far l us hb h3, h4⟩
  | .cx x, v, hb, h => by
    simp only [argB] at hb
    simp only [RepX] at h ⊢
    obtain ⟨A, u, h1, h2, h3, h4, h5⟩ := h
    exact ⟨A, u, h1, h2, RepX.far x u hb h3, h4, h5⟩
  | .agg _, _, hb, _ => by simp [argB] at hb
theorem RepXs.far {g w} {dh dh2 : Nat} : ∀ (xs : List X) (vs : List Value), argsB xs = true → RepXs g w dh xs vs → RepXs g w dh2 xs vs
  | [], vs, _, h => by simpa only [RepXs] using h
  | x :: xs, vs, hb, h => by
    simp only [argsB, Bool.and_eq_true] at hb
    simp only [RepXs] at h ⊢
    obtain ⟨v, us, h1, h2, h3⟩ := h
    exact ⟨v, us, h1, RepX.far x v hb.1 h2, RepXs.far xs us hb.2 h3⟩
end

/-- A result that leads to no variable. -/
def resB : X → Bool
  | .sl _ _ _ _ => true
  | x => argB x

theorem RepX.res {g w} {dh dh2 : Nat} {κ : Key} {x : X} {v : Value} (hb : resB x = true) (h : RepX g w dh κ x v) : RepX g w dh2 κ x v := by
  cases x
  case sl e xs nl own => simpa only [RepX] using h
  all_goals exact RepX.far _ v hb h

theorem Fr.enter {g w} {d dh : Nat} {H : Hp} (hH : HRep g w dh H) (hw : WF g w) (hd : dh ≤ d) {args : List X} {vs : List Value} (ha : RepXs g w dh args vs) (hb : ∀ x ∈ args, ∀ e xs nl own, x = .sl e xs nl own → own = false) (n : Nat) :
    Fr g w d dh { tm := args ++ List.replicate n .undef, H := H } { tmps := vs.toArray ++ Array.replicate n undef, defers := [] } := by
  have hlen : ∀ (xs : List X) (vs : List Value), RepXs g w dh xs vs → xs.length = vs.length := by
    intro xs
    induction xs with
    | nil => intro vs h; simp only [RepXs] at h; simp [h]
    | cons x xs ih =>
      intro vs h
      simp only [RepXs] at h
      obtain ⟨v, us, rfl, _, h3⟩ := h
      simp [ih us h3]
  have hl := hlen args vs ha
  refine ⟨by simp [hl], fun t x e => ?_, hH, hw, hd⟩
  by_cases ht : t < args.length
  · rw [List.getElem?_append_left ht] at e
    obtain ⟨v, hv, hr⟩ := RepXs.get args vs t x ha e
    have htv : t < vs.length := by omega
    have : (vs.toArray ++ Array.replicate n undef).getD t undef = v := by
      rw [List.getElem?_eq_getElem htv] at hv
      simp only [Option.some.injEq] at hv
      simp [Array.getD, Array.getElem_append, htv, hv]
      omega
    simp only [this]
    have hmem : x ∈ args := List.mem_of_getElem? e
    cases x
    case sl e0 xs nl own =>
      have := hb _ hmem e0 xs nl own rfl
      subst this
      simp only [RepX] at hr ⊢
      obtain ⟨a, c, h1, h2, h3, h4, _⟩ := hr
      exact ⟨a, c, h1, h2, h3, h4, (fun e => by cases e)⟩
    all_goals (simp only [RepX] at hr ⊢; try exact hr)
  · rw [List.getElem?_append_right (by omega)] at e
    have hx : x = .undef := by
      have := List.mem_of_getElem? e
      exact List.eq_of_mem_replicate this
    subst hx
    simp only [RepX]
    have hlt : t - args.length < n := by
      have := (List.getElem?_eq_some_iff.1 e).1
      simpa using this
    simp [Array.getD, Array.getElem_append]
    intro h1 h2
    omega

end Go.Proofs.YtnjlfeigcappjaaDoor.V

/- What the evaluator tells is so: a function whose body it comes through does what it tells. -/
namespace Go.Proofs.YtnjlfeigcappjaaDoor.V
open Go
set_option linter.unusedVariables false
set_option linter.unusedSimpArgs false

/-- One result, as it is read. -/
def resRun (tmps : Array Value) : ResultVar → Sem Value
  | .tmp t => pure (tmps.getD t undef)
  | .cell a t => do loadVar t (← asAddr (tmps.getD a undef))

theorem resultX_sound {P : Program} {C : Ctx} (hC : TysOk P C.tys) {g w} {d dh : Nat} {st : St} {a : Act} (h : Fr g w d dh st a) {r : ResultVar} {x : X} (hx : resultX C st r = some x) :
    ∃ v κ, (resRun a.tmps r).run P w = .ok v w ∧ RepX g w dh κ x v ∧ κ ≠ .no ∧ Kf d dh κ := by
  cases r with
  | tmp t =>
    simp only [resultX, Option.some.injEq] at hx
    subst hx
    have := h.val (.tmp t)
    simp only [St.val, keyOf, Act.eval] at this
    exact ⟨_, _, rfl, this, by simp, .inl (Nat.le_refl _)⟩
  | cell b T =>
    simp only [resultX] at hx
    split at hx
    · rename_i e id p he hv
      split at hx
      · rename_i t c hid
        split at hx
        · rename_i t' y htp hy
          split at hx
          · rename_i hte
            subst hte
            have hxp := h.val (.tmp b)
            simp only [St.val, keyOf, Act.eval] at hxp
            rw [hv] at hxp
            simp only [RepX] at hxp
            obtain ⟨hN, o, t1, hp, hval⟩ := hxp
            obtain ⟨r1, r2, r3, r4, r56⟩ := h.heap.2 id t c hid
            have ht := (Ctx.ty_ok hC he).1
            obtain ⟨arr, tyo, r5, r6⟩ := r56.cells htp (tyB_unit ht)
            rw [r1] at hp
            obtain rfl := typeAt_eq hp htp
            obtain ⟨pre, mid, post, f1, f2, f3⟩ := RepO.get p c t 0 o _ e.t y r6 hp hy
            rw [Nat.zero_add] at f3
            have hcell : ∀ j (hj : j < mid.length), w.cell? ⟨g.μ dh id, o + j, none⟩ = some mid[j] := by
              intro j hj
              rw [cell_of_heap r5, ← Array.getElem?_toList, f1, ← f2, getElem?_mid pre mid post j hj, List.getElem?_eq_getElem hj]
            have hlv := loadVar_run (w := w) (b := g.μ dh id) (off := o) ht (RepO.length _ _ _ _ f3) hcell
            refine ⟨_, .cell dh id o, ?_, f3.out hx, by simp, .inr rfl⟩
            simp only [resRun, Sem.run_bind, hval, asAddr, Sem.run_pure, Result.andThen_ok]
            exact hlv
          · cases hx
        · cases hx
      · cases hx
    · cases hx

theorem results_run {P : Program} (fn : Func) (tmps : Array Value) (w : World) (vs : List Value) (h : (fn.results.toList.mapM (resRun tmps)).run P w = .ok vs w) :
    (results fn tmps).run P w = .ok (match vs with | [v] => v | vs => .tuple vs.toArray) w := by
  have e : results fn tmps = (do
      let vs ← fn.results.mapM (resRun tmps)
      pure (if h : vs.size = 1 then vs[0] else .tuple vs)) := rfl
  have h2 : (fn.results.mapM (resRun tmps)) = (List.toArray <$> fn.results.toList.mapM (resRun tmps)) := Array.mapM_eq_mapM_toList
  rw [e, h2]
  simp only [Sem.run_bind, Sem.run_map, h, Result.andThen_ok, Sem.run_pure]
  congr 1
  match vs with
  | [] => rfl
  | [v] => rfl
  | _ :: _ :: _ => rfl

theorem mapM_sound {P : Program} {C : Ctx} (hC : TysOk P C.tys) {g w} {d dh : Nat} {st : St} {a : Act} (h : Fr g w d dh st a) : ∀ (rs : List ResultVar) (xs : List X), rs.mapM (resultX C st) = some xs →
    ∃ vs, (rs.mapM (resRun a.tmps)).run P w = .ok vs w ∧ RepXs g w dh (xs.map X.unown) vs ∧ vs.length = rs.length
  | [], xs, e => by
    simp only [List.mapM_nil] at e
    cases e
    exact ⟨[], rfl, by simp [RepXs], rfl⟩
  | r :: rs, xs, e => by
    simp only [List.mapM_cons] at e
    cases hr : resultX C st r with
    | none => rw [hr] at e; simp at e
    | some y =>
      cases hs : rs.mapM (resultX C st) with
      | none => rw [hr, hs] at e; simp at e
      | some ys =>
        rw [hr, hs] at e
        simp at e
        subst e
        obtain ⟨v, κ, e1, e2, _⟩ := resultX_sound hC h hr
        obtain ⟨vs, f1, f2, f3⟩ := mapM_sound hC h rs ys hs
        refine ⟨v :: vs, ?_, ?_, by simp [f3]⟩
        · simp only [List.mapM_cons, Sem.run_bind, e1, Result.andThen_ok, f1, Sem.run_pure]
        · simp only [List.map_cons, RepXs]
          exact ⟨v, vs, rfl, e2.unown', f2⟩

theorem resultsX_sound {P : Program} {C : Ctx} (hC : TysOk P C.tys) {g w} {d dh : Nat} {st : St} {a : Act} (h : Fr g w d dh st a) (fn : Func) {x : X} (hx : resultsX C fn st = some x) :
    ∃ v κ, (results fn a.tmps).run P w = .ok v w ∧ RepX g w dh κ x v ∧ κ ≠ .no ∧ Kf d dh κ := by
  unfold resultsX at hx
  split at hx
  · rename_i r hr
    obtain ⟨v, κ, e1, e2, e3, e4⟩ := resultX_sound hC h hx
    refine ⟨v, κ, ?_, e2, e3, e4⟩
    refine results_run fn a.tmps w [v] ?_
    rw [hr]
    simp only [List.mapM_cons, List.mapM_nil, Sem.run_bind, e1, Result.andThen_ok, Sem.run_pure]
  · rename_i rs hne
    split at hx
    · rename_i xs hxs
      cases hx
      obtain ⟨vs, f1, f2, f3⟩ := mapM_sound hC h _ xs hxs
      refine ⟨.tuple vs.toArray, .tmp d 0, ?_, ?_, by simp, .inl (Nat.le_refl _)⟩
      · have := results_run fn a.tmps w vs f1
        rw [this]
        match vs, f3 with
        | [], _ => rfl
        | [v], f3 =>
          exfalso
          have h1 : fn.results.toList.length = 1 := by simpa using f3.symm
          match hl : fn.results.toList, h1 with
          | [r], _ => exact hne r hl
        | _ :: _ :: _, _ => rfl
      · simp only [RepX]
        exact ⟨vs, rfl, f2⟩
    · cases hx

theorem RepXs.length {g w} {dh : Nat} : ∀ (xs : List X) (vs : List Value), RepXs g w dh xs vs → xs.length = vs.length
  | [], vs, h => by simp only [RepXs] at h; simp [h]
  | x :: xs, vs, h => by
    simp only [RepXs] at h
    obtain ⟨v, us, rfl, _, h3⟩ := h
    simp [RepXs.length xs us h3]

theorem fnOk {P : Program} {f : Nat} {fn : Func} (hf : P.funcs[f]? = some fn) (hname : fn.name ≠ "runtime.NumGoroutine") (hb : fn.body.isSome = true) : FnOk P f := by
  intro args w
  have h1 : (fn.name == "runtime.NumGoroutine") = false := by simpa using hname
  have h2 : fn.body.isNone = false := by cases h : fn.body <;> simp_all
  simp only [callFunc, Sem.run_bind, run_program, Result.andThen_ok, hf, h1, h2, Bool.false_eq_true, if_false, Sem.run_pure]

/-- **A function whose body the evaluator comes through does what it tells.** -/
theorem pure_ok {P : Program} {C : Ctx} (hC : COk P C) (hmix : P.follows .mixedOrders = true) {f : Nat} {fn : Func} {c : Code} (hf : P.funcs[f]? = some fn) (hname : fn.name ≠ "runtime.NumGoroutine") (hb : fn.body = some c) (fuel : Nat)
    (hL : ∀ d, LoopsOk P C d d (loopsOf c)) {F : List X → Option X} (hF : ∀ args r, F args = some r → argsB args = true ∧ resB r = true ∧ ∃ H', bodyX C fuel fn args [] = some (r, H')) : PureOk P f F := by
  refine ⟨fnOk hf hname (by simp [hb]), fun args r hr g w d dh vs hd hw ha => ?_⟩
  obtain ⟨hab, hrb, H', hbody⟩ := hF args r hr
  simp only [bodyX, hb] at hbody
  let g0 : Ghost := { g with N := fun h => if h = d + 1 then 0 else g.N h }
  have he0 : Ext g w g0 w d (fun κ => κ.deep (d + 1)) := by
    refine ⟨rfl, rfl, rfl, Nat.le_refl _, fun _ _ _ => ⟨rfl, rfl, rfl⟩, fun _ _ h => ⟨rfl, h⟩, fun h hh id hid => ?_, fun h hh => ?_⟩
    · have : h ≠ d + 1 := by omega
      simp [g0, this, hid]
    · have : h ≠ d + 1 := by
        rintro rfl
        exact hh (.obj (d + 1) 0) rfl (Nat.le_refl _)
      simp [g0, this]
  have ha1 : RepXs g w (d + 1) args vs := RepXs.far args vs hab ha
  have ha0 : RepXs g0 w (d + 1) args vs := by
    have h2 : ∀ (xs : List X) (vs : List Value), argsB xs = true → RepXs g w dh xs vs → RepXs g0 w (d + 1) xs vs := fun xs vs hb h => RepXs.far xs vs hb (RepXs.ext he0 hd (fun e => e) xs vs h)
    exact h2 args vs hab ha
  have hH0 : HRep g0 w (d + 1) [] := ⟨by simp [g0], fun id t c e => by simp at e⟩
  have hw0 : WF g0 w := hw
  have hown : ∀ x ∈ args, ∀ e xs nl own, x = .sl e xs nl own → own = false := by
    have : ∀ (l : List X), argsB l = true → ∀ x ∈ l, ∀ e xs nl own, x = .sl e xs nl own → own = false := by
      intro l
      induction l with
      | nil => intro _ x hx; cases hx
      | cons y l ih =>
        intro hb x hx
        simp only [argsB, Bool.and_eq_true] at hb
        rcases List.mem_cons.1 hx with rfl | hx
        · rintro e xs nl own rfl
          have := hb.1
          simp only [argB, Bool.not_eq_true'] at this
          exact this
        · exact ih hb.2 x hx
    exact this args hab
  have hfr := Fr.enter hH0 hw0 (Nat.le_refl (d + 1)) ha0 hown (fn.ntmps - args.length)
  have hlen := RepXs.length args vs ha
  refine calls_of_wp hf hb ?_
  have hsz : vs.toArray.size = args.length := by simp [hlen]
  rw [hsz]
  refine codeK_sound hC hmix fuel c g0 w _ _ _ _ hfr hbody (hL (d + 1)) fun e st' a' w' g' h1 h2 h3 h4 => ?_
  have fin : ∀ x, resultsX C fn st' = some x → x = r → a'.defers = [] ∧ ∃ v, (results fn a'.tmps).run P w' = .ok v w' ∧ (∃ v_1 g', Ending.returned v = .returned v_1 ∧ RepX g' w' dh (.tmp (d + 1) 0) r v_1 ∧ Ext g w g' w' d (fun κ => κ.deep (d + 1)) ∧ WF g' w') := by
    rintro x hx rfl
    obtain ⟨v, κ, e1, e2, e3, e4⟩ := resultsX_sound hC.tys h2 fn hx
    refine ⟨h4, v, e1, v, g'.rekey κ (.tmp (d + 1) 0), rfl, RepX.res hrb (RepX.rekey (Nat.le_refl _) e3 _ _ e2), ?_, h2.wf.rekey⟩
    have hK : ∀ κ, Kf (d + 1) (d + 1) κ → κ.deep (d + 1) := by
      rintro κ (h | h)
      · exact h
      · cases κ <;> simp only [Key.heap, Key.deep] at h ⊢ <;> omega
    refine he0.trans ((h3.mono (Nat.le_succ d) hK).trans (Ghost.rekey_ext.mono (Nat.le_refl _) ?_))
    rintro κ' rfl
    exact hK _ e4
  cases e with
  | normal =>
    simp only at h1
    split at h1
    · rename_i x hx
      simp only [Option.some.injEq, Prod.mk.injEq] at h1
      exact fin x hx h1.1
    · cases h1
  | ret =>
    simp only at h1
    split at h1
    · rename_i x hx
      simp only [Option.some.injEq, Prod.mk.injEq] at h1
      exact fin x hx h1.1
    · cases h1
  | exit i => cases h1
  | goto l => cases h1

/-- The same of a function that turns its caller's variables; what it lays itself stays. -/
theorem eff_ok {P : Program} {C : Ctx} (hC : COk P C) (hmix : P.follows .mixedOrders = true) {f : Nat} {fn : Func} {c : Code} (hf : P.funcs[f]? = some fn) (hname : fn.name ≠ "runtime.NumGoroutine") (hb : fn.body = some c) (fuel : Nat)
    (hL : ∀ d dh, LoopsOk P C d dh (loopsOf c)) {F : List X → Hp → Option (X × Hp)}
    (hF : ∀ args H r H', F args H = some (r, H') → (∀ x ∈ args, ∀ e xs nl own, x = .sl e xs nl own → own = false) ∧ ∃ x H1, r = x.unown ∧ bodyX C fuel fn args H = some (x, H1) ∧ HWeak H1 H' ∧ H.length ≤ H'.length ∧ LeadsB H1 H' [x]) : EffOk P f F := by
  refine ⟨fnOk hf hname (by simp [hb]), fun args H r H' hr g w d dh vs hd hw hH ha => ?_⟩
  obtain ⟨hown, x, H1, rfl, hbody, hweak, hle, hlead⟩ := hF args H r H' hr
  simp only [bodyX, hb] at hbody
  have hfr := Fr.enter hH hw (show dh ≤ d + 1 by omega) ha hown (fn.ntmps - args.length)
  have hlen := RepXs.length args vs ha
  refine calls_of_wp hf hb ?_
  have hsz : vs.toArray.size = args.length := by simp [hlen]
  rw [hsz]
  have hfr' : Fr g w (d + 1) dh { tm := args ++ List.replicate (fn.ntmps - args.length) .undef, H := H } { tmps := vs.toArray ++ Array.replicate (fn.ntmps - args.length) undef, defers := [] } := ⟨hfr.len, hfr.rep, hfr.heap, hfr.wf, hfr.le⟩
  refine codeK_sound hC hmix fuel c g w _ _ _ _ hfr' hbody (hL (d + 1) dh) fun e st' a' w' g' h1 h2 h3 h4 => ?_
  have fin : ∀ y, resultsX C fn st' = some y → y = x → st'.H = H1 → a'.defers = [] ∧ ∃ v, (results fn a'.tmps).run P w' = .ok v w' ∧ (∃ v_1 g', Ending.returned v = .returned v_1 ∧ RepX g' w' dh (.tmp (d + 1) 0) x.unown v_1 ∧ Ext g w g' w' d (fun κ => κ.deep (d + 1) ∨ κ.heap dh) ∧ WF g' w' ∧ HRep g' w' dh H') := by
    rintro y hx rfl rfl
    obtain ⟨v, κ, e1, e2, e3, e4⟩ := resultsX_sound hC.tys h2 fn hx
    refine ⟨h4, v, e1, v, g'.trunc dh H'.length, rfl, ?_, (h3.mono (Nat.le_succ d) (fun _ h => h)).trunc (.inr rfl) (by rw [← hH.1]; exact hle), h2.wf, h2.heap.hweak hweak⟩
    have hn : H'.length ≤ g'.N dh := by rw [← h2.heap.1]; exact hweak.1
    rcases hlead with hlead | hlead
    · have hg : g'.trunc dh H'.length = g' := by
        unfold Ghost.trunc
        rw [hlead, h2.heap.1]
        have : (fun h => if h = dh then g'.N dh else g'.N h) = g'.N := by
          funext x
          split
          · rename_i e; rw [e]
          · rfl
        rw [this]
      rw [hg]
      exact e2.unown'
    · simp only [belowBs, Bool.and_true] at hlead
      exact (RepX.trunc hn _ _ hlead e2).unown'
  cases e with
  | normal =>
    simp only at h1
    split at h1
    · rename_i y hx
      simp only [Option.some.injEq, Prod.mk.injEq] at h1
      exact fin y hx h1.1 h1.2
    · cases h1
  | ret =>
    simp only at h1
    split at h1
    · rename_i y hx
      simp only [Option.some.injEq, Prod.mk.injEq] at h1
      exact fin y hx h1.1 h1.2
    · cases h1
  | exit i => cases h1
  | goto l => cases h1

end Go.Proofs.YtnjlfeigcappjaaDoor.V

/- What the evaluator tells is so: the forms in which functions and loops are proved. -/
namespace Go.Proofs.YtnjlfeigcappjaaDoor.V
open Go
set_option linter.unusedVariables false
set_option linter.unusedSimpArgs false

def bodyOf (fn : Func) : Code := fn.body.getD .skip

/-- All loops in a piece of code. -/
def loopsAll : Code → List Code
  | .loop b => b :: loopsAll b
  | .seq a b => loopsAll a ++ loopsAll b
  | .cond _ a b => loopsAll a ++ loopsAll b
  | .block _ c => loopsAll c
  | .scope c => loopsAll c
  | _ => []

def loopAt (fn : Func) (i : Nat) : Code := (loopsAll (bodyOf fn)).getD i .skip

/-- A loop comes to this. -/
def LoopTo (C : Ctx) (fuel : Nat) (body : Code) (N : Nat) (ks : List Nat) (xs : List X) (H : Hp) (r : Ex × List X × Hp) : Prop := ∃ m, LoopN C fuel body N ks m xs H r

theorem Forget.same (xs : List X) : Forget xs xs := fun _ => .inr (.inl rfl)
theorem Forget.cons {x y : X} {ys xs : List X} (h : x = .dead ∨ x = y) (t : Forget ys xs) : Forget (y :: ys) (x :: xs) := by
  intro i
  cases i with
  | zero =>
    rcases h with h | h
    · exact .inl (by simpa using h)
    · exact .inr (.inl (by simpa using h))
  | succ i => simpa using t i
theorem Forget.unown {y : X} {ys xs : List X} (t : Forget ys xs) : Forget (y :: ys) (y.unown :: xs) := by
  intro i
  cases i with
  | zero => exact .inr (.inr (by simp))
  | succ i => simpa using t i

theorem LoopTo.weak {C : Ctx} {fuel : Nat} {body : Code} {N : Nat} {ks : List Nat} {xs ys xs' : List X} {H H1 H' : Hp} {r : Ex × List X × Hp}
    (h : ∀ (k : Ex → List X → Hp → Option (Ex × List X × Hp)), stepF C fuel body N ks xs H k = k .normal ys H1) (hf : Forget ys xs') (hH : HWeak H1 H') (hl : H.length ≤ H'.length) (hb : LeadsB H1 H' xs') (t : LoopTo C fuel body N ks xs' H' r) : LoopTo C fuel body N ks xs H r := by
  obtain ⟨m, hm⟩ := t
  exact ⟨m + 1, .inr ⟨ys, H1, xs', H', h _, hf, hH, hl, hb, hm⟩⟩

theorem LoopTo.next {C : Ctx} {fuel : Nat} {body : Code} {N : Nat} {ks : List Nat} {xs xs' : List X} {H H' : Hp} {r : Ex × List X × Hp}
    (h : ∀ (k : Ex → List X → Hp → Option (Ex × List X × Hp)), stepF C fuel body N ks xs H k = k .normal xs' H') (t : LoopTo C fuel body N ks xs' H' r) (hl : H.length ≤ H'.length := by simp) : LoopTo C fuel body N ks xs H r :=
  t.weak h (Forget.same _) (HWeak.refl _) hl (.inl rfl)

theorem LoopTo.end {C : Ctx} {fuel : Nat} {body : Code} {N : Nat} {ks : List Nat} {xs ys xs' : List X} {H H1 H' : Hp} {e : Ex} (he : e ≠ .normal)
    (h : ∀ (k : Ex → List X → Hp → Option (Ex × List X × Hp)), stepF C fuel body N ks xs H k = k e ys H1) (hf : Forget ys xs') (hH : HWeak H1 H') (hl : H.length ≤ H'.length) (hb : LeadsB H1 H' xs') : LoopTo C fuel body N ks xs H (e, xs', H') :=
  ⟨1, .inl ⟨ys, H1, he, h _, hf, hH, hl, hb⟩⟩

theorem LoopTo.left {C : Ctx} {fuel : Nat} {body : Code} {N : Nat} {ks : List Nat} {xs xs' : List X} {H H' : Hp} {e : Ex} (he : e ≠ .normal)
    (h : ∀ (k : Ex → List X → Hp → Option (Ex × List X × Hp)), ∃ ys, stepF C fuel body N ks xs H k = k e ys H' ∧ Forget ys xs') (hl : H.length ≤ H'.length := by simp) : LoopTo C fuel body N ks xs H (e, xs', H') := by
  obtain ⟨ys, h1, hf⟩ := h fun e xs H => some (e, xs, H)
  exact ⟨1, .inl ⟨ys, H', he, h1, hf, HWeak.refl _, hl, .inl rfl⟩⟩

theorem LoopTo.done {C : Ctx} {fuel : Nat} {body : Code} {N : Nat} {ks : List Nat} {xs xs' : List X} {H H' : Hp} {e : Ex} (he : e ≠ .normal)
    (h : ∀ (k : Ex → List X → Hp → Option (Ex × List X × Hp)), stepF C fuel body N ks xs H k = k e xs' H') (hl : H.length ≤ H'.length := by simp) : LoopTo C fuel body N ks xs H (e, xs', H') :=
  LoopTo.end he h (Forget.same _) (HWeak.refl _) hl (.inl rfl)

/-- What is told of a loop is so. -/
def Tells (C : Ctx) (fuel : Nat) (body : Code) : Prop := ∀ key N ks F, firstRegion body = some key → C.L key = some (N, ks, F) → ∀ xs H r, (F xs H).run some = some r → LoopTo C fuel body N ks xs H r

theorem Tells.mk {C : Ctx} {fuel : Nat} {body : Code} {key N : Nat} {ks : List Nat} {F : List X → Hp → Tr (Ex × List X × Hp)} (h1 : firstRegion body = some key) (h2 : C.L key = some (N, ks, F))
    (h : ∀ xs H r, (F xs H).run some = some r → LoopTo C fuel body N ks xs H r) : Tells C fuel body := by
  intro key' N' ks' F' e1 e2
  rw [h1] at e1
  cases e1
  rw [h2] at e2
  cases e2
  exact h

theorem tells_loops {P : Program} {C : Ctx} (hC : COk P C) (hmix : P.follows .mixedOrders = true) (fuel : Nat) (c : Code) : (∀ b ∈ loopsAll c, Tells C fuel b) → ∀ d dh, LoopsOk P C d dh (loopsOf c) := by
  have no : ∀ c : Code, loopsOf c = [] → ∀ d dh, LoopsOk P C d dh (loopsOf c) := fun c e d dh x hx => by rw [e] at hx; cases hx
  induction c with
  | loop b ih =>
    intro h d dh body hb key N ks F h1 h2
    simp only [loopsOf, List.mem_singleton] at hb
    have ih := ih (fun x hx => h x (by simp [loopsAll, hx])) d dh
    subst hb
    exact loopN_ok hC hmix ih (h body (by simp [loopsAll]) key N ks F h1 h2)
  | seq a b iha ihb =>
    intro h d dh x hx
    simp only [loopsOf, List.mem_append] at hx
    exact hx.elim (iha (fun b hb => h b (by simp [loopsAll, hb])) d dh x) (ihb (fun b hb => h b (by simp [loopsAll, hb])) d dh x)
  | cond _ a b iha ihb =>
    intro h d dh x hx
    simp only [loopsOf, List.mem_append] at hx
    exact hx.elim (iha (fun b hb => h b (by simp [loopsAll, hb])) d dh x) (ihb (fun b hb => h b (by simp [loopsAll, hb])) d dh x)
  | block _ c ih => exact fun h d dh => ih (fun b hb => h b (by simpa [loopsAll] using hb)) d dh
  | scope c ih => exact fun h d dh => ih (fun b hb => h b (by simpa [loopsAll] using hb)) d dh
  | skip => exact fun _ => no _ rfl
  | region _ _ _ => exact fun _ => no _ rfl
  | rangeFunc _ _ _ _ _ _ => exact fun _ => no _ rfl
  | exit _ => exact fun _ => no _ rfl
  | label _ => exact fun _ => no _ rfl
  | goto _ => exact fun _ => no _ rfl
  | ret => exact fun _ => no _ rfl
  | refuse _ => exact fun _ => no _ rfl

theorem bodyOf_eq {fn : Func} (h : fn.body.isSome = true) : fn.body = some (bodyOf fn) := by
  unfold bodyOf
  cases e : fn.body with
  | none => rw [e] at h; cases h
  | some c => rfl

theorem loopAt_all {fn : Func} {n : Nat} (hn : (loopsAll (bodyOf fn)).length = n) {T : Code → Prop} (h : ∀ i, i < n → T (loopAt fn i)) : ∀ b ∈ loopsAll (bodyOf fn), T b := by
  intro b hb
  obtain ⟨i, hi, e⟩ := List.mem_iff_getElem.1 hb
  have := h i (hn ▸ hi)
  unfold loopAt at this
  rw [List.getD_eq_getElem?_getD, List.getElem?_eq_getElem hi] at this
  simpa [e] using this

/-- A function of its arguments alone. -/
theorem pureOk {P : Program} {C : Ctx} (hC : COk P C) (hmix : P.follows .mixedOrders = true) (f : Nat) (fn : Func) (hf : P.funcs[f]? = some fn) (hname : (fn.name == "runtime.NumGoroutine") = false) (hb : fn.body.isSome = true) (fuel n : Nat)
    (hn : (loopsAll (bodyOf fn)).length = n) (hL : ∀ i, i < n → Tells C fuel (loopAt fn i)) {F : List X → Option X}
    (hF : ∀ args r, F args = some r → argsB args = true ∧ resB r = true ∧ ∃ H', bodyX C fuel fn args [] = some (r, H')) : PureOk P f F :=
  pure_ok hC hmix hf (by simpa using hname) (bodyOf_eq hb) fuel (fun d => tells_loops hC hmix fuel _ (loopAt_all hn hL) d d) hF

/-- A function that may turn its caller's variables. -/
theorem effOk {P : Program} {C : Ctx} (hC : COk P C) (hmix : P.follows .mixedOrders = true) (f : Nat) (fn : Func) (hf : P.funcs[f]? = some fn) (hname : (fn.name == "runtime.NumGoroutine") = false) (hb : fn.body.isSome = true) (fuel n : Nat)
    (hn : (loopsAll (bodyOf fn)).length = n) (hL : ∀ i, i < n → Tells C fuel (loopAt fn i)) {F : List X → Hp → Option (X × Hp)}
    (hF : ∀ args H r H', F args H = some (r, H') → (∀ x ∈ args, ∀ e xs nl own, x = .sl e xs nl own → own = false) ∧ ∃ x H1, r = x.unown ∧ bodyX C fuel fn args H = some (x, H1) ∧ HWeak H1 H' ∧ H.length ≤ H'.length ∧ LeadsB H1 H' [x]) : EffOk P f F :=
  eff_ok hC hmix hf (by simpa using hname) (bodyOf_eq hb) fuel (fun d dh => tells_loops hC hmix fuel _ (loopAt_all hn hL) d dh) hF

theorem Tr.one {α : Type} {c : Bool} {a r : α} (h : (Tr.test c (.give a) .no).run some = some r) : c = true ∧ a = r := by
  cases c
  · cases h
  · exact ⟨rfl, by simpa [Tr.run] using h⟩

/-- By parts: what holds of each part holds of the whole. -/
theorem PureOk.union {P : Program} {f : Nat} {F : List X → Option X} (h0 : FnOk P f) (h : ∀ args r, F args = some r → ∃ G, PureOk P f G ∧ G args = some r) : PureOk P f F :=
  ⟨h0, fun args r hr => by
    obtain ⟨G, hG, hr⟩ := h args r hr
    exact hG.2 args r hr⟩

end Go.Proofs.YtnjlfeigcappjaaDoor.V

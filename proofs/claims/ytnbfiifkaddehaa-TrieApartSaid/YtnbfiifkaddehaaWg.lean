/-
  What the evaluator tells is so: code, loops, functions.
  It speaks of whatever program; no condition.
-/
import Derived.Test.YtnbfiifkaddehaaWf
import Derived.KernelRfl

/- What the evaluator tells is so: regions, in whatever order is drawn. -/
namespace Go.Proofs.Ytnbfiifkaddehaa.V
open Go
set_option linter.unusedVariables false
set_option linter.unusedSimpArgs false

theorem opsK_runL {R : Type} (C : Ctx) (all : List Oper) (k : St → Option R) : ∀ (l : List Oper) (n : Nat), (∀ j, j < l.length → all[n + j]? = l[j]?) → ∀ st, opsK C all l st k = (runL C all (List.range' n l.length) st).bind k
  | [], n, _, st => rfl
  | o :: l, n, h, st => by
    rw [opsK_cons, stepG_nat]
    have h0 := h 0 (by simp)
    simp only [Nat.add_zero, List.getElem?_cons_zero] at h0
    simp only [List.length_cons, List.range'_succ, runL, h0, Option.bind_assoc]
    congr 1
    funext s
    exact opsK_runL C all k l (n + 1) (fun j hj => by have := h (j + 1) (by simpa using hj); rw [Nat.add_assoc, Nat.add_comm 1 j]; simpa using this) s

/-- What stands ahead of an operation, one entry an operation. -/
def aheadStep (acc : List (List Nat)) (o : Oper) : List (List Nat) := acc ++ [(o.after.toList.filter fun e => Region.binds .any e).foldl (fun s e => bif s.contains e.on then s else e.on :: addNew (acc.getD e.on []) s) []]

theorem aheadOf_eq (all : List Oper) : aheadOf all = all.foldl aheadStep [] := rfl

theorem addNew_mem : ∀ (l s : List Nat) (m : Nat), m ∈ addNew l s → m ∈ l ∨ m ∈ s
  | [], s, m, h => .inr h
  | x :: l, s, m, h => by
    have e : addNew (x :: l) s = bif (addNew l s).contains x then addNew l s else x :: addNew l s := rfl
    rw [e] at h
    cases hc : (addNew l s).contains x with
    | true =>
      rw [hc] at h
      exact (addNew_mem l s m h).imp_left (List.mem_cons_of_mem _)
    | false =>
      rw [hc] at h
      rcases List.mem_cons.1 h with rfl | h
      · exact .inl (by simp)
      · exact (addNew_mem l s m h).imp_left (List.mem_cons_of_mem _)

theorem foldl_mem (acc : List (List Nat)) : ∀ (es : List Edge) (s : List Nat) (m : Nat), m ∈ es.foldl (fun s e => bif s.contains e.on then s else e.on :: addNew (acc.getD e.on []) s) s → m ∈ s ∨ ∃ e ∈ es, m = e.on ∨ m ∈ acc.getD e.on []
  | [], s, m, h => .inl h
  | e :: es, s, m, h => by
    rw [List.foldl_cons] at h
    rcases foldl_mem acc es _ m h with h | ⟨e', h1, h2⟩
    · have h' : m = e.on ∨ m ∈ acc.getD e.on [] ∨ m ∈ s := by
        cases hc : s.contains e.on with
        | true => rw [hc] at h; exact .inr (.inr h)
        | false =>
          rw [hc] at h
          rcases List.mem_cons.1 h with h | h
          · exact .inl h
          · exact .inr (addNew_mem _ _ _ h)
      rcases h' with h | h | h
      · exact .inr ⟨e, by simp, .inl h⟩
      · exact .inr ⟨e, by simp, .inr h⟩
      · exact .inl h
    · exact .inr ⟨e', by simp [h1], h2⟩

theorem ahead_spec : ∀ (l : List Oper) (acc : List (List Nat)), (∀ i, i < acc.length → (l.foldl aheadStep acc).getD i [] = acc.getD i []) ∧ (l.foldl aheadStep acc).length = acc.length + l.length ∧
    ∀ i o, l[i]? = some o → ∀ m ∈ (l.foldl aheadStep acc).getD (acc.length + i) [], ∃ e ∈ o.after.toList, Region.binds .any e = true ∧ (m = e.on ∨ m ∈ (l.foldl aheadStep acc).getD e.on [])
  | [], acc => ⟨fun _ _ => rfl, rfl, fun i o h => by simp at h⟩
  | o :: l, acc => by
    obtain ⟨h1, h2, h3⟩ := ahead_spec l (aheadStep acc o)
    have hlen : (aheadStep acc o).length = acc.length + 1 := by simp [aheadStep]
    have hold : ∀ i, i < acc.length → (l.foldl aheadStep (aheadStep acc o)).getD i [] = acc.getD i [] := by
      intro i hi
      rw [h1 i (by omega)]
      simp only [aheadStep, List.getD_eq_getElem?_getD]
      rw [List.getElem?_append_left hi]
    rw [List.foldl_cons]
    refine ⟨hold, by rw [h2, hlen]; simp; omega, fun i p hp m hm => ?_⟩
    cases i with
    | zero =>
      simp only [List.getElem?_cons_zero, Option.some.injEq] at hp
      subst hp
      rw [Nat.add_zero, h1 _ (by omega)] at hm
      simp only [aheadStep, List.getD_eq_getElem?_getD, List.getElem?_concat_length, Option.getD_some] at hm
      rcases foldl_mem acc _ _ m (by simpa [List.getD_eq_getElem?_getD] using hm) with h | ⟨e, he, h⟩
      · cases h
      · rw [List.mem_filter] at he
        refine ⟨e, he.1, he.2, ?_⟩
        rcases h with h | h
        · exact .inl h
        · by_cases hlt : e.on < acc.length
          · exact .inr (by rw [hold _ hlt]; exact h)
          · rw [List.getD_eq_getElem?_getD, List.getElem?_eq_none (Nat.le_of_not_lt hlt)] at h
            cases h
    | succ i =>
      simp only [List.getElem?_cons_succ] at hp
      exact h3 i p hp m (by rw [hlen, Nat.add_assoc, Nat.add_comm 1 i]; exact hm)

theorem ahead_mem {all : List Oper} {i : Nat} {o : Oper} (ho : all[i]? = some o) {m : Nat} (hm : m ∈ (aheadOf all).getD i []) : ∃ e ∈ o.after.toList, Region.binds .any e = true ∧ (m = e.on ∨ m ∈ (aheadOf all).getD e.on []) := by
  rw [aheadOf_eq] at hm ⊢
  exact (ahead_spec all []).2.2 i o ho m (by simpa using hm)

/-- The places that are not yet done. -/
def unl (n : Nat) (listed : Array Bool) : List Nat := (List.range n).filter fun i => !listed.getD i true

theorem range_split {n i : Nat} (h : i < n) : List.range n = List.range i ++ i :: (List.range' (i + 1) (n - i - 1)) := by
  rw [List.range_eq_range', List.range_eq_range', ← List.range'_succ]
  have h1 := List.range'_append_1 (s := 0) (m := i) (n := n - i - 1 + 1)
  rw [Nat.zero_add] at h1
  rw [h1]
  congr 1
  omega

theorem unl_split {n i : Nat} {listed : Array Bool} (h : i < n) (hs : listed.size = n) (hl : listed.getD i true = false) :
    ∃ l1 l2, unl n listed = l1 ++ i :: l2 ∧ unl n (listed.setIfInBounds i true) = l1 ++ l2 ∧ ∀ j ∈ l1, j < i ∧ listed.getD j true = false := by
  refine ⟨(List.range i).filter fun i => !listed.getD i true, (List.range' (i + 1) (n - i - 1)).filter fun i => !listed.getD i true, ?_, ?_, ?_⟩
  · unfold unl
    rw [range_split h, List.filter_append, List.filter_cons, if_pos (by simp only [hl]; rfl)]
  · unfold unl
    have hi : (listed.setIfInBounds i true).getD i true = true := by simp [Array.getD]
    have hne : ∀ j, j ≠ i → (listed.setIfInBounds i true).getD j true = listed.getD j true := by
      intro j hj
      simp [Array.getD_eq_getD_getElem?, Array.getElem?_setIfInBounds_ne (Ne.symm hj)]
    rw [range_split h, List.filter_append, List.filter_cons, if_neg (by simp only [hi]; simp)]
    congr 1
    · exact List.filter_congr fun j hj => by
        simp only [List.mem_range] at hj
        rw [hne j (by omega)]
    · exact List.filter_congr fun j hj => by
        rw [List.mem_range'] at hj
        obtain ⟨k, _, rfl⟩ := hj
        rw [hne _ (by omega)]
  · intro j hj
    simp only [List.mem_filter, List.mem_range, Bool.not_eq_true'] at hj
    exact hj

theorem drawn_any {P : Program} {C : Ctx} (hC : COk P C) (ro : Option Nat) {R : Type} {all : List Oper} (hok : drawOk C all = true) {d dh : Nat} {k : St → Option R} {r : R} {Q : Exit → Act → World → Prop} {sf : St} :
    ∀ (fuel : Nat) (listed : Array Bool) (g : Ghost) (w : World) (st : St) (a : Act), Fr g w d dh st a → listed.size = all.length → (unl all.length listed).length ≤ fuel → runL C all (unl all.length listed) st = some sf → k sf = some r →
      (∀ i, listed.getD i false = true → ∀ m ∈ (aheadOf all).getD i [], listed.getD m false = true) →
      (∀ a' w' g', Fr g' w' d dh sf a' → Ext g w g' w' d (Kf d dh) → a'.defers = a.defers → Q .normal a' w') → wpAnyIn (rdF ro) 0 P .any all.toArray Q fuel listed a w := by
  have hedge : ∀ i o, all[i]? = some o → ∀ e ∈ o.after.toList, Region.binds .any e = true → e.on < i := by
    intro i o ho e he hb
    have hi : i < all.length := (List.getElem?_eq_some_iff.1 ho).1
    simp only [drawOk, List.all_eq_true, List.mem_range] at hok
    have := hok i hi
    rw [ho] at this
    simp only [Bool.and_eq_true, List.all_eq_true, Bool.or_eq_true, Bool.not_eq_true', decide_eq_true_eq] at this
    rcases this.1 e he with h | h
    · rw [hb] at h; cases h
    · exact h
  have hap : ∀ i o j x, all[i]? = some o → all[j]? = some x → j < i → j ∉ (aheadOf all).getD i [] → apartB C all x o = true := by
    intro i o j x ho hx hj hn
    have hi : i < all.length := (List.getElem?_eq_some_iff.1 ho).1
    simp only [drawOk, List.all_eq_true, List.mem_range] at hok
    have := hok i hi
    rw [ho] at this
    simp only [Bool.and_eq_true, List.all_eq_true, List.mem_range, Bool.or_eq_true] at this
    have h2 := this.2 j hj
    rw [hx] at h2
    simp only [Bool.or_eq_true, List.contains_eq_mem, decide_eq_true_eq] at h2
    exact h2.resolve_left hn
  -- as long as some are left, one is ready
  have hleft : ∀ listed : Array Bool, listed.size = all.length → Region.ready .any all.toArray listed = [] → unl all.length listed = [] := by
    intro listed hs hr
    apply Classical.byContradiction
    intro hne
    obtain ⟨i0, hi0⟩ := List.exists_mem_of_ne_nil _ hne
    simp only [unl, List.mem_filter, List.mem_range, Bool.not_eq_true'] at hi0
    -- the least one
    have least : ∀ n i, i ≤ n → i < all.length → listed.getD i true = false → ∃ m, m < all.length ∧ listed.getD m true = false ∧ ∀ j, j < m → listed.getD j true = true := by
      intro n
      induction n with
      | zero =>
        intro i hi h1 h2
        have : i = 0 := by omega
        subst this
        exact ⟨0, h1, h2, fun j hj => absurd hj (by omega)⟩
      | succ n ih =>
        intro i hi h1 h2
        by_cases hex : ∃ j, j < i ∧ listed.getD j true = false
        · obtain ⟨j, hj, hj2⟩ := hex
          exact ih j (by omega) (by omega) hj2
        · refine ⟨i, h1, h2, fun j hj => ?_⟩
          cases hc : listed.getD j true with
          | true => rfl
          | false => exact absurd ⟨j, hj, hc⟩ hex
    obtain ⟨m, hm, hm2, hm3⟩ := least i0 i0 (Nat.le_refl _) hi0.1 hi0.2
    have : m ∈ Region.ready .any all.toArray listed := by
      simp only [Region.ready, List.mem_filter, List.mem_range, List.size_toArray]
      refine ⟨hm, ?_⟩
      have ho : all.toArray[m]? = some all[m] := by simp [hm]
      simp only [hm2, Bool.not_false, Bool.true_and, ho, Option.map_some, Option.getD_some]
      rw [← Array.all_toList, List.all_eq_true]
      intro e he
      cases hb : Region.binds .any e with
      | false => simp
      | true =>
        have hlt := hedge m all[m] (by simp [hm]) e he hb
        have h1 := hm3 _ hlt
        have hsz : e.on < listed.size := by omega
        simp only [Bool.not_true, Bool.false_or]
        simpa [Array.getD, hsz] using h1
    rw [hr] at this
    cases this
  intro fuel
  induction fuel with
  | zero =>
    intro listed g w st a h hs hf hrun hk hcl hn
    have hnil : unl all.length listed = [] := List.eq_nil_of_length_eq_zero (by omega)
    rw [hnil] at hrun
    simp only [runL, Option.some.injEq] at hrun
    subst hrun
    refine ⟨?_, hn a w g h (Ext.refl _ _ _ _) rfl⟩
    apply List.eq_nil_iff_forall_not_mem.2
    intro i hi
    simp only [Region.ready, List.mem_filter, List.mem_range, List.size_toArray, Bool.and_eq_true] at hi
    have : i ∈ unl all.length listed := by
      simp only [unl, List.mem_filter, List.mem_range]
      exact ⟨hi.1, hi.2.1⟩
    rw [hnil] at this
    cases this
  | succ fuel ih =>
    intro listed g w st a h hs hf hrun hk hcl hn
    refine ⟨fun hr => ?_, fun i hi => ?_⟩
    · rw [hleft listed hs hr] at hrun
      simp only [runL, Option.some.injEq] at hrun
      subst hrun
      exact hn a w g h (Ext.refl _ _ _ _) rfl
    · simp only [Region.ready, List.mem_filter, List.mem_range, List.size_toArray, Bool.and_eq_true, Bool.not_eq_true'] at hi
      obtain ⟨hin, hl, hedges⟩ := hi
      have ho : all[i]? = some all[i] := by simp [hin]
      have hoA : all.toArray[i]? = some all[i] := by simp [hin]
      rw [hoA] at hedges
      simp only [Option.map_some, Option.getD_some] at hedges
      rw [← Array.all_toList, List.all_eq_true] at hedges
      have hahead : ∀ m ∈ (aheadOf all).getD i [], listed.getD m false = true := by
        intro m hm
        obtain ⟨e, he, hb, hm⟩ := ahead_mem ho hm
        have h1 := hedges e he
        rw [hb] at h1
        simp only [Bool.not_true, Bool.false_or] at h1
        rcases hm with rfl | hm
        · exact h1
        · exact hcl e.on h1 m hm
      obtain ⟨l1, l2, e1, e2, e3⟩ := unl_split hin hs hl
      rw [e1] at hrun
      obtain ⟨s1, k1, k2⟩ := runL_bubble ho l2 l1 (fun j hj => by
        obtain ⟨hj1, hj2⟩ := e3 j hj
        have hjn : j < all.length := by omega
        refine ⟨all[j], by simp [hjn], hap i _ j _ ho (by simp [hjn]) hj1 (fun hm => ?_)⟩
        have h1 := hahead j hm
        have hsz : j < listed.size := by omega
        simp [Array.getD, hsz] at h1 hj2
        rw [h1] at hj2
        cases hj2) st sf hrun
      have key : if Region.wanted all[i] (yielded all.toArray a.tmps) then all[i].wpIn (rdF ro) 0 P a w (wpAnyIn (rdF ro) 0 P .any all.toArray Q fuel (listed.setIfInBounds i true)) Q else wpAnyIn (rdF ro) 0 P .any all.toArray Q fuel (listed.setIfInBounds i true) (a.put all[i].dst undef) w := by
        refine stepG_sound hC h (k := some) (r := s1) k1 (fun st' val w' g' h1 h2 h3 => ?_) ro
        simp only [Option.some.injEq] at h1
        subst h1
        refine ih (listed.setIfInBounds i true) g' w' st' _ h2 (by simpa using hs) ?_ (by rw [e2]; exact k2) hk ?_ ?_
        · rw [e2]
          rw [e1] at hf
          simp at hf ⊢
          omega
        · intro i' hi' m hm
          by_cases hii : i' = i
          · subst hii
            have h1 := hahead m hm
            by_cases hmi : m = i'
            · subst hmi
              simp [Array.getD, hs, hin]
            · simp only [Array.getD_eq_getD_getElem?, Array.getElem?_setIfInBounds_ne (Ne.symm hmi)] at h1 ⊢
              exact h1
          · have hi2 : listed.getD i' false = true := by
              simp only [Array.getD_eq_getD_getElem?, Array.getElem?_setIfInBounds_ne (Ne.symm hii)] at hi' ⊢
              exact hi'
            have h1 := hcl i' hi2 m hm
            by_cases hmi : m = i
            · subst hmi
              simp [Array.getD, hs, hin]
            · simp only [Array.getD_eq_getD_getElem?, Array.getElem?_setIfInBounds_ne (Ne.symm hmi)] at h1 ⊢
              exact h1
        · intro a' w'' g'' q1 q2 q3
          exact hn a' w'' g'' q1 (h3.trans q2) (q3.trans (Act.put_defers' _ _ _))
      unfold wpOpIn
      rw [hoA]
      simp only []
      split
      · rename_i hw
        rw [if_pos hw] at key
        exact key
      · rename_i hw
        rw [if_neg hw] at key
        exact ⟨fun _ _ => trivial, key⟩

end Go.Proofs.Ytnbfiifkaddehaa.V

/- What the evaluator tells is so: code. -/
namespace Go.Proofs.Ytnbfiifkaddehaa.V
open Go
set_option linter.unusedVariables false
set_option linter.unusedSimpArgs false

def Ex.to : Ex → Exit
  | .normal => .normal
  | .exit id => .exit id
  | .goto l => .goto l
  | .ret => .ret

/-- A scope whose code leaves it by a jump to one of its labels goes on there. -/
theorem wpIn_scope_jump {P : Program} {F : Fence} {n : Nat} {Q : Exit → Act → World → Prop} {a : Act} {w : World} {c : Code}
    (h : c.wpIn F n P (fun e a w => match e with
      | .goto l => (∃ rest, findLabel c l = some rest ∧ rest.wpIn F n P (Exit.noGoto Q) a w) ∨ (findLabel c l = none ∧ Q (.goto l) a w)
      | e => Q e a w) a w) : (Code.scope c).wpIn F n P Q a w := by
  intro b k cs hro hb hr
  have s0 : step P (lone (b.atR a (.code (.scope c) :: k)) cs w) = .next (lone (b.atR a (.code c :: .inScope c :: k)) cs w) := step_lone_go (by simp [Go.stepG, Go.stepG.exec, Frame.atR])
  have s1 : ∀ a w, step P (lone (b.atR a (.inScope c :: k)) cs w) = .next (lone (b.atR a k) cs w) := fun a w => step_lone_go (by simp [Go.stepG, Go.stepG.exec, Frame.atR])
  have h0 : (lone (b.atR a (.code (.scope c) :: k)) cs w).fenced P F := fenced_calm hb hr rfl
  have h1 : ∀ a w, (lone (b.atR a (.inScope c :: k)) cs w).fenced P F := fun a w => fenced_calm hb hr rfl
  have hx : ∀ id, exitTo id (.inScope c :: k) = exitTo id k := fun id => by simp [exitTo]
  obtain ⟨e, a₁, w₁, hq, harr⟩ := h b (.inScope c :: k) cs hro hb hr
  cases e with
  | normal => exact ⟨.normal, a₁, w₁, hq, .head h0 s0 (StepsIn.trans harr (.one (h1 _ _) (s1 _ _)))⟩
  | exit id => exact ⟨.exit id, a₁, w₁, hq, fun k' hk => .head h0 s0 (harr.1 k' (by rw [hx]; exact hk)), fun hr' hk => let ⟨k₁, q1, q2⟩ := harr.2 hr' (by rw [hx]; exact hk); ⟨k₁, q1, .head h0 s0 q2⟩⟩
  | goto l =>
    rcases hq with ⟨rest, hl, hr2⟩ | ⟨hl, hq⟩
    · have hs := harr.1 (.code rest :: .inScope c :: k) (by simp [gotoIn, hl])
      obtain ⟨e₂, a₂, w₂, hq₂, harr₂⟩ := hr2 b (.inScope c :: k) cs hro hb hr
      have hall : StepsIn (Machine.fenced P F) P (lone (b.atR a (.code (.scope c) :: k)) cs w) (lone (b.atR a₁ (.code rest :: .inScope c :: k)) cs w₁) := .head h0 s0 hs
      cases e₂ with
      | normal => exact ⟨.normal, a₂, w₂, hq₂, StepsIn.trans hall (StepsIn.trans harr₂ (.one (h1 _ _) (s1 _ _)))⟩
      | exit id => exact ⟨.exit id, a₂, w₂, hq₂, fun k' hk => StepsIn.trans hall (harr₂.1 k' (by rw [hx]; exact hk)), fun hr' hk => let ⟨k₁, q1, q2⟩ := harr₂.2 hr' (by rw [hx]; exact hk); ⟨k₁, q1, StepsIn.trans hall q2⟩⟩
      | goto l => exact hq₂.elim
      | ret => exact ⟨_, a₂, w₂, hq₂, .of_steps hall harr₂⟩
      | panic ch => exact ⟨_, a₂, w₂, hq₂, .of_steps hall harr₂⟩
      | outgrown => exact ⟨_, a₂, w₂, hq₂, .of_steps (b := b) (k := k) (cs := cs) (e := .outgrown) hall harr₂⟩
    · have hg : gotoIn l (.inScope c :: k) = gotoIn l k := by simp [gotoIn, hl]
      exact ⟨.goto l, a₁, w₁, hq, fun k' hk => .head h0 s0 (harr.1 k' (by rw [hg]; exact hk)), fun hr' hk => let ⟨k₁, q1, q2⟩ := harr.2 hr' (by rw [hg]; exact hk); ⟨k₁, q1, .head h0 s0 q2⟩⟩
  | ret => exact ⟨_, a₁, w₁, hq, .of_steps (.one h0 s0) harr⟩
  | panic ch => exact ⟨_, a₁, w₁, hq, .of_steps (.one h0 s0) harr⟩
  | outgrown => exact ⟨_, a₁, w₁, hq, .of_steps (b := b) (k := k) (cs := cs) (e := .outgrown) (.one h0 s0) harr⟩

/-- A loop, by a number that each round lowers and that stands nowhere in the frame. -/
theorem wpIn_loop_fuel {P : Program} {F : Fence} {q : Nat} {Q : Exit → Act → World → Prop} {c : Code} (I : Nat → Act → World → Prop)
    (round : ∀ n a w, I n a w → c.wpIn F q P (Exit.then (fun a' w' => ∃ m, m < n ∧ I m a' w') Q) a w) {n : Nat} {a : Act} {w : World} (h₀ : I n a w) : (Code.loop c).wpIn F q P Q a w := by
  intro b k cs hro hb hr
  have key : ∀ n a w, I n a w →
      ∃ e a' w', Q e a' w' ∧ ArrivesIn (Machine.fenced P F) P (lone (b.atR a (.code c :: .inLoop c :: k)) cs w) b k cs e a' w' := by
    intro n
    induction n using Nat.strongRecOn with
    | _ n ih =>
      intro a w hI
      obtain ⟨e, a₁, w₁, hq, harr⟩ := round n a w hI b (.inLoop c :: k) cs hro hb hr
      cases e with
      | normal =>
        obtain ⟨m, hlt, hI₁⟩ := hq
        obtain ⟨e₂, a₂, w₂, hq₂, harr₂⟩ := ih m hlt a₁ w₁ hI₁
        exact ⟨e₂, a₂, w₂, hq₂, .of_steps (StepsIn.trans harr (.one (fenced_calm hb hr rfl) stepR_inLoop)) harr₂⟩
      | exit id => exact ⟨_, a₁, w₁, hq, .pass (x := .inLoop c) rfl (fun _ _ => .inl (by simp)) harr⟩
      | goto l => exact ⟨_, a₁, w₁, hq, .pass (x := .inLoop c) rfl (fun _ _ => .inl (by simp)) harr⟩
      | ret => exact ⟨_, a₁, w₁, hq, .pass (x := .inLoop c) rfl (fun _ _ => .inl (by simp)) harr⟩
      | panic ch => exact ⟨_, a₁, w₁, hq, .pass (x := .inLoop c) rfl (fun _ _ => .inl (by simp)) harr⟩
      | outgrown => exact ⟨_, a₁, w₁, hq, .pass (x := .inLoop c) rfl (fun _ _ => .inl (by simp)) harr⟩
  obtain ⟨e, a', w', hq, harr⟩ := key _ a w h₀
  exact ⟨e, a', w', hq, .of_steps (.one (fenced_calm hb hr rfl) stepR_loop) harr⟩

/-- The loops of a piece of code, those inside others apart. -/
def loopsOf : Code → List Code
  | .loop b => [b]
  | .seq a b => loopsOf a ++ loopsOf b
  | .cond _ a b => loopsOf a ++ loopsOf b
  | .block _ c => loopsOf c
  | .scope c => loopsOf c
  | _ => []

theorem loopsOf_findLabel : ∀ (c : Code) (l : Nat) (rest : Code), findLabel c l = some rest → ∀ b ∈ loopsOf rest, b ∈ loopsOf c
  | .seq a b, l, rest, h => by
    simp only [findLabel] at h
    intro x hx
    split at h
    · rename_i r hr
      cases h
      simp only [loopsOf, List.mem_append] at hx ⊢
      rcases hx with hx | hx
      · exact .inl (loopsOf_findLabel a l r hr x hx)
      · exact .inr hx
    · simp only [loopsOf, List.mem_append]
      exact .inr (loopsOf_findLabel b l rest h x hx)
  | .label l', l, rest, h => by
    simp only [findLabel] at h
    split at h
    · cases h; intro x hx; simp [loopsOf] at hx
    · cases h
  | .skip, _, _, h | .region _ _ _, _, _, h | .cond _ _ _, _, _, h | .block _ _, _, _, h | .loop _, _, _, h | .rangeFunc _ _ _ _, _, _, h | .exit _, _, _, h | .scope _, _, _, h | .goto _, _, _, h | .ret, _, _, h | .refuse _, _, _, h => by
    simp [findLabel] at h

/-- What a loop's summary owes. -/
def LoopOk (P : Program) (ins : Bool) (d dh : Nat) (body : Code) (N : Nat) (ks : List Nat) (F : List X → Hp → Option (Ex × List X × Hp)) : Prop :=
  ∀ (st : St) (e : Ex) (xs : List X) (H : Hp), st.tm.length = N → F (ks.map fun t => st.tm.getD t .dead) st.H = some (e, xs, H) → ∀ (g : Ghost) (w : World) (a : Act), Fr g w d dh st a →
    ∀ ro : Option Nat, (ro.isSome = true → ins = true) → (Code.loop body).wpIn (rdF ro) 0 P (fun ex a' w' => ex = e.to ∧ ∃ g', Fr g' w' d dh { tm := keepOnly N ks xs, H := H } a' ∧ Ext g w g' w' d (Kf d dh)) a w

def LoopsOk (P : Program) (C : Ctx) (d dh : Nat) (bodies : List Code) : Prop :=
  ∀ body ∈ bodies, ∀ key N ks F, firstRegion body = some key → C.L key = some (N, ks, F) → LoopOk P C.ins d dh body N ks fun xs H => (F xs H).run some

/-- A range over a function is the one that the record tells of. -/
def RfOk (C : Ctx) (q : Operand × Array Tmp × Code × Code) : Prop :=
  ∀ key rd, (firstRegion (.seq q.2.2.1 q.2.2.2)).bind C.K = some key → rounds key = some rd → rd.ps = q.2.1 ∧ rd.assign = q.2.2.1 ∧ rd.body = q.2.2.2

theorem rfOf_findLabel : ∀ (c : Code) (l : Nat) (rest : Code), findLabel c l = some rest → ∀ b ∈ rfOf rest, b ∈ rfOf c
  | .seq a b, l, rest, h => by
    simp only [findLabel] at h
    intro x hx
    split at h
    · rename_i r hr
      cases h
      simp only [rfOf, List.mem_append] at hx ⊢
      rcases hx with hx | hx
      · exact .inl (rfOf_findLabel a l r hr x hx)
      · exact .inr hx
    · simp only [rfOf, List.mem_append]
      exact .inr (rfOf_findLabel b l rest h x hx)
  | .label l', l, rest, h => by
    simp only [findLabel] at h
    split at h
    · cases h; intro x hx; simp [rfOf] at hx
    · cases h
  | .skip, _, _, h | .region _ _ _, _, _, h | .cond _ _ _, _, _, h | .block _ _, _, _, h | .loop _, _, _, h | .rangeFunc _ _ _ _, _, _, h | .exit _, _, _, h | .scope _, _, _, h | .goto _, _, _, h | .ret, _, _, h | .refuse _, _, _, h => by
    simp [findLabel] at h

/-- The regions of a piece of code. -/
def rgOf : Code → List (Nat × Array Oper × Bool)
  | .region id ops draw => [(id, ops, draw)]
  | .seq a b => rgOf a ++ rgOf b
  | .cond _ a b => rgOf a ++ rgOf b
  | .block _ c => rgOf c
  | .loop c => rgOf c
  | .scope c => rgOf c
  | _ => []

/-- What a region's summary owes. -/
def RgOk (P : Program) (C : Ctx) (d dh : Nat) (q : Nat × Array Oper × Bool) : Prop :=
  ∀ N ks F, C.J q.1 = some (N, ks, F) → ∀ (st : St) (xs : List X) (H : Hp), st.tm.length = N → (F (ks.map fun t => st.tm.getD t .dead) st.H).run some = some (xs, H) → ∀ (g : Ghost) (w : World) (a : Act), Fr g w d dh st a →
    ∀ ro : Option Nat, (ro.isSome = true → C.ins = true) → (Code.region q.1 q.2.1 q.2.2).wpIn (rdF ro) 0 P (fun ex a' w' => ex = Ex.normal.to ∧ ∃ g', Fr g' w' d dh { tm := keepOnly N ks xs, H := H } a' ∧ Ext g w g' w' d (Kf d dh)) a w

theorem RgOk.none {P : Program} {C : Ctx} {d dh : Nat} {q : Nat × Array Oper × Bool} (h : C.J = fun _ => Option.none) : RgOk P C d dh q := by
  intro N ks F e
  rw [h] at e
  cases e

theorem rgOf_findLabel : ∀ (c : Code) (l : Nat) (rest : Code), findLabel c l = some rest → ∀ b ∈ rgOf rest, b ∈ rgOf c
  | .seq a b, l, rest, h => by
    simp only [findLabel] at h
    intro x hx
    split at h
    · rename_i r hr
      cases h
      simp only [rgOf, List.mem_append] at hx ⊢
      rcases hx with hx | hx
      · exact .inl (rgOf_findLabel a l r hr x hx)
      · exact .inr hx
    · simp only [rgOf, List.mem_append]
      exact .inr (rgOf_findLabel b l rest h x hx)
  | .label l', l, rest, h => by
    simp only [findLabel] at h
    split at h
    · cases h; intro x hx; simp [rgOf] at hx
    · cases h
  | .skip, _, _, h | .region _ _ _, _, _, h | .cond _ _ _, _, _, h | .block _ _, _, _, h | .loop _, _, _, h | .rangeFunc _ _ _ _, _, _, h | .exit _, _, _, h | .scope _, _, _, h | .goto _, _, _, h | .ret, _, _, h | .refuse _, _, _, h => by
    simp [findLabel] at h

theorem Marks.lt {g : Ghost} {w : World} {d : Nat} : ∀ {l : List Deferred}, Marks g w d l → ∀ y ∈ l, ∃ D, y.target = .collected D ∧ D < w.heap.size
  | x :: l, ⟨⟨D, h1, h2, _⟩, r⟩, y, hy => by
    rcases List.mem_cons.1 hy with rfl | hy
    · exact ⟨D, by rw [h1], (Array.getElem?_eq_some_iff.1 h2).1⟩
    · exact Marks.lt r y hy

theorem region_sound {P : Program} {C : Ctx} (hC : COk P C) (hmix : P.follows .mixedOrders = true) {R : Type} {d dh : Nat} {r : R} (ro : Option Nat) {id : Nat} {ops : Array Oper} {draw : Bool} {g : Ghost} {w : World} {st : St} {a : Act} {k : Ex → St → Option R} {Q : Exit → Act → World → Prop} (h : Fr g w d dh st a)
    (hk : (bif draw && !drawOk C ops.toList then none else opsK C ops.toList ops.toList st (k .normal)) = some r) (hn : ∀ e st' a' w' g', k e st' = some r → Fr g' w' d dh st' a' → Ext g w g' w' d (Kf d dh) → Q e.to a' w') : (Code.region id ops draw).wpIn (rdF ro) 0 P Q a w := by
  cases draw with
  | false =>
    simp only [Bool.false_and, cond_false] at hk
    refine wpIn_region_list ?_
    have := opsK_sound hC (all := ops.toList) ro ops.toList g w st a h hk (fun st' a' w' g' h1 h2 h3 h4 => hn .normal st' a' w' g' h1 h2 h3)
    simpa using this
  | true =>
    simp only [Bool.true_and] at hk
    cases hok : drawOk C ops.toList with
    | false => rw [hok] at hk; cases hk
    | true =>
      rw [hok] at hk
      simp only [Bool.not_true, cond_false] at hk
      have hrl := opsK_runL C ops.toList (k .normal) ops.toList 0 (fun j _ => by simp) st
      rw [hk] at hrl
      have hrl := hrl.symm
      rw [Option.bind_eq_some_iff] at hrl
      obtain ⟨sf, h1, h2⟩ := hrl
      refine wpIn_region_any hmix ?_
      have hfr : Fr g { w with drawn := w.drawn + 1 } d dh st a :=
        ⟨h.len, fun t x hx => RepX.ext (Ext.drawn (K := fun _ => False) (w.drawn + 1)) h.le (fun e => e) (fun e => e) x _ (h.rep t x hx), HRep.ext (Ext.drawn (K := fun _ => False) (w.drawn + 1)) h.le (fun e => e) (fun _ _ e => e) rfl h.heap, h.wf.drawn _, h.le, h.mks.ext (Ext.drawn (d := d) (K := fun _ => False) (w.drawn + 1)) (fun e => e)⟩
      have hunl : unl ops.toList.length (Array.replicate ops.size false) = List.range' 0 ops.toList.length := by
        unfold unl
        rw [← List.range_eq_range']
        apply List.filter_eq_self.2
        intro i hi
        simp only [List.mem_range] at hi
        have : i < ops.size := by simpa using hi
        simp [Array.getD, this]
      have hany := drawn_any hC ro hok (d := d) (dh := dh) (k := k .normal) (r := r) (Q := Q) (sf := sf) ops.size (Array.replicate ops.size false) g _ st a hfr (by simp) (by rw [hunl]; simp) (by rw [hunl]; exact h1) h2 (fun i hi => by
        exfalso
        simp only [Array.getD] at hi
        split at hi <;> simp at hi) (fun a' w' g' q1 q2 q3 => hn .normal sf a' w' g' h2 q1 ((Ext.drawn (w.drawn + 1)).trans q2))
      simpa using hany

theorem codeK_sound {P : Program} {C : Ctx} (hC : COk P C) (hmix : P.follows .mixedOrders = true) {R : Type} {d dh : Nat} {r : R} (ro : Option Nat) (hro : ro.isSome = true → C.ins = true) : ∀ (n : Nat) (c : Code) (g : Ghost) (w : World) (st : St) (a : Act) (k : Ex → St → Option R) (Q : Exit → Act → World → Prop), Fr g w d dh st a →
    codeK C n c st k = some r → LoopsOk P C d dh (loopsOf c) → (∀ q ∈ rfOf c, RfOk C q) → (∀ q ∈ rgOf c, RgOk P C d dh q) → (∀ e st' a' w' g', k e st' = some r → Fr g' w' d dh st' a' → Ext g w g' w' d (Kf d dh) → Q e.to a' w') → c.wpIn (rdF ro) 0 P Q a w := by
  intro n
  induction n with
  | zero => intro c g w st a k Q h hk; simp [codeK] at hk
  | succ n ih =>
    intro c g w st a k Q h hk hL hR hJ hn
    cases c with
    | skip => exact wpIn_skip (hn .normal st a w g (by simpa only [codeK] using hk) h (Ext.refl _ _ _ _))
    | label l => exact wpIn_label (hn .normal st a w g (by simpa only [codeK] using hk) h (Ext.refl _ _ _ _))
    | region id ops draw =>
      simp only [codeK] at hk
      split at hk
      · exact region_sound hC hmix ro h hk hn
      · rename_i N ks F hF
        split at hk
        · rename_i hN
          obtain ⟨⟨xs, H⟩, hres, hk⟩ := Tr.run_some hk
          refine wpIn_mono (hJ (id, ops, draw) (by simp [rgOf]) N ks F hF st xs H hN hres g w a h ro hro) ?_
          rintro ex a' w' ⟨rfl, g', h1, h2⟩
          exact hn .normal _ a' w' g' hk h1 h2
        · cases hk
    | seq x y =>
      simp only [codeK] at hk
      simp only [loopsOf] at hL
      simp only [rfOf] at hR
      simp only [rgOf] at hJ
      refine wpIn_seq ?_
      refine ih x g w st a _ _ h hk (fun b hb => hL b (List.mem_append_left _ hb)) (fun b hb => hR b (List.mem_append_left _ hb)) (fun b hb => hJ b (List.mem_append_left _ hb)) fun e st' a' w' g' h1 h2 h3 => ?_
      cases e with
      | normal =>
        exact ih y g' w' st' a' k Q h2 h1 (fun b hb => hL b (List.mem_append_right _ hb)) (fun b hb => hR b (List.mem_append_right _ hb)) (fun b hb => hJ b (List.mem_append_right _ hb)) fun e2 st2 a2 w2 g2 k1 k2 k3 => hn e2 st2 a2 w2 g2 k1 k2 (h3.trans k3)
      | exit id => exact hn (.exit id) st' a' w' g' h1 h2 h3
      | goto l => exact hn (.goto l) st' a' w' g' h1 h2 h3
      | ret => exact hn .ret st' a' w' g' h1 h2 h3
    | cond c x y =>
      simp only [codeK] at hk
      simp only [loopsOf] at hL
      simp only [rfOf] at hR
      simp only [rgOf] at hJ
      cases c with
      | tmp t =>
        simp only at hk
        split at hk
        · rename_i v hv
          have hx := h.val (.tmp t)
          simp only [St.val] at hx
          rw [hv, RepX.bool_iff] at hx
          cases v with
          | true =>
            simp only [cond_true] at hk
            rw [set_same st.tm t .dead _ hv (by simp)] at hk
            exact wpIn_cond_true hx (ih x g w st a k Q h hk (fun b hb => hL b (List.mem_append_left _ hb)) (fun b hb => hR b (List.mem_append_left _ hb)) (fun b hb => hJ b (List.mem_append_left _ hb)) hn)
          | false =>
            simp only [cond_false] at hk
            rw [set_same st.tm t .dead _ hv (by simp)] at hk
            exact wpIn_cond_false hx (ih y g w st a k Q h hk (fun b hb => hL b (List.mem_append_right _ hb)) (fun b hb => hR b (List.mem_append_right _ hb)) (fun b hb => hJ b (List.mem_append_right _ hb)) hn)
        · cases hk
      | const v =>
        cases v <;> simp only at hk <;> try (cases hk; done)
        rename_i v
        cases v with
        | true =>
          simp only [if_true] at hk
          exact wpIn_cond_true rfl (ih x g w st a k Q h hk (fun b hb => hL b (List.mem_append_left _ hb)) (fun b hb => hR b (List.mem_append_left _ hb)) (fun b hb => hJ b (List.mem_append_left _ hb)) hn)
        | false =>
          simp only [Bool.false_eq_true, if_false] at hk
          exact wpIn_cond_false rfl (ih y g w st a k Q h hk (fun b hb => hL b (List.mem_append_right _ hb)) (fun b hb => hR b (List.mem_append_right _ hb)) (fun b hb => hJ b (List.mem_append_right _ hb)) hn)
      | global g => cases hk
      | func f => cases hk
    | block id c =>
      simp only [codeK] at hk
      simp only [loopsOf] at hL
      refine wpIn_block ?_
      refine ih c g w st a _ _ h hk hL (by simpa only [rfOf] using hR) (by simpa only [rgOf] using hJ) fun e st' a' w' g' h1 h2 h3 => ?_
      cases e with
      | normal => exact hn .normal st' a' w' g' h1 h2 h3
      | exit i =>
        simp only [Ex.to, Exit.inBlock]
        simp only at h1
        split
        · rename_i hi
          rw [if_pos hi] at h1
          exact hn .normal st' a' w' g' h1 h2 h3
        · rename_i hi
          rw [if_neg hi] at h1
          exact hn (.exit i) st' a' w' g' h1 h2 h3
      | goto l => exact hn (.goto l) st' a' w' g' h1 h2 h3
      | ret => exact hn .ret st' a' w' g' h1 h2 h3
    | loop body =>
      simp only [codeK] at hk
      split at hk
      · cases hk
      · rename_i key hkey
        split at hk
        · cases hk
        · rename_i N ks F hF
          split at hk
          · rename_i hN
            · obtain ⟨⟨e, xs, H⟩, hres, hk⟩ := Tr.run_some hk
              have := hL body (by simp [loopsOf]) key N ks F hkey hF st e xs H hN hres g w a h
              refine wpIn_mono (this ro hro) ?_
              rintro ex a' w' ⟨rfl, g', h1, h2⟩
              exact hn e _ a' w' g' hk h1 h2
          · cases hk
    | rangeFunc f ps x y =>
      simp only [codeK] at hk
      split at hk
      · cases hk
      · rename_i hins
        have hro0 : ro = none := by
          cases ro with
          | none => rfl
          | some l => exact absurd (hro rfl) hins
        subst hro0
        split at hk
        · cases hk
        · rename_i key hkey
          split at hk
          · rename_i rd fn first cap hrd hval
            split at hk
            · rename_i F hF
              split at hk
              · rename_i hN
                obtain ⟨⟨v0, H2⟩, hres, hk⟩ := Tr.run_some hk
                obtain ⟨rps, rass, rbody⟩ := hR (f, ps, x, y) (by simp [rfOf]) key rd hkey hrd
                have hv := h.val f
                rw [hval] at hv
                simp only [RepX] at hv
                obtain ⟨vs, us, hv, q1, q2⟩ := hv
                obtain ⟨hfn, hcall⟩ : EffOk P fn fun args H => (F args H).run some := hC.orc fn _ hF
                have hid : st.H.length = g.N dh := h.heap.1
                -- the mark
                have he1 : Ext g w (g.block w.heap.size (.mark d) 0) (w.alloc (.deferred (some []))) d (fun _ => False) := Ext.block h.wf _ _ _
                have hw1 := WF.block h.wf (.deferred (some [])) (.mark d) 0
                have hH1 : HRep (g.block w.heap.size (.mark d) 0) (w.alloc (.deferred (some []))) dh st.H := HRep.ext he1 h.le (fun e => e) (fun _ _ e => e) rfl h.heap
                obtain ⟨g1, hg1⟩ : ∃ g1, g1 = g.block w.heap.size (.mark d) 0 := ⟨_, rfl⟩
                rw [← hg1] at he1 hH1
                have hw1 : WF g1 (w.alloc (.deferred (some []))) := by rw [hg1]; exact hw1
                have hN1 : g1.N dh = g.N dh := by rw [hg1]; rfl
                have hD1 : g1.own w.heap.size = some (.mark d) := by rw [hg1]; simp [Ghost.block]
                have hU1 : g1.U w.heap.size = 0 := by rw [hg1]; simp [Ghost.block]
                -- the record
                obtain ⟨enc, henc⟩ : ∃ enc : FuncId → Obj, enc = fun me => .loop { state := .ready, pending := none, fn := me, tmps := a.tmps, params := ps, assign := x, body := y, defers := w.heap.size } := ⟨_, rfl⟩
                refine wpIn_rangeFunc fun me _ => ?_
                have he2 : Ext g1 (w.alloc (.deferred (some []))) (g1.var (w.alloc (.deferred (some []))).heap.size dh .unit) ((w.alloc (.deferred (some []))).alloc (enc me)) d (fun κ => κ = .obj dh (g1.N dh)) := Ext.var hw1 _ _ rfl
                have hw2 : WF (g1.var (w.alloc (.deferred (some []))).heap.size dh .unit) ((w.alloc (.deferred (some []))).alloc (enc me)) := hw1.var _ _ _
                have he12 := (he1.mono (K' := fun κ => κ.deep (d + 1) ∨ κ.heap dh) (Nat.le_refl _) (fun _ e => e.elim)).trans (he2.mono (K' := fun κ => κ.deep (d + 1) ∨ κ.heap dh) (Nat.le_refl _) (by rintro κ rfl; exact .inr rfl))
                have hsz1 : (w.alloc (.deferred (some []))).heap.size = w.heap.size + 1 := World.size_alloc _ _
                obtain ⟨g2, hg2⟩ : ∃ g2, g2 = g1.var (w.alloc (.deferred (some []))).heap.size dh .unit := ⟨_, rfl⟩
                have hμ2 : g2.μ dh st.H.length = w.heap.size + 1 := by rw [hg2, hid, ← hN1]; simp [Ghost.var, hsz1]
                have hN2 : g2.N dh = st.H.length + 1 := by rw [hg2, hid, ← hN1]; simp [Ghost.var]
                have hrep2 : HRep g2 ((w.alloc (.deferred (some []))).alloc (enc me)) dh (st.H ++ [(.unit, .rnd key (rd.ks.map fun t => (st.tm.getD t .dead).unown))]) := by
                  rw [hg2]
                  refine HRep.push hH1 hw1 rfl (.inr (.inl ⟨rfl, enc me, ?_, ?_⟩))
                  · have : (g1.var (w.alloc (.deferred (some []))).heap.size dh .unit).μ dh (g1.N dh) = (w.alloc (.deferred (some []))).heap.size := by simp [Ghost.var]
                    rw [this]
                    exact World.alloc_heap_new _ _
                  · rw [henc]
                    refine ⟨_, rd, rfl, ⟨hrd, rps.symm, rass.symm, rbody.symm⟩, rfl, rfl, ?_, fun i t e => ?_⟩
                    · show a.tmps.size = rd.n
                      rw [← h.len, hN]
                    · show RepX _ _ dh .no _ (a.tmps.getD t undef)
                      have e1 : (rd.ks.map fun t => (st.tm.getD t .dead).unown).getD i .dead = (st.tm.getD t .dead).unown := by
                        rw [List.getD_eq_getElem?_getD, List.getElem?_map, e]
                        rfl
                      rw [e1]
                      have := h.val (.tmp t)
                      simp only [St.val, keyOf, Act.eval] at this
                      rw [henc, ← hg2] at he12
                      rw [← hg2]
                      exact RepX.unown he12 h.le (by rintro (e | e) <;> exact e) _ _ this
                rw [← hg2] at he2 he12 hw2
                have hargs : RepXs g2 ((w.alloc (.deferred (some []))).alloc (enc me)) dh (first ++ .yld st.H.length :: cap) (vs ++ Value.func (.yield (w.heap.size + 1)) #[] #[] :: us) := by
                  refine RepXs.append (RepXs.ext he12 h.le (by rintro (e | e) <;> exact e) _ _ q1) ?_
                  simp only [RepXs]
                  refine ⟨_, _, rfl, ?_, RepXs.ext he12 h.le (by rintro (e | e) <;> exact e) _ _ q2⟩
                  simp only [RepX]
                  exact ⟨by omega, by rw [hμ2]⟩
                have hc := hcall _ _ _ _ hres g2 _ d dh _ h.le hw2 hrep2 hargs
                have hrun1 : (Instr.enterLoop me a.tmps ps x y (rdF none).round).run P w = .ok (w.heap.size + 1, [{ target := .collected w.heap.size, args := #[] }]) ((w.alloc (.deferred (some []))).alloc (enc me)) := by
                  rw [henc]
                  exact run_enterLoop_outer _ _ _ _ _
                refine ⟨w.heap.size + 1, [{ target := .collected w.heap.size, args := #[] }], (w.alloc (.deferred (some []))).alloc (enc me), { target := .fn (.func fn) us.toArray, args := (vs ++ [Value.func (.yield (w.heap.size + 1)) #[] #[]]).toArray }, (w.alloc (.deferred (some []))).alloc (enc me), fn, (vs ++ Value.func (.yield (w.heap.size + 1)) #[] #[] :: us).toArray, (w.alloc (.deferred (some []))).alloc (enc me), hrun1, ?_, fun _ _ => trivial, ?_, fun e => by simp [rdF] at e, ?_⟩
                · simp only [resolve, hv]
                  simp [go_sem]
                · have hfe := hfn (vs ++ Value.func (.yield (w.heap.size + 1)) #[] #[] :: us).toArray ((w.alloc (.deferred (some []))).alloc (enc me))
                  simp [invoke, go_sem, hfe]
                · refine CallsIn.mono (calls_rd hc) ?_
                  rintro e w3 ⟨v, g', rfl, r1, r2, r3, r4⟩
                  have hl : g'.μ dh st.H.length = w.heap.size + 1 := ((r2.mu dh h.le st.H.length (by omega)).2.1).trans hμ2
                  have fin : ∀ (c : X) (L L' : Loop), H2[st.H.length]? = some (.unit, c) → w3.heap[w.heap.size + 1]? = some (.loop L) →
                      Fr g' (w3.putObj (w.heap.size + 1) (.loop L')) d dh { tm := st.tm, H := H2.set st.H.length (.unit, .dead) } { a with defers := [{ target := .collected w.heap.size, args := #[] }] ++ a.defers } ∧ Ext g w g' (w3.putObj (w.heap.size + 1) (.loop L')) d (Kf d dh) := by
                    intro c L L' hc2 hL2
                    obtain ⟨p1, p2, plive⟩ := r4.2 _ _ _ hc2
                    obtain ⟨p3, p4, p5⟩ := plive.unit
                    have p3' := p3
                    have p4' := p4
                    rw [hl] at p3' p4'
                    have hlt : w.heap.size + 1 < w3.heap.size := (Array.getElem?_eq_some_iff.1 hL2).1
                    have he4 : Ext g' w3 g' (w3.putObj (w.heap.size + 1) (.loop L')) d (fun κ => κ = .obj dh st.H.length) := Ext.setObj p3' p4' hlt
                    have he4K : Ext g' w3 g' (w3.putObj (w.heap.size + 1) (.loop L')) d (fun κ => κ.deep (d + 1) ∨ κ.heap dh) := he4.mono (Nat.le_refl _) (by rintro κ rfl; exact .inr rfl)
                    have heK := he12.trans (r2.trans he4K)
                    have he1K := (he2.mono (K' := fun κ => κ.deep (d + 1) ∨ κ.heap dh) (Nat.le_refl _) (by rintro κ rfl; exact .inr rfl)).trans (r2.trans he4K)
                    have hnoK : ¬ ((fun κ : Key => κ.deep (d + 1) ∨ κ.heap dh) .no) := by rintro (e | e) <;> exact e
                    have hmkK : ¬ ((fun κ : Key => κ.deep (d + 1) ∨ κ.heap dh) (.mark d)) := by
                      rintro (e | e)
                      · simp only [Key.deep] at e; omega
                      · exact e
                    refine ⟨⟨h.len, fun t z hz => RepX.ext heK h.le hnoK ?_ z _ (h.rep t z hz), ?_, ⟨fun b hb => r3.1 b (by simpa [World.putObj] using hb), Tabs.ext he4 r3.2⟩, h.le, ?_⟩, heK.mono (Nat.le_refl _) ?_⟩
                    · rintro (e | e)
                      · simp only [Key.deep] at e; omega
                      · exact e
                    · refine HRep.set r4 he4 h.le (by simp) rfl hc2 (fun κ _ e => .inl e) p3 p4 (.inr (.inl ⟨rfl, .loop L', ?_, trivial⟩))
                      rw [hl]
                      exact World.putObj_heap_same hlt
                    · obtain ⟨k1, k2, k3⟩ := he1K.keep w.heap.size (by rw [hsz1]; omega) (fun κ e => by rw [hD1] at e; cases e; exact hmkK)
                      refine ⟨⟨w.heap.size, rfl, k1.trans (by exact World.alloc_heap_new w _), k2.trans hD1, k3.trans hU1, fun y hy e => ?_⟩, h.mks.ext heK hmkK⟩
                      obtain ⟨D', e1, e2⟩ := h.mks.lt y hy
                      rw [e1] at e
                      cases e
                      exact Nat.lt_irrefl _ e2
                    · rintro κ (hκ | hκ)
                      · refine .inl ?_
                        cases κ <;> simp only [Key.deep] at hκ ⊢ <;> first | omega | exact hκ
                      · exact .inr hκ
                  simp only at hk
                  split at hk
                  · rename_i key' tms' hH2
                    obtain ⟨p1, p2, plive⟩ := r4.2 _ _ _ hH2
                    obtain ⟨p3, p4, p5⟩ := plive.unit
                    rcases p5 with ⟨_, _, _, _, _, hO⟩ | ⟨_, o, ho, L, rd', rfl, hat, hst, hpd, _⟩ | ⟨_, _, _, e, _⟩
                    rotate_left
                    rotate_left
                    · cases e
                    · simp [RepO] at hO
                    · rw [hl] at ho
                      obtain ⟨f1, f2⟩ := fin _ L { L with state := .exhausted } hH2 ho
                      exact ⟨none, _, by rw [run_endLoop ho (by rw [hst]; simp), hpd], hn .normal _ _ _ g' hk f1 f2⟩
                  · rename_i key' e' hH2
                    obtain ⟨p1, p2, plive⟩ := r4.2 _ _ _ hH2
                    obtain ⟨p3, p4, p5⟩ := plive.unit
                    rcases p5 with ⟨_, _, _, _, _, hO⟩ | ⟨_, o, ho, L, rfl, hst, hpd⟩ | ⟨_, _, _, e, _⟩
                    rotate_left
                    rotate_left
                    · cases e
                    · simp [RepO] at hO
                    · rw [hl] at ho
                      obtain ⟨f1, f2⟩ := fin _ L { L with state := .exhausted } hH2 ho
                      refine ⟨some e'.code, _, (run_endLoop (P := P) ho (by rw [hst]; simp)).trans (congrArg (fun j => Result.ok j _) hpd), ?_⟩
                      cases e' with
                      | normal => exact wpIn_skip (hn .normal _ _ _ g' hk f1 f2)
                      | exit i => exact wpIn_exit (hn (.exit i) _ _ _ g' hk f1 f2)
                      | goto l => exact wpIn_goto (hn (.goto l) _ _ _ g' hk f1 f2)
                      | ret => exact wpIn_ret (hn .ret _ _ _ g' hk f1 f2)
                  · cases hk
              · cases hk
            · cases hk
          · cases hk
    | exit id => exact wpIn_exit (hn (.exit id) st a w g (by simpa only [codeK] using hk) h (Ext.refl _ _ _ _))
    | scope c =>
      simp only [codeK] at hk
      simp only [loopsOf] at hL
      refine wpIn_scope_jump ?_
      refine ih c g w st a _ _ h hk hL (by simpa only [rfOf] using hR) (by simpa only [rgOf] using hJ) fun e st' a' w' g' h1 h2 h3 => ?_
      cases e with
      | normal => exact hn .normal st' a' w' g' h1 h2 h3
      | exit i => exact hn (.exit i) st' a' w' g' h1 h2 h3
      | ret => exact hn .ret st' a' w' g' h1 h2 h3
      | goto l =>
        simp only at h1
        split at h1
        · rename_i rest hrest
          refine .inl ⟨rest, hrest, ?_⟩
          refine ih rest g' w' st' a' _ _ h2 h1 (fun b hb => hL b (loopsOf_findLabel c l rest hrest b hb)) (fun b hb => hR b (by simpa only [rfOf] using rfOf_findLabel c l rest hrest b hb)) (fun b hb => hJ b (by simpa only [rgOf] using rgOf_findLabel c l rest hrest b hb)) fun e2 st2 a2 w2 g2 k1 k2 k3 => ?_
          cases e2 with
          | normal => exact hn .normal st2 a2 w2 g2 k1 k2 (h3.trans k3)
          | exit i => exact hn (.exit i) st2 a2 w2 g2 k1 k2 (h3.trans k3)
          | ret => exact hn .ret st2 a2 w2 g2 k1 k2 (h3.trans k3)
          | goto l => cases k1
        · rename_i hrest
          exact .inr ⟨hrest, hn (.goto l) st' a' w' g' h1 h2 h3⟩
    | goto l => exact wpIn_goto (hn (.goto l) st a w g (by simpa only [codeK] using hk) h (Ext.refl _ _ _ _))
    | ret => exact wpIn_ret (hn .ret st a w g (by simpa only [codeK] using hk) h (Ext.refl _ _ _ _))
    | refuse why => simp [codeK] at hk

end Go.Proofs.Ytnbfiifkaddehaa.V

/- What the evaluator tells is so: loops by their rounds; functions. -/
namespace Go.Proofs.Ytnbfiifkaddehaa.V
open Go
set_option linter.unusedVariables false
set_option linter.unusedSimpArgs false

/-- One round of a loop. -/
noncomputable def stepF {R : Type} (C : Ctx) (fuel : Nat) (body : Code) (N : Nat) (ks : List Nat) (xs : List X) (H : Hp) (k : Ex → List X → Hp → Option R) : Option R :=
  codeK C fuel body { tm := keepOnly N ks xs, H := H } fun e st => if st.tm.length = N then k e (ks.map fun t => st.tm.getD t .dead) st.H else none

mutual
/-- Does it lead to variables below a number alone? -/
def belowB (n : Nat) : X → Bool
  | .ptr id _ => decide (id < n)
  | .mref _ id _ _ _ => decide (id < n)
  | .yld id => decide (id < n)
  | .orf _ id _ => decide (id + 1 < n)
  | .mp id => decide (id < n)
  | .od _ _ _ => false
  | .rnd _ l => belowBs n l
  | .bsy _ l => belowBs n l
  | .fn _ a b => belowBs n a && belowBs n b
  | .tup l => belowBs n l
  | .lst l => belowBs n l
  | .agg l => belowBs n l
  | .cx x => belowB n x
  | _ => true
def belowBs (n : Nat) : List X → Bool
  | [] => true
  | x :: xs => belowB n x && belowBs n xs
end

theorem belowBs_iff (n : Nat) : ∀ (xs : List X), belowBs n xs = true ↔ ∀ x ∈ xs, belowB n x = true
  | [] => by simp [belowBs]
  | x :: xs => by simp [belowBs, belowBs_iff n xs]

/-- Variables behind the first ones are told of no more. -/
def Ghost.trunc (g : Ghost) (dh n : Nat) : Ghost := { g with N := fun h => if h = dh then n else g.N h }

/-- Data stay where what is settled does. -/
theorem Run.cellsExt {g w g' w'} (h : ∀ b off, off < g.U b → w'.cell? ⟨b, off, none⟩ = w.cell? ⟨b, off, none⟩ ∧ off < g'.U b) {α : Type} {R R' : α → List Value → Prop} (hR : ∀ x cs, R x cs → R' x cs) {size : Nat} {xs : List α} {a : Option Addr}
    (hr : Run w g R size xs a) : Run w' g' R' size xs a := by
  intro i hi
  obtain ⟨A, cs, ha, hs, hl, hx, hc⟩ := hr i hi
  refine ⟨A, cs, ha, hs, hl, hR _ _ hx, fun j hj => ?_⟩
  obtain ⟨h1, h2⟩ := hc j hj
  obtain ⟨k1, k2⟩ := h _ _ h2
  exact ⟨k1.trans h1, k2⟩
theorem RepC.cellsExt {g w g' w'} (h : ∀ b off, off < g.U b → w'.cell? ⟨b, off, none⟩ = w.cell? ⟨b, off, none⟩ ∧ off < g'.U b) : ∀ (t : Ty) (x : t.den) (cs : List Value), RepC w g t x cs → RepC w' g' t x cs
  | .int _, _, _, r => r
  | .bool, _, _, r => r
  | .str, _, _, r => r
  | .any, _, _, r => r
  | .err, _, _, r => r
  | .slice e, _, _, ⟨a, c, e1, e2, r⟩ => ⟨a, c, e1, e2, r.cellsExt h (RepC.cellsExt h e)⟩
  | .arr _ e, _, _, ⟨e1, r⟩ => ⟨e1, r.imp (RepC.cellsExt h e)⟩
  | .struct c, x, cs, r => RepC.cellsExt h c x cs r
  | .unit, _, _, r => r
  | .prod a b, _, _, ⟨c1, c2, e, r1, r2⟩ => ⟨c1, c2, e, RepC.cellsExt h a _ _ r1, RepC.cellsExt h b _ _ r2⟩

theorem RepC.trunc {g w} {dh n : Nat} (t : Ty) (x : t.den) (cs : List Value) (r : RepC w g t x cs) : RepC w (g.trunc dh n) t x cs :=
  RepC.cellsExt (g := g) (w := w) (g' := g.trunc dh n) (w' := w) (fun _ _ h => ⟨rfl, h⟩) t x cs r

theorem Run.trunc {g : Ghost} {w : World} {dh n : Nat} {α : Type} {R R' : α → List Value → Prop} (hR : ∀ x cs, R x cs → R' x cs) {size : Nat} {xs : List α} {a : Option Addr} (hr : Run w g R size xs a) : Run w (g.trunc dh n) R' size xs a := fun i hi => by
  obtain ⟨A, cs, ha, hs, hl, hx, hc⟩ := hr i hi
  exact ⟨A, cs, ha, hs, hl, hR _ _ hx, hc⟩

mutual
theorem RepX.trunc {g w} {dh n : Nat} (hn : n ≤ g.N dh) {κ : Key} : ∀ (x : X) (v : Value), belowB n x = true → RepX g w dh κ x v → RepX (g.trunc dh n) w dh κ x v
  | .dead, _, _, _ => by simp [RepX]
  | .undef, v, _, r => by simpa only [RepX] using r
  | .nils, v, _, r => by simpa only [RepX] using r
  | .d t x, v, _, r => by
    simp only [RepX] at r ⊢
    obtain ⟨cs, h1, h2⟩ := r
    exact ⟨cs, h1.trunc, h2⟩
  | .sl e xs nl own, v, _, r => by
    simp only [RepX] at r ⊢
    obtain ⟨a, c, h1, h2, h3, h4, h5⟩ := r
    refine ⟨a, c, h1, h2, Run.cellsExt (g := g) (w := w) (g' := g.trunc dh n) (w' := w) (fun _ _ h => ⟨rfl, h⟩) (fun y cs hy => hy.trunc) h3, h4, fun ho => ?_⟩
    rcases h5 ho with h0 | ⟨b, arr, ty, fr, e1, e2, e3, e4, e5, e6⟩
    · exact .inl h0
    · exact .inr ⟨b, arr, ty, fr, e1, e2, e3, e4, e5, e6⟩
  | .cp t x, v, _, r => by
    simp only [RepX] at r ⊢
    obtain ⟨A, cs, h1, h2, h3, h4⟩ := r
    exact ⟨A, cs, h1, h2, h3.trunc, h4⟩
  | .ptr id path, v, hb, r => by
    simp only [belowB, decide_eq_true_eq] at hb
    simp only [RepX] at r ⊢
    obtain ⟨h1, off, t, h2, h3⟩ := r
    exact ⟨by simp [Ghost.trunc, hb], off, t, h2, h3⟩
  | .fn f first captured, v, hb, r => by
    simp only [belowB, Bool.and_eq_true] at hb
    simp only [RepX] at r ⊢
    obtain ⟨vs, us, h1, h2, h3⟩ := r
    exact ⟨vs, us, h1, RepXs.trunc hn first vs hb.1 h2, RepXs.trunc hn captured us hb.2 h3⟩
  | .tup xs, v, hb, r => by
    simp only [belowB] at hb
    simp only [RepX] at r ⊢
    obtain ⟨vs, h1, h2⟩ := r
    exact ⟨vs, h1, RepXs.trunc hn xs vs hb h2⟩
  | .agg _, v, _, r => by simp [RepX] at r
  | .lst l, v, hb, r => by
    simp only [belowB] at hb
    simp only [RepX] at r ⊢
    obtain ⟨a, us, c, h1, h2, h3, h4⟩ := r
    exact ⟨a, us, c, h1, h2, RepXs.trunc hn l us hb h3, h4⟩
  | .cx x, v, hb, r => by
    simp only [belowB] at hb
    simp only [RepX] at r ⊢
    obtain ⟨A, u, h1, h2, h3, h4, h5⟩ := r
    exact ⟨A, u, h1, h2, RepX.trunc hn x u hb h3, h4, h5⟩
  | .ps e xs, v, _, r => by
    simp only [RepX] at r ⊢
    obtain ⟨a, c, h1, h2, h3⟩ := r
    refine ⟨a, c, h1, h2, ?_⟩
    rcases h3 with h | ⟨b, arr, ty, fr, cs, rest, e1, e2, e3, e4, e5, e6, e7, e8⟩
    · exact .inl h
    · exact .inr ⟨b, arr, ty, fr, cs, rest, e1, e2, e3, e4, e5, e6, e7, e8.imp (RepC.trunc e)⟩
  | .mref e id p off len, v, hb, r => by
    simp only [belowB, decide_eq_true_eq] at hb
    simp only [RepX] at r ⊢
    obtain ⟨h1, h2⟩ := r
    exact ⟨by simp [Ghost.trunc, hb], h2⟩
  | .yld id, v, hb, r => by
    simp only [belowB, decide_eq_true_eq] at hb
    simp only [RepX] at r ⊢
    obtain ⟨h1, h2⟩ := r
    exact ⟨by simp [Ghost.trunc, hb], h2⟩
  | .rnd _ _, v, _, r => by simp [RepX] at r
  | .bsy _ _, v, _, r => by simp [RepX] at r
  | .fin _ _, v, _, r => by simp [RepX] at r
  | .pd a xs, v, hb, r => by
    simp only [RepX] at r ⊢
    obtain ⟨A, c, h1, h2, h3⟩ := r
    refine ⟨A, c, h1, h2, ?_⟩
    rcases h3 with h | ⟨b, arr, ty, fr, hd, e1, e2, e3, e4, e5, e6, e7, e8⟩
    · exact .inl h
    · refine .inr ⟨b, arr, ty, fr, hd, e1, e2, e3, e4, e5, e6, ⟨fun i hi => ?_, e7.2⟩, e8⟩
      obtain ⟨k1, k2, k3, k4, k5⟩ := e7.1 i hi
      exact ⟨k1, k2, k3, k4.trunc (RepC.trunc a), k5⟩
  | .orf a id len, v, hb, r => by
    simp only [belowB, decide_eq_true_eq] at hb
    simp only [RepX] at r ⊢
    obtain ⟨h1, h2⟩ := r
    exact ⟨by simp [Ghost.trunc, hb], h2⟩
  | .od _ _ _, v, _, r => by simp [RepX] at r
  | .zv a, v, _, r => by simpa only [RepX] using r
  | .zw a b, v, _, r => by simpa only [RepX] using r
  | .zs a, v, _, r => by
    simp only [RepX] at r ⊢
    obtain ⟨A, c, h1, h2, h3⟩ := r
    exact ⟨A, c, h1, h2, h3.trunc (fun _ _ r => r)⟩
  | .mp id, v, hb, r => by
    simp only [belowB, decide_eq_true_eq] at hb
    simp only [RepX] at r ⊢
    obtain ⟨h1, h2⟩ := r
    exact ⟨by simp [Ghost.trunc, hb], h2⟩
  | .asc _ _ _, v, _, r => by simp [RepX] at r
theorem RepXs.trunc {g w} {dh n : Nat} (hn : n ≤ g.N dh) : ∀ (xs : List X) (vs : List Value), belowBs n xs = true → RepXs g w dh xs vs → RepXs (g.trunc dh n) w dh xs vs
  | [], vs, _, r => by simpa only [RepXs] using r
  | x :: xs, vs, hb, r => by
    simp only [belowBs, Bool.and_eq_true] at hb
    simp only [RepXs] at r ⊢
    obtain ⟨v, us, h1, h2, h3⟩ := r
    exact ⟨v, us, h1, RepX.trunc hn x v hb.1 h2, RepXs.trunc hn xs us hb.2 h3⟩
end

mutual
theorem RepO.trunc {g w} {dh id n : Nat} (hn : n ≤ g.N dh) : ∀ (x : X) (t : Ty) (off : Nat) (cs : List Value), belowB n x = true → RepO g w dh id x t off cs → RepO (g.trunc dh n) w dh id x t off cs
  | .d t' x, t, off, cs, _, r => by
    simp only [RepO] at r ⊢
    exact ⟨r.1, r.2.trunc⟩
  | .agg xs, t, off, cs, hb, r => by
    simp only [belowB] at hb
    cases t <;> simp only [RepO] at r ⊢
    exact RepOs.trunc hn xs _ off cs hb r
  | .sl e xs nl own, t, off, cs, hb, r => by
    simp only [RepO] at r ⊢
    obtain ⟨r1, v, r2, r3⟩ := r
    exact ⟨r1, v, r2, RepX.trunc hn _ v hb r3⟩
  | .fn f a b, t, off, cs, hb, r => by
    simp only [RepO] at r ⊢
    obtain ⟨r1, v, r2, r3⟩ := r
    exact ⟨r1, v, r2, RepX.trunc hn _ v hb r3⟩
  | .ptr i p, t, off, cs, hb, r => by
    simp only [RepO] at r ⊢
    obtain ⟨r1, v, r2, r3⟩ := r
    exact ⟨r1, v, r2, RepX.trunc hn _ v hb r3⟩
  | .yld i, t, off, cs, hb, r => by
    simp only [RepO] at r ⊢
    obtain ⟨r1, v, r2, r3⟩ := r
    exact ⟨r1, v, r2, RepX.trunc hn _ v hb r3⟩
  | .rnd _ _, _, _, _, _, r => by simp [RepO] at r
  | .bsy _ _, _, _, _, _, r => by simp [RepO] at r
  | .fin _ _, _, _, _, _, r => by simp [RepO] at r
  | .dead, _, _, _, _, r => by simp [RepO] at r
  | .undef, _, _, _, _, r => by simp [RepO] at r
  | .nils, _, _, _, _, r => by simp [RepO] at r
  | .cp _ _, _, _, _, _, r => by simp [RepO] at r
  | .tup _, _, _, _, _, r => by simp [RepO] at r
  | .lst _, _, _, _, _, r => by simp [RepO] at r
  | .cx _, _, _, _, _, r => by simp [RepO] at r
  | .mref _ _ _ _ _, _, _, _, _, r => by simp [RepO] at r
  | .ps _ _, _, _, _, _, r => by simp [RepO] at r
theorem RepOs.trunc {g w} {dh id n : Nat} (hn : n ≤ g.N dh) : ∀ (xs : List X) (t : Ty) (off : Nat) (cs : List Value), belowBs n xs = true → RepOs g w dh id xs t off cs → RepOs (g.trunc dh n) w dh id xs t off cs
  | [], t, off, cs, _, r => by simpa only [RepOs] using r
  | x :: xs, t, off, cs, hb, r => by
    simp only [belowBs, Bool.and_eq_true] at hb
    cases t <;> simp only [RepOs] at r ⊢
    obtain ⟨c1, c2, r1, r2, r3⟩ := r
    exact ⟨c1, c2, r1, RepO.trunc hn x _ off c1 hb.1 r2, RepOs.trunc hn xs _ _ c2 hb.2 r3⟩
end

theorem belowBs_getD {n : Nat} {l : List X} (h : belowBs n l = true) (i : Nat) : belowB n (l.getD i .dead) = true := by
  by_cases hi : i < l.length
  · rw [List.getD_eq_getElem?_getD, List.getElem?_eq_getElem hi]
    exact (belowBs_iff _ _).1 h _ (List.getElem_mem hi)
  · rw [List.getD_eq_getElem?_getD, List.getElem?_eq_none (by omega)]
    rfl

theorem EsR.trunc {g : Ghost} {w : World} {dh n : Nat} {k v : Ty} : ∀ {l : List (k.den × v.den)} {es : List MapEntry}, EsR g w k v l es → EsR (g.trunc dh n) w k v l es
  | [], _, r => r
  | _ :: l, _, ⟨e, r, h1, ⟨c1, h2, h3⟩, ⟨c2, h4, h5⟩, h6⟩ => ⟨e, r, h1, ⟨c1, h2.trunc, h3⟩, ⟨c2, h4.trunc, h5⟩, EsR.trunc h6⟩
theorem OtherO.trunc {g w} {dh n : Nat} (hn : n ≤ g.N dh) : ∀ {c : X} {o : Obj}, belowB n c = true → OtherO g w dh c o → OtherO (g.trunc dh n) w dh c o
  | .rnd key tms, o, hb, r => by
    obtain ⟨L, rd, h1, h2, h3, h4, h5, h6⟩ := r
    exact ⟨L, rd, h1, h2, h3, h4, h5, fun i t e => RepX.trunc hn _ _ (belowBs_getD hb i) (h6 i t e)⟩
  | .bsy key tms, o, hb, r => by
    obtain ⟨L, rd, h1, h2, h3, h4, h5, h6⟩ := r
    exact ⟨L, rd, h1, h2, h3, h4, h5, fun i t e => RepX.trunc hn _ _ (belowBs_getD hb i) (h6 i t e)⟩
  | .fin _ _, _, _, r => r
  | .asc k v l, o, hb, r => by
    obtain ⟨es, clock, h1, h2⟩ := r
    exact ⟨es, clock, h1, EsR.trunc h2⟩
  | .pd _ _, _, _, r | .orf _ _ _, _, _, r | .od _ _ _, _, _, r | .zv _, _, _, r | .zs _, _, _, r | .zw _ _, _, _, r | .mp _, _, _, r => r
  | .dead, _, _, r => r
  | .undef, _, _, r | .nils, _, _, r | .d _ _, _, _, r | .sl _ _ _ _, _, _, r | .cp _ _, _, _, r | .ptr _ _, _, _, r | .fn _ _ _, _, _, r | .tup _, _, _, r | .agg _, _, _, r | .lst _, _, _, r | .cx _, _, _, r | .mref _ _ _ _ _, _, _, r | .ps _ _, _, _, r | .yld _, _, _, r => r

/-- Of variables less may be told: of the last ones nothing; of others their data alone. -/
def HWeak (H1 H2 : Hp) : Prop := H2.length ≤ H1.length ∧ (∀ (id : Nat) (t : Ty) (c : X), H2[id]? = some (t, c) → ∃ c1, H1[id]? = some (t, c1) ∧ (c = c1 ∨ ∃ y, toD t c1 = some y ∧ c = .d t y)) ∧
  (H2.length = H1.length ∨ ∀ (id : Nat) (t : Ty) (c : X), H2[id]? = some (t, c) → belowB H2.length c = true)
theorem HWeak.refl (H : Hp) : HWeak H H := ⟨Nat.le_refl _, fun id t c h => ⟨c, h, .inl rfl⟩, .inl rfl⟩

/-- A part of the variables at the front, each as it is, or its data. -/
def frontB : Hp → Hp → Prop
  | _, [] => True
  | (t, c) :: H, (t', c') :: H' => t' = t ∧ (c' = c ∨ ∃ y, toD t c = some y ∧ c' = .d t y) ∧ frontB H H'
  | [], _ :: _ => False
theorem frontB_get : ∀ (H H' : Hp), frontB H H' → H'.length ≤ H.length ∧ ∀ (id : Nat) (t : Ty) (c : X), H'[id]? = some (t, c) → ∃ c1, H[id]? = some (t, c1) ∧ (c = c1 ∨ ∃ y, toD t c1 = some y ∧ c = .d t y)
  | H, [], _ => ⟨by simp, fun id t c e => by simp at e⟩
  | (t, c) :: H, (t', c') :: H', h => by
    obtain ⟨rfl, h2, h3⟩ := h
    obtain ⟨k1, k2⟩ := frontB_get H H' h3
    refine ⟨by simpa using k1, fun id t2 c2 e => ?_⟩
    cases id with
    | zero =>
      simp only [List.getElem?_cons_zero, Option.some.injEq, Prod.mk.injEq] at e
      obtain ⟨rfl, rfl⟩ := e
      exact ⟨c, rfl, h2⟩
    | succ id => exact k2 id t2 c2 (by simpa using e)
  | [], _ :: _, h => h.elim
theorem HWeak.of {H H' : Hp} (h : frontB H H') (hb : (H'.all fun p => belowB H'.length p.2) = true) : HWeak H H' := by
  obtain ⟨k1, k2⟩ := frontB_get H H' h
  refine ⟨k1, k2, .inr fun id t c e => ?_⟩
  exact List.all_eq_true.1 hb (t, c) (List.mem_of_getElem? e)

theorem HRep.hweak {g w} {dh : Nat} {H1 H2 : Hp} (h : HRep g w dh H1) (k : HWeak H1 H2) : HRep (g.trunc dh H2.length) w dh H2 := by
  obtain ⟨k1, k2, k3⟩ := k
  have hn : H2.length ≤ g.N dh := by rw [← h.1]; exact k1
  refine ⟨by simp [Ghost.trunc], fun id t c e => ?_⟩
  obtain ⟨c1, e1, e2⟩ := k2 id t c e
  obtain ⟨r1, r2, r0⟩ := h.2 id t c1 e1
  refine ⟨r1, r2, ?_⟩
  rcases r0 with ⟨r0, rfl⟩ | ⟨r3, r4, r5⟩
  · refine .inl ⟨r0, ?_⟩
    rcases e2 with e2 | ⟨y, hy, _⟩
    · exact e2
    · exfalso
      cases t <;> simp [V.toD] at hy
  refine .inr ⟨r3, r4, ?_⟩
  rcases r5 with ⟨arr, ty, fr, r5, rf, r6⟩ | ⟨rfl, o, r5, r6⟩ | r56
  case inr.inr =>
    obtain ⟨a, xs, hole, rfl, r7⟩ := r56
    refine .inr (.inr ?_)
    rcases e2 with rfl | ⟨y, hy, _⟩
    · rcases k3 with k3 | k3
      · have hg : g.trunc dh H2.length = g := by
          unfold Ghost.trunc
          rw [k3, h.1]
          have : (fun h => if h = dh then g.N dh else g.N h) = g.N := by
            funext x
            split
            · rename_i hx; rw [hx]
            · rfl
          rw [this]
        rw [hg]
        exact ⟨a, xs, hole, rfl, r7⟩
      · have := k3 id t _ e
        simp [belowB] at this
    · cases t <;> simp [V.toD] at hy
  case inr.inr.inl =>
    refine .inr (.inl ⟨rfl, o, r5, ?_⟩)
    rcases e2 with rfl | ⟨y, hy, rfl⟩
    · rcases k3 with k3 | k3
      · have hg : g.trunc dh H2.length = g := by
          unfold Ghost.trunc
          rw [k3, h.1]
          have : (fun h => if h = dh then g.N dh else g.N h) = g.N := by
            funext x
            split
            · rename_i e; rw [e]
            · rfl
          rw [this]
        rw [hg]; exact r6
      · exact OtherO.trunc hn (k3 id _ c e) r6
    · exfalso
      cases c1 <;> simp only [V.toD] at hy <;> try (cases hy; done)
      all_goals
        obtain ⟨s, n, e', _⟩ := r6
        cases e'
  refine .inl ⟨arr, ty, fr, r5, rf, ?_⟩
  have r7 : RepO g w dh id c t 0 (arr.toList.take t.size) := by
    rcases e2 with rfl | ⟨y, hy, rfl⟩
    · exact r6
    · simp only [RepO]
      exact ⟨trivial, RepO.toD c1 t 0 _ y r6 hy⟩
  rcases k3 with k3 | k3
  · have hg : g.trunc dh H2.length = g := by
      unfold Ghost.trunc
      rw [k3, h.1]
      have : (fun h => if h = dh then g.N dh else g.N h) = g.N := by
        funext x
        split
        · rename_i e; rw [e]
        · rfl
      rw [this]
    rw [hg]; exact r7
  · exact RepO.trunc hn c t 0 _ (k3 id t c e) r7

theorem Ext.trunc {g w g' w'} {d dh n : Nat} {K : Key → Prop} (h : Ext g w g' w' d K) (hK : K (.obj dh 0)) (hn : g.N dh ≤ n) : Ext g w (g'.trunc dh n) w' d K where
  os := h.os
  tape := h.tape
  output := h.output
  size := h.size
  keep := h.keep
  cells := h.cells
  mu x hx id hid := by
    obtain ⟨k1, k2, k3⟩ := h.mu x hx id hid
    refine ⟨?_, k2, k3⟩
    simp only [Ghost.trunc]
    split
    · rename_i e; subst e; omega
    · exact k1
  num x hx := by
    simp only [Ghost.trunc]
    split
    · rename_i e
      subst e
      exact absurd hK (hx _ rfl)
    · exact h.num x hx

/-- A frame of which less is told. -/
theorem Fr.forget {g w} {d dh : Nat} {st st' : St} {a : Act} (h : Fr g w d dh st a) (hl : st'.tm.length = st.tm.length) (hH : st'.H = st.H) (hx : ∀ (t : Nat) (x : X), st'.tm[t]? = some x → x = .dead ∨ st.tm[t]? = some x ∨ ∃ y, st.tm[t]? = some y ∧ x = y.unown) : Fr g w d dh st' a := by
  refine ⟨hl.trans h.len, fun t x e => ?_, hH ▸ h.heap, h.wf, h.le, h.mks⟩
  rcases hx t x e with rfl | e' | ⟨y, e', rfl⟩
  · simp [RepX]
  · exact h.rep t x e'
  · exact (h.rep t y e').unown'

theorem Marks.cells {g g' : Ghost} {w : World} {d : Nat} (h1 : g'.own = g.own) (h2 : g'.U = g.U) : ∀ {l : List Deferred}, Marks g w d l → Marks g' w d l
  | [], _ => trivial
  | x :: l, r => by
    obtain ⟨⟨D, q1, q2, q3, q4, q5⟩, r⟩ := r
    exact ⟨⟨D, q1, q2, by rw [h1]; exact q3, by rw [h2]; exact q4, q5⟩, Marks.cells h1 h2 r⟩

theorem idxOf_get : ∀ (ks : List Nat) (t i : Nat), ks.idxOf? t = some i → ks[i]? = some t
  | [], _, _, h => by simp at h
  | k :: ks, t, i, h => by
    rw [List.idxOf?_cons] at h
    split at h
    · rename_i hk
      cases h
      simp at hk
      simp [hk]
    · rw [Option.map_eq_some_iff] at h
      obtain ⟨j, hj, rfl⟩ := h
      simpa using idxOf_get ks t j hj

theorem keepOnly_get {n : Nat} {ks : List Nat} {xs : List X} {t : Nat} {x : X} (h : (keepOnly n ks xs)[t]? = some x) : x = .dead ∨ ∃ i, ks[i]? = some t ∧ xs.getD i .dead = x := by
  unfold keepOnly at h
  rw [List.getElem?_map, Option.map_eq_some_iff] at h
  obtain ⟨j, hj, rfl⟩ := h
  have : j = t := by
    rw [List.getElem?_range] at hj
    · simpa using hj.symm
    · have := (List.getElem?_eq_some_iff.1 hj).1
      simpa using this
  subst this
  split
  · rename_i i hi
    exact .inr ⟨i, idxOf_get ks j i hi, rfl⟩
  · exact .inl rfl

theorem Fr.keep {g w} {d dh : Nat} {st : St} {a : Act} (h : Fr g w d dh st a) (N : Nat) (hN : st.tm.length = N) (ks : List Nat) : Fr g w d dh { tm := keepOnly N ks (ks.map fun t => st.tm.getD t .dead), H := st.H } a := by
  refine h.forget (by simp [keepOnly, hN]) rfl fun t x e => ?_
  rcases keepOnly_get e with e | ⟨i, hi, hx⟩
  · exact .inl e
  · rw [List.getD_eq_getElem?_getD, List.getElem?_map, hi] at hx
    simp only [Option.map_some, Option.getD_some] at hx
    by_cases hd : x = .dead
    · exact .inl hd
    · refine .inr (.inl ?_)
      rw [List.getD_eq_getElem?_getD] at hx
      cases ht : st.tm[t]? with
      | none => rw [ht] at hx; simp at hx; exact absurd hx.symm hd
      | some y => rw [ht] at hx; simp at hx; rw [hx]

/-- Of places less may be told. -/
def Forget (ys xs : List X) : Prop := ∀ i, xs.getD i .dead = .dead ∨ xs.getD i .dead = ys.getD i .dead ∨ xs.getD i .dead = (ys.getD i .dead).unown

/-- What lives on leads to no variable that is told of no more. -/
def LeadsB (H1 H2 : Hp) (xs : List X) : Prop := H2.length = H1.length ∨ belowBs H2.length xs = true

theorem Fr.weak {g w} {d dh : Nat} {N : Nat} {ks : List Nat} {xs ys : List X} {H H' : Hp} {a : Act} (h : Fr g w d dh { tm := keepOnly N ks ys, H := H } a) (hf : Forget ys xs) (hH : HWeak H H') (hl : LeadsB H H' xs) :
    Fr (g.trunc dh H'.length) w d dh { tm := keepOnly N ks xs, H := H' } a := by
  have h1 : Fr g w d dh { tm := keepOnly N ks xs, H := H } a := by
    refine h.forget (by simp [keepOnly]) rfl fun t x e => ?_
    have ht : t < N := by
      have := (List.getElem?_eq_some_iff.1 e).1
      simpa [keepOnly] using this
    have hk : ∀ zs : List X, (keepOnly N ks zs)[t]? = some (match ks.idxOf? t with | some i => zs.getD i .dead | none => .dead) := by
      intro zs
      unfold keepOnly
      rw [List.getElem?_map, List.getElem?_range ht]
      rfl
    rw [hk] at e ⊢
    simp only [Option.some.injEq] at e ⊢
    cases hi : ks.idxOf? t with
    | none => rw [hi] at e; exact .inl e.symm
    | some i =>
      rw [hi] at e
      simp only at e ⊢
      rcases hf i with h0 | h0 | h0
      · exact .inl (e.symm.trans h0)
      · exact .inr (.inl (h0.symm.trans e))
      · exact .inr (.inr ⟨_, rfl, e.symm.trans h0⟩)
  have hn : H'.length ≤ g.N dh := by rw [← h1.heap.1]; exact hH.1
  refine ⟨h1.len, fun t x e => ?_, h1.heap.hweak hH, h1.wf, h1.le, h1.mks.cells (by rfl) (by rfl)⟩
  have hr := h1.rep t x e
  rcases hl with hl | hl
  · have hg : g.trunc dh H'.length = g := by
      unfold Ghost.trunc
      rw [hl, h1.heap.1]
      have : (fun h => if h = dh then g.N dh else g.N h) = g.N := by
        funext x
        split
        · rename_i e; rw [e]
        · rfl
      rw [this]
    rw [hg]; exact hr
  · refine RepX.trunc hn x _ ?_ hr
    rcases keepOnly_get e with rfl | ⟨i, _, hx⟩
    · rfl
    · rw [← hx]
      by_cases hi : i < xs.length
      · rw [List.getD_eq_getElem?_getD, List.getElem?_eq_getElem hi]
        exact (belowBs_iff _ _).1 hl _ (List.getElem_mem hi)
      · rw [List.getD_eq_getElem?_getD, List.getElem?_eq_none (by omega)]
        rfl

/-- A loop comes to this, in so many rounds. Between rounds less may be told. -/
def LoopN (C : Ctx) (fuel : Nat) (body : Code) (N : Nat) (ks : List Nat) : Nat → List X → Hp → Ex × List X × Hp → Prop
  | 0, _, _, _ => False
  | m + 1, xs, H, r =>
    (∃ ys H1, r.1 ≠ .normal ∧ stepF C fuel body N ks xs H (fun e xs H => some (e, xs, H)) = some (r.1, ys, H1) ∧ Forget ys r.2.1 ∧ HWeak H1 r.2.2 ∧ H.length ≤ r.2.2.length ∧ LeadsB H1 r.2.2 r.2.1) ∨
    (∃ ys H1 xs' H', stepF C fuel body N ks xs H (fun e xs H => some (e, xs, H)) = some (Ex.normal, ys, H1) ∧ Forget ys xs' ∧ HWeak H1 H' ∧ H.length ≤ H'.length ∧ LeadsB H1 H' xs' ∧ LoopN C fuel body N ks m xs' H' r)

theorem loopN_ok {P : Program} {C : Ctx} (hC : COk P C) (hmix : P.follows .mixedOrders = true) {d dh fuel : Nat} {body : Code} {N : Nat} {ks : List Nat} (hL : LoopsOk P C d dh (loopsOf body)) (hR : ∀ q ∈ rfOf body, RfOk C q) (hJ : ∀ q ∈ rgOf body, RgOk P C d dh q) {F : List X → Hp → Option (Ex × List X × Hp)}
    (hF : ∀ xs H r, F xs H = some r → ∃ m, LoopN C fuel body N ks m xs H r) : LoopOk P C.ins d dh body N ks F := by
  intro st e xsF HF hN hres g w a h ro hro
  obtain ⟨m, hm⟩ := hF _ _ _ hres
  refine wpIn_loop_fuel (fun n a' w' => ∃ g' xs H', LoopN C fuel body N ks n xs H' (e, xsF, HF) ∧ Fr g' w' d dh { tm := keepOnly N ks xs, H := H' } a' ∧ Ext g w g' w' d (Kf d dh) ∧ g.N dh ≤ H'.length) ?_ (n := m) ?_
  · rintro n a' w' ⟨g', xs, H', h1, h2, h3, h5⟩
    cases n with
    | zero => exact h1.elim
    | succ n =>
      have hK : Kf d dh (.obj dh 0) := .inr rfl
      rcases h1 with ⟨ys, H1, q1, q2, q3, q4, q6, q7⟩ | ⟨ys, H1, xs', H2, q2, q3, q4, q6, q7, q5⟩
      · have hs := q2
        unfold stepF at hs
        refine codeK_sound hC hmix ro hro fuel body g' w' _ a' _ _ h2 hs hL hR hJ fun e2 st2 a2 w2 g2 k1 k2 k3 => ?_
        simp only at k1
        split at k1
        · rename_i hN2
          simp only [Option.some.injEq, Prod.mk.injEq] at k1
          obtain ⟨rfl, rfl, rfl⟩ := k1
          have hfin : e2.to = e2.to ∧ ∃ g', Fr g' w2 d dh { tm := keepOnly N ks xsF, H := HF } a2 ∧ Ext g w g' w2 d (Kf d dh) := ⟨rfl, _, (k2.keep N hN2 ks).weak q3 q4 q7, (h3.trans k3).trunc hK (Nat.le_trans h5 q6)⟩
          cases e2 with
          | normal => exact absurd rfl q1
          | exit i => exact hfin
          | goto i => exact hfin
          | ret => exact hfin
        · cases k1
      · have hs := q2
        unfold stepF at hs
        refine codeK_sound hC hmix ro hro fuel body g' w' _ a' _ _ h2 hs hL hR hJ fun e2 st2 a2 w2 g2 k1 k2 k3 => ?_
        simp only at k1
        split at k1
        · rename_i hN2
          simp only [Option.some.injEq, Prod.mk.injEq] at k1
          obtain ⟨rfl, rfl, rfl⟩ := k1
          exact ⟨n, Nat.lt_succ_self n, _, _, _, q5, (k2.keep N hN2 ks).weak q3 q4 q7, (h3.trans k3).trunc hK (Nat.le_trans h5 q6), Nat.le_trans h5 q6⟩
        · cases k1
  · exact ⟨g, _, _, hm, h.keep N hN ks, Ext.refl _ _ _ _, Nat.le_of_eq h.heap.1.symm⟩

mutual
/-- An argument that leads to no variable and whose room is not its own. -/
def argB : X → Bool
  | .d _ _ => true
  | .sl _ _ _ own => !own
  | .nils => true
  | .undef => true
  | .dead => true
  | .cp _ _ => true
  | .fn _ a b => argsB a && argsB b
  | .tup xs => argsB xs
  | .lst l => argsB l
  | .cx x => argB x
  | _ => false
def argsB : List X → Bool
  | [] => true
  | x :: xs => argB x && argsB xs
end

mutual
theorem RepX.far {g w} {dh dh2 : Nat} {κ κ2 : Key} : ∀ (x : X) (v : Value), argB x = true → RepX g w dh κ x v → RepX g w dh2 κ2 x v
  | .d t x, v, _, h => by simpa only [RepX] using h
  | .sl e xs nl own, v, hb, h => by
    simp only [argB, Bool.not_eq_true'] at hb
    subst hb
    simp only [RepX] at h ⊢
    obtain ⟨a, c, h1, h2, h3, h4, _⟩ := h
    exact ⟨a, c, h1, h2, h3, h4, (fun e => by cases e)⟩
  | .nils, v, _, h => by simpa only [RepX] using h
  | .undef, v, _, h => by simpa only [RepX] using h
  | .dead, v, _, h => by simp only [RepX]
  | .cp t x, v, _, h => by simpa only [RepX] using h
  | .fn f a b, v, hb, h => by
    simp only [argB, Bool.and_eq_true] at hb
    simp only [RepX] at h ⊢
    obtain ⟨vs, us, h1, h2, h3⟩ := h
    exact ⟨vs, us, h1, RepXs.far a vs hb.1 h2, RepXs.far b us hb.2 h3⟩
  | .tup xs, v, hb, h => by
    simp only [argB] at hb
    simp only [RepX] at h ⊢
    obtain ⟨vs, h1, h2⟩ := h
    exact ⟨vs, h1, RepXs.far xs vs hb h2⟩
  | .ptr _ _, _, hb, _ => by simp [argB] at hb
  | .mref _ _ _ _ _, _, hb, _ => by simp [argB] at hb
  | .ps _ _, _, hb, _ => by simp [argB] at hb
  | .yld _, _, hb, _ => by simp [argB] at hb
  | .rnd _ _, _, hb, _ => by simp [argB] at hb
  | .bsy _ _, _, hb, _ => by simp [argB] at hb
  | .fin _ _, _, hb, _ => by simp [argB] at hb
  | .pd _ _, _, hb, _ => by simp [argB] at hb
  | .orf _ _ _, _, hb, _ => by simp [argB] at hb
  | .od _ _ _, _, hb, _ => by simp [argB] at hb
  | .zv _, _, hb, _ => by simp [argB] at hb
  | .zs _, _, hb, _ => by simp [argB] at hb
  | .zw _ _, _, hb, _ => by simp [argB] at hb
  | .mp _, _, hb, _ => by simp [argB] at hb
  | .asc _ _ _, _, hb, _ => by simp [argB] at hb
  | .lst l, v, hb, h => by
    simp only [argB] at hb
    simp only [RepX] at h ⊢
    obtain ⟨a, us, c, h1, h2, h3, h4⟩ := h
    exact ⟨a, us, c, h1, h2, RepXs.far l us hb h3, h4⟩
  | .cx x, v, hb, h => by
    simp only [argB] at hb
    simp only [RepX] at h ⊢
    obtain ⟨A, u, h1, h2, h3, h4, h5⟩ := h
    exact ⟨A, u, h1, h2, RepX.far x u hb h3, h4, h5⟩
  | .agg _, _, hb, _ => by simp [argB] at hb
theorem RepXs.far {g w} {dh dh2 : Nat} : ∀ (xs : List X) (vs : List Value), argsB xs = true → RepXs g w dh xs vs → RepXs g w dh2 xs vs
  | [], vs, _, h => by simpa only [RepXs] using h
  | x :: xs, vs, hb, h => by
    simp only [argsB, Bool.and_eq_true] at hb
    simp only [RepXs] at h ⊢
    obtain ⟨v, us, h1, h2, h3⟩ := h
    exact ⟨v, us, h1, RepX.far x v hb.1 h2, RepXs.far xs us hb.2 h3⟩
end

theorem argsB_unown : ∀ (l : List X), argsB l = true → ∀ x ∈ l, x.unown = x
  | [], _, x, hx => by cases hx
  | y :: l, hb, x, hx => by
    simp only [argsB, Bool.and_eq_true] at hb
    rcases List.mem_cons.1 hx with rfl | hx
    · have h1 := hb.1
      cases x <;> simp_all [argB, X.unown]
    · exact argsB_unown l hb.2 x hx

/-- A result that leads to no variable. -/
def resB : X → Bool
  | .sl _ _ _ _ => true
  | x => argB x

theorem RepX.res {g w} {dh dh2 : Nat} {κ : Key} {x : X} {v : Value} (hb : resB x = true) (h : RepX g w dh κ x v) : RepX g w dh2 κ x v := by
  cases x
  case sl e xs nl own => simpa only [RepX] using h
  all_goals exact RepX.far _ v hb h

theorem Fr.enter {g w} {d dh : Nat} {H : Hp} (hH : HRep g w dh H) (hw : WF g w) (hd : dh ≤ d) {args : List X} {vs : List Value} (ha : RepXs g w dh args vs) (hb : ∀ x ∈ args, x.unown = x) (n : Nat) :
    Fr g w d dh { tm := args ++ List.replicate n .undef, H := H } { tmps := vs.toArray ++ Array.replicate n undef, defers := [] } := by
  have hlen : ∀ (xs : List X) (vs : List Value), RepXs g w dh xs vs → xs.length = vs.length := by
    intro xs
    induction xs with
    | nil => intro vs h; simp only [RepXs] at h; simp [h]
    | cons x xs ih =>
      intro vs h
      simp only [RepXs] at h
      obtain ⟨v, us, rfl, _, h3⟩ := h
      simp [ih us h3]
  have hl := hlen args vs ha
  refine ⟨by simp [hl], fun t x e => ?_, hH, hw, hd, trivial⟩
  by_cases ht : t < args.length
  · rw [List.getElem?_append_left ht] at e
    obtain ⟨v, hv, hr⟩ := RepXs.get args vs t x ha e
    have htv : t < vs.length := by omega
    have : (vs.toArray ++ Array.replicate n undef).getD t undef = v := by
      rw [List.getElem?_eq_getElem htv] at hv
      simp only [Option.some.injEq] at hv
      simp [Array.getD, Array.getElem_append, htv, hv]
      omega
    simp only [this]
    have hmem : x ∈ args := List.mem_of_getElem? e
    cases x
    case sl e0 xs nl own =>
      have := hb _ hmem
      simp only [X.unown, X.sl.injEq, heq_eq_eq, true_and] at this
      subst this
      simp only [RepX] at hr ⊢
      obtain ⟨a, c, h1, h2, h3, h4, _⟩ := hr
      exact ⟨a, c, h1, h2, h3, h4, (fun e => by cases e)⟩
    case ps e0 xs => exact absurd (hb _ hmem) (by simp [X.unown])
    case pd e0 xs => exact absurd (hb _ hmem) (by simp [X.unown])
    all_goals (simp only [RepX] at hr ⊢; try exact hr)
  · rw [List.getElem?_append_right (by omega)] at e
    have hx : x = .undef := by
      have := List.mem_of_getElem? e
      exact List.eq_of_mem_replicate this
    subst hx
    simp only [RepX]
    have hlt : t - args.length < n := by
      have := (List.getElem?_eq_some_iff.1 e).1
      simpa using this
    simp [Array.getD, Array.getElem_append]
    intro h1 h2
    omega

end Go.Proofs.Ytnbfiifkaddehaa.V

/- What the evaluator tells is so: a function whose body it comes through does what it tells. -/
namespace Go.Proofs.Ytnbfiifkaddehaa.V
open Go
set_option linter.unusedVariables false
set_option linter.unusedSimpArgs false

/-- One result, as it is read. -/
def resRun (tmps : Array Value) : ResultVar → Sem Value
  | .tmp t => pure (tmps.getD t undef)
  | .cell a t => do loadVar t (← asAddr (tmps.getD a undef))

theorem resultX_sound {P : Program} {C : Ctx} (hC : TysOk P C.tys) {g w} {d dh : Nat} {st : St} {a : Act} (h : Fr g w d dh st a) {r : ResultVar} {x : X} (hx : resultX C st r = some x) :
    ∃ v κ, (resRun a.tmps r).run P w = .ok v w ∧ RepX g w dh κ x v ∧ κ ≠ .no ∧ Kf d dh κ := by
  cases r with
  | tmp t =>
    simp only [resultX, Option.some.injEq] at hx
    subst hx
    have := h.val (.tmp t)
    simp only [St.val, keyOf, Act.eval] at this
    exact ⟨_, _, rfl, this, by simp, .inl (Nat.le_refl _)⟩
  | cell b T =>
    simp only [resultX] at hx
    split at hx
    · rename_i e id p he hv
      split at hx
      · rename_i t c hid
        split at hx
        · rename_i t' y htp hy
          split at hx
          · rename_i hte
            subst hte
            have hxp := h.val (.tmp b)
            simp only [St.val, keyOf, Act.eval] at hxp
            rw [hv] at hxp
            simp only [RepX] at hxp
            obtain ⟨hN, o, t1, hp, hval⟩ := hxp
            obtain ⟨r1, r2, hlive⟩ := h.heap.2 id t c hid
            obtain ⟨r3, r4, r56⟩ := hlive.at (getP_dead hy hx)
            have ht := (Ctx.ty_ok hC he).1
            obtain ⟨arr, tyo, fr, r5, rf, r6⟩ := r56.cells htp (tyB_unit ht) (by
              rintro a xs hole rfl
              cases p with
              | nil =>
                simp only [getP, Option.some.injEq] at hy
                subst hy
                simp [outX] at hx
              | cons j p => simp [getP] at hy)
            rw [r1] at hp
            obtain rfl := typeAt_eq hp htp
            obtain ⟨pre, mid, post, f1, f2, f3⟩ := RepO.get p c t 0 o _ e.t y r6 hp hy
            rw [Nat.zero_add] at f3
            have hcell : ∀ j (hj : j < mid.length), w.cell? ⟨g.μ dh id, o + j, none⟩ = some mid[j] := by
              intro j hj
              rw [cell_of_heap r5, ← Array.getElem?_toList]
              exact take_get (n := t.size) (by rw [f1, ← f2, getElem?_mid pre mid post j hj, List.getElem?_eq_getElem hj])
            have hlv := loadVar_run (w := w) (b := g.μ dh id) (off := o) ht (RepO.length _ _ _ _ f3) hcell
            refine ⟨_, .cell dh id o, ?_, f3.out hx, by simp, .inr rfl⟩
            simp only [resRun, Sem.run_bind, hval, asAddr, Sem.run_pure, Result.andThen_ok]
            exact hlv
          · cases hx
        · cases hx
      · cases hx
    · cases hx

theorem results_run {P : Program} (fn : Func) (tmps : Array Value) (w : World) (vs : List Value) (h : (fn.results.toList.mapM (resRun tmps)).run P w = .ok vs w) :
    (results fn tmps).run P w = .ok (match vs with | [v] => v | vs => .tuple vs.toArray) w := by
  have e : results fn tmps = (do
      let vs ← fn.results.mapM (resRun tmps)
      pure (if h : vs.size = 1 then vs[0] else .tuple vs)) := rfl
  have h2 : (fn.results.mapM (resRun tmps)) = (List.toArray <$> fn.results.toList.mapM (resRun tmps)) := Array.mapM_eq_mapM_toList
  rw [e, h2]
  simp only [Sem.run_bind, Sem.run_map, h, Result.andThen_ok, Sem.run_pure]
  congr 1
  match vs with
  | [] => rfl
  | [v] => rfl
  | _ :: _ :: _ => rfl

theorem mapM_sound {P : Program} {C : Ctx} (hC : TysOk P C.tys) {g w} {d dh : Nat} {st : St} {a : Act} (h : Fr g w d dh st a) : ∀ (rs : List ResultVar) (xs : List X), rs.mapM (resultX C st) = some xs →
    ∃ vs, (rs.mapM (resRun a.tmps)).run P w = .ok vs w ∧ RepXs g w dh (xs.map X.unown) vs ∧ vs.length = rs.length
  | [], xs, e => by
    simp only [List.mapM_nil] at e
    cases e
    exact ⟨[], rfl, by simp [RepXs], rfl⟩
  | r :: rs, xs, e => by
    simp only [List.mapM_cons] at e
    cases hr : resultX C st r with
    | none => rw [hr] at e; simp at e
    | some y =>
      cases hs : rs.mapM (resultX C st) with
      | none => rw [hr, hs] at e; simp at e
      | some ys =>
        rw [hr, hs] at e
        simp at e
        subst e
        obtain ⟨v, κ, e1, e2, _⟩ := resultX_sound hC h hr
        obtain ⟨vs, f1, f2, f3⟩ := mapM_sound hC h rs ys hs
        refine ⟨v :: vs, ?_, ?_, by simp [f3]⟩
        · simp only [List.mapM_cons, Sem.run_bind, e1, Result.andThen_ok, f1, Sem.run_pure]
        · simp only [List.map_cons, RepXs]
          exact ⟨v, vs, rfl, e2.unown', f2⟩

theorem resultsX_sound {P : Program} {C : Ctx} (hC : TysOk P C.tys) {g w} {d dh : Nat} {st : St} {a : Act} (h : Fr g w d dh st a) (fn : Func) {x : X} (hx : resultsX C fn st = some x) :
    ∃ v κ, (results fn a.tmps).run P w = .ok v w ∧ RepX g w dh κ x v ∧ κ ≠ .no ∧ Kf d dh κ := by
  unfold resultsX at hx
  split at hx
  · rename_i r hr
    obtain ⟨v, κ, e1, e2, e3, e4⟩ := resultX_sound hC h hx
    refine ⟨v, κ, ?_, e2, e3, e4⟩
    refine results_run fn a.tmps w [v] ?_
    rw [hr]
    simp only [List.mapM_cons, List.mapM_nil, Sem.run_bind, e1, Result.andThen_ok, Sem.run_pure]
  · rename_i rs hne
    split at hx
    · rename_i xs hxs
      cases hx
      obtain ⟨vs, f1, f2, f3⟩ := mapM_sound hC h _ xs hxs
      refine ⟨.tuple vs.toArray, .tmp d 0, ?_, ?_, by simp, .inl (Nat.le_refl _)⟩
      · have := results_run fn a.tmps w vs f1
        rw [this]
        match vs, f3 with
        | [], _ => rfl
        | [v], f3 =>
          exfalso
          have h1 : fn.results.toList.length = 1 := by simpa using f3.symm
          match hl : fn.results.toList, h1 with
          | [r], _ => exact hne r hl
        | _ :: _ :: _, _ => rfl
      · simp only [RepX]
        exact ⟨vs, rfl, f2⟩
    · cases hx

theorem RepXs.length {g w} {dh : Nat} : ∀ (xs : List X) (vs : List Value), RepXs g w dh xs vs → xs.length = vs.length
  | [], vs, h => by simp only [RepXs] at h; simp [h]
  | x :: xs, vs, h => by
    simp only [RepXs] at h
    obtain ⟨v, us, rfl, _, h3⟩ := h
    simp [RepXs.length xs us h3]

theorem fnOk {P : Program} {f : Nat} {fn : Func} (hf : P.funcs[f]? = some fn) (hname : fn.name ≠ "runtime.NumGoroutine") (hb : fn.body.isSome = true) : FnOk P f := by
  intro args w
  have h1 : (fn.name == "runtime.NumGoroutine") = false := by simpa using hname
  have h2 : fn.body.isNone = false := by cases h : fn.body <;> simp_all
  simp only [callFunc, Sem.run_bind, run_program, Result.andThen_ok, hf, h1, h2, Bool.false_eq_true, if_false, Sem.run_pure]

/-- A frame is left: it comes to its marks. -/
theorem leave_marks {P : Program} {fn : Func} {R : Ending → World → Prop} {g : Ghost} {d dh : Nat} {st : St} {tmps : Array Value} : ∀ (l : List Deferred) (w : World), Fr g w d dh st { tmps := tmps, defers := l } →
    (∀ w', Fr g w' d dh st { tmps := tmps, defers := [] } → Ext g w g w' d (fun κ => κ = .mark d) → ∃ v, (results fn tmps).run P w' = .ok v w' ∧ R (.returned v) w') → LeavesInM (rdF none) 0 P fn tmps R l .returning w
  | [], w, h, hn => hn w h (Ext.refl _ _ _ _)
  | x :: l, w, h, hn => by
    obtain ⟨⟨D, rfl, h2, h3, h4, h5⟩, hm⟩ := h.mks
    have hlt : D < w.heap.size := (Array.getElem?_eq_some_iff.1 h2).1
    have he : Ext g w g (w.putObj D (.deferred none)) d (fun κ => κ = .mark d) := Ext.setObj h3 h4 hlt
    have hmk : ∀ (l : List Deferred), (∀ y ∈ l, y.target ≠ .collected D) → Marks g w d l → Marks g (w.putObj D (.deferred none)) d l := by
      intro l
      induction l with
      | nil => intro _ _; trivial
      | cons y l ih =>
        rintro hy ⟨⟨D', q1, q2, q3, q4, q5⟩, q6⟩
        have hne : D' ≠ D := by
          rintro rfl
          exact hy y (by simp) (by rw [q1])
        exact ⟨⟨D', q1, (World.putObj_heap_other hne).trans q2, q3, q4, q5⟩, ih (fun z hz => hy z (by simp [hz])) q6⟩
    have hfr : Fr g (w.putObj D (.deferred none)) d dh st { tmps := tmps, defers := l } :=
      ⟨h.len, fun t x hx => RepX.ext he h.le (by simp) (by simp) x _ (h.rep t x hx), HRep.ext he h.le (by simp) (by rintro κ hκ rfl; exact hκ) rfl h.heap,
        ⟨fun b hb => h.wf.1 b (by simpa [World.putObj] using hb), Tabs.ext he h.wf.2⟩, h.le, hmk l h5 hm⟩
    refine ⟨by simp, .inl ⟨D, w.putObj D (.deferred none), rfl, run_takeDeferred h2, leave_marks l _ hfr fun w' q1 q2 => hn w' q1 (he.trans q2)⟩⟩

/-- A function's contract from its body. -/
theorem calls_of_code {P : Program} {f : Nat} {fn : Func} {c : Code} {args : Array Value} {w : World} {R : Ending → World → Prop} (hf : P.funcs[f]? = some fn) (hb : fn.body = some c)
    (h : c.wpIn (rdF none) 0 P (bodyPostM (rdF none) 0 P fn R) { tmps := args ++ Array.replicate (fn.ntmps - args.size) undef, defers := [] } w) : Calls P f args w R :=
  (callsIn_wide (n := 0)).1 (callsIn_of_wp_marks (F := rdF none) hf hb trivial h rfl)

/-- **A function whose body the evaluator comes through does what it tells.** -/
theorem pure_ok {P : Program} {C : Ctx} (hC : COk P C) (hmix : P.follows .mixedOrders = true) {f : Nat} {fn : Func} {c : Code} (hf : P.funcs[f]? = some fn) (hname : fn.name ≠ "runtime.NumGoroutine") (hb : fn.body = some c) (fuel : Nat)
    (hL : ∀ d, LoopsOk P C d d (loopsOf c)) (hR : ∀ q ∈ rfOf c, RfOk C q) (hJ : ∀ d dh, ∀ q ∈ rgOf c, RgOk P C d dh q) {F : List X → Option X} (hF : ∀ args r, F args = some r → argsB args = true ∧ resB r = true ∧ ∃ H', bodyX C fuel fn args [] = some (r, H')) : PureOk P f F := by
  refine ⟨fnOk hf hname (by simp [hb]), fun args r hr g w d dh vs hd hw ha => ?_⟩
  obtain ⟨hab, hrb, H', hbody⟩ := hF args r hr
  simp only [bodyX, hb] at hbody
  let g0 : Ghost := { g with N := fun h => if h = d + 1 then 0 else g.N h }
  have he0 : Ext g w g0 w d (fun κ => κ.deep (d + 1)) := by
    refine ⟨rfl, rfl, rfl, Nat.le_refl _, fun _ _ _ => ⟨rfl, rfl, rfl⟩, fun _ _ h => ⟨rfl, h⟩, fun h hh id hid => ?_, fun h hh => ?_⟩
    · have : h ≠ d + 1 := by omega
      simp [g0, this, hid]
    · have : h ≠ d + 1 := by
        rintro rfl
        exact hh (.obj (d + 1) 0) rfl (Nat.le_refl _)
      simp [g0, this]
  have ha1 : RepXs g w (d + 1) args vs := RepXs.far args vs hab ha
  have ha0 : RepXs g0 w (d + 1) args vs := by
    have h2 : ∀ (xs : List X) (vs : List Value), argsB xs = true → RepXs g w dh xs vs → RepXs g0 w (d + 1) xs vs := fun xs vs hb h => RepXs.far xs vs hb (RepXs.ext he0 hd (fun e => e) xs vs h)
    exact h2 args vs hab ha
  have hH0 : HRep g0 w (d + 1) [] := ⟨by simp [g0], fun id t c e => by simp at e⟩
  have hw0 : WF g0 w := hw
  have hown : ∀ x ∈ args, x.unown = x := argsB_unown args hab
  have hfr := Fr.enter hH0 hw0 (Nat.le_refl (d + 1)) ha0 hown (fn.ntmps - args.length)
  have hlen := RepXs.length args vs ha
  refine calls_of_code hf hb ?_
  have hsz : vs.toArray.size = args.length := by simp [hlen]
  rw [hsz]
  refine codeK_sound hC hmix none (by simp) fuel c g0 w _ _ _ _ hfr hbody (hL (d + 1)) hR (hJ (d + 1) (d + 1)) fun e st' a' w' g' h1 h2 h3 => ?_
  have fin : ∀ x, resultsX C fn st' = some x → x = r → LeavesInM (rdF none) 0 P fn a'.tmps (fun e w' => ∃ v g', e = .returned v ∧ RepX g' w' dh (.tmp (d + 1) 0) r v ∧ Ext g w g' w' d (fun κ => κ.deep (d + 1)) ∧ WF g' w') a'.defers .returning w' := by
    rintro x hx rfl
    refine leave_marks a'.defers w' h2 fun w'' hfr hext => ?_
    obtain ⟨v, κ, e1, e2, e3, e4⟩ := resultsX_sound hC.tys hfr fn hx
    refine ⟨v, e1, v, g'.rekey κ (.tmp (d + 1) 0), rfl, RepX.res hrb (RepX.rekey (Nat.le_refl _) e3 _ _ e2), ?_, hfr.wf.rekey⟩
    have hK : ∀ κ, Kf (d + 1) (d + 1) κ → κ.deep (d + 1) := by
      rintro κ (h | h)
      · exact h
      · cases κ <;> simp only [Key.heap, Key.deep] at h ⊢ <;> omega
    refine he0.trans ((h3.mono (Nat.le_succ d) hK).trans ((hext.mono (Nat.le_succ d) ?_).trans (Ghost.rekey_ext.mono (Nat.le_refl _) ?_)))
    · rintro κ' rfl
      exact Nat.le_refl _
    · rintro κ' rfl
      exact hK _ e4
  cases e with
  | normal =>
    simp only at h1
    split at h1
    · rename_i x hx
      simp only [Option.some.injEq, Prod.mk.injEq] at h1
      exact fin x hx h1.1
    · cases h1
  | ret =>
    simp only at h1
    split at h1
    · rename_i x hx
      simp only [Option.some.injEq, Prod.mk.injEq] at h1
      exact fin x hx h1.1
    · cases h1
  | exit i => cases h1
  | goto l => cases h1

/-- The same of a function that turns its caller's variables; what it lays itself stays. -/
theorem eff_ok {P : Program} {C : Ctx} (hC : COk P C) (hmix : P.follows .mixedOrders = true) {f : Nat} {fn : Func} {c : Code} (hf : P.funcs[f]? = some fn) (hname : fn.name ≠ "runtime.NumGoroutine") (hb : fn.body = some c) (fuel : Nat)
    (hL : ∀ d dh, LoopsOk P C d dh (loopsOf c)) (hR : ∀ q ∈ rfOf c, RfOk C q) (hJ : ∀ d dh, ∀ q ∈ rgOf c, RgOk P C d dh q) {F : List X → Hp → Option (X × Hp)}
    (hF : ∀ args H r H', F args H = some (r, H') → (∀ x ∈ args, x.unown = x) ∧ ∃ x H1, r = x.unown ∧ bodyX C fuel fn args H = some (x, H1) ∧ HWeak H1 H' ∧ H.length ≤ H'.length ∧ LeadsB H1 H' [x]) : EffOk P f F := by
  refine ⟨fnOk hf hname (by simp [hb]), fun args H r H' hr g w d dh vs hd hw hH ha => ?_⟩
  obtain ⟨hown, x, H1, rfl, hbody, hweak, hle, hlead⟩ := hF args H r H' hr
  simp only [bodyX, hb] at hbody
  have hfr := Fr.enter hH hw (show dh ≤ d + 1 by omega) ha hown (fn.ntmps - args.length)
  have hlen := RepXs.length args vs ha
  refine calls_of_code hf hb ?_
  have hsz : vs.toArray.size = args.length := by simp [hlen]
  rw [hsz]
  have hfr' : Fr g w (d + 1) dh { tm := args ++ List.replicate (fn.ntmps - args.length) .undef, H := H } { tmps := vs.toArray ++ Array.replicate (fn.ntmps - args.length) undef, defers := [] } := ⟨hfr.len, hfr.rep, hfr.heap, hfr.wf, hfr.le, trivial⟩
  refine codeK_sound hC hmix none (by simp) fuel c g w _ _ _ _ hfr' hbody (hL (d + 1) dh) hR (hJ (d + 1) dh) fun e st' a' w' g' h1 h2 h3 => ?_
  have fin : ∀ y, resultsX C fn st' = some y → y = x → st'.H = H1 → LeavesInM (rdF none) 0 P fn a'.tmps (fun e w' => ∃ v g', e = .returned v ∧ RepX g' w' dh (.tmp (d + 1) 0) x.unown v ∧ Ext g w g' w' d (fun κ => κ.deep (d + 1) ∨ κ.heap dh) ∧ WF g' w' ∧ HRep g' w' dh H') a'.defers .returning w' := by
    rintro y hx rfl rfl
    refine leave_marks a'.defers w' h2 fun w'' hfr2 hext => ?_
    obtain ⟨v, κ, e1, e2, e3, e4⟩ := resultsX_sound hC.tys hfr2 fn hx
    have hx3 : Ext g w g' w'' d (fun κ => κ.deep (d + 1) ∨ κ.heap dh) := (h3.mono (Nat.le_succ d) (fun _ h => h)).trans (hext.mono (Nat.le_succ d) (by rintro κ' rfl; exact .inl (Nat.le_refl _)))
    refine ⟨v, e1, v, g'.trunc dh H'.length, rfl, ?_, hx3.trunc (.inr rfl) (by rw [← hH.1]; exact hle), hfr2.wf, hfr2.heap.hweak hweak⟩
    have hn : H'.length ≤ g'.N dh := by rw [← hfr2.heap.1]; exact hweak.1
    rcases hlead with hlead | hlead
    · have hg : g'.trunc dh H'.length = g' := by
        unfold Ghost.trunc
        rw [hlead, hfr2.heap.1]
        have : (fun h => if h = dh then g'.N dh else g'.N h) = g'.N := by
          funext x
          split
          · rename_i e; rw [e]
          · rfl
        rw [this]
      rw [hg]
      exact e2.unown'
    · simp only [belowBs, Bool.and_true] at hlead
      exact (RepX.trunc hn _ _ hlead e2).unown'
  cases e with
  | normal =>
    simp only at h1
    split at h1
    · rename_i y hx
      simp only [Option.some.injEq, Prod.mk.injEq] at h1
      exact fin y hx h1.1 h1.2
    · cases h1
  | ret =>
    simp only at h1
    split at h1
    · rename_i y hx
      simp only [Option.some.injEq, Prod.mk.injEq] at h1
      exact fin y hx h1.1 h1.2
    · cases h1
  | exit i => cases h1
  | goto l => cases h1

end Go.Proofs.Ytnbfiifkaddehaa.V

/- What the evaluator tells is so: a round of a range over a function. -/
namespace Go.Proofs.Ytnbfiifkaddehaa.V
open Go
set_option linter.unusedVariables false
set_option linter.unusedSimpArgs false

theorem fold_rep {g w} {dh d : Nat} : ∀ (ps : List Nat) (xs : List X) (vs : List Value) (tm : List X) (tmps : Array Value), RepXs g w dh xs vs → tm.length = tmps.size → (∀ t x, tm[t]? = some x → RepX g w dh (.tmp d t) x (tmps.getD t undef)) →
    ((ps.zip (xs.map X.unown)).foldl (fun l p => l.set p.1 p.2) tm).length = ((ps.zip vs).foldl (fun t (p : Nat × Value) => t.setIfInBounds p.1 p.2) tmps).size ∧
    ∀ t x, ((ps.zip (xs.map X.unown)).foldl (fun l p => l.set p.1 p.2) tm)[t]? = some x → RepX g w dh (.tmp d t) x (((ps.zip vs).foldl (fun t (p : Nat × Value) => t.setIfInBounds p.1 p.2) tmps).getD t undef)
  | [], xs, vs, tm, tmps, _, hl, h => ⟨by simpa using hl, by simpa using h⟩
  | p :: ps, [], vs, tm, tmps, hx, hl, h => by
    simp only [RepXs] at hx
    subst hx
    exact ⟨by simpa using hl, by simpa using h⟩
  | p :: ps, y :: xs, vs, tm, tmps, hx, hl, h => by
    simp only [RepXs] at hx
    obtain ⟨v, us, rfl, h1, h2⟩ := hx
    simp only [List.map_cons, List.zip_cons_cons, List.foldl_cons]
    refine fold_rep ps xs us (tm.set p y.unown) (tmps.setIfInBounds p v) h2 (by simp [hl]) fun t x e => ?_
    by_cases hp : p = t
    · subst hp
      have hlt : p < tm.length := by
        have := (List.getElem?_eq_some_iff.1 e).1
        simpa using this
      rw [List.getElem?_set_self hlt] at e
      cases e
      have : (tmps.setIfInBounds p v).getD p undef = v := by simp [Array.getD, ← hl, hlt]
      rw [this]
      exact h1.unown'
    · rw [List.getElem?_set_ne hp] at e
      have : (tmps.setIfInBounds p v).getD t undef = tmps.getD t undef := by simp [Array.getD_eq_getD_getElem?, Array.getElem?_setIfInBounds_ne hp]
      rw [this]
      exact h t x e

theorem RndT.rep {g w} {dh d : Nat} {rd : Rd} {tms : List X} {tmps : Array Value} (h : RndT g w dh rd tms tmps) : ∀ t x, ((keepOnly rd.n rd.ks tms).map X.unown)[t]? = some x → RepX g w dh (.tmp d t) x (tmps.getD t undef) := by
  intro t x e
  rw [List.getElem?_map, Option.map_eq_some_iff] at e
  obtain ⟨y, e, rfl⟩ := e
  rcases keepOnly_get e with rfl | ⟨i, hi, rfl⟩
  · simp [X.unown, RepX]
  · exact (h.2 i t hi).unown'

/-- **A round whose code the evaluator comes through does what it tells.** -/
theorem yld_ok {P : Program} {C : Ctx} (hC : COk P C) (hmix : P.follows .mixedOrders = true) (hins : C.ins = true) {key : Nat} {rd : Rd} (hrd : rounds key = some rd) (fuel : Nat)
    (hLa : ∀ d dh, LoopsOk P C d dh (loopsOf rd.assign)) (hLb : ∀ d dh, LoopsOk P C d dh (loopsOf rd.body)) (hRa : ∀ q ∈ rfOf rd.assign, RfOk C q) (hRb : ∀ q ∈ rfOf rd.body, RfOk C q) (hJ : C.J = fun _ => none) {F : Nat → List X → List X → Hp → Option (Bool × Hp)}
    (hF : ∀ id tms args H b H', H[id]? = some (.unit, .rnd key tms) → F id tms args H = some (b, H') → ∃ H1, roundX C fuel key id tms args H = some (b, H1) ∧ HWeak H1 H' ∧ H.length ≤ H'.length) : YldOk P key F := by
  intro id tms args H b H' hH hres g w d dh vs hd hw hHr ha
  obtain ⟨H1, hx, hweak, hle⟩ := hF id tms args H b H' hH hres
  unfold roundX at hx
  rw [hrd] at hx
  simp only at hx
  split at hx
  · rename_i hlen
    have hvl := RepXs.length args vs ha
    obtain ⟨r1, r2, rlive⟩ := hHr.2 _ _ _ hH
    obtain ⟨r3, r4, r5⟩ := rlive.unit
    rcases r5 with ⟨_, _, _, _, _, hO⟩ | ⟨_, o, ho, L, rd', rfl, ⟨hat1, hat2, hat3, hat4⟩, hst, hpd, hrt⟩ | ⟨_, _, _, e, _⟩
    rotate_left
    rotate_left
    · cases e
    · simp [RepO] at hO
    · rw [hrd] at hat1
      cases hat1
      have hidN : id < g.N dh := by
        rw [← hHr.1]
        exact (List.getElem?_eq_some_iff.1 hH).1
      have hdd : dh ≤ d + 1 := by omega
      refine ⟨L.fn, _, L.assign, L.body, run_yield ho (by rw [hat2, ← hlen]; simp [hvl]), roundIn_of_wpIn trivial ?_⟩
      have hfold : (L.params.zip vs.toArray).foldl (fun tmps (t, a) => tmps.setIfInBounds t a) L.tmps = (rd.ps.toList.zip vs).foldl (fun t (p : Nat × Value) => t.setIfInBounds p.1 p.2) L.tmps := by
        rw [← Array.foldl_toList, Array.toList_zip, hat2]
      rw [hfold, hat3, hat4]
      have hfr : Fr g w (d + 1) dh { tm := roundTm rd tms args, H := H } { tmps := (rd.ps.toList.zip vs).foldl (fun t (p : Nat × Value) => t.setIfInBounds p.1 p.2) L.tmps, defers := [] } := by
        obtain ⟨k1, k2⟩ := fold_rep (d := d + 1) rd.ps.toList args vs ((keepOnly rd.n rd.ks tms).map X.unown) L.tmps ha (by simp [keepOnly, hrt.1]) hrt.rep
        exact ⟨k1, k2, hHr, hw, hdd, trivial⟩
      refine codeK_sound hC hmix (some (g.μ dh id)) (fun _ => hins) fuel rd.assign g w _ _ _ _ hfr hx (hLa (d + 1) dh) hRa (fun q _ => RgOk.none hJ) fun e st1 a1 w1 g1 q1 q2 q3 => ?_
      cases e with
      | normal =>
        simp only at q1
        split at q1
        · rename_i key1 tms1 hH1
          obtain ⟨s1, s2, slive⟩ := q2.heap.2 _ _ _ hH1
          obtain ⟨s3, s4, s5⟩ := slive.unit
          obtain ⟨m1, m2, m3⟩ := q3.mu dh hdd id hidN
          rcases s5 with ⟨_, _, _, _, _, hO⟩ | ⟨_, o, ho1, L1, rd1, rfl, hat', hst1, hpd1, hrt1⟩ | ⟨_, _, _, e, _⟩
          rotate_left
          rotate_left
          · cases e
          · simp [RepO] at hO
          · rw [m2] at s3 s4 ho1
            have hlt1 : g.μ dh id < w1.heap.size := (Array.getElem?_eq_some_iff.1 ho1).1
            refine ⟨_, run_beginRound ho1 hst1, ?_⟩
            have he4 : Ext g1 w1 g1 (w1.putObj (g.μ dh id) (.loop { L1 with state := .busy })) (d + 1) (fun κ => κ = .obj dh id) := Ext.setObj s3 s4 hlt1
            have hfr1 : Fr g1 (w1.putObj (g.μ dh id) (.loop { L1 with state := .busy })) (d + 1) dh { tm := st1.tm, H := st1.H.set id (.unit, .bsy key1 tms1) } a1 := by
              refine ⟨q2.len, fun t x hx => RepX.ext he4 hdd (by simp) (by simp) x _ (q2.rep t x hx), ?_, ⟨fun b hb => q2.wf.1 b (by simpa [World.putObj] using hb), Tabs.ext he4 q2.wf.2⟩, hdd, q2.mks.ext he4 (by simp)⟩
              refine HRep.set q2.heap he4 hdd (by simp) rfl hH1 (fun κ _ e => .inl e) (by rw [m2]; exact s3) (by rw [m2]; exact s4) (.inr (.inl ⟨rfl, _, ?_, { L1 with state := .busy }, rd1, rfl, hat', rfl, hpd1, hrt1.ext he4 hdd (by simp)⟩))
              rw [m2]
              exact World.putObj_heap_same hlt1
            have hid1 : id < g1.N dh := m1
            refine codeK_sound hC hmix (some (g.μ dh id)) (fun _ => hins) fuel rd.body g1 _ _ _ _ _ hfr1 q1 (hLb (d + 1) dh) hRb (fun q _ => RgOk.none hJ) fun e st2 a2 w2 g2 p1 p2 p3 => ?_
            split at p1
            · rename_i key2 tms2 hH2
              obtain ⟨t1, t2, tlive⟩ := p2.heap.2 _ _ _ hH2
              obtain ⟨t3, t4, t5⟩ := tlive.unit
              obtain ⟨n1, n2, n3⟩ := p3.mu dh hdd id hid1
              rw [m2] at n2
              rcases t5 with ⟨_, _, _, _, _, hO⟩ | ⟨_, o, ho2, L2, rd2, rfl, hat2', hst2, hpd2, hrt2⟩ | ⟨_, _, _, e, _⟩
              rotate_left
              rotate_left
              · cases e
              · simp [RepO] at hO
              · rw [n2] at t3 t4 ho2
                have hlt2 : g.μ dh id < w2.heap.size := (Array.getElem?_eq_some_iff.1 ho2).1
                have fin : ∀ (o : Obj) (c : X), HAt g2 (w2.putObj (g.μ dh id) o) dh id .unit c → H1 = st2.H.set id (.unit, c) →
                    ∃ g', Ext g w g' (w2.putObj (g.μ dh id) o) d (fun κ => κ.deep (d + 1) ∨ κ.heap dh) ∧ WF g' (w2.putObj (g.μ dh id) o) ∧ HRep g' (w2.putObj (g.μ dh id) o) dh H' := by
                  intro o c hc hH1
                  have he5 : Ext g2 w2 g2 (w2.putObj (g.μ dh id) o) (d + 1) (fun κ => κ = .obj dh id) := Ext.setObj t3 t4 hlt2
                  have hh5 : HRep g2 (w2.putObj (g.μ dh id) o) dh (st2.H.set id (.unit, c)) := HRep.set p2.heap he5 hdd (by simp) rfl hH2 (fun κ _ e => .inl e) (by rw [n2]; exact t3) (by rw [n2]; exact t4) hc
                  rw [← hH1] at hh5
                  have hkk : ∀ κ : Key, κ = .obj dh id → κ.deep (d + 1) ∨ κ.heap dh := by
                    rintro κ rfl
                    exact .inr rfl
                  have hall : Ext g w g2 (w2.putObj (g.μ dh id) o) d (fun κ => κ.deep (d + 1) ∨ κ.heap dh) :=
                    (q3.mono (Nat.le_succ d) (fun _ h => h)).trans ((he4.mono (Nat.le_succ d) hkk).trans ((p3.mono (Nat.le_succ d) (fun _ h => h)).trans (he5.mono (Nat.le_succ d) hkk)))
                  exact ⟨g2.trunc dh H'.length, hall.trunc (.inr rfl) (by rw [← hHr.1]; exact hle), ⟨fun b hb => p2.wf.1 b (by simpa [World.putObj] using hb), (by have := Tabs.ext he5 p2.wf.2; exact this)⟩, hh5.hweak hweak⟩
                have he5 : ∀ o, Ext g2 w2 g2 (w2.putObj (g.μ dh id) o) (d + 1) (fun κ => κ = .obj dh id) := fun o => Ext.setObj t3 t4 hlt2
                cases e with
                | normal =>
                  simp only [Option.some.injEq, Prod.mk.injEq] at p1
                  obtain ⟨rfl, rfl⟩ := p1
                  obtain ⟨g', k1, k2, k3⟩ := fin (.loop { L2 with state := .ready, pending := none }) (.rnd key2 tms2) (.inr (.inl ⟨rfl, _, by rw [n2]; exact World.putObj_heap_same hlt2, { L2 with state := .ready, pending := none }, rd2, rfl, hat2', rfl, rfl, hrt2.ext (he5 _) hdd (by simp)⟩)) rfl
                  exact ⟨_, _, run_endRound none ho2, g', rfl, k1, k2, k3⟩
                | exit i =>
                  simp only [Option.some.injEq, Prod.mk.injEq] at p1
                  obtain ⟨rfl, rfl⟩ := p1
                  obtain ⟨g', k1, k2, k3⟩ := fin (.loop { L2 with state := .done, pending := some (.exit i) }) (.fin key2 (.exit i)) (.inr (.inl ⟨rfl, _, by rw [n2]; exact World.putObj_heap_same hlt2, _, rfl, rfl, rfl⟩)) rfl
                  exact ⟨_, _, run_endRound (some (.exit i)) ho2, g', rfl, k1, k2, k3⟩
                | goto i =>
                  simp only [Option.some.injEq, Prod.mk.injEq] at p1
                  obtain ⟨rfl, rfl⟩ := p1
                  obtain ⟨g', k1, k2, k3⟩ := fin (.loop { L2 with state := .done, pending := some (.goto i) }) (.fin key2 (.goto i)) (.inr (.inl ⟨rfl, _, by rw [n2]; exact World.putObj_heap_same hlt2, _, rfl, rfl, rfl⟩)) rfl
                  exact ⟨_, _, run_endRound (some (.goto i)) ho2, g', rfl, k1, k2, k3⟩
                | ret =>
                  simp only [Option.some.injEq, Prod.mk.injEq] at p1
                  obtain ⟨rfl, rfl⟩ := p1
                  obtain ⟨g', k1, k2, k3⟩ := fin (.loop { L2 with state := .done, pending := some .ret }) (.fin key2 .ret) (.inr (.inl ⟨rfl, _, by rw [n2]; exact World.putObj_heap_same hlt2, _, rfl, rfl, rfl⟩)) rfl
                  exact ⟨_, _, run_endRound (some .ret) ho2, g', rfl, k1, k2, k3⟩
            · cases p1
        · cases q1
      | exit i => cases q1
      | goto l => cases q1
      | ret => cases q1
  · cases hx

end Go.Proofs.Ytnbfiifkaddehaa.V

/- What the evaluator tells is so: the forms in which functions and loops are proved. -/
namespace Go.Proofs.Ytnbfiifkaddehaa.V
open Go
set_option linter.unusedVariables false
set_option linter.unusedSimpArgs false


/-- All loops in a piece of code. -/
def loopsAll : Code → List Code
  | .loop b => b :: loopsAll b
  | .seq a b => loopsAll a ++ loopsAll b
  | .cond _ a b => loopsAll a ++ loopsAll b
  | .block _ c => loopsAll c
  | .scope c => loopsAll c
  | _ => []

def loopAt (fn : Func) (i : Nat) : Code := (loopsAll (bodyOf fn)).getD i .skip

/-- A loop comes to this. -/
def LoopTo (C : Ctx) (fuel : Nat) (body : Code) (N : Nat) (ks : List Nat) (xs : List X) (H : Hp) (r : Ex × List X × Hp) : Prop := ∃ m, LoopN C fuel body N ks m xs H r

theorem Forget.same (xs : List X) : Forget xs xs := fun _ => .inr (.inl rfl)
theorem Forget.cons {x y : X} {ys xs : List X} (h : x = .dead ∨ x = y) (t : Forget ys xs) : Forget (y :: ys) (x :: xs) := by
  intro i
  cases i with
  | zero =>
    rcases h with h | h
    · exact .inl (by simpa using h)
    · exact .inr (.inl (by simpa using h))
  | succ i => simpa using t i
theorem Forget.unown {y : X} {ys xs : List X} (t : Forget ys xs) : Forget (y :: ys) (y.unown :: xs) := by
  intro i
  cases i with
  | zero => exact .inr (.inr (by simp))
  | succ i => simpa using t i

theorem LoopTo.weak {C : Ctx} {fuel : Nat} {body : Code} {N : Nat} {ks : List Nat} {xs ys xs' : List X} {H H1 H' : Hp} {r : Ex × List X × Hp}
    (h : ∀ (k : Ex → List X → Hp → Option (Ex × List X × Hp)), stepF C fuel body N ks xs H k = k .normal ys H1) (hf : Forget ys xs') (hH : HWeak H1 H') (hl : H.length ≤ H'.length) (hb : LeadsB H1 H' xs') (t : LoopTo C fuel body N ks xs' H' r) : LoopTo C fuel body N ks xs H r := by
  obtain ⟨m, hm⟩ := t
  exact ⟨m + 1, .inr ⟨ys, H1, xs', H', h _, hf, hH, hl, hb, hm⟩⟩

theorem LoopTo.next {C : Ctx} {fuel : Nat} {body : Code} {N : Nat} {ks : List Nat} {xs xs' : List X} {H H' : Hp} {r : Ex × List X × Hp}
    (h : ∀ (k : Ex → List X → Hp → Option (Ex × List X × Hp)), stepF C fuel body N ks xs H k = k .normal xs' H') (t : LoopTo C fuel body N ks xs' H' r) (hl : H.length ≤ H'.length := by simp) : LoopTo C fuel body N ks xs H r :=
  t.weak h (Forget.same _) (HWeak.refl _) hl (.inl rfl)

theorem LoopTo.end {C : Ctx} {fuel : Nat} {body : Code} {N : Nat} {ks : List Nat} {xs ys xs' : List X} {H H1 H' : Hp} {e : Ex} (he : e ≠ .normal)
    (h : ∀ (k : Ex → List X → Hp → Option (Ex × List X × Hp)), stepF C fuel body N ks xs H k = k e ys H1) (hf : Forget ys xs') (hH : HWeak H1 H') (hl : H.length ≤ H'.length) (hb : LeadsB H1 H' xs') : LoopTo C fuel body N ks xs H (e, xs', H') :=
  ⟨1, .inl ⟨ys, H1, he, h _, hf, hH, hl, hb⟩⟩

theorem LoopTo.left {C : Ctx} {fuel : Nat} {body : Code} {N : Nat} {ks : List Nat} {xs xs' : List X} {H H' : Hp} {e : Ex} (he : e ≠ .normal)
    (h : ∀ (k : Ex → List X → Hp → Option (Ex × List X × Hp)), ∃ ys, stepF C fuel body N ks xs H k = k e ys H' ∧ Forget ys xs') (hl : H.length ≤ H'.length := by simp) : LoopTo C fuel body N ks xs H (e, xs', H') := by
  obtain ⟨ys, h1, hf⟩ := h fun e xs H => some (e, xs, H)
  exact ⟨1, .inl ⟨ys, H', he, h1, hf, HWeak.refl _, hl, .inl rfl⟩⟩

theorem LoopTo.done {C : Ctx} {fuel : Nat} {body : Code} {N : Nat} {ks : List Nat} {xs xs' : List X} {H H' : Hp} {e : Ex} (he : e ≠ .normal)
    (h : ∀ (k : Ex → List X → Hp → Option (Ex × List X × Hp)), stepF C fuel body N ks xs H k = k e xs' H') (hl : H.length ≤ H'.length := by simp) : LoopTo C fuel body N ks xs H (e, xs', H') :=
  LoopTo.end he h (Forget.same _) (HWeak.refl _) hl (.inl rfl)

/-- What is told of a loop is so. -/
def Tells (C : Ctx) (fuel : Nat) (body : Code) : Prop := ∀ key N ks F, firstRegion body = some key → C.L key = some (N, ks, F) → ∀ xs H r, (F xs H).run some = some r → LoopTo C fuel body N ks xs H r

theorem Tells.mk {C : Ctx} {fuel : Nat} {body : Code} {key N : Nat} {ks : List Nat} {F : List X → Hp → Tr (Ex × List X × Hp)} (h1 : firstRegion body = some key) (h2 : C.L key = some (N, ks, F))
    (h : ∀ xs H r, (F xs H).run some = some r → LoopTo C fuel body N ks xs H r) : Tells C fuel body := by
  intro key' N' ks' F' e1 e2
  rw [h1] at e1
  cases e1
  rw [h2] at e2
  cases e2
  exact h

theorem tells_loops {P : Program} {C : Ctx} (hC : COk P C) (hmix : P.follows .mixedOrders = true) (fuel : Nat) (c : Code) : (∀ b ∈ loopsAll c, Tells C fuel b) → (∀ q ∈ rfOf c, RfOk C q) → (∀ d dh, ∀ q ∈ rgOf c, RgOk P C d dh q) → ∀ d dh, LoopsOk P C d dh (loopsOf c) := by
  have no : ∀ c : Code, loopsOf c = [] → ∀ d dh, LoopsOk P C d dh (loopsOf c) := fun c e d dh x hx => by rw [e] at hx; cases hx
  induction c with
  | loop b ih =>
    intro h hR hJ d dh body hb key N ks F h1 h2
    simp only [loopsOf, List.mem_singleton] at hb
    have ih := ih (fun x hx => h x (by simp [loopsAll, hx])) hR hJ d dh
    subst hb
    exact loopN_ok hC hmix ih hR (hJ d dh) (h body (by simp [loopsAll]) key N ks F h1 h2)
  | seq a b iha ihb =>
    intro h hR hJ d dh x hx
    simp only [loopsOf, List.mem_append] at hx
    simp only [rfOf] at hR
    simp only [rgOf] at hJ
    exact hx.elim (iha (fun b hb => h b (by simp [loopsAll, hb])) (fun b hb => hR b (List.mem_append_left _ hb)) (fun d dh b hb => hJ d dh b (List.mem_append_left _ hb)) d dh x) (ihb (fun b hb => h b (by simp [loopsAll, hb])) (fun b hb => hR b (List.mem_append_right _ hb)) (fun d dh b hb => hJ d dh b (List.mem_append_right _ hb)) d dh x)
  | cond _ a b iha ihb =>
    intro h hR hJ d dh x hx
    simp only [loopsOf, List.mem_append] at hx
    simp only [rfOf] at hR
    simp only [rgOf] at hJ
    exact hx.elim (iha (fun b hb => h b (by simp [loopsAll, hb])) (fun b hb => hR b (List.mem_append_left _ hb)) (fun d dh b hb => hJ d dh b (List.mem_append_left _ hb)) d dh x) (ihb (fun b hb => h b (by simp [loopsAll, hb])) (fun b hb => hR b (List.mem_append_right _ hb)) (fun d dh b hb => hJ d dh b (List.mem_append_right _ hb)) d dh x)
  | block _ c ih => exact fun h hR hJ d dh => ih (fun b hb => h b (by simpa [loopsAll] using hb)) hR hJ d dh
  | scope c ih => exact fun h hR hJ d dh => ih (fun b hb => h b (by simpa [loopsAll] using hb)) hR hJ d dh
  | skip => exact fun _ _ _ => no _ rfl
  | region _ _ _ => exact fun _ _ _ => no _ rfl
  | rangeFunc _ _ _ _ _ _ => exact fun _ _ _ => no _ rfl
  | exit _ => exact fun _ _ _ => no _ rfl
  | label _ => exact fun _ _ _ => no _ rfl
  | goto _ => exact fun _ _ _ => no _ rfl
  | ret => exact fun _ _ _ => no _ rfl
  | refuse _ => exact fun _ _ _ => no _ rfl

theorem bodyOf_eq {fn : Func} (h : fn.body.isSome = true) : fn.body = some (bodyOf fn) := by
  unfold bodyOf
  cases e : fn.body with
  | none => rw [e] at h; cases h
  | some c => rfl

theorem loopAt_all {fn : Func} {n : Nat} (hn : (loopsAll (bodyOf fn)).length = n) {T : Code → Prop} (h : ∀ i, i < n → T (loopAt fn i)) : ∀ b ∈ loopsAll (bodyOf fn), T b := by
  intro b hb
  obtain ⟨i, hi, e⟩ := List.mem_iff_getElem.1 hb
  have := h i (hn ▸ hi)
  unfold loopAt at this
  rw [List.getD_eq_getElem?_getD, List.getElem?_eq_getElem hi] at this
  simpa [e] using this

/-- All ranges over functions in a function's text are those that the records tell of. -/
def RfsOk (C : Ctx) (fn : Func) : Prop := ∀ q ∈ rfOf (bodyOf fn), RfOk C q
theorem RfsOk.none {C : Ctx} {fn : Func} (h : (rfOf (bodyOf fn)).isEmpty = true) : RfsOk C fn := by
  intro q hq
  rw [List.isEmpty_iff] at h
  rw [h] at hq
  cases hq

/-- What is told of a region is so. -/
def RgT (C : Ctx) (q : Nat × Array Oper × Bool) : Prop :=
  ∀ N ks F, C.J q.1 = some (N, ks, F) → ∀ xs H r, (F xs H).run some = some r → ∃ ys, stepF { C with J := fun _ => none } 1 (.region q.1 q.2.1 q.2.2) N ks xs H (fun e xs H => some (e, xs, H)) = some (.normal, ys, r.2) ∧ Forget ys r.1

def RgsT (C : Ctx) (fn : Func) : Prop := ∀ q ∈ rgOf (bodyOf fn), RgT C q
theorem RgsT.none {C : Ctx} {fn : Func} (h : C.J = fun _ => none) : RgsT C fn := by
  intro q hq N ks F e
  rw [h] at e
  cases e

def rgAt (fn : Func) (i : Nat) : Nat × Array Oper × Bool := (rgOf (bodyOf fn)).getD i (0, #[], false)
theorem RgsT.mk {C : Ctx} {fn : Func} {n : Nat} (hn : (rgOf (bodyOf fn)).length = n) (h : ∀ i, i < n → RgT C (rgAt fn i)) : RgsT C fn := by
  intro q hq
  obtain ⟨i, hi, e⟩ := List.mem_iff_getElem.1 hq
  have := h i (hn ▸ hi)
  unfold rgAt at this
  rw [List.getD_eq_getElem?_getD, List.getElem?_eq_getElem hi] at this
  simpa [e] using this
theorem RgT.off {C : Ctx} {q : Nat × Array Oper × Bool} (h : C.J q.1 = none) : RgT C q := by
  intro N ks F e
  rw [h] at e
  cases e
theorem RgT.mk {C : Ctx} {q : Nat × Array Oper × Bool} {N : Nat} {ks : List Nat} {F : List X → Hp → Tr (List X × Hp)} (hj : C.J q.1 = some (N, ks, F))
    (h : ∀ xs H r, (F xs H).run some = some r → ∀ k : Ex → List X → Hp → Option (Ex × List X × Hp), ∃ ys, stepF { C with J := fun _ => none } 1 (.region q.1 q.2.1 q.2.2) N ks xs H k = k .normal ys r.2 ∧ Forget ys r.1) : RgT C q := by
  intro N' ks' F' e xs H r hr
  rw [hj] at e
  cases e
  exact h xs H r hr _

theorem RgT.ok {P : Program} {C : Ctx} (hC : COk P C) (hmix : P.follows .mixedOrders = true) {q : Nat × Array Oper × Bool} (h : RgT C q) (d dh : Nat) : RgOk P C d dh q := by
  intro N ks F hF st xs H hN hres g w a hfr ro hro
  obtain ⟨ys, h1, h2⟩ := h N ks F hF _ _ _ hres
  have hC0 : COk P { C with J := fun _ => none } := ⟨hC.ar, hC.tys, hC.orc, hC.yld, hC.zer, hC.eqs, hC.mps⟩
  have hK : Kf d dh (.obj dh 0) := .inr rfl
  unfold stepF at h1
  simp only [codeK] at h1
  refine region_sound (C := { C with J := fun _ => none }) (k := fun e st => if st.tm.length = N then some (e, ks.map fun t => st.tm.getD t .dead, st.H) else none) hC0 hmix ro (hfr.keep N hN ks) h1 fun e2 st2 a2 w2 g2 k1 k2 k3 => ?_
  split at k1
  · rename_i hN2
    simp only [Option.some.injEq, Prod.mk.injEq] at k1
    obtain ⟨rfl, rfl, rfl⟩ := k1
    have hlen : g.N dh ≤ st2.H.length := by
      rw [k2.heap.1]
      refine Nat.le_of_not_lt fun hlt => ?_
      exact Nat.lt_irrefl _ (k3.mu dh hfr.le _ hlt).1
    exact ⟨rfl, _, (k2.keep N hN2 ks).weak h2 (HWeak.refl _) (.inl rfl), k3.trunc hK hlen⟩
  · cases k1

/-- A function of its arguments alone. -/
theorem pureOk {P : Program} {C : Ctx} (hC : COk P C) (hmix : P.follows .mixedOrders = true) (f : Nat) (fn : Func) (hf : P.funcs[f]? = some fn) (hname : (fn.name == "runtime.NumGoroutine") = false) (hb : fn.body.isSome = true) (fuel n : Nat)
    (hn : (loopsAll (bodyOf fn)).length = n) (hL : ∀ i, i < n → Tells C fuel (loopAt fn i)) {F : List X → Option X}
    (hF : ∀ args r, F args = some r → argsB args = true ∧ resB r = true ∧ ∃ H', bodyX C fuel fn args [] = some (r, H')) (hR : RfsOk C fn := by exact RfsOk.none (by kernel_rfl)) (hJ : RgsT C fn := by exact RgsT.none rfl) : PureOk P f F :=
  pure_ok hC hmix hf (by simpa using hname) (bodyOf_eq hb) fuel (fun d => tells_loops hC hmix fuel _ (loopAt_all hn hL) hR (fun d dh q hq => (hJ q hq).ok hC hmix d dh) d d) hR (fun d dh q hq => (hJ q hq).ok hC hmix d dh) hF

/-- A round of a range over a function. -/
theorem yldOk {P : Program} {C : Ctx} (hC : COk P C) (hmix : P.follows .mixedOrders = true) (key : Nat) (rd : Rd) (hrd : rounds key = some rd) (hins : C.ins = true) (fuel : Nat)
    (hLa : ∀ b ∈ loopsAll rd.assign, Tells C fuel b) (hLb : ∀ b ∈ loopsAll rd.body, Tells C fuel b) (hRa : (rfOf rd.assign).isEmpty = true) (hRb : (rfOf rd.body).isEmpty = true) {F : Nat → List X → List X → Hp → Option (Bool × Hp)}
    (hF : ∀ id tms args H b H', H[id]? = some (.unit, .rnd key tms) → F id tms args H = some (b, H') → ∃ H1, roundX C fuel key id tms args H = some (b, H1) ∧ HWeak H1 H' ∧ H.length ≤ H'.length) (hJ : C.J = (fun _ => Option.none) := by rfl) : YldOk P key F := by
  have none : ∀ c : Code, (rfOf c).isEmpty = true → ∀ q ∈ rfOf c, RfOk C q := by
    intro c h q hq
    rw [List.isEmpty_iff] at h
    rw [h] at hq
    cases hq
  exact yld_ok hC hmix hins hrd fuel (tells_loops hC hmix fuel _ hLa (none _ hRa) fun _ _ _ _ => RgOk.none hJ) (tells_loops hC hmix fuel _ hLb (none _ hRb) fun _ _ _ _ => RgOk.none hJ) (none _ hRa) (none _ hRb) hJ hF

/-- A function that may turn its caller's variables. -/
theorem effOk {P : Program} {C : Ctx} (hC : COk P C) (hmix : P.follows .mixedOrders = true) (f : Nat) (fn : Func) (hf : P.funcs[f]? = some fn) (hname : (fn.name == "runtime.NumGoroutine") = false) (hb : fn.body.isSome = true) (fuel n : Nat)
    (hn : (loopsAll (bodyOf fn)).length = n) (hL : ∀ i, i < n → Tells C fuel (loopAt fn i)) {F : List X → Hp → Option (X × Hp)}
    (hF : ∀ args H r H', F args H = some (r, H') → (∀ x ∈ args, x.unown = x) ∧ ∃ x H1, r = x.unown ∧ bodyX C fuel fn args H = some (x, H1) ∧ HWeak H1 H' ∧ H.length ≤ H'.length ∧ LeadsB H1 H' [x]) (hR : RfsOk C fn := by exact RfsOk.none (by kernel_rfl)) (hJ : RgsT C fn := by exact RgsT.none rfl) : EffOk P f F :=
  eff_ok hC hmix hf (by simpa using hname) (bodyOf_eq hb) fuel (fun d dh => tells_loops hC hmix fuel _ (loopAt_all hn hL) hR (fun d dh q hq => (hJ q hq).ok hC hmix d dh) d dh) hR (fun d dh q hq => (hJ q hq).ok hC hmix d dh) hF

theorem Tr.one {α : Type} {c : Bool} {a r : α} (h : (Tr.test c (.give a) .no).run some = some r) : c = true ∧ a = r := by
  cases c
  · cases h
  · exact ⟨rfl, by simpa [Tr.run] using h⟩

/-- By parts: what holds of each part holds of the whole. -/
theorem PureOk.union {P : Program} {f : Nat} {F : List X → Option X} (h0 : FnOk P f) (h : ∀ args r, F args = some r → ∃ G, PureOk P f G ∧ G args = some r) : PureOk P f F :=
  ⟨h0, fun args r hr => by
    obtain ⟨G, hG, hr⟩ := h args r hr
    exact hG.2 args r hr⟩

end Go.Proofs.Ytnbfiifkaddehaa.V

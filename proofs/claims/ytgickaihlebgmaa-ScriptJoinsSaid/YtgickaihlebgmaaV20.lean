/-
  What the evaluator tells is so: regions, in whatever order is drawn.
  It speaks of whatever program; no condition.
-/
import Derived.Test.YtgickaihlebgmaaV19
namespace Go.Proofs.Ytgickaihlebgmaa.V
open Go
set_option linter.unusedVariables false
set_option linter.unusedSimpArgs false

theorem opsK_runL {R : Type} (C : Ctx) (all : List Oper) (k : St → Option R) : ∀ (l : List Oper) (n : Nat), (∀ j, j < l.length → all[n + j]? = l[j]?) → ∀ st, opsK C all l st k = (runL C all (List.range' n l.length) st).bind k
  | [], n, _, st => rfl
  | o :: l, n, h, st => by
    rw [opsK_cons, stepG_nat]
    have h0 := h 0 (by simp)
    simp only [Nat.add_zero, List.getElem?_cons_zero] at h0
    simp only [List.length_cons, List.range'_succ, runL, h0, Option.bind_assoc]
    congr 1
    funext s
    exact opsK_runL C all k l (n + 1) (fun j hj => by have := h (j + 1) (by simpa using hj); rw [Nat.add_assoc, Nat.add_comm 1 j]; simpa using this) s

/-- What stands ahead of an operation, one entry an operation. -/
def aheadStep (acc : List (List Nat)) (o : Oper) : List (List Nat) := acc ++ [(o.after.toList.filter fun e => Region.binds .any e).foldl (fun s e => bif s.contains e.on then s else e.on :: addNew (acc.getD e.on []) s) []]

theorem aheadOf_eq (all : List Oper) : aheadOf all = all.foldl aheadStep [] := rfl

theorem addNew_mem : ∀ (l s : List Nat) (m : Nat), m ∈ addNew l s → m ∈ l ∨ m ∈ s
  | [], s, m, h => .inr h
  | x :: l, s, m, h => by
    have e : addNew (x :: l) s = bif (addNew l s).contains x then addNew l s else x :: addNew l s := rfl
    rw [e] at h
    cases hc : (addNew l s).contains x with
    | true =>
      rw [hc] at h
      exact (addNew_mem l s m h).imp_left (List.mem_cons_of_mem _)
    | false =>
      rw [hc] at h
      rcases List.mem_cons.1 h with rfl | h
      · exact .inl (by simp)
      · exact (addNew_mem l s m h).imp_left (List.mem_cons_of_mem _)

theorem foldl_mem (acc : List (List Nat)) : ∀ (es : List Edge) (s : List Nat) (m : Nat), m ∈ es.foldl (fun s e => bif s.contains e.on then s else e.on :: addNew (acc.getD e.on []) s) s → m ∈ s ∨ ∃ e ∈ es, m = e.on ∨ m ∈ acc.getD e.on []
  | [], s, m, h => .inl h
  | e :: es, s, m, h => by
    rw [List.foldl_cons] at h
    rcases foldl_mem acc es _ m h with h | ⟨e', h1, h2⟩
    · have h' : m = e.on ∨ m ∈ acc.getD e.on [] ∨ m ∈ s := by
        cases hc : s.contains e.on with
        | true => rw [hc] at h; exact .inr (.inr h)
        | false =>
          rw [hc] at h
          rcases List.mem_cons.1 h with h | h
          · exact .inl h
          · exact .inr (addNew_mem _ _ _ h)
      rcases h' with h | h | h
      · exact .inr ⟨e, by simp, .inl h⟩
      · exact .inr ⟨e, by simp, .inr h⟩
      · exact .inl h
    · exact .inr ⟨e', by simp [h1], h2⟩

theorem ahead_spec : ∀ (l : List Oper) (acc : List (List Nat)), (∀ i, i < acc.length → (l.foldl aheadStep acc).getD i [] = acc.getD i []) ∧ (l.foldl aheadStep acc).length = acc.length + l.length ∧
    ∀ i o, l[i]? = some o → ∀ m ∈ (l.foldl aheadStep acc).getD (acc.length + i) [], ∃ e ∈ o.after.toList, Region.binds .any e = true ∧ (m = e.on ∨ m ∈ (l.foldl aheadStep acc).getD e.on [])
  | [], acc => ⟨fun _ _ => rfl, rfl, fun i o h => by simp at h⟩
  | o :: l, acc => by
    obtain ⟨h1, h2, h3⟩ := ahead_spec l (aheadStep acc o)
    have hlen : (aheadStep acc o).length = acc.length + 1 := by simp [aheadStep]
    have hold : ∀ i, i < acc.length → (l.foldl aheadStep (aheadStep acc o)).getD i [] = acc.getD i [] := by
      intro i hi
      rw [h1 i (by omega)]
      simp only [aheadStep, List.getD_eq_getElem?_getD]
      rw [List.getElem?_append_left hi]
    rw [List.foldl_cons]
    refine ⟨hold, by rw [h2, hlen]; simp; omega, fun i p hp m hm => ?_⟩
    cases i with
    | zero =>
      simp only [List.getElem?_cons_zero, Option.some.injEq] at hp
      subst hp
      rw [Nat.add_zero, h1 _ (by omega)] at hm
      simp only [aheadStep, List.getD_eq_getElem?_getD, List.getElem?_concat_length, Option.getD_some] at hm
      rcases foldl_mem acc _ _ m (by simpa [List.getD_eq_getElem?_getD] using hm) with h | ⟨e, he, h⟩
      · cases h
      · rw [List.mem_filter] at he
        refine ⟨e, he.1, he.2, ?_⟩
        rcases h with h | h
        · exact .inl h
        · by_cases hlt : e.on < acc.length
          · exact .inr (by rw [hold _ hlt]; exact h)
          · rw [List.getD_eq_getElem?_getD, List.getElem?_eq_none (Nat.le_of_not_lt hlt)] at h
            cases h
    | succ i =>
      simp only [List.getElem?_cons_succ] at hp
      exact h3 i p hp m (by rw [hlen, Nat.add_assoc, Nat.add_comm 1 i]; exact hm)

theorem ahead_mem {all : List Oper} {i : Nat} {o : Oper} (ho : all[i]? = some o) {m : Nat} (hm : m ∈ (aheadOf all).getD i []) : ∃ e ∈ o.after.toList, Region.binds .any e = true ∧ (m = e.on ∨ m ∈ (aheadOf all).getD e.on []) := by
  rw [aheadOf_eq] at hm ⊢
  exact (ahead_spec all []).2.2 i o ho m (by simpa using hm)

/-- The places that are not yet done. -/
def unl (n : Nat) (listed : Array Bool) : List Nat := (List.range n).filter fun i => !listed.getD i true

theorem range_split {n i : Nat} (h : i < n) : List.range n = List.range i ++ i :: (List.range' (i + 1) (n - i - 1)) := by
  rw [List.range_eq_range', List.range_eq_range', ← List.range'_succ]
  have h1 := List.range'_append_1 (s := 0) (m := i) (n := n - i - 1 + 1)
  rw [Nat.zero_add] at h1
  rw [h1]
  congr 1
  omega

theorem unl_split {n i : Nat} {listed : Array Bool} (h : i < n) (hs : listed.size = n) (hl : listed.getD i true = false) :
    ∃ l1 l2, unl n listed = l1 ++ i :: l2 ∧ unl n (listed.setIfInBounds i true) = l1 ++ l2 ∧ ∀ j ∈ l1, j < i ∧ listed.getD j true = false := by
  refine ⟨(List.range i).filter fun i => !listed.getD i true, (List.range' (i + 1) (n - i - 1)).filter fun i => !listed.getD i true, ?_, ?_, ?_⟩
  · unfold unl
    rw [range_split h, List.filter_append, List.filter_cons, if_pos (by simp only [hl]; rfl)]
  · unfold unl
    have hi : (listed.setIfInBounds i true).getD i true = true := by simp [Array.getD]
    have hne : ∀ j, j ≠ i → (listed.setIfInBounds i true).getD j true = listed.getD j true := by
      intro j hj
      simp [Array.getD_eq_getD_getElem?, Array.getElem?_setIfInBounds_ne (Ne.symm hj)]
    rw [range_split h, List.filter_append, List.filter_cons, if_neg (by simp only [hi]; simp)]
    congr 1
    · exact List.filter_congr fun j hj => by
        simp only [List.mem_range] at hj
        rw [hne j (by omega)]
    · exact List.filter_congr fun j hj => by
        rw [List.mem_range'] at hj
        obtain ⟨k, _, rfl⟩ := hj
        rw [hne _ (by omega)]
  · intro j hj
    simp only [List.mem_filter, List.mem_range, Bool.not_eq_true'] at hj
    exact hj

theorem drawn_any {P : Program} {C : Ctx} (hC : COk P C) {R : Type} {all : List Oper} (hok : drawOk C all = true) {d dh : Nat} {k : St → Option R} {r : R} {Q : Exit → Act → World → Prop} {sf : St} :
    ∀ (fuel : Nat) (listed : Array Bool) (g : Ghost) (w : World) (st : St) (a : Act), Fr g w d dh st a → listed.size = all.length → (unl all.length listed).length ≤ fuel → runL C all (unl all.length listed) st = some sf → k sf = some r →
      (∀ i, listed.getD i false = true → ∀ m ∈ (aheadOf all).getD i [], listed.getD m false = true) →
      (∀ a' w' g', Fr g' w' d dh sf a' → Ext g w g' w' d (Kf d dh) → a'.defers = a.defers → Q .normal a' w') → wpAny P .any all.toArray Q fuel listed a w := by
  have hedge : ∀ i o, all[i]? = some o → ∀ e ∈ o.after.toList, Region.binds .any e = true → e.on < i := by
    intro i o ho e he hb
    have hi : i < all.length := (List.getElem?_eq_some_iff.1 ho).1
    simp only [drawOk, List.all_eq_true, List.mem_range] at hok
    have := hok i hi
    rw [ho] at this
    simp only [Bool.and_eq_true, List.all_eq_true, Bool.or_eq_true, Bool.not_eq_true', decide_eq_true_eq] at this
    rcases this.1 e he with h | h
    · rw [hb] at h; cases h
    · exact h
  have hap : ∀ i o j x, all[i]? = some o → all[j]? = some x → j < i → j ∉ (aheadOf all).getD i [] → apartB C all x o = true := by
    intro i o j x ho hx hj hn
    have hi : i < all.length := (List.getElem?_eq_some_iff.1 ho).1
    simp only [drawOk, List.all_eq_true, List.mem_range] at hok
    have := hok i hi
    rw [ho] at this
    simp only [Bool.and_eq_true, List.all_eq_true, List.mem_range, Bool.or_eq_true] at this
    have h2 := this.2 j hj
    rw [hx] at h2
    simp only [Bool.or_eq_true, List.contains_eq_mem, decide_eq_true_eq] at h2
    exact h2.resolve_left hn
  -- as long as some are left, one is ready
  have hleft : ∀ listed : Array Bool, listed.size = all.length → Region.ready .any all.toArray listed = [] → unl all.length listed = [] := by
    intro listed hs hr
    apply Classical.byContradiction
    intro hne
    obtain ⟨i0, hi0⟩ := List.exists_mem_of_ne_nil _ hne
    simp only [unl, List.mem_filter, List.mem_range, Bool.not_eq_true'] at hi0
    -- the least one
    have least : ∀ n i, i ≤ n → i < all.length → listed.getD i true = false → ∃ m, m < all.length ∧ listed.getD m true = false ∧ ∀ j, j < m → listed.getD j true = true := by
      intro n
      induction n with
      | zero =>
        intro i hi h1 h2
        have : i = 0 := by omega
        subst this
        exact ⟨0, h1, h2, fun j hj => absurd hj (by omega)⟩
      | succ n ih =>
        intro i hi h1 h2
        by_cases hex : ∃ j, j < i ∧ listed.getD j true = false
        · obtain ⟨j, hj, hj2⟩ := hex
          exact ih j (by omega) (by omega) hj2
        · refine ⟨i, h1, h2, fun j hj => ?_⟩
          cases hc : listed.getD j true with
          | true => rfl
          | false => exact absurd ⟨j, hj, hc⟩ hex
    obtain ⟨m, hm, hm2, hm3⟩ := least i0 i0 (Nat.le_refl _) hi0.1 hi0.2
    have : m ∈ Region.ready .any all.toArray listed := by
      simp only [Region.ready, List.mem_filter, List.mem_range, List.size_toArray]
      refine ⟨hm, ?_⟩
      have ho : all.toArray[m]? = some all[m] := by simp [hm]
      simp only [hm2, Bool.not_false, Bool.true_and, ho, Option.map_some, Option.getD_some]
      rw [← Array.all_toList, List.all_eq_true]
      intro e he
      cases hb : Region.binds .any e with
      | false => simp
      | true =>
        have hlt := hedge m all[m] (by simp [hm]) e he hb
        have h1 := hm3 _ hlt
        have hsz : e.on < listed.size := by omega
        simp only [Bool.not_true, Bool.false_or]
        simpa [Array.getD, hsz] using h1
    rw [hr] at this
    cases this
  intro fuel
  induction fuel with
  | zero =>
    intro listed g w st a h hs hf hrun hk hcl hn
    have hnil : unl all.length listed = [] := List.eq_nil_of_length_eq_zero (by omega)
    rw [hnil] at hrun
    simp only [runL, Option.some.injEq] at hrun
    subst hrun
    refine ⟨?_, hn a w g h (Ext.refl _ _ _ _) rfl⟩
    apply List.eq_nil_iff_forall_not_mem.2
    intro i hi
    simp only [Region.ready, List.mem_filter, List.mem_range, List.size_toArray, Bool.and_eq_true] at hi
    have : i ∈ unl all.length listed := by
      simp only [unl, List.mem_filter, List.mem_range]
      exact ⟨hi.1, hi.2.1⟩
    rw [hnil] at this
    cases this
  | succ fuel ih =>
    intro listed g w st a h hs hf hrun hk hcl hn
    refine ⟨fun hr => ?_, fun i hi => ?_⟩
    · rw [hleft listed hs hr] at hrun
      simp only [runL, Option.some.injEq] at hrun
      subst hrun
      exact hn a w g h (Ext.refl _ _ _ _) rfl
    · simp only [Region.ready, List.mem_filter, List.mem_range, List.size_toArray, Bool.and_eq_true, Bool.not_eq_true'] at hi
      obtain ⟨hin, hl, hedges⟩ := hi
      have ho : all[i]? = some all[i] := by simp [hin]
      have hoA : all.toArray[i]? = some all[i] := by simp [hin]
      rw [hoA] at hedges
      simp only [Option.map_some, Option.getD_some] at hedges
      rw [← Array.all_toList, List.all_eq_true] at hedges
      have hahead : ∀ m ∈ (aheadOf all).getD i [], listed.getD m false = true := by
        intro m hm
        obtain ⟨e, he, hb, hm⟩ := ahead_mem ho hm
        have h1 := hedges e he
        rw [hb] at h1
        simp only [Bool.not_true, Bool.false_or] at h1
        rcases hm with rfl | hm
        · exact h1
        · exact hcl e.on h1 m hm
      obtain ⟨l1, l2, e1, e2, e3⟩ := unl_split hin hs hl
      rw [e1] at hrun
      obtain ⟨s1, k1, k2⟩ := runL_bubble ho l2 l1 (fun j hj => by
        obtain ⟨hj1, hj2⟩ := e3 j hj
        have hjn : j < all.length := by omega
        refine ⟨all[j], by simp [hjn], hap i _ j _ ho (by simp [hjn]) hj1 (fun hm => ?_)⟩
        have h1 := hahead j hm
        have hsz : j < listed.size := by omega
        simp [Array.getD, hsz] at h1 hj2
        rw [h1] at hj2
        cases hj2) st sf hrun
      have key : if Region.wanted all[i] (yielded all.toArray a.tmps) then all[i].wp P a w (wpAny P .any all.toArray Q fuel (listed.setIfInBounds i true)) Q else wpAny P .any all.toArray Q fuel (listed.setIfInBounds i true) (a.put all[i].dst undef) w := by
        refine stepG_sound hC h (k := some) (r := s1) k1 fun st' val w' g' h1 h2 h3 => ?_
        simp only [Option.some.injEq] at h1
        subst h1
        refine ih (listed.setIfInBounds i true) g' w' st' _ h2 (by simpa using hs) ?_ (by rw [e2]; exact k2) hk ?_ ?_
        · rw [e2]
          rw [e1] at hf
          simp at hf ⊢
          omega
        · intro i' hi' m hm
          by_cases hii : i' = i
          · subst hii
            have h1 := hahead m hm
            by_cases hmi : m = i'
            · subst hmi
              simp [Array.getD, hs, hin]
            · simp only [Array.getD_eq_getD_getElem?, Array.getElem?_setIfInBounds_ne (Ne.symm hmi)] at h1 ⊢
              exact h1
          · have hi2 : listed.getD i' false = true := by
              simp only [Array.getD_eq_getD_getElem?, Array.getElem?_setIfInBounds_ne (Ne.symm hii)] at hi' ⊢
              exact hi'
            have h1 := hcl i' hi2 m hm
            by_cases hmi : m = i
            · subst hmi
              simp [Array.getD, hs, hin]
            · simp only [Array.getD_eq_getD_getElem?, Array.getElem?_setIfInBounds_ne (Ne.symm hmi)] at h1 ⊢
              exact h1
        · intro a' w'' g'' q1 q2 q3
          exact hn a' w'' g'' q1 (h3.trans q2) (q3.trans (Act.put_defers' _ _ _))
      unfold wpOp
      rw [hoA]
      simp only []
      split
      · rename_i hw
        rw [if_pos hw] at key
        exact .inl key
      · rename_i hw
        rw [if_neg hw] at key
        exact key

end Go.Proofs.Ytgickaihlebgmaa.V

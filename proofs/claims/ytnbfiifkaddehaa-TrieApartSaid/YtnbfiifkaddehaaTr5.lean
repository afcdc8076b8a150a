/-
  Chapter 10, automata, the plain law: what is made of words: a state for each beginning; no program in sight.
  No condition.
-/
import Derived.Test.YtnbfiifkaddehaaTr4
namespace Go.Proofs.Ytnbfiifkaddehaa.V
open Go
set_option linter.unusedVariables false
set_option linter.unusedSimpArgs false

/-- A beginning's arcs, among beginnings: to those that are longer by one sign. -/
def goA : List (List Int) → Nat → List Int → List Arc
  | [], _, _ => []
  | q :: r, k, p => if q ≠ [] ∧ q.dropLast = p then (q.getLastD 0, (k : Int), ()) :: goA r (k + 1) p else goA r (k + 1) p
def staOf2 (K F : List (List Int)) (p : List Int) : Sta := (decide (p ∈ F), goA K 0 p, ())
def addP (K : List (List Int)) (p : List Int) : List (List Int) := if p ∈ K then K else K ++ [p]
def stepK (n : Nat) (K : List (List Int)) (w : List Int) : List (List Int) := if n < w.length then addP K (w.take (n + 1)) else K
def stepE (n : Nat) (F : List (List Int)) (w : List Int) : List (List Int) := if n + 1 = w.length then F ++ [w] else F
/-- All beginnings, by their lengths. -/
def kFrom (l : List (List Int)) : Nat → Nat → List (List Int) → List (List Int)
  | 0, _, K => K
  | m + 1, n, K => kFrom l m (n + 1) (l.foldl (stepK n) K)
def eFrom (l : List (List Int)) : Nat → Nat → List (List Int) → List (List Int)
  | 0, _, F => F
  | m + 1, n, F => eFrom l m (n + 1) (l.foldl (stepE n) F)
def kL (l : List (List Int)) : List (List Int) := kFrom l 20 0 [[]]

theorem goA_append : ∀ (a b : List (List Int)) (k : Nat) (p : List Int), goA (a ++ b) k p = goA a k p ++ goA b (k + a.length) p
  | [], b, k, p => by simp [goA]
  | q :: r, b, k, p => by
    have ih := goA_append r b (k + 1) p
    rw [List.cons_append, goA, goA, ih, List.length_cons, show k + 1 + r.length = k + (r.length + 1) by omega]
    split <;> simp
theorem goA_none : ∀ (K : List (List Int)) (k : Nat) (p : List Int), (∀ q ∈ K, q ≠ [] → q.dropLast ≠ p) → goA K k p = []
  | [], _, _, _ => rfl
  | q :: r, k, p, h => by
    rw [goA, if_neg (fun hh => h q (by simp) hh.1 hh.2), goA_none r (k + 1) p fun x hx => h x (by simp [hx])]

theorem look_append (mp : List Ent) (x y : Arc) (v : Int) : look arcT (mp ++ [(x, v)]) y = (look arcT mp y).or (if y = x then some v else none) := by
  unfold look
  rw [List.find?_append, List.find?_cons, List.find?_nil]
  cases h : mp.find? (fun p => eqD arcT y p.1) with
  | some e => rfl
  | none =>
    simp only [Option.none_or, Option.map_none]
    by_cases e : y = x
    · rw [if_pos e, show eqD arcT y x = true from eqD_arc.2 e]; rfl
    · rw [if_neg e, show eqD arcT y x = false from Bool.eq_false_iff.2 fun hh => e (eqD_arc.1 hh)]; rfl

theorem idx_inj {K : List (List Int)} {p q : List Int} (hp : p ∈ K) (hq : q ∈ K) (h : K.idxOf p = K.idxOf q) : p = q := by
  have h1 := List.idxOf_lt_length_iff.2 hp
  have h2 := List.idxOf_lt_length_iff.2 hq
  rw [← List.getElem_idxOf h1, ← List.getElem_idxOf h2]
  congr 1
theorem take_last {w : List Int} {n : Nat} (h : n < w.length) : (w.take (n + 1)).length = n + 1 ∧ w.take (n + 1) ≠ [] ∧ (w.take (n + 1)).dropLast = w.take n ∧ (w.take (n + 1)).getLastD 0 = w.getD n 0 := by
  have e : w.take (n + 1) = w.take n ++ [w.getD n 0] := by
    rw [List.take_add_one, List.getElem?_eq_getElem h, List.getD_eq_getElem?_getD, List.getElem?_eq_getElem h]
    rfl
  refine ⟨by rw [List.length_take]; omega, by rw [e]; simp, by rw [e, List.dropLast_concat], by rw [e]; simp⟩
theorem dropLast_last {q p : List Int} (hq : q ≠ []) (hp : p ≠ []) (h1 : q.dropLast = p.dropLast) (h2 : q.getLastD 0 = p.getLastD 0) : q = p := by
  have e : ∀ x : List Int, x ≠ [] → x = x.dropLast ++ [x.getLastD 0] := by
    intro x hx
    conv => lhs; rw [← List.dropLast_concat_getLast hx]
    congr 2
    rw [List.getLastD_eq_getLast?, List.getLast?_eq_some_getLast hx]
    rfl
  rw [e q hq, e p hp, h1, h2]

structure Inv (l : List (List Int)) (n i : Nat) (K F : List (List Int)) (s : List Sta × List Int × List Ent) : Prop where
  out : s.1 = K.map (staOf2 K F)
  nod : K.Nodup
  len : ∀ q ∈ K, q.length ≤ n + 1
  par : ∀ q ∈ K, q ≠ [] → q.dropLast ∈ K
  fin : ∀ f ∈ F, f ∈ K
  pln : s.2.1.length = l.length
  pos : ∀ j (h : j < l.length), (l[j].take (if j < i then n + 1 else n)) ∈ K ∧ s.2.1.getD j 0 = (K.idxOf (l[j].take (if j < i then n + 1 else n)) : Int)
  map : ∀ x v, look arcT s.2.2 x = some v ↔ ∃ q ∈ K, q.length = n + 1 ∧ x = (q.getLastD 0, (K.idxOf q.dropLast : Int), ()) ∧ v = (K.idxOf q : Int)

theorem putFin_map {K F : List (List Int)} {q : List Int} (hn : K.Nodup) (hq : q ∈ K) (b : Bool) (F' : List (List Int)) (hF : ∀ r ∈ K, decide (r ∈ F') = (decide (r ∈ F) || (decide (r = q) && b))) :
    putFin (K.map (staOf2 K F)) (K.idxOf q) b = K.map (staOf2 K F') := by
  have hlt := List.idxOf_lt_length_iff.2 hq
  unfold putFin
  apply List.ext_getElem (by simp)
  intro j h1 h2
  have hj : j < K.length := by simpa using h2
  rw [List.getElem_set, List.getElem_map]
  by_cases e : K.idxOf q = j
  · subst e
    rw [if_pos rfl, List.getD_eq_getElem?_getD, List.getElem?_map, List.getElem?_eq_getElem hlt]
    simp only [Option.map_some, Option.getD_some, List.getElem_map, List.getElem_idxOf, staOf2]
    rw [hF q hq]
    simp
  · rw [if_neg e, List.getElem_map]
    unfold staOf2
    rw [hF _ (List.getElem_mem hj)]
    have : K[j] ≠ q := fun hh => e (by rw [← hh]; exact hn.idxOf_getElem j hj)
    simp [this]

theorem putArc_map {K F : List (List Int)} {p q : List Int} (hn : K.Nodup) (hp : p ∈ K) (hq : q ∉ K) (hd : q.dropLast = p) (hne : q ≠ []) (hF : q ∉ F) (hlen : ∀ r ∈ K, r ≠ [] → r.dropLast ≠ q) :
    putArc (K.map (staOf2 K F) ++ [staZ]) (K.idxOf p) (q.getLastD 0, (K.length : Int), ()) = (K ++ [q]).map (staOf2 (K ++ [q]) F) := by
  have hlt := List.idxOf_lt_length_iff.2 hp
  have hpq : p ≠ q := fun e => hq (e ▸ hp)
  have hA : ∀ r, goA (K ++ [q]) 0 r = goA K 0 r ++ (if q.dropLast = r then [(q.getLastD 0, (K.length : Int), ())] else []) := by
    intro r
    rw [goA_append]
    simp only [goA, Nat.zero_add]
    by_cases e : q.dropLast = r
    · rw [if_pos ⟨hne, e⟩, if_pos e]
    · rw [if_neg (fun h => e h.2), if_neg e]
  unfold putArc
  rw [List.map_append]
  apply List.ext_getElem (by simp)
  intro j h1 h2
  have hj : j < K.length + 1 := by simpa using h2
  rw [List.getElem_set]
  by_cases e : K.idxOf p = j
  · subst e
    rw [if_pos rfl, List.getD_eq_getElem?_getD, List.getElem?_append_left (by simpa using hlt), List.getElem_append_left (by simpa using hlt), List.getElem?_map, List.getElem?_eq_getElem hlt, List.getElem_map]
    simp only [Option.map_some, Option.getD_some, List.getElem_idxOf]
    unfold staOf2
    rw [hA, if_pos hd]
  · rw [if_neg e]
    by_cases hjk : j < K.length
    · rw [List.getElem_append_left (by simpa using hjk), List.getElem_append_left (by simpa using hjk), List.getElem_map, List.getElem_map]
      unfold staOf2
      rw [hA, if_neg (fun hh => e (by rw [← hd, hh]; exact hn.idxOf_getElem j hjk)), List.append_nil]
    · obtain rfl : j = K.length := by omega
      rw [List.getElem_append_right (by simp), List.getElem_append_right (by simp)]
      simp only [List.length_map, Nat.sub_self, List.getElem_cons_zero, List.map_cons]
      unfold staOf2 staZ
      rw [hA, if_neg (fun hh => ?_), List.append_nil, goA_none K 0 q hlen, decide_eq_false hF]
      have := congrArg List.length hh
      rw [List.length_dropLast] at this
      have : 0 < q.length := List.length_pos_iff.2 hne
      omega

theorem Inv.step {l : List (List Int)} {n i : Nat} {K F : List (List Int)} {s : List Sta × List Int × List Ent} (h : Inv l n i K F s) (hi : i < l.length) : Inv l n (i + 1) (stepK n K l[i]) (stepE n F l[i]) (inM n (l.getD i []) i s) := by
  obtain ⟨out, pos, mp⟩ := s
  obtain ⟨h1, h2, h3, hpr, h4, h5, h6, h7⟩ := h
  dsimp only at h1 h5 h6 h7
  have hw : l.getD i [] = l[i] := by rw [List.getD_eq_getElem?_getD, List.getElem?_eq_getElem hi]; rfl
  rw [hw]
  generalize hww : l[i] = w
  obtain ⟨p1, p2⟩ := h6 i hi
  rw [if_neg (Nat.lt_irrefl i), hww] at p1 p2
  unfold stepK inM
  dsimp only
  by_cases hn : n < w.length
  · rw [if_pos hn, if_neg (by omega)]
    obtain ⟨t1, t2, t3, t4⟩ := take_last hn
    have hway : wayOf w n (pos.getD i 0) = ((w.take (n + 1)).getLastD 0, (K.idxOf (w.take (n + 1)).dropLast : Int), ()) := by
      unfold wayOf
      rw [Int.toNat_natCast, t3, t4, p2]
    have hEw : ∀ r : List Int, r ∈ stepE n F w ↔ r ∈ F ∨ (n + 1 = w.length ∧ r = w.take (n + 1)) := by
      intro r
      unfold stepE
      by_cases e : n + 1 = w.length
      · rw [if_pos e, List.mem_append, List.mem_singleton, e, List.take_length]
        simp
      · rw [if_neg e]
        simp [e]
    have hfin : ((n : Int) + 1 == (w.length : Int)) = decide (n + 1 = w.length) := by
      by_cases e : n + 1 = w.length
      · rw [decide_eq_true e, beq_iff_eq]; omega
      · rw [decide_eq_false e, beq_eq_false_iff_ne]; omega
    by_cases hq : w.take (n + 1) ∈ K
    · -- the beginning is there
      have hlk : look arcT mp (wayOf w n (pos.getD i 0)) = some (K.idxOf (w.take (n + 1)) : Int) := (h7 _ _).2 ⟨_, hq, t1, hway, rfl⟩
      rw [hlk]
      dsimp only
      rw [show addP K (w.take (n + 1)) = K from if_pos hq]
      refine ⟨?_, h2, h3, hpr, fun f hf => ?_, by rw [List.length_set]; exact h5, fun j hj => ?_, h7⟩
      · dsimp only
        rw [h1, Int.toNat_natCast, hfin]
        refine putFin_map h2 hq _ _ fun r hr => ?_
        by_cases hrF : r ∈ F
        · rw [decide_eq_true hrF, decide_eq_true ((hEw r).2 (.inl hrF))]; rfl
        · rw [decide_eq_false hrF, Bool.false_or]
          by_cases e1 : r = w.take (n + 1)
          · by_cases e2 : n + 1 = w.length
            · rw [decide_eq_true ((hEw r).2 (.inr ⟨e2, e1⟩)), decide_eq_true e1, decide_eq_true e2]; rfl
            · rw [decide_eq_false (fun hh => ((hEw r).1 hh).elim hrF fun hh => e2 hh.1), decide_eq_false e2, Bool.and_false]
          · rw [decide_eq_false (fun hh => ((hEw r).1 hh).elim hrF fun hh => e1 hh.2), decide_eq_false e1, Bool.false_and]
      · rcases (hEw f).1 hf with hf | ⟨_, rfl⟩
        · exact h4 f hf
        · exact hq
      · obtain ⟨k1, k2⟩ := h6 j hj
        by_cases e : j = i
        · subst e
          rw [if_pos (Nat.lt_succ_self j), hww]
          refine ⟨hq, ?_⟩
          dsimp only
          rw [List.getD_eq_getElem?_getD, List.getElem?_set_self (by omega)]; rfl
        · have e2 : (j < i + 1) = (j < i) := by apply propext; omega
          simp only [e2]
          refine ⟨k1, ?_⟩
          rw [List.getD_eq_getElem?_getD, List.getElem?_set_ne (by omega), ← List.getD_eq_getElem?_getD]
          exact k2
    · -- a new one
      have hlk : look arcT mp (wayOf w n (pos.getD i 0)) = none := by
        rw [Option.eq_none_iff_forall_not_mem]
        intro v hv
        obtain ⟨q, q1, q2, q3, q4⟩ := (h7 _ _).1 hv
        rw [hway] at q3
        have q5 : (w.take (n + 1)).getLastD 0 = q.getLastD 0 := congrArg Prod.fst q3
        have q6 : (K.idxOf (w.take (n + 1)).dropLast : Int) = (K.idxOf q.dropLast : Int) := congrArg (fun x => x.2.1) q3
        rw [t3] at q6
        have q7 : q.dropLast ∈ K := by
          rw [← List.idxOf_lt_length_iff]
          have := List.idxOf_lt_length_iff.2 p1
          omega
        have q8 := idx_inj p1 q7 (by omega)
        refine hq ?_
        rw [dropLast_last t2 (by intro e; rw [e] at q2; simp at q2) (by rw [t3, q8]) q5]
        exact q1
      rw [hlk]
      dsimp only
      have hK : addP K (w.take (n + 1)) = K ++ [w.take (n + 1)] := if_neg hq
      rw [hK]
      have hidx : ∀ r ∈ K, (K ++ [w.take (n + 1)]).idxOf r = K.idxOf r := fun r hr => by rw [List.idxOf_append, if_pos hr]
      have hidq : (K ++ [w.take (n + 1)]).idxOf (w.take (n + 1)) = K.length := by rw [List.idxOf_append, if_neg hq, List.idxOf_cons]; simp
      have hnod : (K ++ [w.take (n + 1)]).Nodup := List.nodup_append.2 ⟨h2, by simp, fun a ha b hb e => hq (by rw [List.mem_singleton.1 hb] at e; exact e ▸ ha)⟩
      have hqF : w.take (n + 1) ∉ F := fun hh => hq (h4 _ hh)
      have hch : ∀ r ∈ K, r ≠ [] → r.dropLast ≠ w.take (n + 1) := fun r hr hr0 e => by
        have e1 := congrArg List.length e
        rw [List.length_dropLast, t1] at e1
        have := h3 r hr
        omega
      have hlen : out.length = K.length := by rw [h1, List.length_map]
      refine ⟨?_, hnod, fun r hr => ?_, fun r hr hr0 => ?_, fun f hf => ?_, by rw [List.length_set]; exact h5, fun j hj => ?_, fun x v => ?_⟩
      · dsimp only
        rw [hlen, h1, hfin, p2, Int.toNat_natCast, Int.toNat_natCast, ← t4, putArc_map h2 p1 hq t3 t2 hqF hch]
        conv => lhs; rw [← hidq]
        refine putFin_map hnod (by simp) _ _ fun r hr => ?_
        by_cases hrF : r ∈ F
        · rw [decide_eq_true hrF, decide_eq_true ((hEw r).2 (.inl hrF))]; rfl
        · rw [decide_eq_false hrF, Bool.false_or]
          by_cases e1 : r = w.take (n + 1)
          · by_cases e2 : n + 1 = w.length
            · rw [decide_eq_true ((hEw r).2 (.inr ⟨e2, e1⟩)), decide_eq_true e1, decide_eq_true e2]; rfl
            · rw [decide_eq_false (fun hh => ((hEw r).1 hh).elim hrF fun hh => e2 hh.1), decide_eq_false e2, Bool.and_false]
          · rw [decide_eq_false (fun hh => ((hEw r).1 hh).elim hrF fun hh => e1 hh.2), decide_eq_false e1, Bool.false_and]
      · rcases List.mem_append.1 hr with hr | hr
        · exact h3 r hr
        · rw [List.mem_singleton.1 hr, t1]; exact Nat.le_refl _
      · rw [List.mem_append]
        rcases List.mem_append.1 hr with hr | hr
        · exact .inl (hpr r hr hr0)
        · rw [List.mem_singleton.1 hr, t3]; exact .inl p1
      · rw [List.mem_append]
        rcases (hEw f).1 hf with hf | ⟨_, rfl⟩
        · exact .inl (h4 f hf)
        · exact .inr (by simp)
      · obtain ⟨k1, k2⟩ := h6 j hj
        by_cases e : j = i
        · subst e
          rw [if_pos (Nat.lt_succ_self j), hww]
          refine ⟨by simp, ?_⟩
          dsimp only
          rw [List.getD_eq_getElem?_getD, List.getElem?_set_self (by omega), hidq, hlen]; rfl
        · have e2 : (j < i + 1) = (j < i) := by apply propext; omega
          simp only [e2]
          refine ⟨List.mem_append.2 (.inl k1), ?_⟩
          rw [hidx _ k1, List.getD_eq_getElem?_getD, List.getElem?_set_ne (by omega), ← List.getD_eq_getElem?_getD]
          exact k2
      · dsimp only
        rw [putM_none (look_none hlk), look_append, hway, hlen]
        have hdl : ∀ q ∈ K, q.length = n + 1 → (K ++ [w.take (n + 1)]).idxOf q.dropLast = K.idxOf q.dropLast := fun q hqK hql =>
          hidx _ (hpr q hqK (by intro e; rw [e] at hql; simp at hql))
        have hd0 : (K ++ [w.take (n + 1)]).idxOf (w.take (n + 1)).dropLast = K.idxOf (w.take (n + 1)).dropLast := hidx _ (by rw [t3]; exact p1)
        rw [hway] at hlk
        constructor
        · intro hx
          rcases Option.or_eq_some_iff.1 hx with hx | ⟨_, hx⟩
          · obtain ⟨q, q1, q2, q3, q4⟩ := (h7 _ _).1 hx
            exact ⟨q, List.mem_append.2 (.inl q1), q2, by rw [hdl q q1 q2]; exact q3, by rw [hidx q q1]; exact q4⟩
          · split at hx
            · rename_i e
              cases hx
              exact ⟨w.take (n + 1), by simp, t1, by rw [hd0]; exact e, by rw [hidq]⟩
            · cases hx
        · rintro ⟨q, q1, q2, q3, q4⟩
          rw [Option.or_eq_some_iff]
          rcases List.mem_append.1 q1 with q1 | q1
          · rw [hdl q q1 q2] at q3
            rw [hidx q q1] at q4
            exact .inl ((h7 _ _).2 ⟨q, q1, q2, q3, q4⟩)
          · rw [List.mem_singleton.1 q1] at q3 q4
            rw [hd0] at q3
            rw [hidq] at q4
            subst q3
            subst q4
            exact .inr ⟨hlk, if_pos rfl⟩
  · rw [if_neg hn, if_pos (by omega)]
    have hE : stepE n F w = F := if_neg (by omega)
    rw [hE]
    refine ⟨h1, h2, h3, hpr, h4, h5, fun j hj => ?_, h7⟩
    obtain ⟨k1, k2⟩ := h6 j hj
    by_cases e : j = i
    · subst e
      rw [if_pos (Nat.lt_succ_self j), hww]
      rw [if_neg (Nat.lt_irrefl j), hww] at k1 k2
      have e3 : w.take (n + 1) = w.take n := by rw [List.take_of_length_le (by omega), List.take_of_length_le (by omega)]
      rw [e3]
      exact ⟨k1, k2⟩
    · have e2 : (j < i + 1) = (j < i) := by apply propext; omega
      simp only [e2]
      exact ⟨k1, k2⟩

end Go.Proofs.Ytnbfiifkaddehaa.V

/-
  What the evaluator tells is so: regions in the text's order.
  It speaks of whatever program; no condition.
-/
import Derived.Test.YtgickaihlebgmaaV16
namespace Go.Proofs.Ytgickaihlebgmaa.V
open Go
set_option linter.unusedVariables false
set_option linter.unusedSimpArgs false

/-- Whose blocks a frame's code may write. -/
def Kf (d dh : Nat) (κ : Key) : Prop := κ.deep d ∨ κ.heap dh

theorem Kop.kf {o : Oper} {d dh : Nat} {cons : List Bool} {κ : Key} (h : Kop o d dh cons κ) : Kf d dh κ := by
  rcases h with ⟨t, rfl, _⟩ | h | h
  · exact .inl (Nat.le_refl _)
  · exact .inr h
  · refine .inl ?_
    cases κ <;> simp only [Key.deep] at h ⊢ <;> first | omega | exact h

theorem op_sound {P : Program} {C : Ctx} (hC : COk P C) {R : Type} {tr : Bool} {o : Oper} {g w} {d dh : Nat} {st : St} {a : Act} (h : Fr g w d dh st a) {k : St → Option R} {r : R} (hk : opK C tr o st k = some r)
    {next : Act → World → Prop} {Q : Exit → Act → World → Prop} (hn : ∀ st' val w' g', k st' = some r → Fr g' w' d dh st' (a.put o.dst val) → Ext g w g' w' d (Kf d dh) → next (a.put o.dst val) w') : o.wp P a w next Q := by
  obtain ⟨v, cons, H', h1, h2⟩ := core_ok hC o tr h _ r hk
  exact h2 next Q fun val w' g' r1 r2 r3 r4 => hn _ val w' g' h1 (h.put r1 r2 r3 r4) (r2.mono (Nat.le_refl _) (fun _ => Kop.kf))

theorem Fr.skip {g w} {d dh : Nat} {st : St} {a : Act} (o : Oper) (h : Fr g w d dh st a) : Fr g w d dh (st.put o.dst .undef) (a.put o.dst undef) := by
  have := h.put (o := { o with op := .alloc 0 }) (v := .undef) (val := undef) (cons := []) (H' := st.H) (by simp only [RepX]) (Ext.refl _ _ _ _) h.heap h.wf
  exact this

theorem Act.put_defers' (a : Act) (d : Option Nat) (v : Value) : (a.put d v).defers = a.defers := by cases d <;> rfl

theorem set_same {α : Type} (l : List α) (i : Nat) (d x : α) (h : l.getD i d = x) (hd : x ≠ d) : l.set i x = l := by
  by_cases hi : i < l.length
  · rw [List.getD_eq_getElem?_getD, List.getElem?_eq_getElem hi] at h
    simp at h
    subst h
    exact List.set_getElem_self hi
  · exact List.set_eq_of_length_le (Nat.le_of_not_lt hi)

theorem wanted_bool {g w} {d dh : Nat} {st : St} {a : Act} {all : List Oper} (h : Fr g w d dh st a) {o : Oper} {j t : Nat} {want b : Bool} (hg : o.guard = some (j, want)) (ht : (all[j]?).bind (·.dst) = some t) (hx : st.tm.getD t .dead = .d .bool b) :
    Region.wanted o (yielded all.toArray a.tmps) = (b == want) := by
  have hlt : t < st.tm.length := by
    rcases Nat.lt_or_ge t st.tm.length with h1 | h1
    · exact h1
    · rw [List.getD_eq_getElem?_getD, List.getElem?_eq_none h1] at hx; cases hx
  have hx' : st.tm[t]? = some (.d .bool b) := by
    rw [List.getD_eq_getElem?_getD, List.getElem?_eq_getElem hlt] at hx
    rw [List.getElem?_eq_getElem hlt]
    simpa using hx
  have hv := h.rep t _ hx'
  rw [RepX.bool_iff] at hv
  have hsz : t < a.tmps.size := by rw [← h.len]; exact hlt
  have hv' : a.tmps[t]? = some (.bool b) := by
    rw [Array.getElem?_eq_getElem hsz]
    simpa [Array.getD, hsz] using hv
  have hj : ((all.toArray[j]?).bind fun o => o.dst) = some t := by simpa using ht
  simp only [Region.wanted, hg, yielded, hj, Option.bind_some, hv']
  cases b <;> cases want <;> rfl

theorem wanted_undef {g w} {d dh : Nat} {st : St} {a : Act} {all : List Oper} (h : Fr g w d dh st a) {o : Oper} {j t : Nat} {want : Bool} (hg : o.guard = some (j, want)) (ht : (all[j]?).bind (·.dst) = some t) (hx : st.tm.getD t .dead = .undef) :
    Region.wanted o (yielded all.toArray a.tmps) = false := by
  have hlt : t < st.tm.length := by
    rcases Nat.lt_or_ge t st.tm.length with h1 | h1
    · exact h1
    · rw [List.getD_eq_getElem?_getD, List.getElem?_eq_none h1] at hx; cases hx
  have hx' : st.tm[t]? = some .undef := by
    rw [List.getD_eq_getElem?_getD, List.getElem?_eq_getElem hlt] at hx
    rw [List.getElem?_eq_getElem hlt]
    simpa using hx
  have hv := h.rep t _ hx'
  simp only [RepX] at hv
  have hsz : t < a.tmps.size := by rw [← h.len]; exact hlt
  have hv' : a.tmps[t]? = some undef := by
    rw [Array.getElem?_eq_getElem hsz]
    simpa [Array.getD, hsz] using hv
  have hj : ((all.toArray[j]?).bind fun o => o.dst) = some t := by simpa using ht
  simp only [Region.wanted, hg, yielded, hj, Option.bind_some, hv', undef]
  cases want <;> rfl

/-- One operation of a region, its guard with it. -/
def stepG {R : Type} (C : Ctx) (all : List Oper) (o : Oper) (st : St) (k : St → Option R) : Option R :=
  match o.guard with
  | none => opK C (asked all o) o st k
  | some (j, want) => match (all[j]?).bind (·.dst) with
    | none => none
    | some g => match st.tm.getD g .dead with
      | .undef => k (st.put o.dst .undef)
      | .d .bool b => bif b == want then opK C (asked all o) o st k else k (st.put o.dst .undef)
      | _ => none

theorem opsK_cons {R : Type} (C : Ctx) (all : List Oper) (o : Oper) (l : List Oper) (st : St) (k : St → Option R) : opsK C all (o :: l) st k = stepG C all o st fun st' => opsK C all l st' k := by
  rw [opsK]
  unfold stepG
  split
  · rename_i hg; simp only [hg]
  · rename_i j want hg
    simp only [hg]
    split
    · rename_i ht; simp only [ht]
    · rename_i t ht
      simp only [ht]
      split
      · rename_i hx; simp only [hx]
      · rename_i b hx
        simp only [hx]
        cases hb : (b == want)
        · have hbw : b = !want := by cases b <;> cases want <;> simp_all
          simp only [cond_false]
          rw [set_same st.tm t .dead _ (by rw [hx, hbw]) (by simp)]
        · have hbw : b = want := by cases b <;> cases want <;> simp_all
          simp only [cond_true]
          rw [set_same st.tm t .dead _ (by rw [hx, hbw]) (by simp)]
      · rename_i h1 h2
        split <;> first | rfl | (rename_i hx; exact absurd hx h1) | (rename_i b hx; exact absurd hx (h2 b))

theorem stepG_sound {P : Program} {C : Ctx} (hC : COk P C) {R : Type} {all : List Oper} {o : Oper} {g w} {d dh : Nat} {st : St} {a : Act} (h : Fr g w d dh st a) {k : St → Option R} {r : R} (hk : stepG C all o st k = some r)
    {next : Act → World → Prop} {Q : Exit → Act → World → Prop} (hn : ∀ st' val w' g', k st' = some r → Fr g' w' d dh st' (a.put o.dst val) → Ext g w g' w' d (Kf d dh) → next (a.put o.dst val) w') :
    if Region.wanted o (yielded all.toArray a.tmps) then o.wp P a w next Q else next (a.put o.dst undef) w := by
  unfold stepG at hk
  split at hk
  · rename_i hg
    rw [if_pos (by simp [Region.wanted, hg])]
    exact op_sound hC h hk hn
  · rename_i j want hg
    split at hk
    · cases hk
    · rename_i t ht
      split at hk
      · rename_i hx
        rw [if_neg (by rw [wanted_undef h hg ht hx]; simp)]
        exact hn _ _ _ g hk (h.skip o) (Ext.refl _ _ _ _)
      · rename_i b hx
        rw [wanted_bool h hg ht hx]
        cases hb : (b == want) <;> rw [hb] at hk
        · exact hn _ _ _ g hk (h.skip o) (Ext.refl _ _ _ _)
        · exact op_sound hC h hk hn
      · cases hk

theorem opsK_sound {P : Program} {C : Ctx} (hC : COk P C) {R : Type} {all : List Oper} {d dh : Nat} {k : St → Option R} {r : R} {Q : Exit → Act → World → Prop} : ∀ (l : List Oper) (g : Ghost) (w : World) (st : St) (a : Act), Fr g w d dh st a → opsK C all l st k = some r →
    (∀ st' a' w' g', k st' = some r → Fr g' w' d dh st' a' → Ext g w g' w' d (Kf d dh) → a'.defers = a.defers → Q .normal a' w') → wpList P all.toArray Q l a w
  | [], g, w, st, a, h, hk, hn => hn st a w g hk h (Ext.refl _ _ _ _) rfl
  | o :: l, g, w, st, a, h, hk, hn => by
    rw [opsK_cons] at hk
    refine wpList_step fun K hK => ?_
    refine stepG_sound hC h hk fun st' val w' g' h1 h2 h3 => hK _ _ ?_
    exact opsK_sound hC l g' w' st' _ h2 h1 fun st'' a'' w'' g'' k1 k2 k3 k4 => hn st'' a'' w'' g'' k1 k2 (h3.trans k3) (k4.trans (Act.put_defers' _ _ _))

end Go.Proofs.Ytgickaihlebgmaa.V

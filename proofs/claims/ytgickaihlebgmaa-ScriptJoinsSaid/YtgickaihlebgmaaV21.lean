/-
  What the evaluator tells is so: code.
  It speaks of whatever program; no condition.
-/
import Derived.Test.YtgickaihlebgmaaV20
namespace Go.Proofs.Ytgickaihlebgmaa.V
open Go
set_option linter.unusedVariables false
set_option linter.unusedSimpArgs false

def Ex.to : Ex → Exit
  | .normal => .normal
  | .exit id => .exit id
  | .goto l => .goto l
  | .ret => .ret

/-- A scope whose code leaves it by a jump to one of its labels goes on there. -/
theorem wp_scope_jump {P : Program} {Q : Exit → Act → World → Prop} {a : Act} {w : World} {c : Code}
    (h : c.wp P (fun e a w => match e with
      | .goto l => (∃ rest, findLabel c l = some rest ∧ rest.wp P (Exit.noGoto Q) a w) ∨ (findLabel c l = none ∧ Q (.goto l) a w)
      | e => Q e a w) a w) : (Code.scope c).wp P Q a w := by
  intro b k cs
  obtain ⟨e, a₁, w₁, hq, harr⟩ := h b (.inScope c :: k) cs
  cases e with
  | normal => exact ⟨.normal, a₁, w₁, hq, .head step_scope (Steps.trans harr (.one step_inScope))⟩
  | exit id => exact ⟨.exit id, a₁, w₁, hq, fun k' hk => .head step_scope (harr k' (by simp [exitTo, hk]))⟩
  | goto l =>
    rcases hq with ⟨rest, hl, hr⟩ | ⟨hl, hq⟩
    · have hs := harr (.code rest :: .inScope c :: k) (by simp [gotoIn, hl])
      obtain ⟨e₂, a₂, w₂, hq₂, harr₂⟩ := hr b (.inScope c :: k) cs
      have hall : Steps P (lone (b.at a (.code (.scope c) :: k)) cs w) (lone (b.at a₁ (.code rest :: .inScope c :: k)) cs w₁) := .head step_scope hs
      cases e₂ with
      | normal => exact ⟨.normal, a₂, w₂, hq₂, Steps.trans hall (Steps.trans harr₂ (.one step_inScope))⟩
      | exit id => exact ⟨.exit id, a₂, w₂, hq₂, fun k' hk => Steps.trans hall (harr₂ k' (by simp [exitTo, hk]))⟩
      | goto l => exact hq₂.elim
      | ret => exact ⟨_, a₂, w₂, hq₂, .of_steps hall harr₂⟩
      | panic ch => exact ⟨_, a₂, w₂, hq₂, .of_steps hall harr₂⟩
      | outgrown => exact ⟨_, a₂, w₂, hq₂, .of_steps (b := b) (k := k) (cs := cs) (e := .outgrown) hall harr₂⟩
    · exact ⟨.goto l, a₁, w₁, hq, fun k' hk => .head step_scope (harr k' (by simp [gotoIn, hl, hk]))⟩
  | ret => exact ⟨_, a₁, w₁, hq, .of_steps (.one step_scope) harr⟩
  | panic ch => exact ⟨_, a₁, w₁, hq, .of_steps (.one step_scope) harr⟩
  | outgrown => exact ⟨_, a₁, w₁, hq, .of_steps (.one step_scope) harr⟩

/-- A loop, by a number that each round lowers and that stands nowhere in the frame. -/
theorem wp_loop_fuel {P : Program} {Q : Exit → Act → World → Prop} {c : Code} (I : Nat → Act → World → Prop)
    (round : ∀ n a w, I n a w → c.wp P (Exit.then (fun a' w' => ∃ m, m < n ∧ I m a' w') Q) a w) {n : Nat} {a : Act} {w : World} (h₀ : I n a w) : (Code.loop c).wp P Q a w := by
  intro b k cs
  have key : ∀ n a w, I n a w →
      ∃ e a' w', Q e a' w' ∧ Arrives P (lone (b.at a (.code c :: .inLoop c :: k)) cs w) b k cs e a' w' := by
    intro n
    induction n using Nat.strongRecOn with
    | _ n ih =>
      intro a w hI
      obtain ⟨e, a₁, w₁, hq, harr⟩ := round n a w hI b (.inLoop c :: k) cs
      cases e with
      | normal =>
        obtain ⟨m, hlt, hI₁⟩ := hq
        obtain ⟨e₂, a₂, w₂, hq₂, harr₂⟩ := ih m hlt a₁ w₁ hI₁
        exact ⟨e₂, a₂, w₂, hq₂, .of_steps (Steps.trans harr (.one step_inLoop)) harr₂⟩
      | exit id => exact ⟨_, a₁, w₁, hq, .pass (x := .inLoop c) rfl (fun _ _ => .inl (by simp)) harr⟩
      | goto l => exact ⟨_, a₁, w₁, hq, .pass (x := .inLoop c) rfl (fun _ _ => .inl (by simp)) harr⟩
      | ret => exact ⟨_, a₁, w₁, hq, .pass (x := .inLoop c) rfl (fun _ _ => .inl (by simp)) harr⟩
      | panic ch => exact ⟨_, a₁, w₁, hq, .pass (x := .inLoop c) rfl (fun _ _ => .inl (by simp)) harr⟩
      | outgrown => exact ⟨_, a₁, w₁, hq, .pass (x := .inLoop c) rfl (fun _ _ => .inl (by simp)) harr⟩
  obtain ⟨e, a', w', hq, harr⟩ := key _ a w h₀
  exact ⟨e, a', w', hq, .of_steps (.one step_loop) harr⟩

/-- The loops of a piece of code, those inside others apart. -/
def loopsOf : Code → List Code
  | .loop b => [b]
  | .seq a b => loopsOf a ++ loopsOf b
  | .cond _ a b => loopsOf a ++ loopsOf b
  | .block _ c => loopsOf c
  | .scope c => loopsOf c
  | _ => []

theorem loopsOf_findLabel : ∀ (c : Code) (l : Nat) (rest : Code), findLabel c l = some rest → ∀ b ∈ loopsOf rest, b ∈ loopsOf c
  | .seq a b, l, rest, h => by
    simp only [findLabel] at h
    intro x hx
    split at h
    · rename_i r hr
      cases h
      simp only [loopsOf, List.mem_append] at hx ⊢
      rcases hx with hx | hx
      · exact .inl (loopsOf_findLabel a l r hr x hx)
      · exact .inr hx
    · simp only [loopsOf, List.mem_append]
      exact .inr (loopsOf_findLabel b l rest h x hx)
  | .label l', l, rest, h => by
    simp only [findLabel] at h
    split at h
    · cases h; intro x hx; simp [loopsOf] at hx
    · cases h
  | .skip, _, _, h | .region _ _ _, _, _, h | .cond _ _ _, _, _, h | .block _ _, _, _, h | .loop _, _, _, h | .rangeFunc _ _ _ _, _, _, h | .exit _, _, _, h | .scope _, _, _, h | .goto _, _, _, h | .ret, _, _, h | .refuse _, _, _, h => by
    simp [findLabel] at h

/-- What a loop's summary owes. -/
def LoopOk (P : Program) (d dh : Nat) (body : Code) (N : Nat) (ks : List Nat) (F : List X → Hp → Option (Ex × List X × Hp)) : Prop :=
  ∀ (st : St) (e : Ex) (xs : List X) (H : Hp), st.tm.length = N → F (ks.map fun t => st.tm.getD t .dead) st.H = some (e, xs, H) → ∀ (g : Ghost) (w : World) (a : Act), Fr g w d dh st a →
    (Code.loop body).wp P (fun ex a' w' => ex = e.to ∧ ∃ g', Fr g' w' d dh { tm := keepOnly N ks xs, H := H } a' ∧ Ext g w g' w' d (Kf d dh) ∧ a'.defers = a.defers) a w

def LoopsOk (P : Program) (C : Ctx) (d dh : Nat) (bodies : List Code) : Prop :=
  ∀ body ∈ bodies, ∀ key N ks F, firstRegion body = some key → C.L key = some (N, ks, F) → LoopOk P d dh body N ks fun xs H => (F xs H).run some

theorem codeK_sound {P : Program} {C : Ctx} (hC : COk P C) (hmix : P.follows .mixedOrders = true) {R : Type} {d dh : Nat} {r : R} : ∀ (n : Nat) (c : Code) (g : Ghost) (w : World) (st : St) (a : Act) (k : Ex → St → Option R) (Q : Exit → Act → World → Prop), Fr g w d dh st a →
    codeK C n c st k = some r → LoopsOk P C d dh (loopsOf c) → (∀ e st' a' w' g', k e st' = some r → Fr g' w' d dh st' a' → Ext g w g' w' d (Kf d dh) → a'.defers = a.defers → Q e.to a' w') → c.wp P Q a w := by
  intro n
  induction n with
  | zero => intro c g w st a k Q h hk; simp [codeK] at hk
  | succ n ih =>
    intro c g w st a k Q h hk hL hn
    cases c with
    | skip => exact wp_skip (hn .normal st a w g (by simpa only [codeK] using hk) h (Ext.refl _ _ _ _) rfl)
    | label l => exact wp_label (hn .normal st a w g (by simpa only [codeK] using hk) h (Ext.refl _ _ _ _) rfl)
    | region id ops draw =>
      simp only [codeK] at hk
      cases draw with
      | false =>
        simp only [Bool.false_and, cond_false] at hk
        refine wp_region_list ?_
        have := opsK_sound hC (all := ops.toList) ops.toList g w st a h hk (fun st' a' w' g' h1 h2 h3 h4 => hn .normal st' a' w' g' h1 h2 h3 h4)
        simpa using this
      | true =>
        simp only [Bool.true_and] at hk
        cases hok : drawOk C ops.toList with
        | false => rw [hok] at hk; cases hk
        | true =>
          rw [hok] at hk
          simp only [Bool.not_true, cond_false] at hk
          have hrl := opsK_runL C ops.toList (k .normal) ops.toList 0 (fun j _ => by simp) st
          rw [hk] at hrl
          have hrl := hrl.symm
          rw [Option.bind_eq_some_iff] at hrl
          obtain ⟨sf, h1, h2⟩ := hrl
          refine wp_region_any hmix ?_
          have hfr : Fr g { w with drawn := w.drawn + 1 } d dh st a :=
            ⟨h.len, fun t x hx => RepX.ext (Ext.drawn (K := fun _ => False) (w.drawn + 1)) h.le (fun e => e) (fun e => e) x _ (h.rep t x hx), HRep.ext (Ext.drawn (K := fun _ => False) (w.drawn + 1)) h.le (fun e => e) (fun _ _ e => e) rfl h.heap, h.wf, h.le⟩
          have hunl : unl ops.toList.length (Array.replicate ops.size false) = List.range' 0 ops.toList.length := by
            unfold unl
            rw [← List.range_eq_range']
            apply List.filter_eq_self.2
            intro i hi
            simp only [List.mem_range] at hi
            have : i < ops.size := by simpa using hi
            simp [Array.getD, this]
          have hany := drawn_any hC hok (d := d) (dh := dh) (k := k .normal) (r := r) (Q := Q) (sf := sf) ops.size (Array.replicate ops.size false) g _ st a hfr (by simp) (by rw [hunl]; simp) (by rw [hunl]; exact h1) h2 (fun i hi => by
            exfalso
            simp only [Array.getD] at hi
            split at hi <;> simp at hi) (fun a' w' g' q1 q2 q3 => hn .normal sf a' w' g' h2 q1 ((Ext.drawn (w.drawn + 1)).trans q2) q3)
          simpa using hany
    | seq x y =>
      simp only [codeK] at hk
      simp only [loopsOf] at hL
      refine wp_seq ?_
      refine ih x g w st a _ _ h hk (fun b hb => hL b (List.mem_append_left _ hb)) fun e st' a' w' g' h1 h2 h3 h4 => ?_
      cases e with
      | normal =>
        exact ih y g' w' st' a' k Q h2 h1 (fun b hb => hL b (List.mem_append_right _ hb)) fun e2 st2 a2 w2 g2 k1 k2 k3 k4 => hn e2 st2 a2 w2 g2 k1 k2 (h3.trans k3) (k4.trans h4)
      | exit id => exact hn (.exit id) st' a' w' g' h1 h2 h3 h4
      | goto l => exact hn (.goto l) st' a' w' g' h1 h2 h3 h4
      | ret => exact hn .ret st' a' w' g' h1 h2 h3 h4
    | cond c x y =>
      simp only [codeK] at hk
      simp only [loopsOf] at hL
      cases c with
      | tmp t =>
        simp only at hk
        split at hk
        · rename_i v hv
          have hx := h.val (.tmp t)
          simp only [St.val] at hx
          rw [hv, RepX.bool_iff] at hx
          cases v with
          | true =>
            simp only [cond_true] at hk
            rw [set_same st.tm t .dead _ hv (by simp)] at hk
            exact wp_cond_true hx (ih x g w st a k Q h hk (fun b hb => hL b (List.mem_append_left _ hb)) hn)
          | false =>
            simp only [cond_false] at hk
            rw [set_same st.tm t .dead _ hv (by simp)] at hk
            exact wp_cond_false hx (ih y g w st a k Q h hk (fun b hb => hL b (List.mem_append_right _ hb)) hn)
        · cases hk
      | const v =>
        cases v <;> simp only at hk <;> try (cases hk; done)
        rename_i v
        cases v with
        | true =>
          simp only [if_true] at hk
          exact wp_cond_true rfl (ih x g w st a k Q h hk (fun b hb => hL b (List.mem_append_left _ hb)) hn)
        | false =>
          simp only [Bool.false_eq_true, if_false] at hk
          exact wp_cond_false rfl (ih y g w st a k Q h hk (fun b hb => hL b (List.mem_append_right _ hb)) hn)
      | global g => cases hk
      | func f => cases hk
    | block id c =>
      simp only [codeK] at hk
      simp only [loopsOf] at hL
      refine wp_block ?_
      refine ih c g w st a _ _ h hk hL fun e st' a' w' g' h1 h2 h3 h4 => ?_
      cases e with
      | normal => exact hn .normal st' a' w' g' h1 h2 h3 h4
      | exit i =>
        simp only [Ex.to, Exit.inBlock]
        simp only at h1
        split
        · rename_i hi
          rw [if_pos hi] at h1
          exact hn .normal st' a' w' g' h1 h2 h3 h4
        · rename_i hi
          rw [if_neg hi] at h1
          exact hn (.exit i) st' a' w' g' h1 h2 h3 h4
      | goto l => exact hn (.goto l) st' a' w' g' h1 h2 h3 h4
      | ret => exact hn .ret st' a' w' g' h1 h2 h3 h4
    | loop body =>
      simp only [codeK] at hk
      split at hk
      · cases hk
      · rename_i key hkey
        split at hk
        · cases hk
        · rename_i N ks F hF
          split at hk
          · rename_i hN
            · obtain ⟨⟨e, xs, H⟩, hres, hk⟩ := Tr.run_some hk
              have := hL body (by simp [loopsOf]) key N ks F hkey hF st e xs H hN hres g w a h
              refine Go.wp_mono this ?_
              rintro ex a' w' ⟨rfl, g', h1, h2, h3⟩
              exact hn e _ a' w' g' hk h1 h2 h3
          · cases hk
    | rangeFunc f ps x y => simp [codeK] at hk
    | exit id => exact wp_exit (hn (.exit id) st a w g (by simpa only [codeK] using hk) h (Ext.refl _ _ _ _) rfl)
    | scope c =>
      simp only [codeK] at hk
      simp only [loopsOf] at hL
      refine wp_scope_jump ?_
      refine ih c g w st a _ _ h hk hL fun e st' a' w' g' h1 h2 h3 h4 => ?_
      cases e with
      | normal => exact hn .normal st' a' w' g' h1 h2 h3 h4
      | exit i => exact hn (.exit i) st' a' w' g' h1 h2 h3 h4
      | ret => exact hn .ret st' a' w' g' h1 h2 h3 h4
      | goto l =>
        simp only at h1
        split at h1
        · rename_i rest hrest
          refine .inl ⟨rest, hrest, ?_⟩
          refine ih rest g' w' st' a' _ _ h2 h1 (fun b hb => hL b (loopsOf_findLabel c l rest hrest b hb)) fun e2 st2 a2 w2 g2 k1 k2 k3 k4 => ?_
          cases e2 with
          | normal => exact hn .normal st2 a2 w2 g2 k1 k2 (h3.trans k3) (k4.trans h4)
          | exit i => exact hn (.exit i) st2 a2 w2 g2 k1 k2 (h3.trans k3) (k4.trans h4)
          | ret => exact hn .ret st2 a2 w2 g2 k1 k2 (h3.trans k3) (k4.trans h4)
          | goto l => cases k1
        · rename_i hrest
          exact .inr ⟨hrest, hn (.goto l) st' a' w' g' h1 h2 h3 h4⟩
    | goto l => exact wp_goto (hn (.goto l) st a w g (by simpa only [codeK] using hk) h (Ext.refl _ _ _ _) rfl)
    | ret => exact wp_ret (hn .ret st a w g (by simpa only [codeK] using hk) h (Ext.refl _ _ _ _) rfl)
    | refuse why => simp [codeK] at hk

end Go.Proofs.Ytgickaihlebgmaa.V

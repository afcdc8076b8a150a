/-
  A region in which a slice that is known nowhere else is lent: to functions that tell numbers alone, and to 'len'.
  It speaks of whatever program; no condition.
-/
import Derived.Test.YtaefpopjlmhmoaaDoorWh
namespace Go.Proofs.YtaefpopjlmhmoaaDoor.V
open Go
set_option linter.unusedVariables false
set_option linter.unusedSimpArgs false

/-- It leads nowhere. -/
def flat1 : X → Bool
  | .d (.int _) _ => true
  | .d .bool _ => true
  | _ => false
def flatX : X → Bool
  | .tup xs => xs.all flat1
  | x => flat1 x

theorem flat1_rep {g w g2 w2} {dh dh2 : Nat} {κ κ2 : Key} {x : X} {v : Value} (hf : flat1 x = true) (h : RepX g w dh κ x v) : RepX g2 w2 dh2 κ2 x v := by
  cases x <;> simp only [flat1] at hf <;> try cases hf
  rename_i t y
  cases t <;> simp only at hf <;> try cases hf
  · exact RepX.int_iff.2 (RepX.int_iff.1 h)
  · exact RepX.bool_iff.2 (RepX.bool_iff.1 h)
theorem flats_rep {g w g2 w2} {dh dh2 : Nat} : ∀ {xs : List X} {vs : List Value}, xs.all flat1 = true → RepXs g w dh xs vs → RepXs g2 w2 dh2 xs vs
  | [], vs, _, h => by simpa only [RepXs] using h
  | x :: xs, vs, hf, h => by
    simp only [List.all_cons, Bool.and_eq_true] at hf
    simp only [RepXs] at h ⊢
    obtain ⟨v, us, rfl, h1, h2⟩ := h
    exact ⟨v, us, rfl, flat1_rep hf.1 h1, flats_rep hf.2 h2⟩
theorem flatX_rep {g w g2 w2} {dh dh2 : Nat} {κ κ2 : Key} {x : X} {v : Value} (hf : flatX x = true) (h : RepX g w dh κ x v) : RepX g2 w2 dh2 κ2 x v := by
  cases x
  case tup xs =>
    simp only [RepX] at h ⊢
    obtain ⟨vs, rfl, h⟩ := h
    exact ⟨vs, rfl, flats_rep hf h⟩
  all_goals exact flat1_rep hf h

/-- What an operation of such a region is: a home is emptied; a home is looked at; the length of what it holds; it is lent to a function; any other. -/
inductive Cls where
  | nil (q : Nat)
  | mv (q p : Nat)
  | len (q p T : Nat)
  | lend (q f t p : Nat) (args : Array Operand) (tys : Array Nat)
  | std

def lentAt (al : List (Nat × Nat)) : List Operand → Option (Nat × Nat)
  | [] => none
  | .tmp t :: r => match al.find? (fun x => x.1 == t) with
    | some x => some x
    | none => lentAt al r
  | _ :: r => lentAt al r

def clsOf (hs : List Nat) (al : List (Nat × Nat)) (o : Oper) : Cls :=
  match o.op, o.dst with
  | .assign (.const (.slice none 0 0)), some q => bif hs.contains q then .nil q else .std
  | .move (.tmp p), some q => bif hs.contains p then .mv q p else .std
  | .call ⟨.builtin .len, args, tys⟩, some q => match args.toList, tys.toList with
    | [.tmp t], [T] => match al.find? (fun x => x.1 == t) with
      | some x => .len q x.2 T
      | none => .std
    | _, _ => .std
  | .call ⟨.value (.func f), args, tys⟩, some q => match lentAt al args.toList with
    | some x => .lend q f x.1 x.2 args tys
    | none => .std
  | _, _ => .std

def dropAl (q : Nat) (al : List (Nat × Nat)) : List (Nat × Nat) := al.filter fun x => x.1 != q && x.2 != q
def lentV (st : St) (t : Nat) (e : Ty) (xs : List e.den) : Operand → X
  | .tmp u => bif u == t then .sl e xs none false else st.val (.tmp u)
  | y => st.val y

/-- Such a region's operations in the text's order. 'hs': the homes; 'al': places that hold what a home holds. -/
noncomputable def opsA {R : Type} (C : Ctx) (hs : List Nat) : List Oper → List (Nat × Nat) → St → (St → Option R) → Option R
  | [], _, st, k => k st
  | o :: r, al, st, k => match o.guard with
    | some _ => none
    | none => match clsOf hs al o with
      | .nil q => match C.ty o.type with
        | some ⟨.slice e, _, _, _⟩ => opsA C hs r (dropAl q al) { st with tm := st.tm.set q (.ps e []) } k
        | _ => none
      | .mv q p => bif q != p && decide (q < st.tm.length) then opsA C hs r ((q, p) :: dropAl q al) { st with tm := st.tm.set q .dead } k else none
      | .len q p T => match C.ty T, st.tm.getD p .dead with
        | some ⟨.slice _, _, _, _⟩, .ps e xs => opsA C hs r (dropAl q al) { st with tm := st.tm.set q (.d (.int .i64) (xs.length : Int)) } k
        | _, _ => none
      | .lend q f t p args tys => match C.O f, st.tm.getD p .dead with
        | some (.pure F), .ps e xs => if tys.size = args.size then
            (F ((List.zipWith (typed C) tys.toList (args.toList.map (lentV st t e xs))).map X.unown)).run fun v => bif flatX v && q != p then opsA C hs r (dropAl q al) { st with tm := st.tm.set q v } k else none
          else none
        | _, _ => none
      | .std => opK C false o st fun st' => opsA C hs r (match o.dst with | some q => dropAl q al | none => al) st' k

theorem find_al {al : List (Nat × Nat)} {t : Nat} {x : Nat × Nat} (h : al.find? (fun x => x.1 == t) = some x) : x ∈ al ∧ x.1 = t := by
  refine ⟨List.mem_of_find?_eq_some h, ?_⟩
  have := List.find?_some h
  simpa using this
theorem lentAt_mem {al : List (Nat × Nat)} : ∀ {l : List Operand} {x : Nat × Nat}, lentAt al l = some x → x ∈ al
  | [], _, h => by cases h
  | y :: r, x, h => by
    cases y
    case tmp t =>
      simp only [lentAt] at h
      split at h
      · rename_i z hz
        cases h
        exact (find_al hz).1
      · exact lentAt_mem h
    all_goals exact lentAt_mem (by simpa only [lentAt] using h)

/-- What the places of 'al' hold. -/
def AlOk (al : List (Nat × Nat)) (a : Act) : Prop := ∀ x ∈ al, a.tmps.getD x.1 undef = a.tmps.getD x.2 undef
theorem AlOk.drop {al : List (Nat × Nat)} {a : Act} (h : AlOk al a) (q : Nat) (v : Value) : AlOk (dropAl q al) (a.put (some q) v) := by
  intro x hx
  simp only [dropAl, List.mem_filter, Bool.and_eq_true, bne_iff_ne] at hx
  rw [Act.put_getD_ne (fun e => hx.2.1 e.symm), Act.put_getD_ne (fun e => hx.2.2 e.symm)]
  exact h x hx.1

/-- Lent: for the time of a call the cells are settled. -/
theorem lend_up {g : Ghost} {w : World} {d dh : Nat} {κ : Key} {e : Ty} {xs : List e.den} {v : Value} (hw : WF g w) (hk : ¬ κ.deep (d + 1)) (h : RepX g w dh κ (.ps e xs) v) :
    ∃ g1, Ext g w g1 w d (fun x => x = κ) ∧ WF g1 w ∧ RepX g1 w dh .no (.sl e xs none false) v ∧
      ∀ g' w', Ext g1 w g' w' d (fun x => x.deep (d + 1)) → WF g' w' → ∃ g2, Ext g w g2 w' d (fun x => x.deep (d + 1)) ∧ WF g2 w' := by
  simp only [RepX] at h
  obtain ⟨b0, c, rfl, h2, h3⟩ := h
  rcases h3 with ⟨h0, rfl⟩ | ⟨b, arr, ty, fr, cs, rest, rfl, e2, e3, e4, e5, e6, e7, e8⟩
  · refine ⟨g, Ext.refl _ _ _ _, hw, ?_, fun g' w' he hw' => ⟨g', he, hw'⟩⟩
    simp only [RepX]
    exact ⟨b0, c, rfl, h2, Run.nil, (fun b hb => by cases hb), (fun hd => by cases hd)⟩
  · obtain ⟨he, hw1, hrun⟩ := Pris.up (d := d) (κ := κ) hw e2 e5 e6 e7 e8
    have hb : b < w.heap.size := (Array.getElem?_eq_some_iff.1 e2).1
    refine ⟨g.up b (xs.length * e.size), he, hw1, ?_, fun g' w' he' hw' => ?_⟩
    · simp only [RepX]
      exact ⟨some ⟨b, 0, none⟩, c, rfl, h2, hrun, (fun b hb => by cases hb), (fun hd => by cases hd)⟩
    · have hkeep := he'.keep b hb (fun κ' e hκ => by
        have : g.own b = some κ' := e
        rw [e6] at this
        cases this
        exact hk hκ)
      have he2 : Ext g w (g'.up b 0) w' d (fun x => x.deep (d + 1)) := by
        refine ⟨he'.os, he'.tape, he'.output, he'.size, fun i hi ho => ?_, fun i off ho => ?_, he'.mu, he'.num⟩
        · obtain ⟨k1, k2, k3⟩ := he'.keep i hi ho
          refine ⟨k1, k2, ?_⟩
          by_cases hib : i = b
          · subst hib; simp [Ghost.up, e5]
          · simp only [Ghost.up, hib, if_false] at k3 ⊢; exact k3
        · have hib : i ≠ b := by
            rintro rfl
            omega
          have := he'.cells i off (by simp only [Ghost.up, hib, if_false]; exact ho)
          refine ⟨this.1, ?_⟩
          simp only [Ghost.up, hib, if_false]; exact this.2
      refine ⟨g'.up b 0, he2, ⟨fun i hi => ?_, Tabs.ext he2 hw.2⟩⟩
      obtain ⟨q1, q2⟩ := hw'.1 i hi
      refine ⟨q1, ?_⟩
      simp only [Ghost.up]
      split <;> first | rfl | exact q2

theorem opsA_sound {P : Program} {C : Ctx} (hC : COk P C) {R : Type} {all : List Oper} {d dh : Nat} {hs : List Nat} {k : St → Option R} {r : R} {Q : Exit → Act → World → Prop} (rd : Option Nat) : ∀ (l : List Oper) (al : List (Nat × Nat)) (g : Ghost) (w : World) (st : St) (a : Act), Fr g w d dh st a → AlOk al a → opsA C hs l al st k = some r →
    (∀ st' a' w' g', k st' = some r → Fr g' w' d dh st' a' → Ext g w g' w' d (Kf d dh) → Q .normal a' w') → wpListIn (rdF rd) 0 P all.toArray Q l a w
  | [], al, g, w, st, a, h, _, hk, hn => hn st a w g hk h (Ext.refl _ _ _ _)
  | o :: l, al, g, w, st, a, h, hal, hk, hn => by
    simp only [opsA] at hk
    split at hk
    · cases hk
    · rename_i hg
      have fin : o.wpIn (rdF rd) 0 P a w (wpListIn (rdF rd) 0 P all.toArray Q l) Q → wpListIn (rdF rd) 0 P all.toArray Q (o :: l) a w := by
        intro this
        simp only [wpListIn]
        split
        · exact this
        · rename_i hw
          exact absurd (by simp [Region.wanted, hg]) hw
      apply fin
      obtain ⟨dst, op, ty, pos, af, gd⟩ := o
      simp only at hg
      subst hg
      split at hk
      · -- a home is emptied
        rename_i q hcls
        unfold clsOf at hcls
        simp only at hcls hk
        split at hcls
        · rename_i q' 
          cases hq : hs.contains q' <;> rw [hq] at hcls <;> simp only [cond_true, cond_false] at hcls <;> cases hcls
          split at hk
          · rename_i e z b0 eb he
            refine wp_value (val := .slice none 0 0) (w' := w) (by simp [execOp, Act.eval]) ?_ rd
            have hf := h.put (o := ⟨some q, .assign (.const (.slice none 0 0)), ty, pos, af, none⟩) (v := .ps e []) (val := .slice none 0 0) (cons := []) (H' := st.H) (by simp only [RepX]; exact ⟨none, 0, rfl, Nat.le_refl _, .inl ⟨rfl, rfl⟩⟩) (Ext.refl _ _ _ _) h.heap h.wf
            have hu : unownAll (Op.assign (.const (.slice none 0 0))).operands.toList [] st.tm = st.tm := by simp [Op.operands, unownAll]
            rw [hu] at hf
            exact opsA_sound hC rd l _ g w _ _ hf (hal.drop q _) hk hn
          · cases hk
        · cases hp : hs.contains _ <;> rw [hp] at hcls <;> simp only [cond_true, cond_false] at hcls <;> cases hcls
        · repeat' (first | contradiction | split at hcls)
        · repeat' (first | contradiction | split at hcls)
        · cases hcls
      · -- a home is looked at
        rename_i q p hcls
        unfold clsOf at hcls
        simp only at hcls hk
        split at hcls
        · cases hp : hs.contains _ <;> rw [hp] at hcls <;> simp only [cond_true, cond_false] at hcls <;> cases hcls
        · rename_i p' q'
          cases hp : hs.contains p' <;> rw [hp] at hcls <;> simp only [cond_true, cond_false] at hcls <;> cases hcls
          cases hc : (q != p && decide (q < st.tm.length)) <;> rw [hc] at hk
          · cases hk
          · simp only [cond_true] at hk
            simp only [Bool.and_eq_true, bne_iff_ne, ne_eq, decide_eq_true_eq] at hc
            refine wp_value (val := a.eval (.tmp p)) (w' := w) (by simp [execOp]) ?_ rd
            have hf := h.put (o := ⟨some q, .move (.tmp p), ty, pos, af, none⟩) (v := .dead) (val := a.eval (.tmp p)) (cons := []) (H' := st.H) (by simp only [RepX]) (Ext.refl _ _ _ _) h.heap h.wf
            have hu : unownAll (Op.move (.tmp p)).operands.toList [] st.tm = st.tm := by simp [Op.operands, unownAll]
            rw [hu] at hf
            refine opsA_sound hC rd l _ g w _ _ hf ?_ hk hn
            intro x hx
            rcases List.mem_cons.1 hx with rfl | hx
            · have hsz : q < a.tmps.size := by rw [← h.len]; exact hc.2
              simp only
              rw [Act.put_getD_same hsz, Act.put_getD_ne hc.1]
              rfl
            · exact hal.drop q _ x hx
        · repeat' (first | contradiction | split at hcls)
        · repeat' (first | contradiction | split at hcls)
        · cases hcls
      · -- the length
        rename_i q p T hcls
        unfold clsOf at hcls
        simp only at hcls hk
        split at hcls
        · cases hp : hs.contains _ <;> rw [hp] at hcls <;> simp only [cond_true, cond_false] at hcls <;> cases hcls
        · cases hp : hs.contains _ <;> rw [hp] at hcls <;> simp only [cond_true, cond_false] at hcls <;> cases hcls
        · rename_i args tys q'
          split at hcls
          · rename_i t T' h1 h2
            split at hcls
            · rename_i x hx
              cases hcls
              obtain ⟨hm, rfl⟩ := find_al hx
              have hv := hal x hm
              split at hk
              · rename_i e0 z b0 eb e xs hty hps
                have hp := h.getD (p := x.2)
                rw [hps] at hp
                simp only [RepX] at hp
                obtain ⟨b, c, hp, _⟩ := hp
                obtain ⟨ei, hu, _⟩ := tyB_slice (Ctx.ty_ok hC.tys hty).1
                obtain ⟨al'⟩ := args
                obtain ⟨tl'⟩ := tys
                simp only at h1 h2
                subst h1
                subst h2
                have hrun : (execOp a.eval ⟨some q, .call ⟨.builtin .len, ⟨[.tmp x.1]⟩, ⟨[T]⟩⟩, ty, pos, af, none⟩).run P w = .ok (.value (.int .i64 (xs.length : Int))) w := by
                  rw [run_builtin]
                  simp only [builtin, Sem.run_bind]
                  simp [Builtin.len_, run_underlying hu, Act.eval, hv, hp, goInt]
                refine wp_value hrun ?_ rd
                have hf := h.put (o := ⟨some q, .call ⟨.builtin .len, ⟨[.tmp x.1]⟩, ⟨[T]⟩⟩, ty, pos, af, none⟩) (v := .d (.int .i64) (xs.length : Int)) (val := .int .i64 (xs.length : Int)) (cons := []) (H' := st.H) (RepX.int_iff.2 rfl) (Ext.refl _ _ _ _) h.heap h.wf
                have hu2 : unownAll (Op.call ⟨.builtin .len, ⟨[.tmp x.1]⟩, ⟨[T]⟩⟩).operands.toList [] st.tm = st.tm := by simp [Op.operands, Call.operands, unownAll]
                rw [hu2] at hf
                exact opsA_sound hC rd l _ g w _ _ hf (hal.drop q _) hk hn
              · cases hk
            · cases hcls
          · cases hcls
        · repeat' (first | contradiction | split at hcls)
        · cases hcls
      · -- it is lent
        rename_i q f t p args tys hcls
        unfold clsOf at hcls
        simp only at hcls hk
        split at hcls
        · cases hp : hs.contains _ <;> rw [hp] at hcls <;> simp only [cond_true, cond_false] at hcls <;> cases hcls
        · cases hp : hs.contains _ <;> rw [hp] at hcls <;> simp only [cond_true, cond_false] at hcls <;> cases hcls
        · repeat' (first | contradiction | split at hcls)
        · rename_i f' args' tys' q'
          split at hcls
          · rename_i x hx
            cases hcls
            have hv := hal x (lentAt_mem hx)
            split at hk
            · rename_i F e xs hF hps
              split at hk
              · rename_i hsz
                obtain ⟨v, hres, hk⟩ := Tr.run_some hk
                cases hc : (flatX v && q != x.2) <;> rw [hc] at hk
                · cases hk
                · simp only [cond_true] at hk
                  simp only [Bool.and_eq_true, bne_iff_ne, ne_eq] at hc
                  have hp := h.getD (p := x.2)
                  rw [hps] at hp
                  obtain ⟨g1, he1, hw1, hv1, hback⟩ := lend_up (d := d) h.wf (by simp only [Key.deep]; omega) hp
                  have hargs : ∀ (ts : List Nat) (l : List Operand), ts.length = l.length → RepXs g1 w dh ((List.zipWith (typed C) ts (l.map (lentV st x.1 e xs))).map X.unown) (l.map a.eval) := by
                    intro ts l
                    induction l generalizing ts with
                    | nil => intro e; obtain rfl := List.eq_nil_of_length_eq_zero e; simp [RepXs]
                    | cons y l ih =>
                      intro e
                      cases ts with
                      | nil => simp at e
                      | cons T ts =>
                        simp only [List.map_cons, List.zipWith_cons_cons, RepXs]
                        refine ⟨_, _, rfl, ?_, ih ts (by simpa using e)⟩
                        have hstd : ∀ y, RepX g1 w dh .no (typed C T (st.val y)).unown (a.eval y) := fun y => RepX.unown he1 h.le (by simp) _ _ (typed_rep (h.val y))
                        cases y with
                        | tmp u =>
                          simp only [lentV]
                          cases hu : (u == x.1) with
                          | false => exact hstd (.tmp u)
                          | true =>
                            simp only [beq_iff_eq] at hu
                            subst hu
                            simp only [cond_true]
                            have : a.eval (.tmp x.1) = a.tmps.getD x.2 undef := hv
                            rw [this]
                            exact (typed_rep hv1).unown'
                        | const v => exact hstd (.const v)
                        | global i => exact hstd (.global i)
                        | func f => exact hstd (.func f)
                  obtain ⟨hfn, hcall⟩ : PureOk P f fun args => (F args).run some := hC.orc f _ hF
                  have hc1 := hcall _ _ hres g1 w d dh _ h.le hw1 (hargs tys.toList args.toList (by simpa using hsz))
                  have enter : (execOp a.eval ⟨some q, .call ⟨.value (.func f), args, tys⟩, ty, pos, af, none⟩).run P w = .ok (.enter f (args.toList.map a.eval).toArray) w := by
                    have hv0 : a.eval (.func f) = .func (.func f) #[] #[] := rfl
                    simp only [execOp, resolve, Sem.run_bind, hv0, Deferred.ofValue, Sem.run_pure, Result.andThen_ok, invoke]
                    have e3 : (#[] ++ Array.map a.eval args ++ #[]) = (args.toList.map a.eval).toArray := by
                      apply Array.ext'
                      simp
                    rw [e3]
                    exact hfn _ _
                  refine wp_enter enter rd (hc1.mono ?_)
                  rintro e' w' ⟨val, g', rfl, r1, r2, r3⟩
                  refine ⟨val, rfl, ?_⟩
                  obtain ⟨g2, he2, hw2⟩ := hback g' w' r2 r3
                  have hfar : ∀ κ : Key, κ.heap dh → ¬ κ.deep (d + 1) := by
                    intro κ hκ hd
                    have := h.le
                    cases κ <;> simp only [Key.heap, Key.deep] at hκ hd <;> omega
                  have hf := h.put (g' := g2) (w' := w') (o := ⟨some q, .call ⟨.value (.func f), args, tys⟩, ty, pos, af, none⟩) (v := v) (val := val) (cons := []) (H' := st.H) (flatX_rep hc.1 r1) (he2.mono (Nat.le_refl _) (fun κ hκ => .inr (.inr hκ)))
                    (HRep.ext he2 h.le (fun e => e) hfar (he2.num dh hfar) h.heap) hw2
                  have hu2 : unownAll (Op.call ⟨.value (.func f), args, tys⟩).operands.toList [] st.tm = st.tm := by
                    cases (Op.call ⟨.value (.func f), args, tys⟩).operands.toList with
                    | nil => rfl
                    | cons y _ => cases y <;> rfl
                  rw [hu2] at hf
                  refine opsA_sound hC rd l _ g2 w' _ _ hf (hal.drop q _) hk fun st' a' w'' g' q1 q2 q3 => hn st' a' w'' g' q1 q2 ((he2.mono (Nat.le_refl _) (fun κ hκ => ?_)).trans q3)
                  refine .inl ?_
                  cases κ <;> simp only [Key.deep] at hκ ⊢ <;> first | omega | exact hκ
              · cases hk
            · cases hk
          · cases hcls
        · cases hcls
      · -- any other
        refine op_sound hC h hk (fun st' val w' g' h1 h2 h3 => ?_) rd
        refine opsA_sound hC rd l _ g' w' st' _ h2 ?_ h1 fun st'' a'' w'' g'' k1 k2 k3 => hn st'' a'' w'' g'' k1 k2 (h3.trans k3)
        cases dst with
        | some q => exact hal.drop q _
        | none => exact hal

/-- A region's summary, by a way on which slices are lent. -/
noncomputable def regA {R : Type} (C : Ctx) (hs : List Nat) (ops : Array Oper) (N : Nat) (ks : List Nat) (xs : List X) (H : Hp) (k : List X → Hp → Option R) : Option R :=
  opsA C hs ops.toList [] { tm := keepOnly N ks xs, H := H } fun st => if st.tm.length = N then k (ks.map fun t => st.tm.getD t .dead) st.H else none

/-- What is owed of each region. -/
def RgsW (P : Program) (C : Ctx) (fn : Func) : Prop := ∀ q ∈ rgOf (bodyOf fn), ∀ d dh, RgOk P C d dh q

theorem rgOk_lend {P : Program} {C : Ctx} (hC : COk P C) {q : Nat × Array Oper × Bool} (hs : List Nat) {N : Nat} {ks : List Nat} {F : List X → Hp → Tr (List X × Hp)} (hj : C.J q.1 = some (N, ks, F)) (hd : q.2.2 = false)
    (h : ∀ xs H r, (F xs H).run some = some r → ∃ ys, regA C hs q.2.1 N ks xs H (fun xs H => some (xs, H)) = some (ys, r.2) ∧ Forget ys r.1) (d dh : Nat) : RgOk P C d dh q := by
  intro N' ks' F' hF st xs H hN hres g w a hfr ro hro
  rw [hj] at hF
  cases hF
  obtain ⟨ys, h1, h2⟩ := h _ _ _ hres
  obtain ⟨id, ops, draw⟩ := q
  simp only at hd
  subst hd
  have hK : Kf d dh (.obj dh 0) := .inr rfl
  unfold regA at h1
  refine wpIn_region_list ?_
  have := opsA_sound hC (all := ops.toList) (dh := dh) ro ops.toList [] g w _ a (hfr.keep N hN ks) (fun x hx => by cases hx) h1 (Q := fun ex a' w' => ex = Ex.normal.to ∧ ∃ g', Fr g' w' d dh { tm := keepOnly N ks xs, H := H } a' ∧ Ext g w g' w' d (Kf d dh)) (fun st2 a2 w2 g2 k1 k2 k3 => by
    simp only at k1
    split at k1
    · rename_i hN2
      simp only [Option.some.injEq, Prod.mk.injEq] at k1
      obtain ⟨rfl, rfl⟩ := k1
      have hlen : g.N dh ≤ st2.H.length := by
        rw [k2.heap.1]
        refine Nat.le_of_not_lt fun hlt => ?_
        exact Nat.lt_irrefl _ (k3.mu dh hfr.le _ hlt).1
      exact ⟨rfl, _, (k2.keep N hN2 ks).weak h2 (HWeak.refl _) (.inl rfl), k3.trunc hK hlen⟩
    · cases k1)
  simpa using this

theorem RgsW.mk {P : Program} {C : Ctx} {fn : Func} {n : Nat} (hn : (rgOf (bodyOf fn)).length = n) (h : ∀ i, i < n → ∀ d dh, RgOk P C d dh (rgAt fn i)) : RgsW P C fn := by
  intro q hq
  obtain ⟨i, hi, e⟩ := List.mem_iff_getElem.1 hq
  have := h i (hn ▸ hi)
  unfold rgAt at this
  rw [List.getD_eq_getElem?_getD, List.getElem?_eq_getElem hi] at this
  simpa [e] using this
theorem RgOk.off {P : Program} {C : Ctx} {d dh : Nat} {q : Nat × Array Oper × Bool} (h : C.J q.1 = Option.none) : RgOk P C d dh q := by
  intro N ks F e
  rw [h] at e
  cases e

/-- A function of its arguments alone, some of whose regions are told. -/
theorem pureOkW {P : Program} {C : Ctx} (hC : COk P C) (hmix : P.follows .mixedOrders = true) (f : Nat) (fn : Func) (hf : P.funcs[f]? = some fn) (hname : (fn.name == "runtime.NumGoroutine") = false) (hb : fn.body.isSome = true) (fuel n : Nat)
    (hn : (loopsAll (bodyOf fn)).length = n) (hL : ∀ i, i < n → Tells C fuel (loopAt fn i)) {F : List X → Option X}
    (hF : ∀ args r, F args = some r → argsB args = true ∧ resB r = true ∧ ∃ H', bodyX C fuel fn args [] = some (r, H')) (hJ : RgsW P C fn) (hR : RfsOk C fn := by exact RfsOk.none (by kernel_rfl)) : PureOk P f F :=
  pure_ok hC hmix hf (by simpa using hname) (bodyOf_eq hb) fuel (fun d => tells_loops hC hmix fuel _ (loopAt_all hn hL) hR (fun d dh q hq => hJ q hq d dh) d d) hR (fun d dh q hq => hJ q hq d dh) hF

end Go.Proofs.YtaefpopjlmhmoaaDoor.V

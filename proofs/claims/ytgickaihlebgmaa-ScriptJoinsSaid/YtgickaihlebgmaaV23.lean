/-
  What the evaluator tells is so: a function whose body it comes through does what it tells.
  It speaks of whatever program; no condition.
-/
import Derived.Test.YtgickaihlebgmaaV22
namespace Go.Proofs.Ytgickaihlebgmaa.V
open Go
set_option linter.unusedVariables false
set_option linter.unusedSimpArgs false

/-- One result, as it is read. -/
def resRun (tmps : Array Value) : ResultVar → Sem Value
  | .tmp t => pure (tmps.getD t undef)
  | .cell a t => do loadVar t (← asAddr (tmps.getD a undef))

theorem resultX_sound {P : Program} {C : Ctx} (hC : TysOk P C.tys) {g w} {d dh : Nat} {st : St} {a : Act} (h : Fr g w d dh st a) {r : ResultVar} {x : X} (hx : resultX C st r = some x) :
    ∃ v κ, (resRun a.tmps r).run P w = .ok v w ∧ RepX g w dh κ x v ∧ κ ≠ .no ∧ Kf d dh κ := by
  cases r with
  | tmp t =>
    simp only [resultX, Option.some.injEq] at hx
    subst hx
    have := h.val (.tmp t)
    simp only [St.val, keyOf, Act.eval] at this
    exact ⟨_, _, rfl, this, by simp, .inl (Nat.le_refl _)⟩
  | cell b T =>
    simp only [resultX] at hx
    split at hx
    · rename_i e id p he hv
      split at hx
      · rename_i t c hid
        split at hx
        · rename_i t' y htp hy
          split at hx
          · rename_i hte
            subst hte
            have hxp := h.val (.tmp b)
            simp only [St.val, keyOf, Act.eval] at hxp
            rw [hv] at hxp
            simp only [RepX] at hxp
            obtain ⟨hN, o, t1, hp, hval⟩ := hxp
            obtain ⟨r1, r2, r3, r4, arr, tyo, r5, r6⟩ := h.heap.2 id t c hid
            rw [r1] at hp
            obtain rfl := typeAt_eq hp htp
            have ht := (Ctx.ty_ok hC he).1
            obtain ⟨pre, mid, post, f1, f2, f3⟩ := RepO.get p c t 0 o _ e.t y r6 hp hy
            rw [Nat.zero_add] at f3
            have hcell : ∀ j (hj : j < mid.length), w.cell? ⟨g.μ dh id, o + j, none⟩ = some mid[j] := by
              intro j hj
              rw [cell_of_heap r5, ← Array.getElem?_toList, f1, ← f2, getElem?_mid pre mid post j hj, List.getElem?_eq_getElem hj]
            have hlv := loadVar_run (w := w) (b := g.μ dh id) (off := o) ht (RepO.length _ _ _ _ f3) hcell
            refine ⟨_, .cell dh id o, ?_, f3.out hx, by simp, .inr rfl⟩
            simp only [resRun, Sem.run_bind, hval, asAddr, Sem.run_pure, Result.andThen_ok]
            exact hlv
          · cases hx
        · cases hx
      · cases hx
    · cases hx

theorem results_run {P : Program} (fn : Func) (tmps : Array Value) (w : World) (vs : List Value) (h : (fn.results.toList.mapM (resRun tmps)).run P w = .ok vs w) :
    (results fn tmps).run P w = .ok (match vs with | [v] => v | vs => .tuple vs.toArray) w := by
  have e : results fn tmps = (do
      let vs ← fn.results.mapM (resRun tmps)
      pure (if h : vs.size = 1 then vs[0] else .tuple vs)) := rfl
  have h2 : (fn.results.mapM (resRun tmps)) = (List.toArray <$> fn.results.toList.mapM (resRun tmps)) := Array.mapM_eq_mapM_toList
  rw [e, h2]
  simp only [Sem.run_bind, Sem.run_map, h, Result.andThen_ok, Sem.run_pure]
  congr 1
  match vs with
  | [] => rfl
  | [v] => rfl
  | _ :: _ :: _ => rfl

theorem mapM_sound {P : Program} {C : Ctx} (hC : TysOk P C.tys) {g w} {d dh : Nat} {st : St} {a : Act} (h : Fr g w d dh st a) : ∀ (rs : List ResultVar) (xs : List X), rs.mapM (resultX C st) = some xs →
    ∃ vs, (rs.mapM (resRun a.tmps)).run P w = .ok vs w ∧ RepXs g w dh (xs.map X.unown) vs ∧ vs.length = rs.length
  | [], xs, e => by
    simp only [List.mapM_nil] at e
    cases e
    exact ⟨[], rfl, by simp [RepXs], rfl⟩
  | r :: rs, xs, e => by
    simp only [List.mapM_cons] at e
    cases hr : resultX C st r with
    | none => rw [hr] at e; simp at e
    | some y =>
      cases hs : rs.mapM (resultX C st) with
      | none => rw [hr, hs] at e; simp at e
      | some ys =>
        rw [hr, hs] at e
        simp at e
        subst e
        obtain ⟨v, κ, e1, e2, _⟩ := resultX_sound hC h hr
        obtain ⟨vs, f1, f2, f3⟩ := mapM_sound hC h rs ys hs
        refine ⟨v :: vs, ?_, ?_, by simp [f3]⟩
        · simp only [List.mapM_cons, Sem.run_bind, e1, Result.andThen_ok, f1, Sem.run_pure]
        · simp only [List.map_cons, RepXs]
          exact ⟨v, vs, rfl, e2.unown', f2⟩

theorem resultsX_sound {P : Program} {C : Ctx} (hC : TysOk P C.tys) {g w} {d dh : Nat} {st : St} {a : Act} (h : Fr g w d dh st a) (fn : Func) {x : X} (hx : resultsX C fn st = some x) :
    ∃ v κ, (results fn a.tmps).run P w = .ok v w ∧ RepX g w dh κ x v ∧ κ ≠ .no ∧ Kf d dh κ := by
  unfold resultsX at hx
  split at hx
  · rename_i r hr
    obtain ⟨v, κ, e1, e2, e3, e4⟩ := resultX_sound hC h hx
    refine ⟨v, κ, ?_, e2, e3, e4⟩
    refine results_run fn a.tmps w [v] ?_
    rw [hr]
    simp only [List.mapM_cons, List.mapM_nil, Sem.run_bind, e1, Result.andThen_ok, Sem.run_pure]
  · rename_i rs hne
    split at hx
    · rename_i xs hxs
      cases hx
      obtain ⟨vs, f1, f2, f3⟩ := mapM_sound hC h _ xs hxs
      refine ⟨.tuple vs.toArray, .tmp d 0, ?_, ?_, by simp, .inl (Nat.le_refl _)⟩
      · have := results_run fn a.tmps w vs f1
        rw [this]
        match vs, f3 with
        | [], _ => rfl
        | [v], f3 =>
          exfalso
          have h1 : fn.results.toList.length = 1 := by simpa using f3.symm
          match hl : fn.results.toList, h1 with
          | [r], _ => exact hne r hl
        | _ :: _ :: _, _ => rfl
      · simp only [RepX]
        exact ⟨vs, rfl, f2⟩
    · cases hx

theorem RepXs.length {g w} {dh : Nat} : ∀ (xs : List X) (vs : List Value), RepXs g w dh xs vs → xs.length = vs.length
  | [], vs, h => by simp only [RepXs] at h; simp [h]
  | x :: xs, vs, h => by
    simp only [RepXs] at h
    obtain ⟨v, us, rfl, _, h3⟩ := h
    simp [RepXs.length xs us h3]

theorem fnOk {P : Program} {f : Nat} {fn : Func} (hf : P.funcs[f]? = some fn) (hname : fn.name ≠ "runtime.NumGoroutine") (hb : fn.body.isSome = true) : FnOk P f := by
  intro args w
  have h1 : (fn.name == "runtime.NumGoroutine") = false := by simpa using hname
  have h2 : fn.body.isNone = false := by cases h : fn.body <;> simp_all
  simp only [callFunc, Sem.run_bind, run_program, Result.andThen_ok, hf, h1, h2, Bool.false_eq_true, if_false, Sem.run_pure]

/-- **A function whose body the evaluator comes through does what it tells.** -/
theorem pure_ok {P : Program} {C : Ctx} (hC : COk P C) (hmix : P.follows .mixedOrders = true) {f : Nat} {fn : Func} {c : Code} (hf : P.funcs[f]? = some fn) (hname : fn.name ≠ "runtime.NumGoroutine") (hb : fn.body = some c) (fuel : Nat)
    (hL : ∀ d, LoopsOk P C d d (loopsOf c)) {F : List X → Option X} (hF : ∀ args r, F args = some r → argsB args = true ∧ resB r = true ∧ ∃ H', bodyX C fuel fn args [] = some (r, H')) : PureOk P f F := by
  refine ⟨fnOk hf hname (by simp [hb]), fun args r hr g w d dh vs hd hw ha => ?_⟩
  obtain ⟨hab, hrb, H', hbody⟩ := hF args r hr
  simp only [bodyX, hb] at hbody
  let g0 : Ghost := { g with N := fun h => if h = d + 1 then 0 else g.N h }
  have he0 : Ext g w g0 w d (fun κ => κ.deep (d + 1)) := by
    refine ⟨rfl, rfl, rfl, Nat.le_refl _, fun _ _ _ => ⟨rfl, rfl, rfl⟩, fun _ _ h => ⟨rfl, h⟩, fun h hh id hid => ?_, fun h hh => ?_⟩
    · have : h ≠ d + 1 := by omega
      simp [g0, this, hid]
    · have : h ≠ d + 1 := by
        rintro rfl
        exact hh (.obj (d + 1) 0) rfl (Nat.le_refl _)
      simp [g0, this]
  have ha1 : RepXs g w (d + 1) args vs := RepXs.far args vs hab ha
  have ha0 : RepXs g0 w (d + 1) args vs := by
    have h2 : ∀ (xs : List X) (vs : List Value), argsB xs = true → RepXs g w dh xs vs → RepXs g0 w (d + 1) xs vs := fun xs vs hb h => RepXs.far xs vs hb (RepXs.ext he0 hd (fun e => e) xs vs h)
    exact h2 args vs hab ha
  have hH0 : HRep g0 w (d + 1) [] := ⟨by simp [g0], fun id t c e => by simp at e⟩
  have hw0 : WF g0 w := hw
  have hown : ∀ x ∈ args, ∀ e xs nl own, x = .sl e xs nl own → own = false := by
    have : ∀ (l : List X), argsB l = true → ∀ x ∈ l, ∀ e xs nl own, x = .sl e xs nl own → own = false := by
      intro l
      induction l with
      | nil => intro _ x hx; cases hx
      | cons y l ih =>
        intro hb x hx
        simp only [argsB, Bool.and_eq_true] at hb
        rcases List.mem_cons.1 hx with rfl | hx
        · rintro e xs nl own rfl
          have := hb.1
          simp only [argB, Bool.not_eq_true'] at this
          exact this
        · exact ih hb.2 x hx
    exact this args hab
  have hfr := Fr.enter hH0 hw0 (Nat.le_refl (d + 1)) ha0 hown (fn.ntmps - args.length)
  have hlen := RepXs.length args vs ha
  refine calls_of_wp hf hb ?_
  have hsz : vs.toArray.size = args.length := by simp [hlen]
  rw [hsz]
  refine codeK_sound hC hmix fuel c g0 w _ _ _ _ hfr hbody (hL (d + 1)) fun e st' a' w' g' h1 h2 h3 h4 => ?_
  have fin : ∀ x, resultsX C fn st' = some x → x = r → a'.defers = [] ∧ ∃ v, (results fn a'.tmps).run P w' = .ok v w' ∧ (∃ v_1 g', Ending.returned v = .returned v_1 ∧ RepX g' w' dh (.tmp (d + 1) 0) r v_1 ∧ Ext g w g' w' d (fun κ => κ.deep (d + 1)) ∧ WF g' w') := by
    rintro x hx rfl
    obtain ⟨v, κ, e1, e2, e3, e4⟩ := resultsX_sound hC.tys h2 fn hx
    refine ⟨h4, v, e1, v, g'.rekey κ (.tmp (d + 1) 0), rfl, RepX.res hrb (RepX.rekey (Nat.le_refl _) e3 _ _ e2), ?_, h2.wf.rekey⟩
    have hK : ∀ κ, Kf (d + 1) (d + 1) κ → κ.deep (d + 1) := by
      rintro κ (h | h)
      · exact h
      · cases κ <;> simp only [Key.heap, Key.deep] at h ⊢ <;> omega
    refine he0.trans ((h3.mono (Nat.le_succ d) hK).trans (Ghost.rekey_ext.mono (Nat.le_refl _) ?_))
    rintro κ' rfl
    exact hK _ e4
  cases e with
  | normal =>
    simp only at h1
    split at h1
    · rename_i x hx
      simp only [Option.some.injEq, Prod.mk.injEq] at h1
      exact fin x hx h1.1
    · cases h1
  | ret =>
    simp only at h1
    split at h1
    · rename_i x hx
      simp only [Option.some.injEq, Prod.mk.injEq] at h1
      exact fin x hx h1.1
    · cases h1
  | exit i => cases h1
  | goto l => cases h1

/-- The same of a function that turns its caller's variables; what it lays itself stays. -/
theorem eff_ok {P : Program} {C : Ctx} (hC : COk P C) (hmix : P.follows .mixedOrders = true) {f : Nat} {fn : Func} {c : Code} (hf : P.funcs[f]? = some fn) (hname : fn.name ≠ "runtime.NumGoroutine") (hb : fn.body = some c) (fuel : Nat)
    (hL : ∀ d dh, LoopsOk P C d dh (loopsOf c)) {F : List X → Hp → Option (X × Hp)}
    (hF : ∀ args H r H', F args H = some (r, H') → (∀ x ∈ args, ∀ e xs nl own, x = .sl e xs nl own → own = false) ∧ ∃ x H1, r = x.unown ∧ bodyX C fuel fn args H = some (x, H1) ∧ HWeak H1 H' ∧ H.length ≤ H'.length ∧ LeadsB H1 H' [x]) : EffOk P f F := by
  refine ⟨fnOk hf hname (by simp [hb]), fun args H r H' hr g w d dh vs hd hw hH ha => ?_⟩
  obtain ⟨hown, x, H1, rfl, hbody, hweak, hle, hlead⟩ := hF args H r H' hr
  simp only [bodyX, hb] at hbody
  have hfr := Fr.enter hH hw (show dh ≤ d + 1 by omega) ha hown (fn.ntmps - args.length)
  have hlen := RepXs.length args vs ha
  refine calls_of_wp hf hb ?_
  have hsz : vs.toArray.size = args.length := by simp [hlen]
  rw [hsz]
  have hfr' : Fr g w (d + 1) dh { tm := args ++ List.replicate (fn.ntmps - args.length) .undef, H := H } { tmps := vs.toArray ++ Array.replicate (fn.ntmps - args.length) undef, defers := [] } := ⟨hfr.len, hfr.rep, hfr.heap, hfr.wf, hfr.le⟩
  refine codeK_sound hC hmix fuel c g w _ _ _ _ hfr' hbody (hL (d + 1) dh) fun e st' a' w' g' h1 h2 h3 h4 => ?_
  have fin : ∀ y, resultsX C fn st' = some y → y = x → st'.H = H1 → a'.defers = [] ∧ ∃ v, (results fn a'.tmps).run P w' = .ok v w' ∧ (∃ v_1 g', Ending.returned v = .returned v_1 ∧ RepX g' w' dh (.tmp (d + 1) 0) x.unown v_1 ∧ Ext g w g' w' d (fun κ => κ.deep (d + 1) ∨ κ.heap dh) ∧ WF g' w' ∧ HRep g' w' dh H') := by
    rintro y hx rfl rfl
    obtain ⟨v, κ, e1, e2, e3, e4⟩ := resultsX_sound hC.tys h2 fn hx
    refine ⟨h4, v, e1, v, g'.trunc dh H'.length, rfl, ?_, (h3.mono (Nat.le_succ d) (fun _ h => h)).trunc (.inr rfl) (by rw [← hH.1]; exact hle), h2.wf, h2.heap.hweak hweak⟩
    have hn : H'.length ≤ g'.N dh := by rw [← h2.heap.1]; exact hweak.1
    rcases hlead with hlead | hlead
    · have hg : g'.trunc dh H'.length = g' := by
        unfold Ghost.trunc
        rw [hlead, h2.heap.1]
        have : (fun h => if h = dh then g'.N dh else g'.N h) = g'.N := by
          funext x
          split
          · rename_i e; rw [e]
          · rfl
        rw [this]
      rw [hg]
      exact e2.unown'
    · simp only [belowBs, Bool.and_true] at hlead
      exact (RepX.trunc hn _ _ hlead e2).unown'
  cases e with
  | normal =>
    simp only at h1
    split at h1
    · rename_i y hx
      simp only [Option.some.injEq, Prod.mk.injEq] at h1
      exact fin y hx h1.1 h1.2
    · cases h1
  | ret =>
    simp only at h1
    split at h1
    · rename_i y hx
      simp only [Option.some.injEq, Prod.mk.injEq] at h1
      exact fin y hx h1.1 h1.2
    · cases h1
  | exit i => cases h1
  | goto l => cases h1

end Go.Proofs.Ytgickaihlebgmaa.V

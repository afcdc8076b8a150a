/-
  Chapter 10, automata: trie.Make does what it tells.
  It speaks of the pinned program alone; no condition.
-/
import Derived.Test.YtnbfiifkaddehaaTr3
namespace Go.Proofs.Ytnbfiifkaddehaa.V
open Go
set_option linter.unusedVariables false
set_option linter.unusedSimpArgs false

theorem okM_iff {l : List (List Int)} {m : Nat} {s : List Sta × List Int × List Ent} : okM l m s = true ↔ (s.2.1.length = l.length ∧ l.length ≤ 300 ∧ s.1.length ≤ 1 + m ∧ m ≤ 10000) ∧ (∀ w ∈ l, w.length ≤ 20) ∧ (∀ i ∈ s.2.1, 0 ≤ i ∧ i < s.1.length) ∧ (∀ e ∈ s.2.2, 0 ≤ e.2 ∧ e.2 < s.1.length) ∧ (∀ t ∈ s.1, t.2.1.length ≤ m) := by
  unfold okM
  simp only [Bool.and_eq_true, decide_eq_true_eq, List.all_eq_true, and_assoc]

theorem eqD_arc {a b : Arc} : eqD arcT a b = true ↔ a = b := by
  obtain ⟨a1, a2, a3⟩ := a
  obtain ⟨b1, b2, b3⟩ := b
  simp only [eqD, Bool.and_eq_true, beq_iff_eq, Prod.mk.injEq, and_true]
theorem look_some {mp : List Ent} {x : Arc} {v : Int} (h : look arcT mp x = some v) : (x, v) ∈ mp := by
  unfold look at h
  rw [Option.map_eq_some_iff] at h
  obtain ⟨e, h1, h2⟩ := h
  have h3 := List.find?_some h1
  have h4 := List.mem_of_find?_eq_some h1
  rw [eqD_arc] at h3
  subst h3
  subst h2
  exact h4
theorem look_none {mp : List Ent} {x : Arc} (h : look arcT mp x = none) : ∀ e ∈ mp, e.1 ≠ x := by
  unfold look at h
  rw [Option.map_eq_none_iff, List.find?_eq_none] at h
  intro e he hx
  exact h e he (eqD_arc.2 hx.symm)
theorem putM_none {mp : List Ent} {x : Arc} {v : Int} (h : ∀ e ∈ mp, e.1 ≠ x) : putM arcT mp x v = mp ++ [(x, v)] := by
  induction mp with
  | nil => rfl
  | cons e mp ih =>
    rw [putM, show eqD arcT x e.1 = false from Bool.eq_false_iff.2 fun hh => h e (by simp) (eqD_arc.1 hh).symm, cond_false, ih fun e he => h e (by simp [he])]
    rfl

theorem mem_set {α : Type} {l : List α} {i : Nat} {x y : α} (h : y ∈ l.set i x) : y ∈ l ∨ y = x := by
  rcases List.mem_or_eq_of_mem_set h with h | h
  · exact .inl h
  · exact .inr h

theorem inM_ok {l : List (List Int)} {m i : Nat} {n : Int} {s : List Sta × List Int × List Ent} (h : okM l m s = true) (hi : i < l.length) (hm : m + 1 ≤ 10000) : okM l (m + 1) (inM n (l.getD i []) i s) = true := by
  rw [okM_iff] at h ⊢
  obtain ⟨⟨h1, h2, h3, h4⟩, h5, h6, h7, h8⟩ := h
  obtain ⟨out, pos, mp⟩ := s
  simp only at h1 h3 h6 h7 h8
  unfold inM
  split
  · exact ⟨⟨h1, h2, by simp only; omega, hm⟩, h5, h6, h7, fun t ht => by have := h8 t ht; omega⟩
  · have hp := h6 _ (R.memG 0 (show i < pos.length by omega))
    split
    · rename_i to hto
      have hv := h7 _ (look_some hto)
      simp only at hv
      obtain ⟨k, rfl⟩ := Int.eq_ofNat_of_zero_le hv.1
      refine ⟨⟨by simp only [List.length_set]; exact h1, h2, by simp only [putFin, List.length_set]; omega, hm⟩, h5, fun j hj => ?_, fun e he => ?_, fun t ht => ?_⟩
      · simp only [putFin, List.length_set]
        rcases mem_set hj with hj | rfl
        · exact h6 j hj
        · exact hv
      · simp only [putFin, List.length_set]
        exact h7 e he
      · simp only [putFin] at ht
        rcases mem_set ht with ht | rfl
        · have := h8 t ht; omega
        · have := h8 _ (R.memG staZ (show (k : Int).toNat < out.length by simp only [Int.toNat_natCast]; omega))
          simp only
          omega
    · rename_i hto
      dsimp only at hto ⊢
      have hlen : (putFin (putArc (out ++ [staZ]) (pos.getD i 0).toNat ((l.getD i []).getD n.toNat 0, (out.length : Int), ())) out.length (n + 1 == ((l.getD i []).length : Int))).length = out.length + 1 := by
        simp [putFin, putArc]
      have hl2 : out.length < (putArc (out ++ [staZ]) (pos.getD i 0).toNat ((l.getD i []).getD n.toNat 0, (out.length : Int), ())).length := by simp [putArc]
      have hst : ∀ t ∈ putArc (out ++ [staZ]) (pos.getD i 0).toNat ((l.getD i []).getD n.toNat 0, (out.length : Int), ()), t.2.1.length ≤ m + 1 := by
        intro t ht
        simp only [putArc] at ht
        rcases mem_set ht with ht | rfl
        · rcases List.mem_append.1 ht with ht | ht
          · have := h8 t ht; omega
          · rw [List.mem_singleton.1 ht]; simp
        · simp only [List.length_append, List.length_singleton]
          have := h8 _ (R.memG staZ (show (pos.getD i 0).toNat < out.length by omega))
          rw [List.getD_eq_getElem?_getD, List.getElem?_append_left (by omega), ← List.getD_eq_getElem?_getD]
          omega
      refine ⟨⟨by rw [List.length_set]; exact h1, h2, by rw [hlen]; omega, hm⟩, h5, fun j hj => ?_, fun e he => ?_, fun t ht => ?_⟩
      · rw [hlen]
        rcases mem_set hj with hj | rfl
        · have := h6 j hj; omega
        · omega
      · rw [hlen]
        rw [putM_none (look_none hto)] at he
        rcases List.mem_append.1 he with he | he
        · have := h7 e he; omega
        · rw [List.mem_singleton.1 he]
          simp only
          omega
      · simp only [putFin] at ht
        rcases mem_set ht with ht | rfl
        · exact hst t ht
        · have := hst _ (R.memG staZ hl2)
          exact this

/-- One word's step, as the program does it. -/
theorem stepIn (l : List (List Int)) (n0 nl : Option Bool) (s : List Sta × List Int × List Ent) (n i m : Nat) (hn : n < 20) (hi : i < l.length) (h : okM l m s = true) : ∃ ex, ∀ k : Ex → List X → Hp → Option (Ex × List X × Hp),
    stepF (Cmk Ar.real (Lmk Ar.real)) 100 (loopAt Try.f10 1) 111 [0, 6, 7, 8, 9, 29, 33, 34, 35] [.sl wTy l n0 false, .pd arcT s.1, .mref (.int .i64) 0 [] 0 l.length, i64x n, .mp 1, i64x n, .sl wTy l nl false, i64x (l.length : Int), i64x (i : Int)] (mkH l.length s.2.1 s.2.2) k =
      k .normal [.sl wTy l n0 false, .pd arcT (inM n (l.getD i []) i s).1, .mref (.int .i64) 0 [] 0 l.length, i64x n, .mp 1, i64x n, .sl wTy l nl false, i64x (l.length : Int), i64x ((i + 1 : Nat) : Int)] (mkH l.length (inM n (l.getD i []) i s).2.1 (inM n (l.getD i []) i s).2.2 ++ ex) := by
  obtain ⟨⟨h1, h2, h3, h4⟩, h5, h6, h7, h8⟩ := okM_iff.1 h
  obtain ⟨out, pos, mp⟩ := s
  simp only at h1 h3 h6 h7 h8
  have hp := h6 _ (R.memG 0 (show i < pos.length by omega))
  have hne : out ≠ [] := by
    rintro rfl
    simp at hp
    omega
  have hne' : out.isEmpty = false := by
    cases out with
    | nil => exact absurd rfl hne
    | cons _ _ => rfl
  obtain ⟨w, hw⟩ : ∃ w, w = l.getD i (Ty.zero wTy) := ⟨_, rfl⟩
  have hw' : l.getD i [] = w := hw.symm
  obtain ⟨p, hpp⟩ : ∃ p : Nat, pos.getD i 0 = (p : Int) := ⟨_, Int.eq_ofNat_of_zero_le hp.1 |>.choose_spec⟩
  have hpl : p < out.length := by rw [hpp] at hp; omega
  have T := fun k => lIn Ar.real (Ex × List X × Hp) l n0 nl out l.length (n : Int) (l.length : Int) (i : Int) pos mp k
  simp only [Int.toNat_natCast, Nat.zero_add, rw_se, ← hw, hpp, R.wi1 (show i ≤ 9000000000000000000 by omega), R.wi1 (show n ≤ 9000000000000000000 by omega)] at T
  have hri : decide ((i : Int) < (l.length : Int)) = true := by rw [decide_eq_true_eq]; omega
  have hr2 : decide ((0 : Int) ≤ (i : Int) ∧ (i : Int) < (l.length : Int)) = true := by rw [decide_eq_true_eq]; omega
  rw [hw']
  unfold inM
  simp only [hpp, Int.toNat_natCast]
  by_cases hnw : (n : Int) ≥ (w.length : Int)
  · refine ⟨[], fun k => ?_⟩
    rw [T, bt hri, bt hr2, bt (decide_eq_true hnw), if_pos hnw]
    rfl
  · have hrn : decide ((0 : Int) ≤ (n : Int) ∧ (n : Int) < (w.length : Int)) = true := by rw [decide_eq_true_eq]; omega
    rw [if_neg hnw]
    cases hlk : look arcT mp (wayOf w n (p : Int)) with
    | some to =>
      have hv := h7 _ (look_some hlk)
      simp only at hv
      obtain ⟨t, rfl⟩ := Int.eq_ofNat_of_zero_le hv.1
      have hlk' : look (Ty.struct (Ty.prod (Ty.int IntKind.i64) (Ty.prod (Ty.int IntKind.i64) Ty.unit))) mp (w.getD n 0, (p : Int), ()) = some (t : Int) := hlk
      have hrt : decide ((0 : Int) ≤ (t : Int) ∧ (t : Int) < (out.length : Int)) = true := by rw [decide_eq_true_eq]; omega
      refine ⟨[(arcT, .d arcT (wayOf w n p)), (Ty.arr (List.length out) (stT arcT), X.dead), (Ty.bool, X.dead)], fun k => ?_⟩
      simp only [hlk', Option.isSome_some, Option.getD_some, Int.toNat_natCast] at T
      rw [T, bt hri, bt hr2, bf (decide_eq_false hnw), bt hr2, bt hrn, bf (c := !true) rfl, bt hr2, bf hne', bt hrt]
      simp only [putFin, staZ, Int.toNat_natCast]
      cases hf : (out.getD t (false, [], ())).1 with
      | false =>
        rw [bt (c := false == false) rfl, bt hrt, Bool.false_or]
        rfl
      | true =>
        rw [bf (c := true == false) rfl, bt hrt, Bool.true_or]
        rfl
    | none =>
      have hlk' : look (Ty.struct (Ty.prod (Ty.int IntKind.i64) (Ty.prod (Ty.int IntKind.i64) Ty.unit))) mp (w.getD n 0, (p : Int), ()) = none := hlk
      simp only [hlk', Option.isSome_none, Option.getD_none, Int.toNat_natCast] at T
      have hout : (out ++ [staZ]).length = out.length + 1 := by simp
      have hg1 : decide ((out.length + 1) * 32 ≤ 140737488355328) = true := by rw [decide_eq_true_eq]; omega
      have hg2 : (out ++ [(false, ([] : List Arc), ())]).isEmpty = false := by simp
      have hrp : decide ((0 : Int) ≤ (p : Int) ∧ (p : Int) < ((out ++ [(false, ([] : List Arc), ())]).length : Int)) = true := by rw [decide_eq_true_eq, List.length_append, List.length_singleton]; omega
      have hro : decide ((0 : Int) ≤ (out.length : Int) ∧ (out.length : Int) < ((out ++ [(false, ([] : List Arc), ())]).length : Int)) = true := by rw [decide_eq_true_eq, List.length_append, List.length_singleton]; omega
      have hsz : ((out ++ [(false, ([] : List Arc), ())]).getD p (false, [], ())).2.1.length ≤ 10000 := by
        rw [List.getD_eq_getElem?_getD, List.getElem?_append_left hpl, ← List.getD_eq_getElem?_getD]
        exact Nat.le_trans (h8 _ (R.memG _ hpl)) h4
      have hg3 : decide ((((out ++ [(false, ([] : List Arc), ())]).getD p (false, [], ())).2.1.length + [((w.getD n 0 : Int), (out.length : Int), ())].length) * 16 ≤ 140737488355328) = true := by
        rw [decide_eq_true_eq, List.length_singleton]; omega
      refine ⟨[(arcT, .d arcT (wayOf w n p)), (Ty.arr (List.length out) (stT arcT), X.dead), (Ty.bool, X.dead), (Ty.arr (List.length (out ++ [staZ])) (stT arcT), X.dead), (Ty.bool, X.dead)], fun k => ?_⟩
      rw [T, bt hri, bt hr2, bf (decide_eq_false hnw), bt hr2, bt hrn, bt (c := !false) rfl, bf hne', bt hg1, bf hg2, bt hrp, bt hrn, bt hg3, bt hrp, bt (decide_eq_true trivial), bt hr2, bt hro]
      simp only [putFin, putArc, staZ, Int.toNat_natCast]
      generalize hst : (out ++ [((false, ([] : List Arc), ()) : Sta)]).set p (((out ++ [(false, [], ())]).getD p (false, [], ())).1, ((out ++ [(false, [], ())]).getD p (false, [], ())).2.1 ++ [(w.getD n 0, (out.length : Int), ())], ()) = st
      cases hf : (st.getD out.length (false, [], ())).1 with
      | false =>
        rw [bt (c := false == false) rfl, bt hro, Bool.false_or]
        rfl
      | true =>
        rw [bf (c := true == false) rfl, bt hro, Bool.true_or]
        rfl

theorem frontB_mk (c : Nat) (pos : List Int) (mp : List Ent) (ex : Hp) : frontB (mkH c pos mp ++ ex) (mkH c pos mp) := ⟨rfl, .inl rfl, rfl, .inl rfl, by cases ex <;> exact trivial⟩

theorem loopIn (l : List (List Int)) (n0 nl : Option Bool) (n : Nat) (hn : n < 20) : ∀ (d i : Nat) (s : List Sta × List Int × List Ent), l.length - i = d → i ≤ l.length → okM l (n * l.length + i) s = true →
    LoopTo (Cmk Ar.real (Lmk Ar.real)) 100 (loopAt Try.f10 1) 111 [0, 6, 7, 8, 9, 29, 33, 34, 35] [.sl wTy l n0 false, .pd arcT s.1, .mref (.int .i64) 0 [] 0 l.length, i64x n, .mp 1, i64x n, .sl wTy l nl false, i64x (l.length : Int), i64x (i : Int)] (mkH l.length s.2.1 s.2.2)
      (.exit 2, [.sl wTy l n0 false, .pd arcT (inL n (l.drop i) i s).1, .mref (.int .i64) 0 [] 0 l.length, .dead, .dead, i64x n, .dead, .dead, .dead], mkH l.length (inL n (l.drop i) i s).2.1 (inL n (l.drop i) i s).2.2) := by
  intro d
  induction d with
  | zero =>
    intro i s h1 h2 h3
    rw [List.drop_eq_nil_iff.2 (by omega)]
    refine LoopTo.left (by simp) fun k => ?_
    rw [lIn, bf (by rw [decide_eq_false_iff_not]; omega)]
    exact ⟨_, rfl, R.fk (R.fk (R.fk (R.fd (R.fd (R.fk (R.fd (R.fd (R.fd (Forget.same _)))))))))⟩
  | succ d ih =>
    intro i s h1 h2 h3
    have hi : i < l.length := by omega
    obtain ⟨ex, hs⟩ := stepIn l n0 nl s n i _ hn hi h3
    have hl := (okM_iff.1 h3).1.2.1
    have hb : n * l.length ≤ 20 * 300 := Nat.mul_le_mul (by omega) hl
    have h4 := inM_ok (m := n * l.length + i) (n := n) h3 hi (by omega)
    rw [R.dropG [] hi, inL]
    exact LoopTo.weak hs (Forget.same _) (HWeak.of (frontB_mk ..) rfl) (by simp) (.inr rfl) (ih (i + 1) _ (by omega) (by omega) h4)

theorem inL_ok {l : List (List Int)} {n : Nat} (hn : n < 20) : ∀ (d i : Nat) (s : List Sta × List Int × List Ent), l.length - i = d → i ≤ l.length → okM l (n * l.length + i) s = true → okM l (n * l.length + l.length) (inL n (l.drop i) i s) = true := by
  intro d
  induction d with
  | zero =>
    intro i s h1 h2 h3
    rw [List.drop_eq_nil_iff.2 (by omega)]
    obtain rfl : i = l.length := by omega
    exact h3
  | succ d ih =>
    intro i s h1 h2 h3
    have hi : i < l.length := by omega
    have hl := (okM_iff.1 h3).1.2.1
    have hb : n * l.length ≤ 20 * 300 := Nat.mul_le_mul (by omega) hl
    rw [R.dropG [] hi, inL]
    exact ih (i + 1) _ (by omega) (by omega) (inM_ok (m := n * l.length + i) (n := n) h3 hi (by omega))

theorem okM_drop {l : List (List Int)} {m : Nat} {s : List Sta × List Int × List Ent} (h : okM l m s = true) : okM l m (s.1, s.2.1, []) = true := by
  rw [okM_iff] at h ⊢
  exact ⟨h.1, h.2.1, h.2.2.1, fun e he => by simp at he, h.2.2.2.2⟩

theorem loopOut (w : List Int) (l : List (List Int)) (n0 : Option Bool) : ∀ (d n : Nat) (out : List Sta) (pos : List Int), 20 - n = d → n ≤ 20 → okM (w :: l) (n * (w :: l).length) (out, pos, []) = true →
    LoopTo (Cmk Ar.real (Lmk Ar.real)) 100 (loopAt Try.f10 0) 111 [0, 6, 7, 29] [.sl wTy (w :: l) n0 false, .pd arcT out, .mref (.int .i64) 0 [] 0 (w :: l).length, i64x (n : Int)] [(.arr (w :: l).length (.int .i64), .d (.arr (w :: l).length (.int .i64)) pos)]
      (.exit 0, [.dead, .pd arcT (outL (w :: l) d n (out, pos)).1, .dead, .dead], [(.arr (w :: l).length (.int .i64), .d (.arr (w :: l).length (.int .i64)) (outL (w :: l) d n (out, pos)).2)]) := by
  intro d
  induction d with
  | zero =>
    intro n out pos h1 h2 h3
    refine LoopTo.left (by simp) fun k => ?_
    rw [lOut, bf (by rw [decide_eq_false_iff_not]; omega)]
    exact ⟨_, rfl, R.fd (R.fk (R.fd (R.fd (Forget.same _))))⟩
  | succ d ih =>
    intro n out pos h1 h2 h3
    have h5 := okM_drop (inL_ok (l := w :: l) (n := n) (by omega) _ 0 (out, pos, []) rfl (by omega) (by simpa using h3))
    rw [List.drop_zero, show n * (w :: l).length + (w :: l).length = (n + 1) * (w :: l).length from (Nat.succ_mul _ _).symm] at h5
    have h6 := ih (n + 1) _ _ (by omega) (by omega) h5
    rw [outL]
    have hcast : (n : Int) + 1 = ((n + 1 : Nat) : Int) := by omega
    rw [hcast]
    refine LoopTo.weak (H1 := mkH (w :: l).length (inL n (w :: l) 0 (out, pos, [])).2.1 (inL n (w :: l) 0 (out, pos, [])).2.2) (fun k => ?_) (Forget.same _) (HWeak.of (H' := [(.arr (w :: l).length (.int .i64), .d (.arr (w :: l).length (.int .i64)) (inL n (w :: l) 0 (out, pos, [])).2.1)]) ⟨rfl, .inl rfl, trivial⟩ rfl) (by simp) (.inr rfl) h6
    rw [lOut]
    simp only [rw_se, show Int.toNat 0 = 0 from rfl, List.drop_zero, R.wi1 (show n ≤ 9000000000000000000 by omega)]
    have e1 : ((n : Int) * ((w :: l).length : Int) + 0).toNat = n * (w :: l).length := by
      rw [Int.add_zero, ← Int.natCast_mul, Int.toNat_natCast]
    rw [bt (by rw [decide_eq_true_eq]; omega), bt (by
      rw [Bool.and_eq_true, decide_eq_true_eq, e1]
      exact ⟨⟨trivial, trivial, trivial, trivial, trivial, by omega, by omega, trivial, by omega, by omega⟩, h3⟩)]

theorem loopOutE (n0 : Option Bool) (out : List Sta) : ∀ (d n : Nat), 20 - n = d → n ≤ 20 →
    LoopTo (Cmk Ar.real (Lmk Ar.real)) 100 (loopAt Try.f10 0) 111 [0, 6, 7, 29] [.sl wTy [] n0 false, .pd arcT out, .sl (.int .i64) [] none false, i64x (n : Int)] [] (.exit 0, [.dead, .pd arcT out, .dead, .dead], []) := by
  intro d
  induction d with
  | zero =>
    intro n h1 h2
    refine LoopTo.left (by simp) fun k => ?_
    rw [lOutE, bf (by rw [decide_eq_false_iff_not]; omega)]
    exact ⟨_, rfl, R.fd (R.fk (R.fd (R.fd (Forget.same _))))⟩
  | succ d ih =>
    intro n h1 h2
    refine LoopTo.weak (H1 := mkE []) (fun k => ?_) (Forget.same _) (HWeak.of (H' := []) trivial rfl) (by simp) (.inr rfl) (ih (n + 1) (by omega) (by omega))
    rw [lOutE]
    simp only [rw_se, R.wi1 (show n ≤ 9000000000000000000 by omega)]
    rw [bt (by rw [decide_eq_true_eq]; omega), bt (by rw [decide_eq_true_eq]; exact ⟨trivial, trivial, trivial, rfl, trivial⟩)]

theorem pdOf_eq {x : X} {l : List Sta} (h : pdOf x = some l) : x = .pd arcT l := by
  unfold pdOf at h
  split at h
  · rename_i a xs
    obtain ⟨e1, e2⟩ := castTo_some h
    cases e1
    cases e2
    rfl
  · cases h
theorem entOf_eq {H : Hp} {q : Nat × Nat × List Int × List Ent} (h : entOf H = some q) : H = [(.arr q.1 (.int .i64), .d (.arr q.2.1 (.int .i64)) q.2.2.1), (.unit, .asc arcT (.int .i64) q.2.2.2)] := by
  unfold entOf at h
  split at h
  · split at h
    · rename_i mp' hm
      cases h
      obtain ⟨e1, e2⟩ := castTo_some hm
      cases e1
      cases e2
      rfl
    · cases h
  · cases h
theorem posOf_eq {x : X} {H : Hp} {q : Nat × Nat × Nat × List Int} (h : posOf x H = some q) : x = .mref (.int .i64) 0 [] 0 q.1 ∧ H = [(.arr q.2.1 (.int .i64), .d (.arr q.2.2.1 (.int .i64)) q.2.2.2)] := by
  unfold posOf at h
  split at h
  · cases h
    exact ⟨rfl, rfl⟩
  · cases h

theorem om1 : OOk (Om1 Ar.real) := OOk.none.add write_ok

theorem tells_in : Tells (Cmk Ar.real (Lmk Ar.real)) 100 (loopAt Try.f10 1) := by
  refine Tells.mk (key := 11) (N := 111) (ks := [0, 6, 7, 8, 9, 29, 33, 34, 35]) (F := LinF Ar.real) (by kernel_rfl) rfl fun xs H r h => ?_
  unfold LinF at h
  split at h
  · rename_i l0 n0 p c n n2 l nl m i
    split at h
    · rename_i out q hp hq
      have e1 := pdOf_eq hp
      have e2 := entOf_eq hq
      subst e1
      subst e2
      obtain ⟨hg, rfl⟩ := Tr.one h
      simp only [rw_se, Bool.and_eq_true, decide_eq_true_eq] at hg ⊢
      dsimp only [Ty.den] at hg
      obtain ⟨⟨h1, h2, h3, h4, h5, h6, h7, h8, h9, h10⟩, h11⟩ := hg
      obtain ⟨c1, c2, pos, mp⟩ := q
      dsimp only at h1 h2 h3 h11 ⊢
      subst h4
      subst h5
      subst h3
      subst h1
      subst h2
      subst h8
      obtain ⟨n, rfl⟩ := Int.eq_ofNat_of_zero_le h6
      obtain ⟨i, rfl⟩ := Int.eq_ofNat_of_zero_le h9
      have e1 : ((n : Int) * ((List.length l0 : Nat) : Int) + (i : Int)).toNat = n * List.length l0 + i := by
        rw [← Int.natCast_mul, ← Int.natCast_add, Int.toNat_natCast]
      rw [e1] at h11
      simp only [Int.toNat_natCast]
      exact loopIn l0 n0 nl n (by omega) _ i (out, pos, mp) rfl (by omega) h11
    · cases h
  · rename_i n0 p n n2 nl m i k v
    split at h
    · rename_i out hp
      have e1 := pdOf_eq hp
      subst e1
      obtain ⟨hg, rfl⟩ := Tr.one h
      simp only [rw_se, decide_eq_true_eq] at hg
      obtain ⟨h1, rfl, rfl, h2, h3⟩ := hg
      subst h1
      subst h2
      subst h3
      refine LoopTo.left (by simp) fun k => ?_
      rw [lInE]
      exact ⟨_, rfl, R.fk (R.fk (R.fk (R.fd (R.fd (R.fk (R.fd (R.fd (R.fd (Forget.same _)))))))))⟩
    · cases h
  · cases h

theorem tells_out : Tells (Cmk Ar.real (Lmk Ar.real)) 100 (loopAt Try.f10 0) := by
  refine Tells.mk (key := 7) (N := 111) (ks := [0, 6, 7, 29]) (F := LoutF Ar.real) (by kernel_rfl) rfl fun xs H r h => ?_
  unfold LoutF at h
  split at h
  · rename_i l n0 p y n
    split at h
    · split at h
      · rename_i out hp
        have e1 := pdOf_eq hp
        subst e1
        obtain ⟨hg, rfl⟩ := Tr.one h
        simp only [rw_se, decide_eq_true_eq] at hg
        dsimp only [Ty.den] at hg
        obtain ⟨n, rfl⟩ := Int.eq_ofNat_of_zero_le hg.1
        exact loopOutE n0 out _ n rfl (by omega)
      · cases h
    · rename_i l' H' hne
      split at h
      · rename_i out q hp hq
        have e1 := pdOf_eq hp
        obtain ⟨e2, e3⟩ := posOf_eq hq
        subst e1
        subst e2
        subst e3
        obtain ⟨hg, rfl⟩ := Tr.one h
        simp only [rw_se, Bool.and_eq_true, decide_eq_true_eq] at hg ⊢
        dsimp only [Ty.den] at hg
        obtain ⟨⟨h1, h2, h3, h4, h5, h7⟩, h6⟩ := hg
        obtain ⟨c, c1, c2, pos⟩ := q
        dsimp only at h1 h2 h3 h6 ⊢
        subst h3
        subst h1
        subst h2
        obtain ⟨n, rfl⟩ := Int.eq_ofNat_of_zero_le h4
        have e1 : ((n : Int) * ((List.length l : Nat) : Int)).toNat = n * List.length l := by rw [← Int.natCast_mul, Int.toNat_natCast]
        rw [e1] at h6
        have e2 : (20 - (n : Int)).toNat = 20 - n := by omega
        unfold outS outP
        rw [e2]
        match l, h6, h7 with
        | [], h6, h7 => simp at h7
        | w :: l, h6, h7 => exact loopOut w l n0 _ n out pos rfl (by omega) h6
      · cases h
  · cases h

theorem writeW_good {l : List (List Int)} (h : (writeW l).2 = 0) : l.length ≤ 300 ∧ (∀ w ∈ l, fitB w = true) ∧ R.Rises l := by
  unfold writeW at h
  split at h
  · simp at h
  · rename_i h1
    cases h2 : (l.any badB || (decide ((R.setL l).length ≠ l.length) || !(sortB l))) with
    | true => rw [h2] at h; simp at h
    | false =>
      rw [Bool.or_eq_false_iff] at h2
      exact ⟨by omega, any_bad h2.1, sorted_rises.1 h2.2⟩

theorem okM_start {l : List (List Int)} (h : (writeW l).2 = 0) : okM l 0 ([staZ], List.replicate l.length 0, []) = true := by
  obtain ⟨h1, h2, h3⟩ := writeW_good h
  rw [okM_iff]
  refine ⟨⟨by simp, h1, by simp, by omega⟩, fun w hw => (fitB_good (h2 w hw)).2.2.1, fun i hi => ?_, fun e he => by simp at he, fun t ht => ?_⟩
  · have := List.eq_of_mem_replicate hi
    subst this
    simp
  · have : t = staZ := by simpa using ht
    subst this
    simp

theorem make_ok : OrcOk Try.prog 10 (.pure (makeF Ar.real)) := by
  refine pureOk (CxF.ok om1 (Lmk Ar.real) Mmk noJ farMk) mixed 10 Try.f10 (by kernel_rfl) (by kernel_rfl) (by kernel_rfl) 100 2 (by kernel_rfl) (fun i h => ?_) fun args r h => ?_
  · have hi : i = 0 ∨ i = 1 := by omega
    rcases hi with rfl | rfl
    · exact tells_out
    · exact tells_in
  · unfold makeF at h
    split at h
    · rename_i l nl
      simp only [Tr.run, rw_se] at h
      cases l with
      | nil =>
        have e : (writeW []).2 = 0 := rfl
        rw [bt (decide_eq_true e)] at h
        cases h
        refine ⟨rfl, rfl, [], ?_⟩
        have T := tMkE Ar.real nl
        simp only [rw_se] at T
        rw [T, bf (c := (0 : Int) != 0) rfl, bt (by decide)]
        have : mkL [] = [staZ] := rfl
        rw [this]
      | cons w l =>
        by_cases e : (writeW (w :: l)).2 = 0
        · rw [bt (decide_eq_true e)] at h
          cases h
          refine ⟨rfl, rfl, [(.arr (List.length (w :: l)) (.int .i64), .d (.arr (List.length (List.replicate (List.length (w :: l)) (0 : Int))) (.int .i64)) (outP (w :: l) 0 [staZ] (List.replicate (List.length (w :: l)) 0)))], ?_⟩
          · have T := tMk Ar.real w l nl
            simp only [rw_se, List.length_replicate, Int.toNat_natCast] at T
            have hlen := (writeW_good e).1
            rw [T, bf (by rw [bne_eq_false_iff_eq]; exact e), bt (by rw [decide_eq_true_eq]; exact ⟨by omega, trivial, by omega, by omega⟩), bt (by
              rw [Bool.and_eq_true, decide_eq_true_eq]
              refine ⟨⟨trivial, trivial, trivial, by omega, by omega, by simp⟩, ?_⟩
              rw [show ((0 : Int) * ((w :: l).length : Int)).toNat = 0 by simp]
              exact okM_start e)]
            rfl
        · rw [bf (decide_eq_false e)] at h
          cases h
          refine ⟨rfl, rfl, [], ?_⟩
          · have T := tMk Ar.real w l nl
            simp only [rw_se] at T
            rw [T, bt (by rw [bne_iff_ne]; exact e)]
    · cases h

end Go.Proofs.Ytnbfiifkaddehaa.V

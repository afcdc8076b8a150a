/-
  Chapter 23: the statements, but the one on joined commands.
  It speaks of the pinned program alone; no condition.
-/
import Derived.Test.YtgickaihlebgmaaSc10
import Derived.Test.YtgickaihlebgmaaSc12
import Derived.Test.YtgickaihlebgmaaSc12a
import Derived.Test.YtgickaihlebgmaaSc12b
namespace Go.Proofs.Ytgickaihlebgmaa.V
open Go
set_option linter.unusedVariables false
set_option linter.unusedSimpArgs false

/-! What a command's form gives -/
theorem arg_bytes {x : X} (h : ArgOf (.slice (.int .u8)) x) : ∃ (b : List Int) (nl : Bool), x = u8s b (some nl) false ∧ bytesB b = true ∧ nlB nl b = true := by
  obtain ⟨xs, nl, rfl, hw, hn⟩ := h
  exact ⟨xs, nl, rfl, bytes_wf hw, hn⟩

theorem cmd_wf {c : Cm} (h : wfD cmdT c = true) : wfB c = true := by
  obtain ⟨k, a, b, n, m, u, ⟨⟩⟩ := c
  simp only [wfD, Bool.and_eq_true] at h
  obtain ⟨h1, h2, h3, h4, h5, h6, _⟩ := h
  have i1 : IntKind.i64.min = -9223372036854775808 := by decide
  have i2 : IntKind.i64.max = 9223372036854775807 := by decide
  have i3 : IntKind.u64.min = 0 := by decide
  have i4 : IntKind.u64.max = 18446744073709551615 := by decide
  have b1 := bytes_wf (b := a) (by simp only [wfD, Bool.and_eq_true]; exact h2)
  have b2 := bytes_wf (b := b) (by simp only [wfD, Bool.and_eq_true]; exact h3)
  have j1 := wfD_int (k := .i64) (by simp only [wfD, Bool.and_eq_true]; exact h1)
  have j4 := wfD_int (k := .i64) (by simp only [wfD, Bool.and_eq_true]; exact h4)
  have j5 := wfD_int (k := .u64) (by simp only [wfD, Bool.and_eq_true]; exact h5)
  have j6 := wfD_int (k := .i64) (by simp only [wfD, Bool.and_eq_true]; exact h6)
  exact wfB_iff.2 ⟨bytesB_iff.1 b1, bytesB_iff.1 b2, by dsimp only; omega⟩
theorem cmds_wf {l : List Cm} (h : wfD (.slice cmdT) l = true) : l.all wfB = true ∧ l.length ≤ 9223372036854775807 := by
  simp only [wfD, Bool.and_eq_true, decide_eq_true_eq] at h
  refine ⟨?_, by have : maxLen = 9223372036854775807 := by decide
                 have := h.1; omega⟩
  rw [List.all_eq_true]
  intro c hc
  exact cmd_wf (List.all_eq_true.1 h.2 c hc)
theorem arg_cmds {x : X} (h : ArgOf (.slice cmdT) x) : ∃ (l : List Cm) (nl : Bool), x = cms l (some nl) false ∧ l.all wfB = true ∧ l.length ≤ 9223372036854775807 := by
  obtain ⟨xs, nl, rfl, hw, hn⟩ := h
  exact ⟨xs, nl, rfl, (cmds_wf hw).1, (cmds_wf hw).2⟩
theorem arg_cmd {x : X} (h : ArgOf cmdT x) : ∃ c : Cm, x = cmx c ∧ wfB c = true := by
  obtain ⟨y, rfl, hw⟩ := h
  exact ⟨y, rfl, cmd_wf hw⟩

theorem small_iff {c : Cm} : small c = true ↔ c.2.1.length ≤ 3000 ∧ c.2.2.1.length ≤ 3000 := by simp [small]
theorem wfC_of {c : Cm} (h : wfB c = true) (h1 : c.2.1.length ≤ 10000000) (h2 : c.2.2.1.length ≤ 10000000) : wfC c := by
  obtain ⟨w1, w2, w3, w4, w5, w6, w7, w8⟩ := wfB_iff.1 h
  exact ⟨w1, w2, w5, w6, w7, w8, by omega, by omega⟩
theorem encC_small {c : Cm} (h : wfB c = true) (hs : small c = true) : (encC c).length ≤ 6100 := by
  obtain ⟨w1, w2, w3, w4, w5, w6, w7, w8⟩ := wfB_iff.1 h
  obtain ⟨s1, s2⟩ := small_iff.1 hs
  obtain ⟨k, a, b, n, m, u, ⟨⟩⟩ := c
  dsimp only at *
  have va := vb_len_le (n := a.length) (by omega)
  have vb' := vb_len_le (n := b.length) (by omega)
  have vn := vb_len_le (n := n.toNat) (by omega)
  have vm := vb_len_le (n := m.toNat) (by omega)
  have vu := vb_len_le (n := u.toNat) (by omega)
  have e2 : (txts [a, b]).length = (vb a.length).length + a.length + ((vb b.length).length + b.length) := by simp [txts, txt]; omega
  have e1 : (txts [a]).length = (vb a.length).length + a.length := by simp [txts, txt]
  have e0 : (txts []).length = 0 := rfl
  have f3 : (nums [n, m, u]).length = (vb n.toNat).length + ((vb m.toNat).length + (vb u.toNat).length) := by simp [nums]
  have f0 : (nums []).length = 0 := rfl
  unfold encC
  dsimp only
  rcases tx_cases k with ⟨_, e⟩ | ⟨_, e⟩ | ⟨_, _, _, _, e⟩ <;> rcases nm_cases k with ⟨_, e'⟩ | ⟨_, e'⟩ <;> rw [e, e'] <;> simp only [take2, take1, take0, take30, take33, List.length_cons, List.length_append, e2, e1, e0, f3, f0] <;> omega
theorem encs_small : ∀ {l : List Cm}, l.all wfB = true → l.all small = true → (encs l).length ≤ 6100 * l.length := by
  intro l
  induction l with
  | nil => intro _ _; simp [encs]
  | cons c l ih =>
    intro h1 h2
    rw [List.all_cons, Bool.and_eq_true] at h1 h2
    have := encC_small h1.1 h2.1
    have := ih h1.2 h2.2
    rw [encs_cons, List.length_append, List.length_cons]
    omega
theorem encs_ge : ∀ l : List Cm, l.length ≤ (encs l).length := by
  intro l
  induction l with
  | nil => simp
  | cons c l ih => rw [encs_cons, List.length_append, List.length_cons]; simp [encC]; omega
theorem wl_iff {l : List Cm} : wl l = true ↔ l.all wfB = true ∧ (encs l).length ≤ 10000000 ∧ l.length ≤ 10000000 := by
  simp only [wl, Bool.and_eq_true, decide_eq_true_eq]
theorem wl_few {l : List Cm} (h1 : l.all wfB = true) (h2 : l.all small = true) (h3 : l.length ≤ 1000) : wl l = true := by
  have := encs_small h1 h2
  exact wl_iff.2 ⟨h1, by omega, by omega⟩

/-- A list that may be written: what is written of it. -/
theorem good_write {l : List Cm} (hw : l.all wfB = true) (hs : l.all small = true) (hl : l.length ≤ 1000) (hc : l.all checkC = true) :
    writeB l = encs l ∧ writeE l = 0 ∧ readC (encs l) = some l ∧ Byts (encs l) ∧ (encs l).length ≤ 6100 * l.length ∧ (∀ c ∈ l, wfC c) := by
  have h1 := encs_small hw hs
  have hC : ∀ c ∈ l, wfC c := fun c hc' => by
    have := small_iff.1 (List.all_eq_true.1 hs c hc')
    exact wfC_of (List.all_eq_true.1 hw c hc') (by omega) (by omega)
  exact ⟨by simp [writeB, hc], by simp [writeE, hc], readC_encs hC hc (by omega), encs_byts hC hc, h1, hC⟩
theorem bad_write {l : List Cm} (hc : l.all checkC = false) : writeB l = [] ∧ writeE l = 230 := by
  simp [writeB, writeE, hc]
/-- What is read was written. -/
theorem good_read {b : List Int} {m : List Cm} (hb : Byts b) (hl : b.length ≤ 100000) (h : readC b = some m) :
    readR b = m ∧ readE b = 0 ∧ b = encs m ∧ m.all checkC = true ∧ m.all wfB = true ∧ m.length ≤ b.length ∧ wl m = true := by
  obtain ⟨e1, e2, e3⟩ := readC_some _ rfl hb (by omega) h
  have hw : m.all wfB = true := by
    rw [List.all_eq_true]
    intro c hc
    obtain ⟨w1, w2, w3, w4, w5, w6, w7, w8⟩ := e3 c hc
    have hk := List.all_eq_true.1 e2 c hc
    obtain ⟨k, a, b', n, m', u, ⟨⟩⟩ := c
    obtain ⟨hk1, _⟩ := checkC_iff.1 hk
    exact wfB_iff.2 ⟨w1, w2, by dsimp only at *; omega⟩
  have hg := encs_ge m
  rw [← e1] at hg
  exact ⟨by simp [readR, h], by simp [readE, h], e1, e2, hw, hg, wl_iff.2 ⟨hw, by rw [← e1]; omega, by omega⟩⟩
theorem bad_read {b : List Int} (h : readC b = none) : readR b = [] ∧ readE b = 230 := by simp [readR, readE, h]
theorem encs_ne {l m : List Cm} : True := trivial

/-! The checks are awake -/
theorem awake_ok : OrcOk Try.prog 8 (.pure awakeF) := by
  refine pureOk (Cx.ok o_sc7 noL) mixed 8 Try.f8 (by kernel_rfl) (by kernel_rfl) (by kernel_rfl) 100 0 (by kernel_rfl) (fun i h => by omega) fun args r h => ?_
  unfold awakeF at h
  split at h
  · cases h
    refine ⟨rfl, rfl, ?_⟩
    show Ends _ _
    rw [tAwake]
    simp only [rw_se]
    have v2 : vb 2 = [2] := vb_small (by decide)
    have v0 : vb 0 = [0] := vb_small (by decide)
    have v1 : vb 1 = [1] := vb_small (by decide)
    have v128 : vb 128 = [128, 1] := by rw [vb_big (by decide), vb_small (by decide)]; rfl
    generalize hL : ([(4, [97, 98], [], 0, 0, 0, ()), (3, [], [], 0, 0, 0, ()), (5, [], [], 1, 128, 2, ())] : List Cm) = L
    have hw : L.all wfB = true := by subst hL; decide
    have hs : L.all small = true := by subst hL; decide
    have hc : L.all checkC = true := by subst hL; decide
    have hl : L.length = 3 := by subst hL; rfl
    obtain ⟨g1, g2, g3, g4, g5, g6⟩ := good_write hw hs (by omega) hc
    have hE : encs L = [4, 2, 97, 98, 3, 5, 0, 1, 128, 1, 2] := by
      subst hL
      simp only [encs, encC, tx, nm, List.map_cons, List.map_nil, List.flatten_cons, List.flatten_nil]
      simp [txts, txt, nums, v2, v0, v1, v128]
    have hr : readR (encs L) = L := by simp [readR, g3]
    have hrE : readE (encs L) = 0 := by simp [readE, g3]
    have hw1 : wl [(3, [], [], 1, 0, 0, ())] = true := wl_few (by decide) (by decide) (by decide)
    have hx : writeE [(3, [], [], 1, 0, 0, ())] = 230 := by decide
    have hb2 : readE [2, 1] = 230 := by
      have t1 : takeV [1] = some (1, []) := by
        have := takeV_vb (v := 1) (by decide) []
        rw [v1] at this
        exact this
      have o1 : oneC [2, 1] = none := by
        rw [oneC, if_pos (by decide)]
        simp [oneTexts, tx, takeT, t1]
      have : readC [2, 1] = none := by
        rw [readC_step (by decide) (by decide) (by decide), o1]
      exact (bad_read this).2
    have hsq : Ar.real.seq (strOf (encs L)) { data := #[4, 2, 97, 98, 3, 5, 0, 1, 128, 1, 2] } = true := by
      rw [hE]
      have : (strOf [4, 2, 97, 98, 3, 5, 0, 1, 128, 1, 2]) = { data := #[4, 2, 97, 98, 3, 5, 0, 1, 128, 1, 2] } := by kernel_rfl
      rw [this]
      exact seq_self _
    rw [bt (wl_few hw hs (by omega)), g1, bt (by rw [decide_eq_true (by omega), bytesB_iff.2 g4, encs_isEmpty]; subst hL; rfl), bt hw1, bt (by rfl), bt (by rw [hsq]; rfl), g2, bt (by rfl), hrE, bt (by rfl), hr, bt (by rw [hw, decide_eq_true (by omega)]; rfl), eqCs_iff.2 rfl, bt (by rfl), hx, bt (by rfl), hb2, bt (by rfl), bt (by decide), bt (by decide)]
    exact Ends_some.2 rfl
  · cases h

theorem o_sc : OOk (Osc Ar.real) := o_sc7.add awake_ok

theorem gW {l : List Cm} (h : l.length ≤ 9223372036854775807) : decide (l.length ≤ 9223372036854775807) = true := decide_eq_true h
theorem gr {b : List Int} {nb : Bool} (h1 : b.length ≤ 10000000) (h2 : bytesB b = true) (h3 : nlB nb b = true) : (decide (b.length ≤ 10000000) && (bytesB b && nlB nb b)) = true := by
  rw [decide_eq_true h1, h2, h3]; rfl

theorem few_true {l : List Cm} (h : ¬ (l.all small = true ∧ l.length ≤ 100)) : (l.all small && decide ((l.length : Int) ≤ 100)) = false := by
  rw [Bool.eq_false_iff]
  intro h'
  rw [Bool.and_eq_true, decide_eq_true_eq] at h'
  exact h ⟨h'.1, by omega⟩

theorem tells23_ok : OrcOk Try.prog 3 (.pure (LawFc [.slice cmdT, cmdT, .slice (.int .u8)])) := by
  refine law_pure (Cx.ok o_sc noL) mixed 3 Try.f3 _ (by kernel_rfl) (by kernel_rfl) (by kernel_rfl) 200 0 (by kernel_rfl) (fun i h => by omega) fun args h => ?_
  obtain ⟨x, _, rfl, h1, h⟩ := h.cons
  obtain ⟨y, _, rfl, h2, h⟩ := h.cons
  obtain ⟨z, _, rfl, h3, h⟩ := h.cons
  obtain rfl := h.nil
  obtain ⟨l, nl, rfl, hw, hll⟩ := arg_cmds h1
  obtain ⟨c, rfl, hcw⟩ := arg_cmd h2
  obtain ⟨b, nb, rfl, hy, hn⟩ := arg_bytes h3
  show Ends _ _
  rw [tLtells]
  simp only [rw_se]
  rw [bt (gW hll)]
  by_cases hf : l.all small = true ∧ l.length ≤ 100
  · rw [bt (by rw [hf.1, decide_eq_true (show (l.length : Int) ≤ 100 by omega)]; rfl)]
    by_cases hb : b.length > 9000
    · rw [bd (by omega)]; exact Ends_some.2 rfl
    · have hwl := wl_few hw hf.1 (by omega)
      have hB := bytesB_iff.1 hy
      rw [bnd (by omega), bt hwl, bt hwl, bt (gr (by omega) hy hn), bt (gr (by omega) hy hn), seq_self, bt (by rfl), bt (by simp)]
      have hR : (readR b).length ≤ 1000000000 ∧ (readR b).all wfB = true := by
        cases hr : readC b with
        | none => rw [(bad_read hr).1]; exact ⟨by simp, rfl⟩
        | some m =>
          obtain ⟨q1, q2, q3, q4, q5, q6, q7⟩ := good_read hB (by omega) hr
          rw [q1]; exact ⟨by omega, q5⟩
      rw [bt (by rw [decide_eq_true hR.1, hR.2]; rfl), eqCs_iff.2 rfl, bt (by rfl), bt (by simp)]
      exact Ends_some.2 (by simp)
  · rw [bf (by rw [few_true hf]; rfl)]
    exact Ends_some.2 rfl

theorem loopBack (l : List Cm) (nl : Option Bool) (b : List Int) (nb : Option Bool) (up : Bool) (hl : l.length ≤ 100) : ∀ (q i : Nat) (may : Bool), l.length - i = q → i ≤ l.length →
    LoopTo (Cx Ar.real (Osc Ar.real) (Lback Ar.real)) 200 (loopAt Try.f4 0) 116 [0, 1, 5, 6, 7] [cms l nl false, .sl (.int .u8) b nb false, boolx up, boolx may, i64x i] []
      (.exit 0, [cms l nl false, u8s b nb false, boolx up, boolx (may && (l.drop i).all checkC), .dead], []) := by
  intro q
  induction q with
  | zero =>
    intro i may h1 h2
    have e1 : l.drop i = [] := by rw [List.drop_eq_nil_iff]; omega
    rw [e1]
    refine LoopTo.left (by simp) fun k => ?_
    rw [lLback, bnd (by omega)]
    simp only [List.all_nil, Bool.and_true]
    exact ⟨_, rfl, Forget.cons (.inr rfl) (Forget.cons (.inr rfl) (Forget.cons (.inr rfl) (Forget.cons (.inr rfl) (Forget.cons (.inl rfl) (Forget.same _)))))⟩
  | succ q ih =>
    intro i may h1 h2
    have hi : i < l.length := by omega
    have wi : IntKind.i64.wrap ((i : Int) + 1) = ((i + 1 : Nat) : Int) := by rw [wi64 (by omega) (by omega)]; omega
    rw [drop_cons' (Ty.zero cmdT) hi, List.all_cons, ← Bool.and_assoc]
    refine LoopTo.next (fun k => ?_) (ih (i + 1) (may && checkC (l.getD i (Ty.zero cmdT))) (by omega) (by omega))
    rw [lLback]
    simp only [Int.toNat_natCast, rw_wrap, rw_se, wi]
    cases may
    · rw [bd (by omega), bf (by rfl)]
      rfl
    · rw [bd (by omega), bt (by rfl), bd (by omega), Bool.true_and]

set_option maxRecDepth 4000 in
theorem back23_ok : OrcOk Try.prog 4 (.pure (LawFc [.slice cmdT, .slice (.int .u8)])) := by
  refine law_pure (Cx.ok o_sc (Lback Ar.real)) mixed 4 Try.f4 _ (by kernel_rfl) (by kernel_rfl) (by kernel_rfl) 200 1 (by kernel_rfl) (fun i h => ?_) fun args h => ?_
  · obtain rfl : i = 0 := by omega
    refine Tells.mk (key := 6) (N := 116) (ks := [0, 1, 5, 6, 7]) (F := LbackF Ar.real) (by kernel_rfl) rfl fun xs H r h => ?_
    unfold LbackF at h
    split at h
    · rename_i l nl b nb up may i
      obtain ⟨hg, hr⟩ := Tr.one h
      simp only [rw_se, decide_eq_true_eq] at hg hr
      dsimp only [Ty.den] at hg
      obtain ⟨h1, h2, h3⟩ := hg
      obtain ⟨j, rfl⟩ := Int.eq_ofNat_of_zero_le h2
      rw [Int.toNat_natCast] at hr
      subst hr
      exact loopBack l nl b nb up h1 _ j may rfl (by omega)
    · cases h
  · obtain ⟨x, _, rfl, h1, h⟩ := h.cons
    obtain ⟨z, _, rfl, h3, h⟩ := h.cons
    obtain rfl := h.nil
    obtain ⟨l, nl, rfl, hw, hll⟩ := arg_cmds h1
    obtain ⟨b, nb, rfl, hy, hn⟩ := arg_bytes h3
    show Ends _ _
    rw [tLback]
    simp only [rw_se, drop0, Bool.true_and]
    rw [bt (gW hll)]
    by_cases hf : l.all small = true ∧ l.length ≤ 100
    · rw [bt (by rw [hf.1, decide_eq_true (show (l.length : Int) ≤ 100 by omega)]; rfl)]
      by_cases hb : b.length > 9000
      · rw [bd (by omega)]; exact Ends_some.2 rfl
      · have hwl := wl_few hw hf.1 (by omega)
        have hB := bytesB_iff.1 hy
        rw [bnd (by omega), bd (by omega), bt hwl]
        have hW : (decide ((writeB l).length ≤ 10000000) && (bytesB (writeB l) && nlB (writeB l).isEmpty (writeB l))) = true := by
          have hi : ∀ s : List Int, nlB s.isEmpty s = true := fun s => by cases s <;> rfl
          cases hc : l.all checkC
          · rw [(bad_write hc).1]; rfl
          · obtain ⟨g1, g2, g3, g4, g5, g6⟩ := good_write hw hf.1 (by omega) hc
            rw [g1, decide_eq_true (by omega), bytesB_iff.2 g4, hi]; rfl
        rw [bt hW, bt (gr (by omega) hy hn)]
        have second : ∀ P : Bool, P = true → wl (readR b) = true ∧ ((bif P then (bif (readE b == 230) == true then bif (((readR b).length : Int) == 0) == false then bif (readE b == 0) == true then bif (writeE (readR b) == 0) == true then some (X.d Ty.bool (Ar.real.seq (strOf (writeB (readR b))) (strOf b)), ([] : Hp)) else some (X.d Ty.bool false, []) else some (X.d Ty.bool false, []) else some (X.d Ty.bool true, []) else bif (readE b == 0) == true then bif (writeE (readR b) == 0) == true then some (X.d Ty.bool (Ar.real.seq (strOf (writeB (readR b))) (strOf b)), []) else some (X.d Ty.bool false, []) else some (X.d Ty.bool false, [])) else none) = some (X.d Ty.bool true, [])) := by
          rintro P rfl
          cases hr : readC b with
          | none =>
            obtain ⟨q1, q2⟩ := bad_read hr
            rw [q1, q2]
            exact ⟨rfl, rfl⟩
          | some m =>
            obtain ⟨q1, q2, q3, q4, q5, q6, q7⟩ := good_read hB (by omega) hr
            rw [q1, q2]
            have e1 : writeE m = 0 := by simp [writeE, q4]
            have e2 : writeB m = b := by simp [writeB, q4, ← q3]
            rw [e1, e2, seq_self]
            exact ⟨q7, rfl⟩
        obtain ⟨s1, s2⟩ := second true rfl
        rw [bt s1]
        simp only [cond_true] at s2
        cases hc : l.all checkC
        · obtain ⟨g1, g2⟩ := bad_write hc
          rw [g1, g2]
          rw [bt (by rfl), bt (by rfl), bf (by rfl)]
          exact ⟨_, s2⟩
        · obtain ⟨g1, g2, g3, g4, g5, g6⟩ := good_write hw hf.1 (by omega) hc
          have hr : readR (encs l) = l := by simp [readR, g3]
          have hrE : readE (encs l) = 0 := by simp [readE, g3]
          rw [g1, g2, hr, hrE]
          rw [bf (by rfl), bt (by rfl), bt (by rfl), bt (by rfl), bt (by rw [hw, decide_eq_true (by omega)]; rfl), eqCs_iff.2 rfl, bt (by rfl)]
          exact ⟨_, s2⟩
    · rw [bf (by rw [few_true hf]; rfl)]
      exact Ends_some.2 rfl

theorem apart23_ok : OrcOk Try.prog 7 (.pure (LawFc [.slice cmdT, .slice cmdT, cmdT])) := by
  refine law_pure (Cx.ok o_sc noL) mixed 7 Try.f7 _ (by kernel_rfl) (by kernel_rfl) (by kernel_rfl) 200 0 (by kernel_rfl) (fun i h => by omega) fun args h => ?_
  obtain ⟨x, _, rfl, h1, h⟩ := h.cons
  obtain ⟨y, _, rfl, h2, h⟩ := h.cons
  obtain ⟨z, _, rfl, h3, h⟩ := h.cons
  obtain rfl := h.nil
  obtain ⟨l, nl, rfl, hw, hll⟩ := arg_cmds h1
  obtain ⟨m, nm, rfl, hw2, hmm⟩ := arg_cmds h2
  obtain ⟨c, rfl, hcw⟩ := arg_cmd h3
  show Ends _ _
  rw [tLapart]
  simp only [rw_se]
  rw [bt (gW hll)]
  by_cases hf : l.all small = true ∧ l.length ≤ 100
  · rw [bt (by rw [hf.1, decide_eq_true (show (l.length : Int) ≤ 100 by omega)]; rfl), bt (gW hmm)]
    by_cases hf2 : m.all small = true ∧ m.length ≤ 100
    · rw [bf (by rw [hf2.1, decide_eq_true (show (m.length : Int) ≤ 100 by omega)]; rfl), bt (wl_few hw hf.1 (by omega)), bt (wl_few hw2 hf2.1 (by omega))]
      have c1 : checkC c = true → checkC (c.1, c.2.1, c.2.2.1, c.2.2.2.1, c.2.2.2.2.1, -1, ()) = false ∧ checkC (c.1, c.2.1, [1], c.2.2.2.1, c.2.2.2.2.1, c.2.2.2.2.2.1, ()) = (c.1 == 1) ∧ checkC (c.1, c.2.1, c.2.2.1, c.2.2.2.1, 1, c.2.2.2.2.2.1, ()) = (c.1 == 5) := by
        obtain ⟨k, a, b', n, m', u, ⟨⟩⟩ := c
        intro hc
        have hc' := checkC_iff.1 hc
        refine ⟨?_, ?_, ?_⟩
        · rw [Bool.eq_false_iff]; intro h'; have := checkC_iff.1 h'; omega
        · rw [Bool.eq_iff_iff, checkC_iff, beq_iff_eq]; simp only [List.length_singleton]; (try dsimp only); omega
        · rw [Bool.eq_iff_iff, checkC_iff, beq_iff_eq]; (try dsimp only); omega
      have sq : l.all checkC = true → m.all checkC = true → (Ar.real.seq (strOf (writeB l)) (strOf (writeB m)) == eqCs l m) = true := by
        intro a1 a2
        obtain ⟨g1, g2, g3, g4, g5, g6⟩ := good_write hw hf.1 (by omega) a1
        obtain ⟨k1, k2, k3, k4, k5, k6⟩ := good_write hw2 hf2.1 (by omega) a2
        rw [g1, k1, seq_str g4 k4, beq_iff_eq, Bool.eq_iff_iff, decide_eq_true_eq, eqCs_iff]
        exact ⟨fun e => encs_inj g6 a1 k6 a2 (by omega) e, fun e => by rw [e]⟩
      have e1 : (writeE l = 0 ∧ l.all checkC = true) ∨ writeE l = 230 := by
        cases hc : l.all checkC
        · exact .inr (bad_write hc).2
        · exact .inl ⟨by simp [writeE, hc], rfl⟩
      have e2 : (writeE m = 0 ∧ m.all checkC = true) ∨ writeE m = 230 := by
        cases hc : m.all checkC
        · exact .inr (bad_write hc).2
        · exact .inl ⟨by simp [writeE, hc], rfl⟩
      have g0 : (decide (l.length ≤ 1000000000) && (l.all wfB && m.all wfB)) = true := by rw [hw, hw2, decide_eq_true (by omega)]; rfl
      rcases e1 with ⟨e1, a1⟩ | e1
      · rcases e2 with ⟨e2, a2⟩ | e2
        · rw [e1, e2, bt (by rfl), bt (by rfl), bt g0]
          cases hc : checkC c
          · rw [bf (by rfl)]
            first
              | exact Ends_some.2 (by rw [sq a1 a2])
              | (rw [bt (by rw [sq a1 a2]; rfl)]; exact Ends_some.2 rfl)
          · obtain ⟨d1, d2, d3⟩ := c1 hc
            rw [bt (by rfl), d1, d2, d3, bt (by rfl), bt (by simp), bt (by rw [sq a1 a2]; rfl)]
            exact Ends_some.2 (by simp)
        · rw [e1, e2, bt (by rfl), bf (by rfl)]
          cases hc : checkC c
          · rw [bf (by rfl)]
            exact Ends_some.2 rfl
          · obtain ⟨d1, d2, d3⟩ := c1 hc
            rw [bt (by rfl), d1, d2, d3, bt (by rfl), bt (by simp)]
            exact Ends_some.2 (by simp)
      · rw [e1, bf (by rfl)]
        cases hc : checkC c
        · rw [bf (by rfl)]
          exact Ends_some.2 rfl
        · obtain ⟨d1, d2, d3⟩ := c1 hc
          rw [bt (by rfl), d1, d2, d3, bt (by rfl), bt (by simp)]
          exact Ends_some.2 (by simp)
    · rw [bt (by rw [few_true hf2]; rfl)]
      exact Ends_some.2 rfl
  · rw [bf (by rw [few_true hf]; rfl)]
    exact Ends_some.2 rfl

end Go.Proofs.Ytgickaihlebgmaa.V

/-
  Chapter 14: the statements on sums, but the one on bits that are changed.
  It speaks of the pinned program alone; no condition.
-/
import Derived.Test.YtnjjloffhbfenaaCrc6
import Derived.Test.YtnjjloffhbfenaaCrc8
namespace Go.Proofs.Ytnjjloffhbfenaa.V
open Go
set_option linter.unusedVariables false
set_option linter.unusedSimpArgs false

theorem arg_bytes {x : X} (h : ArgOf (.slice (.int .u8)) x) : ∃ (b : List Int) (nl : Bool), x = u8s b (some nl) false ∧ bytesB b = true ∧ nlB nl b = true := by
  obtain ⟨xs, nl, rfl, hw, hn⟩ := h
  exact ⟨xs, nl, rfl, bytes_wf hw, hn⟩

theorem dle {n m : Nat} (h : n ≤ m) : decide (n ≤ m) = true := decide_eq_true h

theorem tells_ok : OrcOk Try.prog 3 (.pure (LawFc [.slice (.int .u8)])) := by
  refine law_pure (Cx.ok o_awake noL) mixed 3 Try.f3 _ (by kernel_rfl) (by kernel_rfl) (by kernel_rfl) 200 0 (by kernel_rfl) (fun i h => by omega) fun args h => ?_
  obtain ⟨x, _, rfl, h1, h⟩ := h.cons
  obtain rfl := h.nil
  obtain ⟨b, nl, rfl, hy, hn⟩ := arg_bytes h1
  refine ⟨[], ?_⟩
  rw [tTells]
  by_cases hb : b.length > 1000
  · rw [bt (by rw [decide_eq_true_eq]; omega)]
  · rw [bf (by rw [decide_eq_false_iff_not]; omega)]
    simp only [rw_se, hy, hn, dle (show b.length ≤ 100000 by omega), seq_self, Bool.and_self, beq_self_eq_true, cond_true]

theorem sealLaw_ok : OrcOk Try.prog 6 (.pure (LawFc [.slice (.int .u8)])) := by
  refine law_pure (Cx.ok o_awake noL) mixed 6 Try.f6 _ (by kernel_rfl) (by kernel_rfl) (by kernel_rfl) 200 0 (by kernel_rfl) (fun i h => by omega) fun args h => ?_
  obtain ⟨x, _, rfl, h1, h⟩ := h.cons
  obtain rfl := h.nil
  obtain ⟨b, nl, rfl, hy, hn⟩ := arg_bytes h1
  refine ⟨[], ?_⟩
  rw [tSealLaw]
  by_cases hb : b.length > 1000
  · rw [bt (by rw [decide_eq_true_eq]; omega)]
  · rw [bf (by rw [decide_eq_false_iff_not]; omega)]
    have hB := byt_drop hy
    have s1 := sealB_byt hB
    have s2 := sealB_byt s1
    have s0 : Byt (sealB []) := sealB_byt (fun x hx => by cases hx)
    have l1 := sealB_len b
    have l2 := sealB_len (sealB b)
    have l0 : (sealB []).length = 4 := sealB_len []
    have y1 := bytesB_iff.2 s1
    have y2 := bytesB_iff.2 s2
    have y0 := bytesB_iff.2 s0
    have e1 := sum_seal hB
    have e2 := sum_seal s1
    have e0 := sum_seal (b := []) (fun x hx => by cases hx)
    have hw : Ar.real.wrap .i64 ((b.length : Int) + 4) = ((b.length + 4 : Nat) : Int) := by rw [rw_wrap, wi64 (by omega) (by omega)]; rfl
    simp only [rw_se, hy, hn, y0, y1, y2, e0, e1, e2, hw, l1, dle (show b.length ≤ 100000 by omega), dle (show b.length + 4 ≤ 100000 by omega), dle (show (sealB (sealB b)).length ≤ 100000 by omega), dle (show (sealB []).length ≤ 100000 by omega), nlB_false, Bool.and_self, beq_self_eq_true, cond_true]
    rfl

theorem xor3_take : ∀ (a b c : List Int), xor3 a b c = xor3 a (b.take a.length) (c.take a.length) := by
  intro a
  induction a with
  | nil => intro b c; simp [xor3]
  | cons x a ih =>
    intro b c
    cases b with
    | nil => simp [xor3]
    | cons y b =>
      cases c with
      | nil => simp [xor3]
      | cons z c => simp only [List.length_cons, List.take_succ_cons, xor3]; rw [ih b c]

theorem loopThree (a : List Int) (na : Bool) (b : List Int) (nb : Bool) (c : List Int) (nc up : Bool) (hl : a.length ≤ 300) (hb : a.length ≤ b.length) (hc : a.length ≤ c.length) (ya : Byt a) (yb : Byt b) (yc : Byt c) :
    ∀ (n i : Nat) (d : List Int) (nd : Bool), a.length - i = n → i ≤ a.length → d.length = i →
    LoopTo (Cx Ar.real (Oawake Ar.real) (Lthree Ar.real)) 200 (loopAt Try.f5 0) 73 [0, 1, 2, 7, 8, 9] [u8s a (some na) false, u8s b (some nb) false, u8s c (some nc) false, boolx up, u8s d (some nd) true, i64x i] []
      (.exit 0, [u8s a (some na) false, u8s b (some nb) false, u8s c (some nc) false, boolx up, u8s (d ++ xor3 (a.drop i) (b.drop i) (c.drop i)) (some (nd && (a.drop i).isEmpty)) true, i64x (a.length : Int)], []) := by
  intro n
  induction n with
  | zero =>
    intro i d nd h1 h2 h3
    have ei : i = a.length := by omega
    have e1 : a.drop i = [] := by rw [List.drop_eq_nil_iff]; omega
    refine LoopTo.done (by simp) fun k => ?_
    rw [lThree, bf (by rw [decide_eq_false_iff_not]; omega), e1, ← ei]
    simp [xor3]
  | succ n ih =>
    intro i d nd h1 h2 h3
    have hi : i < a.length := by omega
    have qa := ya _ (getD_mem hi)
    have qb := yb _ (getD_mem (show i < b.length by omega))
    have qc := yc _ (getD_mem (show i < c.length by omega))
    rw [drop_cons hi, drop_cons (b := b) (i := i) (by omega), drop_cons (b := c) (i := i) (by omega), xor3]
    generalize hx : a.getD i 0 = x at qa
    generalize hy : b.getD i 0 = y at qb
    generalize hz : c.getD i 0 = z at qc
    obtain ⟨x, rfl⟩ := Int.eq_ofNat_of_zero_le qa.1
    obtain ⟨y, rfl⟩ := Int.eq_ofNat_of_zero_le qb.1
    obtain ⟨z, rfl⟩ := Int.eq_ofNat_of_zero_le qc.1
    have hxy : x ^^^ y < 2 ^ 8 := Nat.xor_lt_two_pow (by omega) (by omega)
    have hxyz : x ^^^ y ^^^ z < 2 ^ 8 := Nat.xor_lt_two_pow hxy (by omega)
    have hw : Ar.real.wrap .u8 (Ar.real.bxor 8 (Ar.real.wrap .u8 (Ar.real.bxor 8 (x : Int) (y : Int))) (z : Int)) = ((x ^^^ y ^^^ z : Nat) : Int) := by
      rw [bxor_nat (n := 8) (a := x) (b := y) (by omega) (by omega), rw_wrap .u8 ((x ^^^ y : Nat) : Int), wu8 (n := ((x ^^^ y : Nat) : Int)) (by omega) (by omega), bxor_nat (n := 8) hxy (by omega), rw_wrap, wu8 (by omega) (by omega)]
    have hk : Ar.real.wrap .i64 ((i : Int) + 1) = ((i + 1 : Nat) : Int) := by rw [rw_wrap, wi64 (by omega) (by omega)]; rfl
    have e1 : d ++ ((x ^^^ y ^^^ z : Nat) : Int) :: xor3 (a.drop (i + 1)) (b.drop (i + 1)) (c.drop (i + 1)) = d ++ [((x ^^^ y ^^^ z : Nat) : Int)] ++ xor3 (a.drop (i + 1)) (b.drop (i + 1)) (c.drop (i + 1)) := by simp
    have e2 : (nd && (((x : Nat) : Int) :: a.drop (i + 1)).isEmpty) = (false && (a.drop (i + 1)).isEmpty) := by simp
    simp only [Int.toNat_natCast]
    rw [e1, e2]
    refine LoopTo.next (fun K => ?_) (ih (i + 1) _ false (by omega) (by omega) (by simp [h3]))
    rw [lThree]
    simp only [Int.toNat_natCast, hx, hy, hz, hw, hk]
    rw [bt (by rw [decide_eq_true_eq]; omega), bt (by rw [decide_eq_true_eq]; omega), bt (by rw [decide_eq_true_eq]; omega), bt (by rw [decide_eq_true_eq]; omega), bt (by rw [decide_eq_true_eq]; simp; omega)]
    simp

theorem three_ok : OrcOk Try.prog 5 (.pure (LawFc [.slice (.int .u8), .slice (.int .u8), .slice (.int .u8)])) := by
  refine law_pure (Cx.ok o_awake (Lthree Ar.real)) mixed 5 Try.f5 _ (by kernel_rfl) (by kernel_rfl) (by kernel_rfl) 200 1 (by kernel_rfl) (fun i h => ?_) fun args h => ?_
  · obtain rfl : i = 0 := by omega
    refine Tells.mk (key := 6) (N := 73) (ks := [0, 1, 2, 7, 8, 9]) (F := LthreeF Ar.real) (by kernel_rfl) rfl fun xs H r h => ?_
    unfold LthreeF at h
    split at h
    · rename_i a na b nb c nc up d nd i
      obtain ⟨hg, rfl⟩ := Tr.one h
      simp only [rw_se, Bool.and_eq_true, decide_eq_true_eq, bytesB_iff] at hg ⊢
      dsimp only [Ty.den] at hg
      obtain ⟨h1, h2, h3, h4, h5, h6, h7, h8, h9⟩ := hg
      obtain ⟨m, rfl⟩ := Int.eq_ofNat_of_zero_le h7
      simp only [Int.toNat_natCast]
      exact loopThree a na b nb c nc up h4 h5 h6 h1 h2 h3 _ m d nd rfl (by omega) (by omega)
    · cases h
  · obtain ⟨x, _, rfl, h1, h⟩ := h.cons
    obtain ⟨y, _, rfl, h2, h⟩ := h.cons
    obtain ⟨z, _, rfl, h3, h⟩ := h.cons
    obtain rfl := h.nil
    obtain ⟨a, na, rfl, ya, ma⟩ := arg_bytes h1
    obtain ⟨b, nb, rfl, yb, mb⟩ := arg_bytes h2
    obtain ⟨c, nc, rfl, yc, mc⟩ := arg_bytes h3
    refine ⟨[], ?_⟩
    rw [tThree]
    by_cases g1 : a.length > 300
    · rw [bf (by rw [show decide ((a.length : Int) > 300) = true from by rw [decide_eq_true_eq]; omega]; rfl)]
    · rw [bt (by rw [show decide ((a.length : Int) > 300) = false from by rw [decide_eq_false_iff_not]; omega]; rfl)]
      by_cases g2 : b.length < a.length
      · rw [bf (by rw [show decide ((b.length : Int) < (a.length : Int)) = true from by rw [decide_eq_true_eq]; omega]; rfl)]
      · rw [bt (by rw [show decide ((b.length : Int) < (a.length : Int)) = false from by rw [decide_eq_false_iff_not]; omega]; rfl)]
        by_cases g3 : c.length < a.length
        · rw [bt (by rw [decide_eq_true_eq]; omega)]
        · rw [bf (by rw [decide_eq_false_iff_not]; omega)]
          have hbl : (b.take a.length).length = a.length := by rw [List.length_take]; omega
          have hcl : (c.take a.length).length = a.length := by rw [List.length_take]; omega
          have YA := byt_drop ya
          have YB := byt_drop (bytesB_take yb a.length)
          have YC := byt_drop (bytesB_take yc a.length)
          have hx := xor3_take a b c
          have hxl : (xor3 a b c).length = a.length := by rw [hx]; exact xor3_len _ _ _ hbl hcl
          have hxy : bytesB (xor3 a b c) = true := by rw [hx]; exact bytesB_iff.2 (xor3_num _ _ _ YA YB YC hbl hcl).2
          have hs : sumB (xor3 a b c) = sumB a ^^^ sumB (b.take a.length) ^^^ sumB (c.take a.length) := by rw [hx]; exact sum3 YA YB YC hbl hcl
          have z : Int.toNat 0 = 0 := rfl
          have n1 := sumB_lt YA
          have n2 := sumB_lt YB
          have n3 := sumB_lt YC
          have n4 : sumB a ^^^ sumB (b.take a.length) < 2 ^ 32 := Nat.xor_lt_two_pow n1 n2
          have n5 : sumB a ^^^ sumB (b.take a.length) ^^^ sumB (c.take a.length) < 2 ^ 32 := Nat.xor_lt_two_pow n4 n3
          simp only [rw_se, z, List.drop_zero, List.nil_append, Int.toNat_natCast, ya, yb, yc, hxy, bytesB_take yb, bytesB_take yc, Bool.true_and, Bool.and_true]
          rw [bt (by rw [decide_eq_true_eq]; omega), bt (by rw [decide_eq_true_eq]; omega), bt (by rw [decide_eq_true_eq]; omega), bt (by rw [decide_eq_true_eq]; omega), bt (by rw [decide_eq_true_eq]; omega), bt (by rw [decide_eq_true_eq]; omega), bt (by rw [decide_eq_true_eq]; omega)]
          rw [bxor_nat (n := 32) n1 n2, rw_wrap .u32 ((_ : Nat) : Int), wu32 (n := ((sumB a ^^^ sumB (b.take a.length) : Nat) : Int)) (by omega) (by omega), bxor_nat (n := 32) n4 n3, rw_wrap, wu32 (by omega) (by omega), hs]
          simp

end Go.Proofs.Ytnjjloffhbfenaa.V

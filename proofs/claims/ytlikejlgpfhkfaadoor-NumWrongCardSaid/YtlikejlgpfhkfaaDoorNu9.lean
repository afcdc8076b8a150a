/-
  Chapter 05, numbers: the statements: NumWrong, NumCuts.
  It speaks of the pinned program alone; no condition.
-/
import Derived.Test.YtlikejlgpfhkfaaDoorNu8
namespace Go.Proofs.YtlikejlgpfhkfaaDoor.V
open Go
set_option linter.unusedVariables false
set_option linter.unusedSimpArgs false

theorem bytes_app {a b : List Int} (ha : bytesB a = true) (hb : bytesB b = true) : bytesB (a ++ b) = true := by
  rw [bytesB_iff] at *
  intro x hx
  rcases List.mem_append.1 hx with hx | hx
  · exact ha x hx
  · exact hb x hx
theorem bytes_sub {a b : List Int} (hb : bytesB b = true) (h : ∀ x ∈ a, x ∈ b) : bytesB a = true := by
  rw [bytesB_iff] at *
  exact fun x hx => hb x (h x hx)
theorem bytes_one {x : Int} (h : 0 ≤ x ∧ x < 256) : bytesB [x] = true := by
  rw [bytesB_iff]
  intro y hy
  simp at hy
  omega
theorem set_mem {l : List Int} {k : Nat} {x : Int} (hk : k < l.length) : x ∈ l.set k x := by
  rw [List.mem_iff_getElem?]
  exact ⟨k, by rw [List.getElem?_set_self hk]⟩
theorem bytes_set {l : List Int} {k : Nat} {x : Int} (hl : bytesB l = true) (hx : 0 ≤ x ∧ x < 256) : bytesB (l.set k x) = true := by
  rw [bytesB_iff] at *
  intro y hy
  rcases List.mem_or_eq_of_mem_set hy with h | h
  · exact hl y h
  · omega

theorem wrong_law (c a x : Int) (hc : isU64 c = true) (ha : 0 ≤ a ∧ a < 256) (hx : 0 ≤ x ∧ x < 256) : ∃ H', bodyX (CxM Ar.real (On8 Ar.real) noL Mwr) 100 Tryd.f6 [u64x c, u8x a, u8x x] [] = some (boolx true, H') := by
  rw [tWrong]
  have hl := dig_len hc
  have hw := digs_bytes c.toNat
  generalize digs c.toNat = w at hl hw
  simp only [rw_se, rw_wrap, hc, cond_true]
  rw [wi64 (n := a) (by omega) (by omega)]
  obtain ⟨q, rfl⟩ : ∃ q : Nat, a = (q : Int) := Int.eq_ofNat_of_zero_le ha.1
  have e1 : Int.tmod (q : Int) (w.length : Int) = ((q % w.length : Nat) : Int) := ntmod q w.length
  have hk : q % w.length < w.length := Nat.mod_lt _ (by omega)
  generalize q % w.length = k at e1 hk
  simp only [e1, Int.toNat_natCast, List.nil_append, List.drop_zero, Nat.zero_add]
  by_cases hd : 48 ≤ x ∧ x ≤ 57
  · have f1 : decide (x ≥ 48) = true := decide_eq_true hd.1
    have f2 : decide (x ≤ 57) = true := decide_eq_true hd.2
    simp only [f1, f2]
    exact ⟨_, rfl⟩
  · have hnd : isDig x = false := by rw [Bool.eq_false_iff, Ne, isDig_iff]; exact hd
    have f3 : ((w.length : Int) == 0) = false := by rw [beq_eq_false_iff_ne]; omega
    have f4 : decide ((w.length : Int) = 0) = false := decide_eq_false (by omega)
    have f5 : decide (w.length * 1 ≤ 140737488355328) = true := decide_eq_true (by omega)
    have f6 : w.isEmpty = false := by cases w with | nil => simp at hl | cons _ _ => rfl
    have f7 : decide (0 ≤ (k : Int) ∧ (k : Int) < (w.length : Int)) = true := decide_eq_true (by omega)
    have f8 : decide (0 ≤ (k : Int) ∧ (k : Int) ≤ (w.length : Int)) = true := decide_eq_true (by omega)
    have lk : (w.take k).length = k := by rw [List.length_take]; omega
    have ld : (w.drop k).length = w.length - k := List.length_drop
    have ls : (w.set k x).length = w.length := by simp
    have lt : List.take w.length (w.set k x) = w.set k x := List.take_of_length_le (by rw [ls]; exact Nat.le_refl _)
    have f9 : decide ((w.take k).length * 1 ≤ 140737488355328) = true := decide_eq_true (by omega)
    have f10 : decide (((w.take k).length + [x].length) * 1 ≤ 140737488355328) = true := decide_eq_true (by rw [List.length_singleton]; omega)
    have f11 : decide (((w.take k ++ [x]).length + (w.drop k).length) * 1 ≤ 140737488355328) = true := decide_eq_true (by rw [List.length_append, List.length_singleton]; omega)
    have f12 : decide ((w.length + [x].length) * 1 ≤ 140737488355328) = true := decide_eq_true (by rw [List.length_singleton]; omega)
    have b1 : bytesB (w.set k x) = true := bytes_set hw hx
    have b2 : bytesB (w.take k ++ [x] ++ w.drop k) = true := bytes_app (bytes_app (bytes_sub hw fun y hy => List.mem_of_mem_take hy) (bytes_one hx)) (bytes_sub hw fun y hy => List.mem_of_mem_drop hy)
    have b3 : bytesB (w ++ [x]) = true := bytes_app hw (bytes_one hx)
    have g1 : decide ((w.set k x).length ≤ 1000000000) = true := decide_eq_true (by omega)
    have g2 : decide ((w.take k ++ [x] ++ w.drop k).length ≤ 1000000000) = true := decide_eq_true (by rw [List.length_append, List.length_append, List.length_singleton]; omega)
    have g3 : decide ((w ++ [x]).length ≤ 1000000000) = true := decide_eq_true (by rw [List.length_append, List.length_singleton]; omega)
    have r1 : readE (w.set k x) = 50 := (read_none (readN_wrong (set_mem hk) hnd)).2
    have r2 : readE (w.take k ++ [x] ++ w.drop k) = 50 := (read_none (readN_wrong (x := x) (by simp) hnd)).2
    have r3 : readE (w ++ [x]) = 50 := (read_none (readN_wrong (x := x) (by simp) hnd)).2
    have f1 : (decide (x ≥ 48) == true) = decide (x ≥ 48) := by cases decide (x ≥ 48) <;> rfl
    refine ⟨[(Ty.arr w.length (Ty.int IntKind.u8), X.dead)], ?_⟩
    simp only [lt, f3, f4, f5, f6, f7, f8, f9, f10, f11, f12, b1, b2, b3, g1, g2, g3, r1, r2, r3]
    by_cases h48 : x ≥ 48
    · have f2 : decide (x ≤ 57) = false := decide_eq_false (by omega)
      simp only [f2, decide_eq_true h48]
      rfl
    · simp only [decide_eq_false h48]
      rfl

/-! Cuts. -/
theorem tenths_nat (n k : Nat) : tenths (n : Int) k = ((n / 10 ^ k : Nat) : Int) := by
  unfold tenths
  rw [Int.natCast_ediv, Int.natCast_pow]
  rfl
theorem digs_cut : ∀ (k n : Nat), n < 100000000000000000000 → k < (digs n).length → digs (n / 10 ^ k) = (digs n).take ((digs n).length - k)
  | 0, n, _, _ => by simp
  | k + 1, n, hn, hk => by
    by_cases h10 : n < 10
    · rw [digs_small h10] at hk
      simp at hk
    · have e := digs_big (n := n) (by omega) hn
      have hl : (digs n).length = (digs (n / 10)).length + 1 := by rw [e]; simp
      have ih := digs_cut k (n / 10) (by omega) (by omega)
      rw [Nat.div_div_eq_div_mul] at ih
      rw [Nat.pow_succ, Nat.mul_comm (10 ^ k) 10, ih, hl, e]
      rw [List.take_append_of_le_length (by omega)]
      congr 1
      omega

theorem cut_loop {w : List Int} {nl : Option Bool} {o u : Bool} {c x e : Int} (hl : w.length ≤ 1000) : ∀ (m i n : Nat), w.length - i = m → i ≤ w.length → n < 18446744073709551616 →
    LoopTo (Cx Ar.real (On8 Ar.real) (Lc Ar.real)) 100 (loopAt Tryd.f7 0) 71 [0, 5, 6, 8, 9, 10, 11] [u64x c, boolx u, .sl (.int .u8) w nl o, u64x x, i64x e, u64x n, i64x i] []
      (.exit 0, [u64x c, boolx u, .sl (.int .u8) w nl o, u64x x, i64x e, u64x (tenths n (w.length - i)), .dead], []) := by
  intro m
  induction m with
  | zero =>
    intro i n h1 h2 h3
    obtain rfl : i = w.length := by omega
    rw [Nat.sub_self, tenths_nat, Nat.pow_zero, Nat.div_one]
    refine LoopTo.left (by simp) fun k => ⟨_, by rw [lCut, bf (by rw [decide_eq_false_iff_not]; omega)], ?_⟩
    repeat' first | exact Forget.same _ | refine Forget.cons (.inl rfl) ?_ | refine Forget.cons (.inr rfl) ?_
  | succ m ih =>
    intro i n h1 h2 h3
    have hn : n / 10 < 18446744073709551616 := by omega
    have := ih (i + 1) (n / 10) (by omega) (by omega) hn
    have e1 : tenths ((n / 10 : Nat) : Int) (w.length - (i + 1)) = tenths (n : Int) (w.length - i) := by
      rw [tenths_nat, tenths_nat, Nat.div_div_eq_div_mul, show w.length - i = (w.length - (i + 1)) + 1 by omega, Nat.pow_succ, Nat.mul_comm]
    rw [e1] at this
    refine LoopTo.next (fun k => ?_) this
    have e2 : Int.tdiv (n : Int) 10 = ((n / 10 : Nat) : Int) := ntdiv n 10
    rw [lCut, bt (by rw [decide_eq_true_eq]; omega)]
    simp only [rw_wrap]
    rw [e2, wu64 (by omega) (by omega), wi64 (by omega) (by omega)]
    rfl

theorem cut_law (c a : Int) (hc : isU64 c = true) (ha : 0 ≤ a ∧ a < 256) : bodyX (Cx Ar.real (On8 Ar.real) (Lc Ar.real)) 100 Tryd.f7 [u64x c, u8x a] [] = some (boolx true, []) := by
  rw [tCut]
  have hl := dig_len hc
  have hw := digs_bytes c.toNat
  have hcc := isU64_iff.1 hc
  obtain ⟨m, rfl⟩ : ∃ m : Nat, c = (m : Int) := Int.eq_ofNat_of_zero_le hcc.1
  rw [Int.toNat_natCast] at hl hw
  rw [rw_se (isU64 (m : Int)), bt hc, rw_se (digs (Int.toNat (m : Int))), Int.toNat_natCast, rw_wrap .i64 a, wi64 (n := a) (by omega) (by omega)]
  obtain ⟨q, rfl⟩ : ∃ q : Nat, a = (q : Int) := Int.eq_ofNat_of_zero_le ha.1
  have e1 : Int.tmod (q : Int) ((digs m).length : Int) = ((q % (digs m).length : Nat) : Int) := ntmod q (digs m).length
  have hk : q % (digs m).length < (digs m).length := Nat.mod_lt _ (by omega)
  generalize q % (digs m).length = k at e1 hk
  have e2 : IntKind.i64.wrap (1 + (k : Int)) = ((k + 1 : Nat) : Int) := by rw [wi64 (by omega) (by omega)]; omega
  rw [e1, rw_wrap .i64 (1 + (k : Int)), e2, Int.toNat_natCast]
  have cut := digs_cut ((digs m).length - (k + 1)) m (by omega) (by omega)
  rw [show (digs m).length - ((digs m).length - (k + 1)) = k + 1 by omega] at cut
  rw [rw_se (tenths _ _), tenths_nat]
  generalize hj : (digs m).length - (k + 1) = j at cut
  have hnv : m / 10 ^ j ≤ m := Nat.div_le_self _ _
  generalize hn : m / 10 ^ j = n at cut hnv
  rw [← cut]
  have bn := digs_bytes n
  have ln := digs_le20 (n := n) (by omega)
  have f3 : (((digs m).length : Int) == 0) = false := by rw [beq_eq_false_iff_ne]; omega
  have f4 : decide (((digs m).length : Int) = 0) = false := decide_eq_false (by omega)
  have f5 : decide (0 ≤ ((k + 1 : Nat) : Int) ∧ ((k + 1 : Nat) : Int) ≤ ((digs m).length : Int)) = true := decide_eq_true (by omega)
  have f6 : decide ((digs n).length ≤ 1000000000) = true := decide_eq_true (by omega)
  have f7 : decide (0 ≤ ((k + 1 : Nat) : Int) ∧ ((k + 1 : Nat) : Int) ≤ ((digs m).length : Int) ∧ (digs m).length ≤ 1000) = true := decide_eq_true (by omega)
  rw [bf f3, bf f4, bt f5, bt (by rw [rw_se, bn, f6]; rfl), bt (by rw [rw_se, hc, f7]; rfl)]
  simp only [rw_se]
  by_cases hmax : n = 18446744073709551615
  · have r1 : readE (digs n) = 50 := by rw [hmax]; exact (read_none readN_max).2
    have f8 : ((n : Int) == 18446744073709551615) = true := by rw [beq_iff_eq]; omega
    simp only [r1, f8]
    rfl
  · obtain ⟨r1, r2⟩ := read_some (readN_digs (n := n) (by omega))
    have f8 : ((n : Int) == 18446744073709551615) = false := by rw [beq_eq_false_iff_ne]; omega
    have f9 : decide ((n : Int) < 18446744073709551615) = true := decide_eq_true (by omega)
    have f11 : ((n : Int) == (n : Int)) = true := beq_self_eq_true _
    simp only [r1, r2, f8, f9, f11]
    by_cases h0 : n = 0
    · have hm : m = 0 := by
        rcases Nat.eq_zero_or_pos m with h | h
        · exact h
        · exfalso
          have hh := digs_head m (by omega) h
          rw [h0, digs_small (by omega)] at cut
          have h3 := congrArg (fun l : List Int => l.getD 0 0) cut
          simp only [List.getD_cons_zero] at h3
          rw [List.getD_eq_getElem?_getD, List.getElem?_take, if_pos (by omega)] at h3
          rw [List.getD_eq_getElem?_getD] at hh
          exact hh (by rw [← h3]; rfl)
      have f12 : decide ((n : Int) > 0) = false := decide_eq_false (by omega)
      have f13 : ((m : Int) == 0) = true := by rw [beq_iff_eq]; omega
      simp only [f12, f13]
      rfl
    · have f12 : decide ((n : Int) > 0) = true := decide_eq_true (by omega)
      simp only [f12]
      rfl

end Go.Proofs.YtlikejlgpfhkfaaDoor.V

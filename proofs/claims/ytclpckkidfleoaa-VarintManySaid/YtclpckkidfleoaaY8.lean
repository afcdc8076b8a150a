/-
  Chapter 13's program: the document's taking does what it tells.
  It speaks of the pinned program alone; no condition.
-/
import Derived.Test.YtclpckkidfleoaaY7
import Derived.Laws.Strings
namespace Go.Proofs.Ytclpckkidfleoaa.V
open Go
set_option linter.unusedVariables false
set_option linter.unusedSimpArgs false

theorem wrapu64 (n : Int) : IntKind.u64.wrap n = n % 18446744073709551616 := by simp [IntKind.wrap, IntKind.bits, IntKind.signed]

theorem seq_str {xs ys : List Int} (hx : ∀ x ∈ xs, 0 ≤ x ∧ x < 256) (hy : ∀ x ∈ ys, 0 ≤ x ∧ x < 256) : Ar.real.seq (strOf xs) (strOf ys) = decide (xs = ys) := by
  have inj : ∀ (xs ys : List Int), (∀ x ∈ xs, 0 ≤ x ∧ x < 256) → (∀ x ∈ ys, 0 ≤ x ∧ x < 256) → (xs.map fun n => UInt8.ofNat n.toNat) = (ys.map fun n => UInt8.ofNat n.toNat) → xs = ys := by
    intro xs
    induction xs with
    | nil => intro ys _ _ h; cases ys with | nil => rfl | cons y ys => simp at h
    | cons x xs ih =>
      intro ys hx hy h
      cases ys with
      | nil => simp at h
      | cons y ys =>
        simp only [List.map_cons, List.cons.injEq] at h
        have h1 := hx x (by simp)
        have h2 := hy y (by simp)
        have h3 := congrArg UInt8.toNat h.1
        rw [UInt8.toNat_ofNat', UInt8.toNat_ofNat', Nat.mod_eq_of_lt (by omega), Nat.mod_eq_of_lt (by omega)] at h3
        rw [ih ys (fun x hx' => hx x (by simp [hx'])) (fun x hx' => hy x (by simp [hx'])) h.2]
        congr 1
        omega
  rw [rw_seq, ByteArray.toList_eq, ByteArray.toList_eq, strOfNums_data, strOfNums_data]
  by_cases h : xs = ys
  · subst h; simp
  · rw [decide_eq_false h]
    rw [beq_eq_false_iff_ne]
    exact fun e => h (inj xs ys hx hy e)

theorem kOf_cons (c : Int) (s : List Int) : kOf (c :: s) = if 128 ≤ c then kOf s + 1 else 0 := by
  unfold kOf
  rw [List.takeWhile_cons]
  by_cases h : 128 ≤ c <;> simp [h]
theorem kOf_le (s : List Int) : kOf s ≤ s.length := by
  unfold kOf
  exact (List.takeWhile_sublist _).length_le

theorem kOf_vb (v : Nat) (r : List Int) : kOf (vb v ++ r) + 1 = (vb v).length := by
  induction v using Nat.strongRecOn with
  | _ v ih =>
    by_cases h : v < 128
    · rw [vb_small h, List.singleton_append, kOf_cons, if_neg (by omega)]
      rfl
    · rw [vb_big (by omega), List.cons_append, kOf_cons, if_pos (by omega), ih _ (by omega)]
      rfl

theorem digs_cons (n : Int) (c : Int) (s : List Int) : digs n (c :: s) = (digs n s * 128 + c % 128) % 18446744073709551616 := rfl
theorem digs_range {n : Int} (h : 0 ≤ n ∧ n < 18446744073709551616) (s : List Int) : 0 ≤ digs n s ∧ digs n s < 18446744073709551616 := by
  cases s with
  | nil => exact h
  | cons c s => rw [digs_cons]; omega

theorem digs_vb (v : Nat) (h : v < 18446744073709551616) : digs 0 (vb v) = v := by
  induction v using Nat.strongRecOn with
  | _ v ih =>
    by_cases hs : v < 128
    · rw [vb_small hs, digs_cons]
      simp only [digs, List.foldr_nil]
      omega
    · rw [vb_big (by omega), digs_cons, ih _ (by omega) (by omega)]
      omega

theorem take_link (b : List Int) : takeV b = if kOf b < b.length ∧ kOf b ≤ 9 ∧ vb (digs 0 (b.take (kOf b + 1))).toNat = b.take (kOf b + 1) then some ((digs 0 (b.take (kOf b + 1))).toNat, b.drop (kOf b + 1)) else none := by
  split
  · rename_i h
    obtain ⟨h1, h2, h3⟩ := h
    refine takeV_some.2 ⟨?_, ?_⟩
    · have := digs_range (n := 0) (by omega) (b.take (kOf b + 1))
      omega
    · rw [h3, List.take_append_drop]
  · rename_i h
    cases hv : takeV b with
    | none => rfl
    | some p =>
      obtain ⟨v, r⟩ := p
      obtain ⟨h1, h2⟩ := takeV_some.1 hv
      exfalso
      apply h
      have hk := kOf_vb v r
      rw [← h2] at hk
      have ht : b.take (kOf b + 1) = vb v := by rw [hk]; conv => lhs; rw [h2]; simp
      have hl := vb_len_le h1
      have hbl : b.length = (vb v).length + r.length := by rw [h2]; simp
      refine ⟨by omega, by omega, ?_⟩
      rw [ht, digs_vb v h1, Int.toNat_natCast]

theorem drop_cons {b : List Int} {i : Nat} (h : i < b.length) : b.drop i = b.getD i 0 :: b.drop (i + 1) := by
  rw [List.drop_eq_getElem_cons h, List.getD_eq_getElem?_getD, List.getElem?_eq_getElem h]; rfl

theorem loop9a (b : List Int) (nl : Bool) (hb : b.length ≤ 100000) : ∀ (n i : Nat), b.length - i = n → i ≤ b.length →
    LoopTo (Cx Ar.real (O13 Ar.real) (L9 Ar.real)) 100 (loopAt Try.f9 0) 57 [0, 5] [u8s b (some nl) false, i64x i] [] (.exit 0, [u8s b (some nl) false, i64x (i + kOf (b.drop i))], []) := by
  intro n
  induction n with
  | zero =>
    intro i h1 h2
    have hi : b.drop i = [] := by rw [List.drop_eq_nil_iff]; omega
    have hk : kOf ([] : List Int) = 0 := rfl
    refine LoopTo.done (by simp) fun k => ?_
    rw [l9a, bf (by simp; omega), hi, hk]
    simp
  | succ n ih =>
    intro i h1 h2
    have hi : i < b.length := by omega
    rw [drop_cons hi, kOf_cons]
    by_cases hc : 128 ≤ b.getD i 0
    · rw [if_pos hc]
      have e : (i : Int) + ((kOf (b.drop (i + 1)) + 1 : Nat) : Int) = ((i + 1 : Nat) : Int) + (kOf (b.drop (i + 1)) : Int) := by omega
      rw [e]
      refine LoopTo.next (fun k => ?_) (ih (i + 1) (by omega) (by omega))
      rw [l9a, bt (by simp; omega), bt (by simp; omega), bt (by rw [decide_eq_true_eq]; simpa using hc), rw_wrap, wi64 (by omega) (by omega)]
      rfl
    · rw [if_neg hc]
      refine LoopTo.done (by simp) fun k => ?_
      rw [l9a, bt (by simp; omega), bt (by simp; omega), bf (by rw [decide_eq_false_iff_not]; simpa using hc)]
      simp

theorem take_succ {b : List Int} {j : Nat} (h : j < b.length) : b.take (j + 1) = b.take j ++ [b.getD j 0] := by
  rw [List.take_add_one, List.getElem?_eq_getElem h, List.getD_eq_getElem?_getD, List.getElem?_eq_getElem h]; rfl

theorem loop9b (b : List Int) (nl : Bool) (k : Int) (hb : b.length ≤ 100000) (hy : ∀ x ∈ b, 0 ≤ x ∧ x < 256) : ∀ (j : Nat) (n : Int), j ≤ b.length → 0 ≤ n ∧ n < 18446744073709551616 →
    LoopTo (Cx Ar.real (O13 Ar.real) (L9 Ar.real)) 100 (loopAt Try.f9 1) 57 [0, 5, 6, 7] [u8s b (some nl) false, i64x k, u64x n, i64x ((j : Int) - 1)] [] (.exit 2, [u8s b (some nl) false, i64x k, u64x (digs n (b.take j)), i64x (-1)], []) := by
  intro j
  induction j with
  | zero =>
    intro n _ hn
    refine LoopTo.done (by simp) fun k => ?_
    rw [l9b, bf (by simp)]
    simp [digs]
  | succ j ih =>
    intro n hj hn
    have hx := hy (b.getD j 0) (by rw [List.getD_eq_getElem?_getD, List.getElem?_eq_getElem (by omega)]; exact List.getElem_mem _)
    have e1 : digs n (b.take (j + 1)) = digs ((n * 128 + b.getD j 0 % 128) % 18446744073709551616) (b.take j) := by
      rw [take_succ (by omega)]
      simp [digs, List.foldr_append]
    rw [e1]
    refine LoopTo.next (fun k => ?_) (ih ((n * 128 + b.getD j 0 % 128) % 18446744073709551616) (by omega) (by omega))
    have e2 : (((j + 1 : Nat) : Int) - 1) = (j : Int) := by omega
    rw [e2, l9b, bt (by simp), bt (by simp; omega)]
    have e3 : Ar.real.wrap .u64 (Ar.real.wrap .u64 (n * 128) + Ar.real.wrap .u64 (Int.tmod (b.getD (Int.toNat (j : Int)) 0) 128)) = (n * 128 + b.getD j 0 % 128) % 18446744073709551616 := by
      rw [Int.toNat_natCast]
      have : Int.tmod (b.getD j 0) 128 = b.getD j 0 % 128 := Int.tmod_eq_emod_of_nonneg hx.1
      rw [this]
      simp only [rw_wrap, wrapu64]
      omega
    have e4 : Ar.real.wrap .i64 ((j : Int) - 1) = (j : Int) - 1 := by rw [rw_wrap, wi64 (by omega) (by omega)]
    rw [e3, e4]

theorem refTake_ok : OrcOk Try.prog 9 (.pure (takeF Ar.real)) := by
  refine pureOk (Cx.ok o13 (L9 Ar.real)) mixed 9 Try.f9 (by kernel_rfl) (by kernel_rfl) (by kernel_rfl) 100 2 (by kernel_rfl) (fun i h => ?_) fun args r h => ?_
  · have hi : i = 0 ∨ i = 1 := by omega
    rcases hi with rfl | rfl
    · refine Tells.mk (key := 2) (N := 57) (ks := [0, 5]) (F := L9aF Ar.real) (by kernel_rfl) rfl fun xs H r h => ?_
      unfold L9aF at h
      split at h
      · rename_i b nl i
        obtain ⟨hg, rfl⟩ := Tr.one h
        simp only [rw_se, Bool.and_eq_true, decide_eq_true_eq] at hg ⊢
        dsimp only [Ty.den] at hg
        obtain ⟨h1, h2, h3⟩ := hg
        obtain ⟨m, rfl⟩ := Int.eq_ofNat_of_zero_le h2
        simp only [Int.toNat_natCast]
        exact loop9a b nl h1 _ m rfl (by omega)
      · cases h
    · refine Tells.mk (key := 8) (N := 57) (ks := [0, 5, 6, 7]) (F := L9bF Ar.real) (by kernel_rfl) rfl fun xs H r h => ?_
      unfold L9bF at h
      split at h
      · rename_i b nl j n i
        obtain ⟨hg, rfl⟩ := Tr.one h
        simp only [rw_se, Bool.and_eq_true, decide_eq_true_eq, isU64_iff, bytesB_iff] at hg ⊢
        dsimp only [Ty.den] at hg
        obtain ⟨h1, h2, h3, h4, h5⟩ := hg
        have := loop9b b nl j h2 h1 (i + 1).toNat n (by omega) h3
        have e : (((i + 1).toNat : Nat) : Int) - 1 = i := by omega
        rw [e] at this
        exact this
      · cases h
  · unfold takeF at h
    split at h
    · rename_i b nl
      obtain ⟨hg, rfl⟩ := Tr.one h
      refine ⟨rfl, rfl, [], ?_⟩
      rw [t9]
      have z : Int.toNat 0 = 0 := rfl
      simp only [rw_se, Bool.and_eq_true, decide_eq_true_eq, z, List.drop_zero, Int.zero_add] at hg ⊢
      obtain ⟨hb, hy, hn⟩ := hg
      have hy' := bytesB_iff.1 hy
      have hk := kOf_le b
      have link := take_link b
      have hd := digs_range (n := 0) (by omega) (b.take (kOf b + 1))
      have tn : (((kOf b : Nat) : Int) + 1).toNat = kOf b + 1 := by omega
      have w1 : Ar.real.wrap .i64 (((kOf b : Nat) : Int) + 1) = ((kOf b : Nat) : Int) + 1 := by rw [rw_wrap, wi64 (by omega) (by omega)]
      rw [bt (by simp only [Bool.and_eq_true, decide_eq_true_eq]; exact ⟨hb, by simp⟩)]
      have errs : takeV b = none → some (X.tup [X.d (Ty.int IntKind.u64) (0 : Int), X.sl (Ty.int IntKind.u8) [] (some true) false, X.d (Ty.int IntKind.i64) (130 : Int)], ([] : Hp)) = some (X.tup [u64x (tkN b), u8s (tkR b) (some (!tkB b)) false, i64x (tkE b)], []) := by
        intro e
        simp [tkN, tkR, tkB, tkE, e]
      by_cases c1 : kOf b < b.length
      · rw [bt (by simp; omega)]
        by_cases c2 : kOf b ≤ 9
        · rw [bf (by rw [decide_eq_false_iff_not]; omega)]
          simp only [w1, tn]
          rw [bt (by simp only [Bool.and_eq_true, decide_eq_true_eq]; exact ⟨hy, hb, by decide, by simp, by omega⟩), bt (isU64_iff.2 hd), bt (by rw [decide_eq_true_eq]; omega)]
          rw [seq_str (vb_byte _) (fun x hx => hy' x (List.mem_of_mem_take hx))]
          by_cases c3 : vb (digs 0 (b.take (kOf b + 1))).toNat = b.take (kOf b + 1)
          · rw [if_pos ⟨c1, c2, c3⟩] at link
            rw [bf (by simp [c3]), bt (by rw [decide_eq_true_eq]; omega)]
            have hne : nl = false := by
              cases nl
              · rfl
              · simp at hn; subst hn; simp at c1
            subst hne
            simp [tkN, tkR, tkB, tkE, link, Int.toNat_of_nonneg hd.1]
          · rw [if_neg (fun h => c3 h.2.2)] at link
            rw [bt (by simp [c3])]
            exact errs link
        · rw [if_neg (fun h => c2 h.2.1)] at link
          rw [bt (by rw [decide_eq_true_eq]; omega)]
          exact errs link
      · rw [if_neg (fun h => c1 h.1)] at link
        rw [bf (by simp; omega)]
        exact errs link
    · cases h

end Go.Proofs.Ytclpckkidfleoaa.V

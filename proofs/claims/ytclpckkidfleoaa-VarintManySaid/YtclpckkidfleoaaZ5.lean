/-
  Chapter 13's program: numbers that are put one behind the other are taken one by one.
  It speaks of the pinned program alone; no condition.
-/
import Derived.Test.YtclpckkidfleoaaZ4
import Derived.Test.YtclpckkidfleoaaY11
namespace Go.Proofs.Ytclpckkidfleoaa.V
open Go
set_option linter.unusedVariables false
set_option linter.unusedSimpArgs false

theorem allU_iff {l : List Int} : allU l = true ↔ ∀ x ∈ l, 0 ≤ x ∧ x < 18446744073709551616 := by simp [allU, isU64_iff]
theorem encs_cons (x : Int) (l : List Int) : encs (x :: l) = vb x.toNat ++ encs l := rfl
theorem encs_nil : encs [] = [] := rfl
theorem encs_len : ∀ (l : List Int), (∀ x ∈ l, 0 ≤ x ∧ x < 18446744073709551616) → (encs l).length ≤ 10 * l.length := by
  intro l
  induction l with
  | nil => intro _; simp [encs]
  | cons x l ih =>
    intro h
    have h1 := h x (by simp)
    have h2 := ih (fun y hy => h y (by simp [hy]))
    have h3 := vb_len_le (n := x.toNat) (by omega)
    rw [encs_cons]
    simp only [List.length_append, List.length_cons]
    omega
theorem encs_byte (l : List Int) : ∀ x ∈ encs l, 0 ≤ x ∧ x < 256 := by
  intro x hx
  simp only [encs, List.mem_flatten, List.mem_map] at hx
  obtain ⟨_, ⟨y, _, rfl⟩, hx⟩ := hx
  exact vb_byte _ _ hx
theorem getD_mem {b : List Int} {i : Nat} (h : i < b.length) : b.getD i 0 ∈ b := by
  rw [List.getD_eq_getElem?_getD, List.getElem?_eq_getElem h]; exact List.getElem_mem _

theorem loop6a (l : List Int) (nl : Bool) (b : List Int) (nb up : Bool) (hl : l.length ≤ 100) (hu : ∀ x ∈ l, 0 ≤ x ∧ x < 18446744073709551616) :
    ∀ (k i : Nat) (c : List Int) (nc : Bool), l.length - i = k → i ≤ l.length → c.length ≤ 10 * i → (!nc || c.isEmpty) = true →
    LoopTo (Cx Ar.real (O7 Ar.real) (L6 Ar.real)) 200 (loopAt Try.f6 0) 84 [0, 1, 5, 6, 7, 8] [u64s l (some nl) false, u8s b (some nb) false, boolx up, u8s c (some nc) true, i64x (c.length : Int), i64x i] []
      (.exit 0, [u64s l (some nl) false, u8s b (some nb) false, boolx up, u8s (c ++ encs (l.drop i)) (some (nc && (l.drop i).isEmpty)) true, i64x ((c ++ encs (l.drop i)).length : Int), i64x (l.length : Int)], []) := by
  intro k
  induction k with
  | zero =>
    intro i c nc h1 h2 h3 h4
    have hi : l.drop i = [] := by rw [List.drop_eq_nil_iff]; omega
    have e : i = l.length := by omega
    refine LoopTo.done (by simp) fun k => ?_
    rw [l6a, bf (by rw [decide_eq_false_iff_not]; omega), hi, encs_nil, e]
    simp
  | succ k ih =>
    intro i c nc h1 h2 h3 h4
    have hi : i < l.length := by omega
    have hx := hu _ (getD_mem hi)
    have hlen := vb_len_le (n := (l.getD i 0).toNat) (by omega)
    rw [drop_cons hi, encs_cons]
    have step := ih (i + 1) (c ++ vb (l.getD i 0).toNat) false (by omega) (by omega) (by simp only [List.length_append]; omega) (by simp)
    have e2 : (nc && (l.getD i 0 :: l.drop (i + 1)).isEmpty) = (false && (l.drop (i + 1)).isEmpty) := by simp
    rw [e2, ← List.append_assoc]
    refine LoopTo.next (fun k => ?_) step
    rw [l6a]
    simp only [rw_se, rw_wrap, Int.toNat_natCast]
    rw [bt (by rw [decide_eq_true_eq]; omega), bt (by rw [decide_eq_true_eq]; omega), bt (by rw [Bool.and_eq_true, Bool.and_eq_true, isU64_iff, decide_eq_true_eq]; exact ⟨hx, by omega, h4⟩),
      bt (by rw [decide_eq_true_eq]; omega), bt (isU64_iff.2 hx), wi64 (n := (i : Int) + 1) (by omega) (by omega), wi64 (by omega) (by omega)]
    simp

theorem loop6b (l : List Int) (nl : Bool) (b : List Int) (nb up : Bool) (n s : Int) (hl : l.length ≤ 100) (hb : b.length ≤ 1000) (hu : ∀ x ∈ l, 0 ≤ x ∧ x < 18446744073709551616) (hy : ∀ x ∈ b, 0 ≤ x ∧ x < 256) :
    ∀ (k i : Nat) (nc oc : Bool), l.length - i = k → i ≤ l.length → (!nc || (encs (l.drop i) ++ b).isEmpty) = true →
    LoopTo (Cx Ar.real (O7 Ar.real) (L6 Ar.real)) 200 (loopAt Try.f6 1) 84 [0, 1, 5, 6, 7, 9, 10] [u64s l (some nl) false, u8s b (some nb) false, boolx up, u8s (encs (l.drop i) ++ b) (some nc) oc, i64x n, i64x s, i64x i] []
      (.exit 2, [u64s l (some nl) false, u8s b (some nb) false, boolx up, u8s b (some (nc && (l.drop i).isEmpty)) (oc && (l.drop i).isEmpty), i64x n, i64x s, .dead], []) := by
  intro k
  induction k with
  | zero =>
    intro i nc oc h1 h2 h3
    have hi : l.drop i = [] := by rw [List.drop_eq_nil_iff]; omega
    refine LoopTo.left (by simp) fun k => ?_
    rw [l6b, bf (by rw [decide_eq_false_iff_not]; omega), hi, encs_nil]
    refine ⟨_, rfl, ?_⟩
    simp only [List.nil_append, List.isEmpty_nil, Bool.and_true]
    exact Forget.cons (.inr rfl) (Forget.cons (.inr rfl) (Forget.cons (.inr rfl) (Forget.cons (.inr rfl) (Forget.cons (.inr rfl) (Forget.cons (.inr rfl) (Forget.cons (.inl rfl) (Forget.same _)))))))
  | succ k ih =>
    intro i nc oc h1 h2 h3
    have hi : i < l.length := by omega
    have hx := hu _ (getD_mem hi)
    have hv : (l.getD i 0).toNat < 18446744073709551616 := by omega
    have hlen := vb_len_le hv
    have hne := vb_ne (l.getD i 0).toNat
    have hrest := encs_len (l.drop (i + 1)) (fun x hx => hu x (List.mem_of_mem_drop hx))
    have hdl : (l.drop (i + 1)).length = l.length - (i + 1) := List.length_drop
    have hnc : nc = false := by
      cases nc
      · rfl
      · rw [drop_cons hi, encs_cons] at h3; simp at h3; exact absurd h3.1 (vb_ne _)
    subst hnc
    rw [drop_cons hi, encs_cons, List.append_assoc]
    have htk := takeV_vb hv (encs (l.drop (i + 1)) ++ b)
    have step := ih (i + 1) false false (by omega) (by omega) (by simp)
    have e1 : (false && (l.getD i 0 :: l.drop (i + 1)).isEmpty) = (false && (l.drop (i + 1)).isEmpty) := by simp
    have e2 : (oc && (l.getD i 0 :: l.drop (i + 1)).isEmpty) = (false && (l.drop (i + 1)).isEmpty) := by simp
    rw [e1, e2]
    have t1 : tkE (vb (l.getD i 0).toNat ++ (encs (l.drop (i + 1)) ++ b)) = 0 := by unfold tkE tkB; rw [htk]; rfl
    have t2 : tkN (vb (l.getD i 0).toNat ++ (encs (l.drop (i + 1)) ++ b)) = l.getD i 0 := by simp only [tkN, htk]; exact Int.toNat_of_nonneg hx.1
    have t3 : tkR (vb (l.getD i 0).toNat ++ (encs (l.drop (i + 1)) ++ b)) = encs (l.drop (i + 1)) ++ b := by unfold tkR; rw [htk]
    have t4 : tkB (vb (l.getD i 0).toNat ++ (encs (l.drop (i + 1)) ++ b)) = true := by unfold tkB; rw [htk]; rfl
    have hbytes : bytesB (vb (l.getD i 0).toNat ++ (encs (l.drop (i + 1)) ++ b)) = true := bytesB_iff.2 fun x hx => by
      rcases List.mem_append.1 hx with hx | hx
      · exact vb_byte _ x hx
      · rcases List.mem_append.1 hx with hx | hx
        · exact encs_byte _ x hx
        · exact hy x hx
    refine LoopTo.next (fun k => ?_) step
    rw [l6b]
    simp only [rw_se, rw_wrap, Int.toNat_natCast, t1, t2, t3, t4]
    rw [bt (by rw [decide_eq_true_eq]; omega), bt (by rw [Bool.and_eq_true, Bool.and_eq_true, decide_eq_true_eq]; exact ⟨by simp only [List.length_append]; omega, hbytes, by simp⟩), bt (by decide),
      bt (by rw [decide_eq_true_eq]; omega), bf (by simp), wi64 (n := (i : Int) + 1) (by omega) (by omega)]
    simp

def gMany : List X → Bool
  | [.sl (.int .u64) l (some nl) false, .sl (.int .u8) b (some nb) false] => allU l && (bytesB b && ((!nl || l.isEmpty) && (!nb || b.isEmpty)))
  | _ => false

theorem many_core (l : List Int) (nl : Bool) (b : List Int) (nb : Bool) (hu : allU l = true) (hy : bytesB b = true) (hn : (!nb || b.isEmpty) = true) :
    bodyX (Cx Ar.real (O7 Ar.real) (L6 Ar.real)) 200 Try.f6 [u64s l (some nl) false, u8s b (some nb) false] [] = some (boolx true, []) := by
  rw [t6]
  by_cases h1 : l.length > 100
  · rw [bf (by rw [show decide ((l.length : Int) > 100) = true from by rw [decide_eq_true_eq]; omega]; rfl)]
  · rw [bt (by rw [show decide ((l.length : Int) > 100) = false from by rw [decide_eq_false_iff_not]; omega]; rfl)]
    by_cases h2 : b.length > 1000
    · rw [bt (by rw [decide_eq_true_eq]; omega)]
    · rw [bf (by rw [decide_eq_false_iff_not]; omega)]
      have z : Int.toNat 0 = 0 := rfl
      simp only [rw_se, z, List.drop_zero, List.nil_append, seq_self, hu, hy, Bool.true_and]
      have hlen := encs_len l (allU_iff.1 hu)
      rw [bt (by rw [Bool.and_eq_true, decide_eq_true_eq]; exact ⟨by omega, by rfl⟩), bt (by rw [decide_eq_true_eq]; omega), bt]
      · simp
      · rw [Bool.and_eq_true, decide_eq_true_eq]
        refine ⟨⟨by omega, by omega, by omega, by omega, by trivial⟩, ?_⟩
        cases l with
        | nil => cases b <;> simp [encs_nil]
        | cons x l => simp

theorem many_ok : OrcOk Try.prog 6 (.pure (LawF gMany)) := by
  refine pureOk (Cx.ok o7 (L6 Ar.real)) mixed 6 Try.f6 (by kernel_rfl) (by kernel_rfl) (by kernel_rfl) 200 2 (by kernel_rfl) (fun i h => ?_) fun args r h => ?_
  · have hi : i = 0 ∨ i = 1 := by omega
    rcases hi with rfl | rfl
    · refine Tells.mk (key := 7) (N := 84) (ks := [0, 1, 5, 6, 7, 8]) (F := L6aF Ar.real) (by kernel_rfl) rfl fun xs H r h => ?_
      unfold L6aF at h
      split at h
      · rename_i l nl b nb up c nc n i
        obtain ⟨hg, rfl⟩ := Tr.one h
        simp only [rw_se, Bool.and_eq_true, decide_eq_true_eq, allU_iff] at hg ⊢
        dsimp only [Ty.den] at hg
        obtain ⟨h1, ⟨h2, h3, h4, h5, h6⟩, h7⟩ := hg
        obtain ⟨m, rfl⟩ := Int.eq_ofNat_of_zero_le h3
        subst h6
        simp only [Int.toNat_natCast]
        exact loop6a l nl b nb up h2 h1 _ m c nc rfl (by omega) (by omega) h7
      · cases h
    · refine Tells.mk (key := 14) (N := 84) (ks := [0, 1, 5, 6, 7, 9, 10]) (F := L6bF Ar.real) (by kernel_rfl) rfl fun xs H r h => ?_
      unfold L6bF at h
      split at h
      · rename_i l nl b nb up c nc oc n s i
        obtain ⟨hg, rfl⟩ := Tr.one h
        simp only [rw_se, Bool.and_eq_true, decide_eq_true_eq, allU_iff, bytesB_iff] at hg ⊢
        dsimp only [Ty.den] at hg
        obtain ⟨h1, hy, ⟨h2, hb, h3, h4, h6⟩, h7⟩ := hg
        obtain ⟨m, rfl⟩ := Int.eq_ofNat_of_zero_le h3
        subst h6
        simp only [Int.toNat_natCast] at *
        exact loop6b l nl b nb up n s h2 hb h1 hy _ m nc oc rfl (by omega) h7
      · cases h
  · obtain ⟨hg, rfl⟩ := Tr.one h
    clear h
    unfold gMany at hg
    split at hg
    · rename_i l nl b nb
      simp only [Bool.and_eq_true] at hg
      exact ⟨rfl, rfl, [], many_core l nl b nb hg.1 hg.2.1 hg.2.2.2⟩
    · cases hg

theorem row_u64s {W : World} {a : Option Addr} {len cap : Nat} {zs : List Int} (h : IsRow .u64 W a len cap zs) : allU (zs.take len) = true ∧ (!a.isNone || (zs.take len).isEmpty) = true := by
  rcases h with ⟨rfl, rfl, rfl, rfl⟩ | ⟨x, rfl, h1, h2, h3, h4, h5⟩
  · exact ⟨rfl, rfl⟩
  · refine ⟨allU_iff.2 fun y hy => ?_, rfl⟩
    have h := h5 y (List.mem_of_mem_take hy)
    exact isU64_iff.1 (wf_u64 h)

end Go.Proofs.Ytclpckkidfleoaa.V

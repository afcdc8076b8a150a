/-
  Chapter 01, utf: a walk over a string's signs; signs are read as they tell.
  It speaks of the pinned program alone; no condition.
-/
import Derived.Test.YtnjlfeigcappjaaDoorUt12
namespace Go.Proofs.YtnjlfeigcappjaaDoor.V
open Go
set_option linter.unusedVariables false
set_option linter.unusedSimpArgs false

theorem bytesOf_len (s : ByteArray) : (bytesOf s).length = s.size := by
  rw [bytesOf, List.length_map, Array.length_toList]; rfl
theorem bytesOf_str {b : List Int} (hy : ∀ x ∈ b, 0 ≤ x ∧ x < 256) : bytesOf (strOf b) = b := by
  rw [bytesOf, strOfNums_data, List.map_map]
  have : ∀ l : List Int, (∀ x ∈ l, 0 ≤ x ∧ x < 256) → l.map ((fun b : UInt8 => (b.toNat : Int)) ∘ fun n => UInt8.ofNat n.toNat) = l := by
    intro l
    induction l with
    | nil => intro _; rfl
    | cons x l ih =>
      intro h
      have hx := h x (by simp)
      rw [List.map_cons, ih (fun y hy => h y (by simp [hy]))]
      congr 1
      simp only [Function.comp]
      rw [UInt8.toNat_ofNat', Nat.mod_eq_of_lt (by omega)]
      omega
  exact this b hy
theorem bytesOf_byte (s : ByteArray) : ∀ x ∈ bytesOf s, 0 ≤ x ∧ x < 256 := by
  intro x hx
  obtain ⟨u, _, rfl⟩ := List.mem_map.1 hx
  have := u.toNat_lt
  omega
theorem get_at (s : ByteArray) (j : Nat) (h : j < s.size) : ((s.get! j).toNat : Int) = (bytesOf s).getD j 0 := by
  have hd : j < s.data.toList.length := by rw [Array.length_toList]; exact h
  rw [bytesOf, List.getD_eq_getElem?_getD, List.getElem?_map, List.getElem?_eq_getElem hd]
  simp only [Option.map_some, Option.getD_some, Array.getElem_toList]
  have : s.get! j = s.data[j]'h := by
    show s.data[j]! = _
    exact getElem!_pos s.data j h
  rw [this]

theorem decode_ok (s : ByteArray) (p : Nat) (n : Int) (r : List Int) (hp : p ≤ s.size) (h : takeU ((bytesOf s).drop p) = some (n, r)) :
    Utf8.decode s p = (n.toNat, (ub n).length) ∧ p + (ub n).length ≤ s.size ∧ r = (bytesOf s).drop (p + (ub n).length) ∧ goodN n = true := by
  have hy : ∀ x ∈ (bytesOf s).drop p, 0 ≤ x ∧ x < 256 := fun x hx => bytesOf_byte s x (List.mem_of_mem_drop hx)
  obtain ⟨hg, he⟩ := takeU_some hy h
  have hlen : s.size - p = (ub n).length + r.length := by
    have := congrArg List.length he
    rw [List.length_drop, bytesOf_len, List.length_append] at this
    exact this
  have hpos := ub_pos n
  have hr : r = (bytesOf s).drop (p + (ub n).length) := by
    rw [← List.drop_drop, he]
    simp
  refine ⟨?_, by omega, hr, hg⟩
  have at_ : ∀ k, k < (ub n).length → ((s.get! (p + k)).toNat : Int) = (ub n).getD k 0 := by
    intro k hk
    rw [get_at s (p + k) (by omega)]
    have e1 : ((bytesOf s).drop p).getD k 0 = (bytesOf s).getD (p + k) 0 := by
      rw [List.getD_eq_getElem?_getD, List.getD_eq_getElem?_getD, List.getElem?_drop]
    rw [← e1, he, List.getD_eq_getElem?_getD, List.getD_eq_getElem?_getD, List.getElem?_append_left hk]
  have hsz : ∀ k, k < (ub n).length → p + k < s.size := fun k hk => by omega
  rw [goodN_iff] at hg
  obtain ⟨m, rfl⟩ := Int.eq_ofNat_of_zero_le hg.1
  rw [Int.toNat_natCast]
  have a0 := at_ 0 (by omega)
  unfold Utf8.decode
  simp only
  by_cases c1 : (m : Int) < 128
  · have hu : ub (m : Int) = [(m : Int)] := by unfold ub; rw [if_pos c1]
    rw [hu] at a0 ⊢
    simp only [List.getD_cons_zero] at a0
    have e : (s.get! (p + 0)).toNat = m := by omega
    simp only [e]
    rw [if_pos (show m < 128 by omega)]
    rfl
  · by_cases c2 : (m : Int) < 2048
    · have hu : ub (m : Int) = [192 + (m : Int) / 64, 128 + (m : Int) % 64] := by unfold ub; rw [if_neg c1, if_pos c2]
      have a1 := at_ 1 (by rw [hu]; simp)
      have z1 := hsz 1 (by rw [hu]; simp)
      rw [hu] at a0 a1 ⊢
      simp only [List.getD_cons_zero, List.getD_cons_succ] at a0 a1
      rw [if_neg (by omega), if_pos (by simp only [Bool.and_eq_true, beq_iff_eq, decide_eq_true_eq]; omega)]
      have e : (s.get! (p + 0)).toNat % 32 * 64 + (s.get! (p + 1)).toNat % 64 = m := by omega
      rw [e, if_pos (by omega)]
      rfl
    · by_cases c3 : (m : Int) < 65536
      · have hu : ub (m : Int) = [224 + (m : Int) / 4096, 128 + (m : Int) / 64 % 64, 128 + (m : Int) % 64] := by unfold ub; rw [if_neg c1, if_neg c2, if_pos c3]
        have a1 := at_ 1 (by rw [hu]; simp)
        have a2 := at_ 2 (by rw [hu]; simp)
        have z2 := hsz 2 (by rw [hu]; simp)
        rw [hu] at a0 a1 a2 ⊢
        simp only [List.getD_cons_zero, List.getD_cons_succ] at a0 a1 a2
        rw [if_neg (by omega), if_neg (by simp only [Bool.and_eq_true, beq_iff_eq, decide_eq_true_eq]; omega), if_pos (by simp only [Bool.and_eq_true, beq_iff_eq, decide_eq_true_eq]; omega)]
        have e : (s.get! (p + 0)).toNat % 16 * 4096 + (s.get! (p + 1)).toNat % 64 * 64 + (s.get! (p + 2)).toNat % 64 = m := by omega
        rw [e, if_pos (by simp only [Utf8.valid, Bool.and_eq_true, Bool.or_eq_true, decide_eq_true_eq]; omega)]
        rfl
      · have hu : ub (m : Int) = [240 + (m : Int) / 262144, 128 + (m : Int) / 4096 % 64, 128 + (m : Int) / 64 % 64, 128 + (m : Int) % 64] := by unfold ub; rw [if_neg c1, if_neg c2, if_neg c3]
        have a1 := at_ 1 (by rw [hu]; simp)
        have a2 := at_ 2 (by rw [hu]; simp)
        have a3 := at_ 3 (by rw [hu]; simp)
        have z3 := hsz 3 (by rw [hu]; simp)
        rw [hu] at a0 a1 a2 a3 ⊢
        simp only [List.getD_cons_zero, List.getD_cons_succ] at a0 a1 a2 a3
        rw [if_neg (by omega), if_neg (by simp only [Bool.and_eq_true, beq_iff_eq, decide_eq_true_eq]; omega), if_neg (by simp only [Bool.and_eq_true, beq_iff_eq, decide_eq_true_eq]; omega), if_pos (by simp only [Bool.and_eq_true, beq_iff_eq, decide_eq_true_eq]; omega)]
        have e : (s.get! (p + 0)).toNat % 8 * 262144 + (s.get! (p + 1)).toNat % 64 * 4096 + (s.get! (p + 2)).toNat % 64 * 64 + (s.get! (p + 3)).toNat % 64 = m := by omega
        rw [e, if_pos (by simp only [Utf8.valid, Bool.and_eq_true, Bool.or_eq_true, decide_eq_true_eq]; omega)]
        rfl

end Go.Proofs.YtnjlfeigcappjaaDoor.V

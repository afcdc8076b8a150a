/-
  Chapter 03, order: the plain law of words, and their comparing as the library's text does it, walked by the kit.
  It speaks of the pinned program alone; no condition.
-/
import Derived.Test.YtanbekjefbebaaaB1
import Derived.Shelf.SlSortCmp.NoneTotal
import Derived.Shelf.RegionOpenPlain
import Derived.WalkKit
import Derived.Deep.LoopGhost
import Derived.Deep.Draws
import Derived.Lib.Walk
namespace Go.Proofs.Ytanbekjefbebaaa.V
open Go Go.Proofs Go.Shelf Go.RowKit Go.Lib
set_option linter.unusedVariables false
set_option linter.unusedSimpArgs false

def cmpI (x y : Int) : Int := if x < y then -1 else if y < x then 1 else 0
def cmpL : List Int → List Int → Int
  | [], [] => 0
  | [], _ :: _ => -1
  | _ :: _, [] => 1
  | a :: xs, b :: ys => if a < b then -1 else if b < a then 1 else cmpL xs ys

theorem cmpL_drop {xs ys : List Int} {k : Nat} (hx : k < xs.length) (hy : k < ys.length) (h : ∀ j, j < k → xs.getD j 0 = ys.getD j 0) :
    cmpL xs ys = if xs.getD k 0 < ys.getD k 0 then -1 else if ys.getD k 0 < xs.getD k 0 then 1 else cmpL (xs.drop (k + 1)) (ys.drop (k + 1)) := by
  induction k generalizing xs ys with
  | zero =>
    match xs, ys, hx, hy with
    | x :: xs, y :: ys, _, _ => simp [cmpL]
  | succ k ih =>
    match xs, ys, hx, hy with
    | x :: xs, y :: ys, hx, hy =>
      have h0 : x = y := by simpa using h 0 (by omega)
      subst h0
      have := ih (xs := xs) (ys := ys) (by simpa using hx) (by simpa using hy) (fun j hj => by simpa using h (j + 1) (by omega))
      simp only [cmpL, Int.lt_irrefl, if_false, List.getD_cons_succ, List.drop_succ_cons]
      exact this
theorem cmpL_same {xs ys : List Int} {k : Nat} (hx : k ≤ xs.length) (hy : k ≤ ys.length) (h : ∀ j, j < k → xs.getD j 0 = ys.getD j 0) : cmpL xs ys = cmpL (xs.drop k) (ys.drop k) := by
  induction k generalizing xs ys with
  | zero => simp
  | succ k ih =>
    match xs, ys, hx, hy with
    | x :: xs, y :: ys, hx, hy =>
      have h0 : x = y := by simpa using h 0 (by omega)
      subst h0
      have := ih (xs := xs) (ys := ys) (by simpa using hx) (by simpa using hy) (fun j hj => by simpa using h (j + 1) (by omega))
      simp only [cmpL, Int.lt_irrefl, if_false, List.drop_succ_cons]
      exact this

theorem k_isNaN (x : Int) (w : World) : Calls Try.prog 44 #[.int .i64 x] w fun e w' => e = .returned (.bool false) ∧ w' = w := by
  go_enter Try.func44, Try.ntmps44
  go_wp2
  go_ret
  exact ⟨by simp, rfl⟩

set_option maxHeartbeats 1000000 in
theorem k_cmp (x y : Int) (w : World) : Calls Try.prog 33 #[.int .i64 x, .int .i64 y] w fun e w' => e = .returned (.int .i64 (cmpI x y)) ∧ w' = w := by
  have hc := fun x W => k_isNaN x W
  go_enter Try.func33, Try.ntmps33
  go_wp2_with (go_at_call 44; refine (hc _ _).mono ?_; rintro e w' ⟨rfl, hw⟩; rw [hw])
  all_goals (go_ret; refine ⟨?_, rfl⟩; unfold cmpI; (repeat' split) <;> first | rfl | (exfalso; omega))

set_option maxHeartbeats 4000000 in
set_option maxRecDepth 100000 in
/-- slices.Compare at two words that lie somewhere. -/
theorem k_words (b1 o1 n c b2 o2 m d : Nat) (xs ys : List Int) (w : World) (hx : n = xs.length) (hy : m = ys.length) (hn : 0 < n) (hm : 0 < m) (hbig : n ≤ 9223372036854775807) (hbig2 : m ≤ 9223372036854775807)
    (hc1 : ∀ j, j < n → w.cell? ⟨b1, o1 + j, none⟩ = some (.int .i64 (xs.getD j 0))) (hc2 : ∀ j, j < m → w.cell? ⟨b2, o2 + j, none⟩ = some (.int .i64 (ys.getD j 0))) :
    Calls Try.prog 24 #[.slice (some ⟨b1, o1, none⟩) n c, .slice (some ⟨b2, o2, none⟩) m d] w fun e w' => e = .returned (.int .i64 (cmpL xs ys)) ∧ w' = w := by
  have hcmp := fun x y W => k_cmp x y W
  have HX : Aside (n = xs.length) := hx
  have HY : Aside (m = ys.length) := hy
  clear hx hy
  go_enter Try.func24, Try.ntmps24
  go_wp2
  go_loopg [11] n (fun g s11 wr => ∃ k : Nat, k ≤ n ∧ k ≤ m ∧ n - k ≤ g ∧ s11 = .int .i64 k ∧ wr = w ∧ ∀ j, j < k → xs.getD j 0 = ys.getD j 0)
  case atStart => exact ⟨0, Nat.zero_le _, Nat.zero_le _, by omega, rfl, rfl, fun j hj => absurd hj (Nat.not_lt_zero _)⟩
  case round =>
    obtain ⟨k, hk, hk2, hg, rfl, rfl, heq⟩ := hrel
    by_cases hlt : k < n
    · have g1 : wr.cell? ⟨b1, o1 + k, none⟩ = some (.int .i64 (xs.getD k 0)) := hc1 k hlt
      by_cases hlm : k < m
      · have g2 : wr.cell? ⟨b2, o2 + k, none⟩ = some (.int .i64 (ys.getD k 0)) := hc2 k hlm
        have A : Aside (∀ j, j < k → xs.getD j 0 = ys.getD j 0) := heq
        have C : Aside (cmpL xs ys = if xs.getD k 0 < ys.getD k 0 then -1 else if ys.getD k 0 < xs.getD k 0 then 1 else cmpL (xs.drop (k + 1)) (ys.drop (k + 1))) := cmpL_drop (by rw [← HX.out]; exact hlt) (by rw [← HY.out]; exact hlm) heq
        clear heq hc1 hc2
        generalize hxk : xs.getD k 0 = x at g1 C
        generalize hyk : ys.getD k 0 = y at g2 C
        have B : Aside (xs.getD k 0 = x ∧ ys.getD k 0 = y) := ⟨hxk, hyk⟩
        clear hxk hyk
        by_cases h1 : x < y
        · have hr := fun W => hcmp x y W
          rw [show cmpI x y = -1 from if_pos h1] at hr
          have D : Aside (cmpL xs ys = -1) := by show cmpL xs ys = -1; rw [C.out, if_pos h1]
          clear hcmp C
          go_wp2_with (go_at_call 33; refine (hr _).mono ?_; rintro e w' ⟨rfl, hw⟩; rw [hw])
          go_ret
          exact ⟨by rw [D.out]; rfl, rfl⟩
        · by_cases h2 : y < x
          · have hr := fun W => hcmp x y W
            rw [show cmpI x y = 1 from by rw [cmpI, if_neg h1, if_pos h2]] at hr
            have D : Aside (cmpL xs ys = 1) := by show cmpL xs ys = 1; rw [C.out, if_neg h1, if_pos h2]
            clear hcmp C
            go_wp2_with (go_at_call 33; refine (hr _).mono ?_; rintro e w' ⟨rfl, hw⟩; rw [hw])
            go_ret
            exact ⟨by rw [D.out]; rfl, rfl⟩
          · have hr := fun W => hcmp x y W
            rw [show cmpI x y = 0 from by rw [cmpI, if_neg h1, if_neg h2]] at hr
            clear hcmp
            go_wp2_with (go_at_call 33; refine (hr _).mono ?_; rintro e w' ⟨rfl, hw⟩; rw [hw])
            go_roundg (n - (k + 1))
            case measure => omega
            case rel =>
              refine ⟨k + 1, by omega, by omega, by omega, by go_num, rfl, fun j hj => ?_⟩
              by_cases e : j = k
              · subst e
                rw [B.out.1, B.out.2]; omega
              · exact A.out j (by omega)
      · have hkm : k = m := by omega
        subst hkm
        have C : Aside (cmpL xs ys = 1) := by
          show cmpL xs ys = 1
          rw [cmpL_same (k := k) (by have := HX.out; omega) (by have := HY.out; omega) heq, show ys.drop k = [] from by rw [List.drop_eq_nil_iff]; have := HX.out; have := HY.out; omega]
          have : (xs.drop k).length = xs.length - k := List.length_drop
          cases h : xs.drop k with
          | nil => rw [h] at this; have := HX.out; have := HY.out; simp at *; omega
          | cons _ _ => rfl
        clear heq hc1 hc2 hcmp
        go_wp2
        go_ret
        exact ⟨by rw [C.out]; rfl, rfl⟩
    · have hkn : k = n := by omega
      subst hkn
      by_cases hlm : k < m
      · have C : Aside (cmpL xs ys = -1) := by
          show cmpL xs ys = -1
          rw [cmpL_same (k := k) (by have := HX.out; omega) (by have := HY.out; omega) heq, show xs.drop k = [] from by rw [List.drop_eq_nil_iff]; have := HX.out; have := HY.out; omega]
          have : (ys.drop k).length = ys.length - k := List.length_drop
          cases h : ys.drop k with
          | nil => rw [h] at this; have := HX.out; have := HY.out; simp at *; omega
          | cons _ _ => rfl
        clear heq hc1 hc2 hcmp
        go_wp2
        go_ret
        exact ⟨by rw [C.out]; rfl, rfl⟩
      · have hkm : k = m := by omega
        have C : Aside (cmpL xs ys = 0) := by
          show cmpL xs ys = 0
          rw [cmpL_same (k := k) (by have := HX.out; omega) (by have := HY.out; omega) heq, show xs.drop k = [] from by rw [List.drop_eq_nil_iff]; have := HX.out; have := HY.out; omega, show ys.drop k = [] from by rw [List.drop_eq_nil_iff]; have := HX.out; have := HY.out; omega]
          rfl
        clear heq hc1 hc2 hcmp
        go_wp2
        go_ret
        exact ⟨by rw [C.out]; rfl, rfl⟩

end Go.Proofs.Ytanbekjefbebaaa.V

/-
  Chapter 03, order: what is needed of it.
  It speaks of whatever program; no condition.
-/
import Derived.Test.YtnbfiifkaddehaaB1
import Derived.Shelf.SlSortCmp.NoneTotal
import Derived.Shelf.RegionOpenPlain
import Derived.WalkKit
import Derived.Deep.LoopGhost
import Derived.Deep.Draws
import Derived.Lib.Walk
import Derived.Test.YtnbfiifkaddehaaProg

/- Chapter 03, order: the plain law of words, and their comparing as the library's text does it, walked by the kit. -/
namespace Go.Proofs.Ytnbfiifkaddehaa.V.R

open Go Go.Proofs Go.Shelf Go.RowKit Go.Lib

set_option linter.unusedVariables false

set_option linter.unusedSimpArgs false

def cmpI (x y : Int) : Int := if x < y then -1 else if y < x then 1 else 0

def cmpL : List Int → List Int → Int
  | [], [] => 0
  | [], _ :: _ => -1
  | _ :: _, [] => 1
  | a :: xs, b :: ys => if a < b then -1 else if b < a then 1 else cmpL xs ys

theorem cmpL_drop {xs ys : List Int} {k : Nat} (hx : k < xs.length) (hy : k < ys.length) (h : ∀ j, j < k → xs.getD j 0 = ys.getD j 0) :
    cmpL xs ys = if xs.getD k 0 < ys.getD k 0 then -1 else if ys.getD k 0 < xs.getD k 0 then 1 else cmpL (xs.drop (k + 1)) (ys.drop (k + 1)) := by
  induction k generalizing xs ys with
  | zero =>
    match xs, ys, hx, hy with
    | x :: xs, y :: ys, _, _ => simp [cmpL]
  | succ k ih =>
    match xs, ys, hx, hy with
    | x :: xs, y :: ys, hx, hy =>
      have h0 : x = y := by simpa using h 0 (by omega)
      subst h0
      have := ih (xs := xs) (ys := ys) (by simpa using hx) (by simpa using hy) (fun j hj => by simpa using h (j + 1) (by omega))
      simp only [cmpL, Int.lt_irrefl, if_false, List.getD_cons_succ, List.drop_succ_cons]
      exact this

theorem cmpL_same {xs ys : List Int} {k : Nat} (hx : k ≤ xs.length) (hy : k ≤ ys.length) (h : ∀ j, j < k → xs.getD j 0 = ys.getD j 0) : cmpL xs ys = cmpL (xs.drop k) (ys.drop k) := by
  induction k generalizing xs ys with
  | zero => simp
  | succ k ih =>
    match xs, ys, hx, hy with
    | x :: xs, y :: ys, hx, hy =>
      have h0 : x = y := by simpa using h 0 (by omega)
      subst h0
      have := ih (xs := xs) (ys := ys) (by simpa using hx) (by simpa using hy) (fun j hj => by simpa using h (j + 1) (by omega))
      simp only [cmpL, Int.lt_irrefl, if_false, List.drop_succ_cons]
      exact this

theorem k_isNaN (x : Int) (w : World) : Calls Try.prog 60 #[.int .i64 x] w fun e w' => e = .returned (.bool false) ∧ w' = w := by
  go_enter Try.func60, Try.ntmps60
  go_wp2
  go_ret
  exact ⟨by simp, rfl⟩

set_option maxHeartbeats 1000000 in
theorem k_cmp (x y : Int) (w : World) : Calls Try.prog 53 #[.int .i64 x, .int .i64 y] w fun e w' => e = .returned (.int .i64 (cmpI x y)) ∧ w' = w := by
  have hc := fun x W => k_isNaN x W
  go_enter Try.func53, Try.ntmps53
  go_wp2_with (go_at_call 60; refine (hc _ _).mono ?_; rintro e w' ⟨rfl, hw⟩; rw [hw])
  all_goals (go_ret; refine ⟨?_, rfl⟩; unfold cmpI; (repeat' split) <;> first | rfl | (exfalso; omega))

set_option maxHeartbeats 4000000 in
set_option maxRecDepth 100000 in
/-- slices.Compare at two words that lie somewhere. -/
theorem k_words (b1 o1 n c b2 o2 m d : Nat) (xs ys : List Int) (w : World) (hx : n = xs.length) (hy : m = ys.length) (hn : 0 < n) (hm : 0 < m) (hbig : n ≤ 9223372036854775807) (hbig2 : m ≤ 9223372036854775807)
    (hc1 : ∀ j, j < n → w.cell? ⟨b1, o1 + j, none⟩ = some (.int .i64 (xs.getD j 0))) (hc2 : ∀ j, j < m → w.cell? ⟨b2, o2 + j, none⟩ = some (.int .i64 (ys.getD j 0))) :
    Calls Try.prog 37 #[.slice (some ⟨b1, o1, none⟩) n c, .slice (some ⟨b2, o2, none⟩) m d] w fun e w' => e = .returned (.int .i64 (cmpL xs ys)) ∧ w' = w := by
  have hcmp := fun x y W => k_cmp x y W
  have HX : Aside (n = xs.length) := hx
  have HY : Aside (m = ys.length) := hy
  clear hx hy
  go_enter Try.func37, Try.ntmps37
  go_wp2
  go_loopg [11] n (fun g s11 wr => ∃ k : Nat, k ≤ n ∧ k ≤ m ∧ n - k ≤ g ∧ s11 = .int .i64 k ∧ wr = w ∧ ∀ j, j < k → xs.getD j 0 = ys.getD j 0)
  case atStart => exact ⟨0, Nat.zero_le _, Nat.zero_le _, by omega, rfl, rfl, fun j hj => absurd hj (Nat.not_lt_zero _)⟩
  case round =>
    obtain ⟨k, hk, hk2, hg, rfl, rfl, heq⟩ := hrel
    by_cases hlt : k < n
    · have g1 : wr.cell? ⟨b1, o1 + k, none⟩ = some (.int .i64 (xs.getD k 0)) := hc1 k hlt
      by_cases hlm : k < m
      · have g2 : wr.cell? ⟨b2, o2 + k, none⟩ = some (.int .i64 (ys.getD k 0)) := hc2 k hlm
        have A : Aside (∀ j, j < k → xs.getD j 0 = ys.getD j 0) := heq
        have C : Aside (cmpL xs ys = if xs.getD k 0 < ys.getD k 0 then -1 else if ys.getD k 0 < xs.getD k 0 then 1 else cmpL (xs.drop (k + 1)) (ys.drop (k + 1))) := cmpL_drop (by rw [← HX.out]; exact hlt) (by rw [← HY.out]; exact hlm) heq
        clear heq hc1 hc2
        generalize hxk : xs.getD k 0 = x at g1 C
        generalize hyk : ys.getD k 0 = y at g2 C
        have B : Aside (xs.getD k 0 = x ∧ ys.getD k 0 = y) := ⟨hxk, hyk⟩
        clear hxk hyk
        by_cases h1 : x < y
        · have hr := fun W => hcmp x y W
          rw [show cmpI x y = -1 from if_pos h1] at hr
          have D : Aside (cmpL xs ys = -1) := by show cmpL xs ys = -1; rw [C.out, if_pos h1]
          clear hcmp C
          go_wp2_with (go_at_call 53; refine (hr _).mono ?_; rintro e w' ⟨rfl, hw⟩; rw [hw])
          go_ret
          exact ⟨by rw [D.out]; rfl, rfl⟩
        · by_cases h2 : y < x
          · have hr := fun W => hcmp x y W
            rw [show cmpI x y = 1 from by rw [cmpI, if_neg h1, if_pos h2]] at hr
            have D : Aside (cmpL xs ys = 1) := by show cmpL xs ys = 1; rw [C.out, if_neg h1, if_pos h2]
            clear hcmp C
            go_wp2_with (go_at_call 53; refine (hr _).mono ?_; rintro e w' ⟨rfl, hw⟩; rw [hw])
            go_ret
            exact ⟨by rw [D.out]; rfl, rfl⟩
          · have hr := fun W => hcmp x y W
            rw [show cmpI x y = 0 from by rw [cmpI, if_neg h1, if_neg h2]] at hr
            clear hcmp
            go_wp2_with (go_at_call 53; refine (hr _).mono ?_; rintro e w' ⟨rfl, hw⟩; rw [hw])
            go_roundg (n - (k + 1))
            case measure => omega
            case rel =>
              refine ⟨k + 1, by omega, by omega, by omega, by go_num, rfl, fun j hj => ?_⟩
              by_cases e : j = k
              · subst e
                rw [B.out.1, B.out.2]; omega
              · exact A.out j (by omega)
      · have hkm : k = m := by omega
        subst hkm
        have C : Aside (cmpL xs ys = 1) := by
          show cmpL xs ys = 1
          rw [cmpL_same (k := k) (by have := HX.out; omega) (by have := HY.out; omega) heq, show ys.drop k = [] from by rw [List.drop_eq_nil_iff]; have := HX.out; have := HY.out; omega]
          have : (xs.drop k).length = xs.length - k := List.length_drop
          cases h : xs.drop k with
          | nil => rw [h] at this; have := HX.out; have := HY.out; simp at *; omega
          | cons _ _ => rfl
        clear heq hc1 hc2 hcmp
        go_wp2
        go_ret
        exact ⟨by rw [C.out]; rfl, rfl⟩
    · have hkn : k = n := by omega
      subst hkn
      by_cases hlm : k < m
      · have C : Aside (cmpL xs ys = -1) := by
          show cmpL xs ys = -1
          rw [cmpL_same (k := k) (by have := HX.out; omega) (by have := HY.out; omega) heq, show xs.drop k = [] from by rw [List.drop_eq_nil_iff]; have := HX.out; have := HY.out; omega]
          have : (ys.drop k).length = ys.length - k := List.length_drop
          cases h : ys.drop k with
          | nil => rw [h] at this; have := HX.out; have := HY.out; simp at *; omega
          | cons _ _ => rfl
        clear heq hc1 hc2 hcmp
        go_wp2
        go_ret
        exact ⟨by rw [C.out]; rfl, rfl⟩
      · have hkm : k = m := by omega
        have C : Aside (cmpL xs ys = 0) := by
          show cmpL xs ys = 0
          rw [cmpL_same (k := k) (by have := HX.out; omega) (by have := HY.out; omega) heq, show xs.drop k = [] from by rw [List.drop_eq_nil_iff]; have := HX.out; have := HY.out; omega, show ys.drop k = [] from by rw [List.drop_eq_nil_iff]; have := HX.out; have := HY.out; omega]
          rfl
        clear heq hc1 hc2 hcmp
        go_wp2
        go_ret
        exact ⟨by rw [C.out]; rfl, rfl⟩

end Go.Proofs.Ytnbfiifkaddehaa.V.R

/- The library's contract for sorting, laid at this program: slices.SortFunc (the kit's own; the numbers by its command in plain words). -/
namespace Go.Proofs.Ytnbfiifkaddehaa.V.R
open Go.Proofs Go.Shelf
def laysSrt_ren : Go.Shelf.Ren := ⟨fun | 6 => 43 | 15 => 57 | 14 => 56 | 28 => 70 | 29 => 71 | 20 => 62 | 21 => 63 | 22 => 64 | 23 => 65 | 24 => 66 | 25 => 67 | 26 => 68 | 27 => 69 | 46 => 72 | 47 => 73 | 48 => 74 | 49 => 75 | 50 => 76 | 57 => 77 | n => n, fun | 22 => 23 | 24 => 35 | 25 => 40 | 3 => 3 | 39 => 70 | 0 => 0 | 53 => 72 | 55 => 82 | 4 => 4 | 46 => 75 | 45 => 74 | 50 => 30 | 5 => 5 | 9 => 9 | 66 => 83 | 70 => 87 | 76 => 89 | 77 => 90 | n => n, fun | n => n⟩
theorem laysSrt : Go.Proofs.SlLaysF.n6 Try.prog laysSrt_ren := {
  mixed := by kernel_rfl
  f6 := ⟨Try.f43.name, by decide, Try.func43.trans (congrArg some (by kernel_rfl))⟩
  f14 := ⟨Try.f56.name, by decide, Try.func56.trans (congrArg some (by kernel_rfl))⟩
  f15 := Try.func57.trans (congrArg some (by kernel_rfl))
  f20 := ⟨Try.f62.name, by decide, Try.func62.trans (congrArg some (by kernel_rfl))⟩
  f21 := ⟨Try.f63.name, by decide, Try.func63.trans (congrArg some (by kernel_rfl))⟩
  f22 := ⟨Try.f64.name, by decide, Try.func64.trans (congrArg some (by kernel_rfl))⟩
  f23 := ⟨Try.f65.name, by decide, Try.func65.trans (congrArg some (by kernel_rfl))⟩
  f24 := ⟨Try.f66.name, by decide, Try.func66.trans (congrArg some (by kernel_rfl))⟩
  f25 := ⟨Try.f67.name, by decide, Try.func67.trans (congrArg some (by kernel_rfl))⟩
  f26 := ⟨Try.f68.name, by decide, Try.func68.trans (congrArg some (by kernel_rfl))⟩
  f27 := ⟨Try.f69.name, by decide, Try.func69.trans (congrArg some (by kernel_rfl))⟩
  f28 := Try.func70.trans (congrArg some (by kernel_rfl))
  f29 := Try.func71.trans (congrArg some (by kernel_rfl))
  f46 := ⟨Try.f72.name, by decide, Try.func72.trans (congrArg some (by kernel_rfl))⟩
  f47 := Try.func73.trans (congrArg some (by kernel_rfl))
  f48 := Try.func74.trans (congrArg some (by kernel_rfl))
  f49 := ⟨Try.f75.name, by decide, Try.func75.trans (congrArg some (by kernel_rfl))⟩
  f50 := ⟨Try.f76.name, by decide, Try.func76.trans (congrArg some (by kernel_rfl))⟩
  f57 := ⟨Try.f77.name, by decide, Try.func77.trans (congrArg some (by kernel_rfl))⟩
  t0 := Try.underlying0
  a0 := Try.isAgg0
  z0 := Try.sizeOf0
  v0 := Try.zeroValue0
  t3 := Try.underlying3
  a3 := Try.isAgg3
  z3 := Try.sizeOf3
  v3 := Try.zeroValue3
  t4 := Try.underlying4
  a4 := Try.isAgg4
  z4 := Try.sizeOf4
  v4 := Try.zeroValue4
  t5 := Try.underlying5
  a5 := Try.isAgg5
  z5 := Try.sizeOf5
  v5 := Try.zeroValue5
  t9 := Try.underlying9
  a9 := Try.isAgg9
  z9 := Try.sizeOf9
  v9 := Try.zeroValue9
  t22 := Try.underlying23
  a22 := Try.isAgg23
  z22 := Try.sizeOf23
  v22 := Try.zeroValue23
  a24 := Try.isAgg35
  z24 := Try.sizeOf35
  t25 := Try.underlying40
  a25 := Try.isAgg40
  z25 := Try.sizeOf40
  v25 := Try.zeroValue40
  t39 := Try.underlying70
  a39 := Try.isAgg70
  z39 := Try.sizeOf70
  v39 := Try.zeroValue70
  t45 := Try.underlying74
  a45 := Try.isAgg74
  z45 := Try.sizeOf74
  v45 := Try.zeroValue74
  t46 := Try.underlying75
  a46 := Try.isAgg75
  z46 := Try.sizeOf75
  v46 := Try.zeroValue75
  t50 := Try.underlying30
  a50 := Try.isAgg30
  z50 := Try.sizeOf30
  v50 := Try.zeroValue30
  t53 := Try.underlying72
  a53 := Try.isAgg72
  z53 := Try.sizeOf72
  v53 := Try.zeroValue72
  t55 := Try.underlying82
  a55 := Try.isAgg82
  z55 := Try.sizeOf82
  v55 := Try.zeroValue82
  t66 := Try.underlying83
  a66 := Try.isAgg83
  z66 := Try.sizeOf83
  v66 := Try.zeroValue83
  t70 := Try.underlying87
  a70 := Try.isAgg87
  z70 := Try.sizeOf87
  v70 := Try.zeroValue87
  t76 := Try.underlying89
  a76 := Try.isAgg89
  z76 := Try.sizeOf89
  v76 := Try.zeroValue89
  t77 := Try.underlying90
  a77 := Try.isAgg90
  z77 := Try.sizeOf90
  v77 := Try.zeroValue90 }
end Go.Proofs.Ytnbfiifkaddehaa.V.R

/- Chapter 03, order: words in order: the plain law; two words compared wherever they lie. -/
namespace Go.Proofs.Ytnbfiifkaddehaa.V.R

open Go Go.Proofs Go.Shelf Go.RowKit Go.Lib Go.Sort

set_option linter.unusedVariables false

set_option linter.unusedSimpArgs false

theorem cmpL_self : ∀ a : List Int, cmpL a a = 0
  | [] => rfl
  | x :: xs => by simp [cmpL, cmpL_self xs]

theorem cmpL_zero : ∀ {a b : List Int}, cmpL a b = 0 → a = b
  | [], [], _ => rfl
  | [], _ :: _, h => by simp [cmpL] at h
  | _ :: _, [], h => by simp [cmpL] at h
  | x :: xs, y :: ys, h => by
    simp only [cmpL] at h
    split at h
    · cases h
    · split at h
      · cases h
      · have : x = y := by omega
        rw [this, cmpL_zero h]

theorem cmpL_neg : ∀ a b : List Int, cmpL b a = - cmpL a b
  | [], [] => rfl
  | [], _ :: _ => rfl
  | _ :: _, [] => rfl
  | x :: xs, y :: ys => by
    simp only [cmpL]
    by_cases h1 : x < y
    · have h2 : ¬ y < x := by omega
      simp [h1, h2]
    · by_cases h2 : y < x
      · simp [h1, h2]
      · simp [h1, h2, cmpL_neg xs ys]

theorem cmpL_trans : ∀ {a b c : List Int}, cmpL a b < 0 → cmpL b c < 0 → cmpL a c < 0
  | [], _, [], h1, h2 => by
    rename_i b
    cases b <;> simp [cmpL] at h1 h2
  | [], _, _ :: _, h1, h2 => by simp [cmpL]
  | _ :: _, [], _, h1, h2 => by simp [cmpL] at h1
  | _ :: _, _ :: _, [], h1, h2 => by simp [cmpL] at h2
  | x :: xs, y :: ys, z :: zs, h1, h2 => by
    simp only [cmpL] at h1 h2 ⊢
    by_cases p1 : x < z
    · simp [p1]
    · by_cases p2 : z < x
      · exfalso
        by_cases q1 : x < y
        · have q2 : ¬ y < z := by omega
          have q3 : z < y := by omega
          simp [q2, q3] at h2
        · by_cases q2 : y < x
          · simp [q1, q2] at h1
          · have : x = y := by omega
            subst this
            simp [p1, p2] at h2
      · have : x = z := by omega
        subst this
        simp only [Int.lt_irrefl, if_false]
        by_cases q1 : x < y
        · have q3 : ¬ y < x := by omega
          simp [q1, q3] at h2
        · by_cases q2 : y < x
          · simp [q1, q2] at h1
          · simp only [q1, q2, if_false] at h1 h2
            exact cmpL_trans h1 h2

abbrev ltL : List Int → List Int → Bool := ltOf cmpL

theorem ltL_iff {a b : List Int} : ltL a b = true ↔ cmpL a b < 0 := by simp [ltL, ltOf]

theorem ltL_anti {a b : List Int} (h1 : ltL a b = false) (h2 : ltL b a = false) : a = b := by
  simp only [ltL, ltOf, decide_eq_false_iff_not] at h1 h2
  have := cmpL_neg a b
  exact cmpL_zero (by omega)

theorem swoL : SWO ltL where
  irrefl x := by simp [ltL, ltOf, cmpL_self]
  trans x y z h1 h2 := by
    rw [ltL_iff] at h1 h2 ⊢
    exact cmpL_trans h1 h2
  ntrans x y z h1 h2 := by
    rw [Bool.eq_false_iff, Ne, ltL_iff] at h1 h2 ⊢
    intro h3
    by_cases e1 : x = y
    · subst e1; exact h2 h3
    · have : cmpL y x < 0 := by
        have n := cmpL_neg x y
        have : cmpL x y ≠ 0 := fun h => e1 (cmpL_zero h)
        omega
      exact h2 (cmpL_trans this h3)

/-- Words in order, each as often as it came. -/
def srtL (l : List (List Int)) : List (List Int) := l.mergeSort fun x y => !ltL y x

/-- Words that lie somewhere. -/
def WordAt (w : World) (v : Value) (xs : List Int) : Prop := ∃ a c, v = .slice a xs.length c ∧ xs.length ≤ 9223372036854775807 ∧
  ∀ j, j < xs.length → ∃ b o, a = some ⟨b, o, none⟩ ∧ w.cell? ⟨b, o + j, none⟩ = some (.int .i64 (xs.getD j 0))

set_option maxHeartbeats 4000000 in
set_option maxRecDepth 100000 in
theorem k_compare (u v : Value) (xs ys : List Int) (w : World) (hu : WordAt w u xs) (hv : WordAt w v ys) :
    Calls Try.prog 37 #[u, v] w fun e w' => e = .returned (.int .i64 (cmpL xs ys)) ∧ w' = w := by
  obtain ⟨a, c, rfl, hb1, h1⟩ := hu
  obtain ⟨b, d, rfl, hb2, h2⟩ := hv
  by_cases hx : xs = []
  · subst hx
    clear h1 h2
    have hr : cmpL [] ys = if ys.length = 0 then 0 else -1 := by cases ys <;> rfl
    rw [hr]
    generalize ys.length = m at hb2
    simp only [List.length_nil]
    go_enter Try.func37, Try.ntmps37
    go_wp2
    refine wp_loop_rounds 1 ?_
    rw [rounds_succ]
    by_cases hm : m = 0
    · subst hm
      go_wp2
      go_ret
      exact ⟨rfl, rfl⟩
    · have h0 : 0 < m := by omega
      go_wp2
      go_ret
      exact ⟨rfl, rfl⟩
  · have hlx : 0 < xs.length := List.length_pos_iff.2 hx
    obtain ⟨b1, o1, rfl, _⟩ := h1 0 hlx
    have k1 : ∀ j, j < xs.length → w.cell? ⟨b1, o1 + j, none⟩ = some (.int .i64 (xs.getD j 0)) := fun j hj => by
      obtain ⟨b', o', e, h⟩ := h1 j hj
      cases e
      exact h
    by_cases hy : ys = []
    · subst hy
      clear h2 h1
      have g1 := k1 0 hlx
      rw [Nat.add_zero] at g1
      generalize xs.getD 0 0 = x at g1
      have hr : cmpL xs [] = 1 := by cases xs with | nil => exact absurd rfl hx | cons _ _ => rfl
      rw [hr]
      clear k1 hr hx
      generalize xs.length = n at hb1 hlx
      simp only [List.length_nil]
      go_enter Try.func37, Try.ntmps37
      go_wp2
      refine wp_loop_rounds 1 ?_
      rw [rounds_succ]
      go_wp2
      go_ret
      exact ⟨rfl, rfl⟩
    · have hly : 0 < ys.length := List.length_pos_iff.2 hy
      obtain ⟨b2, o2, rfl, _⟩ := h2 0 hly
      have k2 : ∀ j, j < ys.length → w.cell? ⟨b2, o2 + j, none⟩ = some (.int .i64 (ys.getD j 0)) := fun j hj => by
        obtain ⟨b', o', e, h⟩ := h2 j hj
        cases e
        exact h
      exact k_words b1 o1 _ c b2 o2 _ d xs ys w rfl rfl hlx hly hb1 hb2 k1 k2

theorem k_clo (u v : Value) (xs ys : List Int) (w : World) (hu : WordAt w u xs) (hv : WordAt w v ys) :
    Calls Try.prog 44 #[u, v] w fun e w' => e = .returned (.int .i64 (cmpL xs ys)) ∧ w' = w := by
  have hc := k_compare u v xs ys w hu hv
  clear hu hv
  generalize cmpL xs ys = r at hc ⊢
  go_enter Try.func44, Try.ntmps44
  go_wp2_with (go_at_call 37; refine hc.mono ?_; rintro e w' ⟨rfl, hw⟩; rw [hw])
  go_ret
  exact ⟨rfl, rfl⟩

end Go.Proofs.Ytnbfiifkaddehaa.V.R

/- Chapter 03, order: the library's sorting, told to the evaluator. -/
namespace Go.Proofs.Ytnbfiifkaddehaa.V.R

open Go Go.Proofs Go.Shelf Go.RowKit Go.Lib Go.Sort

set_option linter.unusedVariables false

set_option linter.unusedSimpArgs false

abbrev wT : Ty := .slice (.int .i64)

def srtF (A : Ar) : List X → Hp → Tr (X × Hp)
  | [.mref (.slice (.int .i64)) 0 [] 0 n, .fn f [] []], [(.arr m (.slice (.int .i64)), .d (.arr q (.slice (.int .i64))) l)] =>
    .test (A.se (decide (f = 44 ∧ m = n ∧ q = n ∧ n ≤ 1000000) && l.all fun x => decide (List.length x ≤ 1000000)))
      (.give (.tup [], [(.arr m (.slice (.int .i64)), .d (.arr q (.slice (.int .i64))) (A.se (srtL l)))])) .no
  | [.sl (.slice (.int .i64)) [] nl false, .fn f [] []], H => .give (.tup [], H)
  | _, _ => .no

/-- The cells of a variable's words. -/
theorem word_at {g : Ghost} {w : World} {x : List Int} {cs : List Value} (h : RepC w g wT x cs) (hl : x.length ≤ 1000000) : ∃ v, cs = [v] ∧ v.oneCell' = true ∧ WordAt w v x ∧ ∀ W : World, (∀ b off, off < g.U b → W.cell? ⟨b, off, none⟩ = w.cell? ⟨b, off, none⟩) → WordAt W v x := by
  obtain ⟨a, c, rfl, hc, hr⟩ := h
  have key : ∀ W : World, (∀ b off, off < g.U b → W.cell? ⟨b, off, none⟩ = w.cell? ⟨b, off, none⟩) → WordAt W (.slice a x.length c) x := fun W hW => by
    refine ⟨a, c, rfl, by omega, fun j hj => ?_⟩
    obtain ⟨A, cs, e1, e2, e3, e4, e5⟩ := hr j hj
    obtain ⟨b, o, s⟩ := A
    simp only at e2
    subst e2
    have e4' : cs = [.int .i64 (x[j])] := e4
    subst e4'
    obtain ⟨k1, k2⟩ := e5 0 (by simp)
    simp only [Ty.size, Nat.mul_one, Nat.add_zero, List.getElem_cons_zero] at k1 k2
    refine ⟨b, o, e1, ?_⟩
    rw [hW _ _ k2, k1, List.getD_eq_getElem?_getD, List.getElem?_eq_getElem hj]
    rfl
  exact ⟨_, rfl, rfl, key w (fun _ _ _ => rfl), key⟩

theorem parts_words {R : List Int → List Value → Prop} (hR : ∀ x cs, R x cs → cs.length = 1) : ∀ (l : List (List Int)) (cs : List Value), Parts R l cs ↔ cs.length = l.length ∧ ∀ i (h : i < l.length) (h' : i < cs.length), R l[i] [cs[i]] := by
  intro l
  induction l with
  | nil =>
    intro cs
    simp only [Parts, List.length_nil]
    constructor
    · rintro rfl; exact ⟨rfl, fun i h => absurd h (Nat.not_lt_zero _)⟩
    · rintro ⟨h, _⟩; exact List.eq_nil_of_length_eq_zero h
  | cons x l ih =>
    intro cs
    simp only [Parts]
    constructor
    · rintro ⟨c1, c2, rfl, h1, h2⟩
      have hl := hR _ _ h1
      obtain ⟨c, rfl⟩ := List.length_eq_one_iff.1 hl
      obtain ⟨k1, k2⟩ := (ih c2).1 h2
      refine ⟨by simp [k1], fun i hi hi' => ?_⟩
      cases i with
      | zero => exact h1
      | succ i => exact k2 i (by simpa using hi) (by simpa using hi')
    · rintro ⟨h1, h2⟩
      cases cs with
      | nil => simp at h1
      | cons c cs =>
        refine ⟨[c], cs, rfl, h2 0 (by simp) (by simp), (ih cs).2 ⟨by simpa using h1, fun i hi hi' => h2 (i + 1) (by simpa using hi) (by simpa using hi')⟩⟩

/-- From numbers in order to words in order. -/
theorem sorted_words {l : List (List Int)} {d' : Array Nat} (hp : PermIn 0 l.length (Array.range l.length) d') (hs : SortedIn (ltOf fun i j => cmpL (l.getD i []) (l.getD j [])) 0 l.length d') :
    d'.toList.map (fun i => l.getD i []) = srtL l ∧ ∀ i ∈ d'.toList, i < l.length := by
  obtain ⟨p1, _, p2⟩ := hp
  rw [Array.size_range] at p1
  have e1 : d'.extract 0 l.length = d' := by rw [← p1]; exact Array.extract_size
  have e2 : (Array.range l.length).extract 0 l.length = Array.range l.length := by
    conv => lhs; arg 3; rw [← Array.size_range (n := l.length)]
    exact Array.extract_size
  rw [e1, e2, Array.toList_range] at p2
  have hmem : ∀ i ∈ d'.toList, i < l.length := fun i hi => by simpa using p2.subset hi
  have hpm : (d'.toList.map (fun i => l.getD i [])).Perm l := by
    have := p2.map (fun i => l.getD i [])
    refine this.trans (List.Perm.of_eq ?_)
    refine List.ext_getElem (by simp) fun i h1 h2 => ?_
    simp [List.getD_eq_getElem?_getD, List.getElem?_eq_getElem h2]
  have hlen : (d'.toList.map (fun i => l.getD i [])).length = l.length := by simp [p1]
  refine ⟨?_, hmem⟩
  have := sorted_unique_holds (lt := ltL) swoL (fun x y h1 h2 => ltL_anti h1 h2) l.toArray (d'.toList.map (fun i => l.getD i [])).toArray
    ⟨by simp [p1], fun i hi => by
      have h : l.length ≤ i := by simpa using hi
      rw [getElem!_neg _ i (by simp [p1]; omega), getElem!_neg _ i (by simp; omega)], by
      have q1 : (d'.toList.map (fun i => l.getD i [])).toArray.extract 0 l.toArray.size = (d'.toList.map (fun i => l.getD i [])).toArray := by
        rw [show l.toArray.size = (d'.toList.map (fun i => l.getD i [])).toArray.size from by simp [p1]]; exact Array.extract_size
      have q2 : l.toArray.extract 0 l.toArray.size = l.toArray := Array.extract_size
      rw [q1, q2]; simpa using hpm⟩ (fun i j h0 hij hj => by
      have hj' : j < l.length := by simpa using hj
      have := hs i j h0 hij hj'
      have g : ∀ k (hk : k < l.length), (d'.toList.map (fun i => l.getD i [])).toArray[k]! = l.getD (d'[k]!) [] := fun k hk => by
        rw [getElem!_pos _ k (by simp [p1]; exact hk), getElem!_pos d' k (by omega)]
        simp
      rw [g j hj', g i (by omega)]
      exact this)
  simpa [srtL] using this

end Go.Proofs.Ytnbfiifkaddehaa.V.R

/- Chapter 03, order: slices.SortFunc turns a variable's words into words in order. -/
namespace Go.Proofs.Ytnbfiifkaddehaa.V.R

open Go Go.Proofs Go.Shelf Go.RowKit Go.Lib Go.Sort

set_option linter.unusedVariables false

set_option linter.unusedSimpArgs false

theorem heap_sortWorld_other {enc : Nat → Value} {w : World} {blk off m b : Nat} {dk : Array Nat} {os : Array Obj} (hb : b < w.heap.size) (hne : b ≠ blk) : (sortWorld enc w blk off m dk os).heap[b]? = w.heap[b]? := by
  unfold sortWorld
  rw [heap_grow_old _ _ (by rw [Go.Sort.size_putRow]; exact hb)]
  simp only [putRow, mapBlock, heap_ahead, Array.getElem?_modify]
  rw [if_neg (Ne.symm hne)]

theorem heap_sortWorld_row {enc : Nat → Value} {w : World} {blk off m : Nat} {dk : Array Nat} {os : Array Obj} {arr : Array Value} {T : Nat} {fr : Nat × Nat} (h : w.heap[blk]? = some (.cells arr T fr)) :
    (sortWorld enc w blk off m dk os).heap[blk]? = some (.cells (putCells enc off dk arr) T fr) := by
  have hb : blk < w.heap.size := (Array.getElem?_eq_some_iff.1 h).1
  unfold sortWorld
  rw [heap_grow_old _ _ (by rw [Go.Sort.size_putRow]; exact hb)]
  simp only [putRow, mapBlock, heap_ahead, Array.getElem?_modify]
  rw [if_pos trivial, h]
  rfl

theorem take_putCells {enc : Nat → Value} {n : Nat} {dk : Array Nat} {arr : Array Value} (hs : dk.size = n) (hn : n ≤ arr.size) : (putCells enc 0 dk arr).toList.take n = dk.toList.map enc := by
  refine List.ext_getElem? fun i => ?_
  rw [List.getElem?_take]
  by_cases hi : i < n
  · rw [if_pos hi, Array.getElem?_toList, List.getElem?_map, Array.getElem?_toList]
    simp only [putCells, Array.getElem?_mapIdx]
    rw [Array.getElem?_eq_getElem (show i < arr.size by omega), Array.getElem?_eq_getElem (show i < dk.size by omega)]
    simp only [Option.map_some]
    rw [if_pos ⟨by omega, by omega⟩, Nat.sub_zero, getElem!_pos dk i (by omega)]
  · rw [if_neg hi, List.getElem?_eq_none (by simp; omega)]

theorem srt_ok : OrcOk Try.prog 43 (.eff (srtF Ar.real)) := by
  show EffOk _ _ _
  refine ⟨fnOk (fn := Try.f43) (by kernel_rfl) (by decide +kernel) (by kernel_rfl), fun args H r H' hr g w d dh vs hd hw hH ha => ?_⟩
  replace hr : (srtF Ar.real args H).run some = some (r, H') := hr
  unfold srtF at hr
  split at hr
  · rename_i n f m q l
    obtain ⟨hg, he⟩ := Tr.one hr
    cases he
    simp only [rw_se, Bool.and_eq_true, decide_eq_true_eq, List.all_eq_true] at hg ⊢
    obtain ⟨⟨rfl, hm, hq, hn⟩, hl⟩ := hg
    replace hm := hm.symm
    replace hq := hq.symm
    subst hm
    subst hq
    simp only [RepXs] at ha
    obtain ⟨v0, us0, rfl, k0, v1, us1, rfl, k1, rfl⟩ := ha
    simp only [RepX, RepXs] at k0 k1
    obtain ⟨hN, n', o, a0, c, h2, h3, h4, rfl, h6⟩ := k0
    obtain ⟨w1, w2, rfl, rfl, rfl⟩ := k1
    simp only [pathAt, Option.some.injEq, Prod.mk.injEq] at h2
    obtain ⟨rfl, h2⟩ := h2
    obtain ⟨r1, r2, hlive⟩ := hH.2 0 _ _ rfl
    obtain ⟨r3, r4, r56⟩ := hlive.at (by simp)
    rw [h2] at r1
    cases r1
    obtain ⟨arr, tyo, fr, r5, rf, r6⟩ := r56.cells (p := []) rfl (by simp) (fun _ _ _ h => by cases h)
    simp only [RepO] at r6
    obtain ⟨_, q2, q3⟩ := r6
    have hsz : (Ty.arr n wT).size = n := by simp [Ty.size]
    rw [hsz] at q3
    obtain ⟨p1, p2⟩ := (parts_words (RepC.length (w := w) (g := g) wT) _ _).1 q3
    by_cases h0 : n = 0
    · subst h0
      obtain rfl : l = [] := List.eq_nil_of_length_eq_zero q2
      have hcall : Calls Try.prog 43 #[.slice (some a0) 0 c, .func (.func 44) #[] #[]] w fun e w' => e = .returned (.tuple #[]) ∧ w' = w := AnyF.slices_SortFunc_none (ρ := laysSrt_ren) { laysSrt with } _ _ _ _
      refine hcall.mono ?_
      rintro e w' ⟨rfl, rfl⟩
      exact ⟨_, g, rfl, by simp only [RepX, RepXs]; exact ⟨[], rfl, rfl⟩, Ext.refl _ _ _ _, hw, by rw [show srtL [] = [] from by simp [srtL]]; exact hH⟩
    · have ha0 := h6 (by omega)
      subst ha0
      have hblk : g.μ dh 0 < w.heap.size := (Array.getElem?_eq_some_iff.1 r5).1
      generalize hB : g.μ dh 0 = blk at *
      have harr : n ≤ arr.size := by
        have := p1
        rw [List.length_take, Array.length_toList, q2] at this
        omega
      generalize hC : arr.toList.take n = cells at p1 p2
      have hcj : ∀ j, j < n → arr[j]? = some (cells.getD j (.slice none 0 0)) := fun j hj => by
        rw [← hC, List.getD_eq_getElem?_getD, List.getElem?_take, if_pos hj, Array.getElem?_toList, Array.getElem?_eq_getElem (show j < arr.size by omega)]
        rfl
      have hword : ∀ i, (cells.getD i (.slice none 0 0)).oneCell' = true ∧ ∀ W : World, (∀ b off, off < g.U b → W.cell? ⟨b, off, none⟩ = w.cell? ⟨b, off, none⟩) → WordAt W (cells.getD i (.slice none 0 0)) (l.getD i []) := fun i => by
        by_cases hi : i < l.length
        · obtain ⟨v, e1, e2, _, e3⟩ := word_at (p2 i hi (by omega)) (hl _ (List.getElem_mem hi))
          cases e1
          rw [List.getD_eq_getElem?_getD, List.getElem?_eq_getElem (show i < cells.length by omega), List.getD_eq_getElem?_getD, List.getElem?_eq_getElem hi]
          exact ⟨e2, e3⟩
        · rw [List.getD_eq_getElem?_getD, List.getElem?_eq_none (show cells.length ≤ i by omega), List.getD_eq_getElem?_getD, List.getElem?_eq_none (show l.length ≤ i by omega)]
          exact ⟨rfl, fun W _ => ⟨none, 0, rfl, by simp, fun j hj => absurd hj (by simp)⟩⟩
      have hS : ∀ (mm : Nat) (os : Array Obj) (dk : Array Nat) (b off : Nat), off < g.U b → (sortWorld (fun i => cells.getD i (.slice none 0 0)) w blk 0 mm dk os).cell? ⟨b, off, none⟩ = w.cell? ⟨b, off, none⟩ := fun mm os dk b off ho => by
        have hne : b ≠ blk := by rintro rfl; omega
        exact World.cell?_of_block (a := ⟨b, off, none⟩) (heap_sortWorld_other (hw.lt ho) hne)
      have hcmp : CmpLays1 Try.prog 44 #[] (fun i => cells.getD i (.slice none 0 0)) (fun i j => cmpL (l.getD i []) (l.getD j [])) blk 0 (Array.range n).size w := fun mm os dk hs x y =>
        (k_clo _ _ _ _ _ ((hword x).2 _ (hS mm os dk)) ((hword y).2 _ (hS mm os dk))).mono fun _ _ ⟨e1, e2⟩ => ⟨e1, 0, #[], by rw [e2, grow_empty, World.drewN_zero]⟩
      have hHo : Holds (fun i => cells.getD i (.slice none 0 0)) w blk 0 (Array.range n) := fun j hj => by
        have hj' : j < n := by simpa using hj
        rw [Nat.zero_add, getElem!_pos _ j hj]
        refine ⟨?_, frozen_open r5 rf (by omega)⟩
        rw [cell_of_heap r5, hcj j hj']
        simp
      have hO : SWO (ltOf fun i j => cmpL (l.getD i []) (l.getD j [])) := ⟨fun x => swoL.irrefl _, fun x y z => swoL.trans _ _ _, fun x y z => swoL.ntrans _ _ _⟩
      have eg : ∀ args w, (callFunc 44 args).run Try.prog w = .ok (.enter 44 args) w := fnOk (fn := Try.f44) (by kernel_rfl) (by decide +kernel) (by kernel_rfl)
      have hcall : Calls Try.prog 43 #[.slice (some ⟨blk, 0, none⟩) (Array.range n).size c, .func (.func 44) #[] #[]] w fun e w' => e = .returned (.tuple #[]) ∧ ∃ d' nn os, PermIn 0 (Array.range n).size (Array.range n) d' ∧ SortedIn (ltOf fun i j => cmpL (l.getD i []) (l.getD j [])) 0 (Array.range n).size d' ∧ w' = sortWorld (fun i => cells.getD i (.slice none 0 0)) w blk 0 nn d' os :=
        Any.slices_SortFunc laysSrt _ (fun x => (hword x).1) _ hO 44 #[] blk 0 c (Array.range n) w eg hcmp hHo hblk (by rw [Array.size_range]; omega)
      rw [Array.size_range] at hcall
      simp only [Nat.zero_mul, Nat.add_zero]
      refine hcall.mono ?_
      rintro e w' ⟨rfl, d', nn, os, hp, hs, rfl⟩
      rw [← q2] at hp hs
      obtain ⟨t1, t2⟩ := sorted_words hp hs
      have hds : d'.size = n := by have := hp.1; rw [Array.size_range] at this; omega
      have he : Ext g w g (sortWorld (fun i => cells.getD i (.slice none 0 0)) w blk 0 nn d' os) d (fun κ => κ = .obj dh 0) := by
        refine ⟨rfl, rfl, rfl, by unfold sortWorld; rw [size_grow, Go.Sort.size_putRow]; exact Nat.le_add_right _ _, fun b hb hk => ⟨heap_sortWorld_other hb fun e => hk (.obj dh 0) (e ▸ r3) rfl, rfl, rfl⟩, fun b off ho => ⟨hS nn os d' b off ho, ho⟩, fun _ _ _ h => ⟨h, rfl, rfl⟩, fun _ _ => rfl⟩
      refine ⟨_, g, rfl, by simp only [RepX, RepXs]; exact ⟨[], rfl, rfl⟩, he.mono (Nat.le_refl _) (by rintro κ rfl; exact .inr rfl), ⟨fun b hb => hw.1 b (Nat.le_trans he.size hb), Tabs.ext he hw.2⟩, ?_⟩
      refine hH.set (id := 0) he hd (by simp) rfl rfl (fun κ _ e => .inl e) (by rw [hB]; exact r3) (by rw [hB]; exact r4) (.inl ⟨putCells (fun i => cells.getD i (.slice none 0 0)) 0 d' arr, tyo, fr, by rw [hB]; exact heap_sortWorld_row r5, ?_, ?_⟩)
      · rw [show (putCells (fun i => cells.getD i (.slice none 0 0)) 0 d' arr).size = arr.size from by simp [putCells]]
        exact rf
      · simp only [RepO]
        rw [hsz, take_putCells hds harr]
        refine ⟨trivial, by rw [← t1]; simp [hds], ?_⟩
        refine (parts_words (RepC.length wT) _ _).2 ⟨by rw [← t1]; simp, fun i hi hi' => ?_⟩
        have hi2 : i < d'.toList.length := by simpa using hi'
        have e1 : (srtL l)[i] = l.getD (d'.toList[i]) [] := by
          simp only [← t1, List.getElem_map]
        have e2 : (d'.toList.map fun i => cells.getD i (.slice none 0 0))[i] = cells.getD (d'.toList[i]) (.slice none 0 0) := by simp only [List.getElem_map]
        rw [e1, e2]
        have hlt := t2 _ (List.getElem_mem hi2)
        rw [List.getD_eq_getElem?_getD, List.getElem?_eq_getElem hlt, List.getD_eq_getElem?_getD, List.getElem?_eq_getElem (show d'.toList[i] < cells.length by omega)]
        exact RepC.ext he wT _ _ (p2 _ hlt (by omega))
  · rename_i nl f
    cases hr
    simp only [RepXs] at ha
    obtain ⟨v0, us0, rfl, k0, v1, us1, rfl, k1, rfl⟩ := ha
    simp only [RepX, RepXs] at k0
    obtain ⟨a, c, rfl, _⟩ := k0
    have hcall : Calls Try.prog 43 #[.slice a 0 c, v1] w fun e w' => e = .returned (.tuple #[]) ∧ w' = w := AnyF.slices_SortFunc_none (ρ := laysSrt_ren) { laysSrt with } _ _ _ _
    refine hcall.mono ?_
    rintro e w' ⟨rfl, rfl⟩
    exact ⟨_, g, rfl, by simp only [RepX, RepXs]; exact ⟨[], rfl, rfl⟩, Ext.refl _ _ _ _, hw, hH⟩
  · cases hr

end Go.Proofs.Ytnbfiifkaddehaa.V.R

/- Chapter 03, order: what the functions that only look tell. -/
namespace Go.Proofs.Ytnbfiifkaddehaa.V.R

open Go

set_option linter.unusedVariables false

/-- How much two words have alike. -/
def comL : List Int → List Int → Nat
  | a :: xs, b :: ys => if a = b then comL xs ys + 1 else 0
  | _, _ => 0

def shortB (l : List (List Int)) : Bool := l.all fun x => decide (List.length x ≤ 1000)

/-- How many words stand ahead of it. -/
def cntL (l : List (List Int)) (w : List Int) : Nat := l.countP fun x => ltL x w

def weqF (A : Ar) : List X → Tr X
  | [.sl (.int .i64) a na false, .sl (.int .i64) b nb false] => .test (A.se (decide (List.length a ≤ 1000000))) (.give (boolx (A.se (decide (a = b))))) .no
  | _ => .no

def cmpF (A : Ar) : List X → Tr X
  | [.sl (.int .i64) a na false, .sl (.int .i64) b nb false] => .test (A.se (decide (List.length a ≤ 1000000 ∧ List.length b ≤ 1000000))) (.give (i64x (A.se (cmpL a b)))) .no
  | _ => .no

def comF (A : Ar) : List X → Tr X
  | [.sl (.int .i64) a na false, .sl (.int .i64) b nb false] => .test (A.se (decide (List.length a ≤ 1000000 ∧ List.length b ≤ 1000000))) (.give (i64x (A.se (comL a b : Int)))) .no
  | _ => .no

def lessF (A : Ar) : List X → Tr X
  | [.sl (.int .i64) a na false, .sl (.int .i64) b nb false] => .test (A.se (decide (List.length a ≤ 1000000 ∧ List.length b ≤ 1000000))) (.give (boolx (A.se (ltL a b)))) .no
  | _ => .no

def rfindF (A : Ar) : List X → Tr X
  | [.sl (.slice (.int .i64)) l nl false, .sl (.int .i64) w nw false] => .test (A.se (decide (List.length l ≤ 1000000 ∧ List.length w ≤ 1000000) && shortB l)) (.give (.tup [i64x (A.se (cntL l w : Int)), boolx (A.se (decide (w ∈ l)))])) .no
  | _ => .no

def fewB (l : List (List Int)) (m : Int) : Bool := l.all (fun x => decide (List.length x ≤ 100)) && decide ((l.length : Int) ≤ m)

def fewF (A : Ar) : List X → Tr X
  | [.sl (.slice (.int .i64)) l nl false, .d (.int .i64) m] => .test (A.se (decide (List.length l ≤ 9000000000000000000))) (.give (boolx (A.se (fewB l m)))) .no
  | _ => .no

def LweqF (A : Ar) : List X → Hp → Tr (Ex × List X × Hp)
  | [.sl (.int .i64) a na false, .sl (.int .i64) b nb false, .d .bool z, .d (.int .i64) l, .d (.int .i64) i], [] =>
    .test (A.se (decide (List.length a ≤ 1000000 ∧ List.length b = List.length a ∧ l = List.length a ∧ 0 ≤ i ∧ i ≤ l)))
      (.test (A.se (decide (a.drop i.toNat = b.drop i.toNat)))
        (.give (.exit 0, [.dead, .dead, .dead, .dead, .dead], []))
        (.give (.ret, [.dead, .dead, boolx false, .dead, .dead], []))) .no
  | _, _ => .no

def Lweq (A : Ar) : Lp := fun k => match k with
  | 4 => some (26, [0, 1, 4, 12, 13], LweqF A)
  | _ => none

def LwsaF (A : Ar) : List X → Hp → Tr (Ex × List X × Hp)
  | [.sl (.int .i64) a na false, .sl (.int .i64) b nb false, .d .bool z, .d (.int .i64) i], [] =>
    .test (A.se (decide (List.length a ≤ 1000000 ∧ List.length b = List.length a ∧ 0 ≤ i ∧ i ≤ List.length a)))
      (.test (A.se (decide (a.drop i.toNat = b.drop i.toNat)))
        (.give (.exit 0, [.dead, .dead, .dead, .dead], []))
        (.give (.ret, [.dead, .dead, boolx false, .dead], []))) .no
  | _, _ => .no

def Lwsa (A : Ar) : Lp := fun k => match k with
  | 4 => some (26, [0, 1, 4, 5], LwsaF A)
  | _ => none

def LrcoF (A : Ar) : List X → Hp → Tr (Ex × List X × Hp)
  | [.sl (.int .i64) a na false, .sl (.int .i64) b nb false, .d (.int .i64) i], [] =>
    .test (A.se (decide (List.length a ≤ 1000000 ∧ List.length b ≤ 1000000 ∧ 0 ≤ i ∧ i ≤ List.length a ∧ i ≤ List.length b)))
      (.give (.exit 0, [.dead, .dead, i64x (A.se (i + comL (a.drop i.toNat) (b.drop i.toNat)))], [])) .no
  | _, _ => .no

def Lrco (A : Ar) : Lp := fun k => match k with
  | 2 => some (30, [0, 1, 5], LrcoF A)
  | _ => none

def LrfiF (A : Ar) : List X → Hp → Tr (Ex × List X × Hp)
  | [.sl (.slice (.int .i64)) l nl false, .sl (.int .i64) w nw false, .d (.int .i64) n, .d .bool h, .d (.int .i64) i], [] =>
    .test (A.se (decide (List.length l ≤ 1000000 ∧ List.length w ≤ 1000000 ∧ 0 ≤ i ∧ i ≤ List.length l ∧ 0 ≤ n ∧ n ≤ i) && shortB l))
      (.give (.exit 0, [.dead, .dead, i64x (A.se (n + cntL (l.drop i.toNat) w)), boolx (A.se (h || decide (w ∈ l.drop i.toNat))), .dead], [])) .no
  | _, _ => .no

def Lrfi (A : Ar) : Lp := fun k => match k with
  | 4 => some (34, [0, 1, 6, 7, 8], LrfiF A)
  | _ => none

def LfewF (A : Ar) : List X → Hp → Tr (Ex × List X × Hp)
  | [.sl (.slice (.int .i64)) l nl false, .d (.int .i64) m, .d .bool z, .d (.int .i64) i], [] =>
    .test (A.se (decide (List.length l ≤ 9000000000000000000 ∧ 0 ≤ i ∧ i ≤ List.length l)))
      (.test (A.se ((l.drop i.toNat).all fun x => decide (List.length x ≤ 100)))
        (.give (.exit 0, [.sl (.slice (.int .i64)) l nl false, .d (.int .i64) m, .dead, .dead], []))
        (.give (.ret, [.dead, .dead, boolx false, .dead], []))) .no
  | _, _ => .no

def Lfew (A : Ar) : Lp := fun k => match k with
  | 2 => some (22, [0, 1, 4, 5], LfewF A)
  | _ => none

def Or1 (A : Ar) : OT := Oadd (Oadd (Oadd (fun _ => none) 37 (.pure (cmpF A))) 47 (.pure (weqF A))) 26 (.pure (weqF A))

def Or2 (A : Ar) : OT := Oadd (Oadd (Or1 A) 58 (.pure (comF A))) 43 (.eff (srtF A))

def Or3 (A : Ar) : OT := Oadd ((Or2 A)) 49 (.pure (lessF A))

def Or4 (A : Ar) : OT := Oadd ((Oadd (Or3 A) 51 (.pure (rfindF A)))) 22 (.pure (fewF A))

end Go.Proofs.Ytnbfiifkaddehaa.V.R

/- Chapter 03, order: the trees of the functions that only look. By program; each equation is checked by the kernel. -/
namespace Go.Proofs.Ytnbfiifkaddehaa.V.R

open Go

set_option linter.unusedVariables false

theorem tWeq (A : Ar) (O : OT) (a : List Int) (na : Option Bool) (b : List Int) (nb : Option Bool) : bodyX (Cx A O (Lweq A)) 100 Try.f47 [i64s a na false, i64s b nb false] [] =
    (bif (↑(List.length a) : Int) != (↑(List.length b) : Int) then some (X.d Ty.bool false, [])
    else
      bif
          A.se
            (decide
              (List.length a ≤ (1000000 : Nat) ∧
                List.length b = List.length a ∧
                  (↑(List.length a) : Int) = (↑(List.length a) : Int) ∧
                    (0 : Int) ≤ (0 : Int) ∧ (0 : Int) ≤ (↑(List.length a) : Int))) then
        bif A.se (decide (List.drop (Int.toNat (0 : Int)) a = List.drop (Int.toNat (0 : Int)) b)) then
          some (X.d Ty.bool true, [])
        else some (X.d Ty.bool false, [])
      else none) := by kernel_rfl

theorem lWeq (A : Ar) (O : OT) (R : Type) (a : List Int) (na : Option Bool) (b : List Int) (nb : Option Bool) (z : Bool) (l i : Int) (k : Ex → List X → Hp → Option R) : stepF (Cx A O (Lweq A)) 100 (loopAt Try.f47 0) 26 [0, 1, 4, 12, 13] [i64s a na false, i64s b nb false, boolx z, i64x l, i64x i] [] k =
    (bif decide (i < l) then
      bif decide ((0 : Int) ≤ i ∧ i < (↑(List.length a) : Int)) then
        bif decide ((0 : Int) ≤ i ∧ i < (↑(List.length b) : Int)) then
          bif
              List.getD a (Int.toNat i) (0 : Int) !=
                List.getD b (Int.toNat i) (0 : Int) then
            k Ex.ret
              [X.sl (Ty.int IntKind.i64) a na false, X.sl (Ty.int IntKind.i64) b nb false, X.d Ty.bool false,
                X.d (Ty.int IntKind.i64) l, X.d (Ty.int IntKind.i64) i]
              []
          else
            k Ex.normal
              [X.sl (Ty.int IntKind.i64) a na false, X.sl (Ty.int IntKind.i64) b nb false, X.d Ty.bool z,
                X.d (Ty.int IntKind.i64) l, X.d (Ty.int IntKind.i64) (A.wrap IntKind.i64 (i + (1 : Int)))]
              []
        else none
      else none
    else
      k (Ex.exit (0 : Nat))
        [X.sl (Ty.int IntKind.i64) a na false, X.sl (Ty.int IntKind.i64) b nb false, X.d Ty.bool z,
          X.d (Ty.int IntKind.i64) l, X.d (Ty.int IntKind.i64) i]
        []) := by kernel_rfl

theorem tWsa (A : Ar) (O : OT) (a : List Int) (na : Option Bool) (b : List Int) (nb : Option Bool) : bodyX (Cx A O (Lwsa A)) 100 Try.f26 [i64s a na false, i64s b nb false] [] =
    (bif (↑(List.length a) : Int) != (↑(List.length b) : Int) then some (X.d Ty.bool false, [])
    else
      bif
          A.se
            (decide
              (List.length a ≤ (1000000 : Nat) ∧
                List.length b = List.length a ∧
                  (0 : Int) ≤ (0 : Int) ∧
                    (0 : Int) ≤ (↑(List.length a) : Int))) then
        bif A.se (decide (List.drop (Int.toNat (0 : Int)) a = List.drop (Int.toNat (0 : Int)) b)) then
          some (X.d Ty.bool true, [])
        else some (X.d Ty.bool false, [])
      else none) := by kernel_rfl

theorem lWsa (A : Ar) (O : OT) (R : Type) (a : List Int) (na : Option Bool) (b : List Int) (nb : Option Bool) (z : Bool) (i : Int) (k : Ex → List X → Hp → Option R) : stepF (Cx A O (Lwsa A)) 100 (loopAt Try.f26 0) 26 [0, 1, 4, 5] [i64s a na false, i64s b nb false, boolx z, i64x i] [] k =
    (bif decide (i < (↑(List.length a) : Int)) then
      bif decide ((0 : Int) ≤ i ∧ i < (↑(List.length a) : Int)) then
        bif decide ((0 : Int) ≤ i ∧ i < (↑(List.length b) : Int)) then
          bif
              List.getD a (Int.toNat i) (0 : Int) !=
                List.getD b (Int.toNat i) (0 : Int) then
            k Ex.ret
              [X.sl (Ty.int IntKind.i64) a na false, X.sl (Ty.int IntKind.i64) b nb false, X.d Ty.bool false,
                X.d (Ty.int IntKind.i64) i]
              []
          else
            k Ex.normal
              [X.sl (Ty.int IntKind.i64) a na false, X.sl (Ty.int IntKind.i64) b nb false, X.d Ty.bool z,
                X.d (Ty.int IntKind.i64) (A.wrap IntKind.i64 (i + (1 : Int)))]
              []
        else none
      else none
    else
      k (Ex.exit (0 : Nat))
        [X.sl (Ty.int IntKind.i64) a na false, X.sl (Ty.int IntKind.i64) b nb false, X.d Ty.bool z,
          X.d (Ty.int IntKind.i64) i]
        []) := by kernel_rfl

theorem tRco (A : Ar) (O : OT) (a : List Int) (na : Option Bool) (b : List Int) (nb : Option Bool) : bodyX (Cx A O (Lrco A)) 100 Try.f58 [i64s a na false, i64s b nb false] [] =
    (bif
        A.se
          (decide
            (List.length a ≤ (1000000 : Nat) ∧
              List.length b ≤ (1000000 : Nat) ∧
                (0 : Int) ≤ (0 : Int) ∧
                  (0 : Int) ≤ (↑(List.length a) : Int) ∧
                    (0 : Int) ≤ (↑(List.length b) : Int))) then
      some
        (X.d (Ty.int IntKind.i64)
            (A.se ((0 : Int) + (↑(comL (List.drop (Int.toNat (0 : Int)) a) (List.drop (Int.toNat (0 : Int)) b)) : Int))),
          [])
    else none) := by kernel_rfl

theorem lRco (A : Ar) (O : OT) (R : Type) (a : List Int) (na : Option Bool) (b : List Int) (nb : Option Bool) (i : Int) (k : Ex → List X → Hp → Option R) : stepF (Cx A O (Lrco A)) 100 (loopAt Try.f58 0) 30 [0, 1, 5] [i64s a na false, i64s b nb false, i64x i] [] k =
    (bif decide (i < (↑(List.length a) : Int)) == true then
      bif decide (i < (↑(List.length b) : Int)) == true then
        bif decide ((0 : Int) ≤ i ∧ i < (↑(List.length a) : Int)) then
          bif decide ((0 : Int) ≤ i ∧ i < (↑(List.length b) : Int)) then
            bif
                List.getD a (Int.toNat i) (0 : Int) ==
                  List.getD b (Int.toNat i) (0 : Int) then
              k Ex.normal
                [X.sl (Ty.int IntKind.i64) a na false, X.sl (Ty.int IntKind.i64) b nb false,
                  X.d (Ty.int IntKind.i64) (A.wrap IntKind.i64 (i + (1 : Int)))]
                []
            else
              k (Ex.exit (0 : Nat))
                [X.sl (Ty.int IntKind.i64) a na false, X.sl (Ty.int IntKind.i64) b nb false, X.d (Ty.int IntKind.i64) i] []
          else none
        else none
      else
        k (Ex.exit (0 : Nat))
          [X.sl (Ty.int IntKind.i64) a na false, X.sl (Ty.int IntKind.i64) b nb false, X.d (Ty.int IntKind.i64) i] []
    else
      k (Ex.exit (0 : Nat))
        [X.sl (Ty.int IntKind.i64) a na false, X.sl (Ty.int IntKind.i64) b nb false, X.d (Ty.int IntKind.i64) i] []) := by kernel_rfl

theorem tRless (A : Ar) (a : List Int) (na : Option Bool) (b : List Int) (nb : Option Bool) : bodyX (Cx A (Or2 A) noL) 100 Try.f49 [i64s a na false, i64s b nb false] [] =
    (bif A.se (decide (List.length a ≤ (1000000 : Nat) ∧ List.length b ≤ (1000000 : Nat))) then
      bif A.se (↑(comL a b) : Int) == (↑(List.length b) : Int) then some (X.d Ty.bool false, [])
      else
        bif (A.se (↑(comL a b) : Int) == (↑(List.length a) : Int)) == false then
          bif decide ((0 : Int) ≤ A.se (↑(comL a b) : Int) ∧ A.se (↑(comL a b) : Int) < (↑(List.length a) : Int)) then
            bif decide ((0 : Int) ≤ A.se (↑(comL a b) : Int) ∧ A.se (↑(comL a b) : Int) < (↑(List.length b) : Int)) then
              some
                (X.d Ty.bool
                    (decide
                      (List.getD a (Int.toNat (A.se (↑(comL a b) : Int))) (0 : Int) <
                        List.getD b (Int.toNat (A.se (↑(comL a b) : Int))) (0 : Int))),
                  [])
            else none
          else none
        else some (X.d Ty.bool true, [])
    else none) := by kernel_rfl

theorem tRfi (A : Ar) (l : List (List Int)) (nl : Option Bool) (w : List Int) (nw : Option Bool) : bodyX (Cx A (Or3 A) (Lrfi A)) 100 Try.f51 [.sl wT l nl false, i64s w nw false] [] =
    (bif
        A.se
          (decide
              (List.length l ≤ (1000000 : Nat) ∧
                List.length w ≤ (1000000 : Nat) ∧
                  (0 : Int) ≤ (0 : Int) ∧
                    (0 : Int) ≤ (↑(List.length l) : Int) ∧
                      (0 : Int) ≤ (0 : Int) ∧ (0 : Int) ≤ (0 : Int)) &&
            shortB l) then
      some
        (X.tup
            [X.d (Ty.int IntKind.i64) (A.se ((0 : Int) + (↑(cntL (List.drop (Int.toNat (0 : Int)) l) w) : Int))),
              X.d Ty.bool (A.se (false || decide (w ∈ List.drop (Int.toNat (0 : Int)) l)))],
          [])
    else none) := by kernel_rfl

theorem lRfi (A : Ar) (R : Type) (l : List (List Int)) (nl : Option Bool) (w : List Int) (nw : Option Bool) (n : Int) (h : Bool) (i : Int) (k : Ex → List X → Hp → Option R) : stepF (Cx A (Or3 A) (Lrfi A)) 100 (loopAt Try.f51 0) 34 [0, 1, 6, 7, 8] [.sl wT l nl false, i64s w nw false, i64x n, boolx h, i64x i] [] k =
    (bif decide (i < (↑(List.length l) : Int)) then
      bif decide ((0 : Int) ≤ i ∧ i < (↑(List.length l) : Int)) then
        bif
            A.se
              (decide
                (List.length (List.getD l (Int.toNat i) (Ty.zero wT)) ≤ (1000000 : Nat) ∧
                  List.length w ≤ (1000000 : Nat))) then
          bif A.se (ltL (List.getD l (Int.toNat i) (Ty.zero wT)) w) then
            bif h == false then
              bif decide ((0 : Int) ≤ i ∧ i < (↑(List.length l) : Int)) then
                bif A.se (decide (List.length (List.getD l (Int.toNat i) (Ty.zero wT)) ≤ (1000000 : Nat))) then
                  k Ex.normal
                    [X.sl wT l nl false, X.sl (Ty.int IntKind.i64) w nw false,
                      X.d (Ty.int IntKind.i64) (A.wrap IntKind.i64 (n + (1 : Int))),
                      X.d Ty.bool (A.se (decide (List.getD l (Int.toNat i) (Ty.zero wT) = w))),
                      X.d (Ty.int IntKind.i64) (A.wrap IntKind.i64 (i + (1 : Int)))]
                    []
                else none
              else none
            else
              k Ex.normal
                [X.sl wT l nl false, X.sl (Ty.int IntKind.i64) w nw false,
                  X.d (Ty.int IntKind.i64) (A.wrap IntKind.i64 (n + (1 : Int))), X.d Ty.bool true,
                  X.d (Ty.int IntKind.i64) (A.wrap IntKind.i64 (i + (1 : Int)))]
                []
          else
            bif h == false then
              bif decide ((0 : Int) ≤ i ∧ i < (↑(List.length l) : Int)) then
                bif A.se (decide (List.length (List.getD l (Int.toNat i) (Ty.zero wT)) ≤ (1000000 : Nat))) then
                  k Ex.normal
                    [X.sl wT l nl false, X.sl (Ty.int IntKind.i64) w nw false, X.d (Ty.int IntKind.i64) n,
                      X.d Ty.bool (A.se (decide (List.getD l (Int.toNat i) (Ty.zero wT) = w))),
                      X.d (Ty.int IntKind.i64) (A.wrap IntKind.i64 (i + (1 : Int)))]
                    []
                else none
              else none
            else
              k Ex.normal
                [X.sl wT l nl false, X.sl (Ty.int IntKind.i64) w nw false, X.d (Ty.int IntKind.i64) n, X.d Ty.bool true,
                  X.d (Ty.int IntKind.i64) (A.wrap IntKind.i64 (i + (1 : Int)))]
                []
        else none
      else none
    else
      k (Ex.exit (0 : Nat))
        [X.sl wT l nl false, X.sl (Ty.int IntKind.i64) w nw false, X.d (Ty.int IntKind.i64) n, X.d Ty.bool h,
          X.d (Ty.int IntKind.i64) i]
        []) := by kernel_rfl

theorem tFew (A : Ar) (O : OT) (l : List (List Int)) (nl : Option Bool) (m : Int) : bodyX (Cx A O (Lfew A)) 100 Try.f22 [.sl wT l nl false, i64x m] [] =
    (bif
        A.se
          (decide
            (List.length l ≤ (9000000000000000000 : Nat) ∧
              (0 : Int) ≤ (0 : Int) ∧
                (0 : Int) ≤ (↑(List.length l) : Int))) then
      bif A.se (List.all (List.drop (Int.toNat (0 : Int)) l) fun x => decide (List.length x ≤ (100 : Nat))) then
        some (X.d Ty.bool (decide ((↑(List.length l) : Int) ≤ m)), [])
      else some (X.d Ty.bool false, [])
    else none) := by kernel_rfl

theorem lFew (A : Ar) (O : OT) (R : Type) (l : List (List Int)) (nl : Option Bool) (m : Int) (z : Bool) (i : Int) (k : Ex → List X → Hp → Option R) : stepF (Cx A O (Lfew A)) 100 (loopAt Try.f22 0) 22 [0, 1, 4, 5] [.sl wT l nl false, i64x m, boolx z, i64x i] [] k =
    (bif decide (i < (↑(List.length l) : Int)) then
      bif decide ((0 : Int) ≤ i ∧ i < (↑(List.length l) : Int)) then
        bif decide ((↑(List.length (List.getD l (Int.toNat i) (Ty.zero wT))) : Int) > (100 : Int)) then
          k Ex.ret [X.sl wT l nl false, X.d (Ty.int IntKind.i64) m, X.d Ty.bool false, X.d (Ty.int IntKind.i64) i] []
        else
          k Ex.normal
            [X.sl wT l nl false, X.d (Ty.int IntKind.i64) m, X.d Ty.bool z,
              X.d (Ty.int IntKind.i64) (A.wrap IntKind.i64 (i + (1 : Int)))]
            []
      else none
    else
      k (Ex.exit (0 : Nat)) [X.sl wT l nl false, X.d (Ty.int IntKind.i64) m, X.d Ty.bool z, X.d (Ty.int IntKind.i64) i] []) := by kernel_rfl

end Go.Proofs.Ytnbfiifkaddehaa.V.R

/- Chapter 03, order: the functions that only look do what they tell. -/
namespace Go.Proofs.Ytnbfiifkaddehaa.V.R

open Go

set_option linter.unusedVariables false

set_option linter.unusedSimpArgs false

theorem Tr.two {α : Type} {c e : Bool} {x y r : α} (h : (Tr.test c (.test e (.give x) (.give y)) .no).run some = some r) : c = true ∧ r = bif e then x else y := by
  cases c
  · cases h
  · cases e
    · exact ⟨rfl, by simpa [Tr.run] using h.symm⟩
    · exact ⟨rfl, by simpa [Tr.run] using h.symm⟩

theorem dropG {α : Type} (d : α) {b : List α} {i : Nat} (h : i < b.length) : b.drop i = b.getD i d :: b.drop (i + 1) := by
  rw [List.getD_eq_getElem?_getD, List.getElem?_eq_getElem h, Option.getD_some]
  exact List.drop_eq_getElem_cons h

theorem memG {α : Type} (d : α) {b : List α} {i : Nat} (h : i < b.length) : b.getD i d ∈ b := by
  rw [List.getD_eq_getElem?_getD, List.getElem?_eq_getElem h, Option.getD_some]
  exact List.getElem_mem h

theorem dropG_eq {α : Type} [DecidableEq α] (d : α) {a b : List α} {i : Nat} (ha : i < a.length) (hb : i < b.length) (h : a.getD i d = b.getD i d) : decide (a.drop i = b.drop i) = decide (a.drop (i + 1) = b.drop (i + 1)) := by
  rw [dropG d ha, dropG d hb, h]
  simp

theorem dropG_ne {α : Type} [DecidableEq α] (d : α) {a b : List α} {i : Nat} (ha : i < a.length) (hb : i < b.length) (h : a.getD i d ≠ b.getD i d) : decide (a.drop i = b.drop i) = false := by
  rw [dropG d ha, dropG d hb, decide_eq_false_iff_not]
  intro e
  simp only [List.cons.injEq] at e
  exact h e.1

theorem dropG_nil {α : Type} [DecidableEq α] {a b : List α} {i : Nat} (ha : a.length ≤ i) (hb : b.length ≤ i) : decide (a.drop i = b.drop i) = true := by
  rw [List.drop_eq_nil_iff.2 ha, List.drop_eq_nil_iff.2 hb]; simp

theorem wi1 {i : Nat} (h : i ≤ 9000000000000000000) : Ar.real.wrap .i64 ((i : Int) + 1) = ((i + 1 : Nat) : Int) := by rw [rw_wrap, wi64 (by omega) (by omega)]; rfl

theorem fd {x : X} {ys xs : List X} (t : Forget ys xs) : Forget (x :: ys) (.dead :: xs) := Forget.cons (.inl rfl) t

theorem fk {x : X} {ys xs : List X} (t : Forget ys xs) : Forget (x :: ys) (x :: xs) := Forget.cons (.inr rfl) t

/-! ### Two words, the same -/

theorem loopWeq (O : OT) (a : List Int) (na : Option Bool) (b : List Int) (nb : Option Bool) (z : Bool) (ha : a.length ≤ 1000000) (hb : b.length = a.length) : ∀ (n i : Nat), a.length - i = n → i ≤ a.length →
    LoopTo (Cx Ar.real O (Lweq Ar.real)) 100 (loopAt Try.f47 0) 26 [0, 1, 4, 12, 13] [i64s a na false, i64s b nb false, boolx z, i64x (a.length : Int), i64x (i : Int)] []
      (bif decide (a.drop i = b.drop i) then (.exit 0, [.dead, .dead, .dead, .dead, .dead], []) else (.ret, [.dead, .dead, boolx false, .dead, .dead], [])) := by
  intro n
  induction n with
  | zero =>
    intro i h1 h2
    rw [dropG_nil (by omega) (by omega), cond_true]
    refine LoopTo.left (by simp) fun k => ?_
    rw [lWeq, bf (by rw [decide_eq_false_iff_not]; omega)]
    exact ⟨_, rfl, fd (fd (fd (fd (fd (Forget.same _)))))⟩
  | succ n ih =>
    intro i h1 h2
    have hi : i < a.length := by omega
    have hi' : i < b.length := by omega
    by_cases hc : a.getD i 0 = b.getD i 0
    · rw [dropG_eq 0 hi hi' hc]
      refine LoopTo.next (fun k => ?_) (ih (i + 1) (by omega) (by omega))
      rw [lWeq]
      simp only [Int.toNat_natCast, wi1 (show i ≤ 9000000000000000000 by omega)]
      rw [bt (by rw [decide_eq_true_eq]; omega), bt (by rw [decide_eq_true_eq]; omega), bt (by rw [decide_eq_true_eq]; omega), bf (by rw [hc]; simp)]
    · rw [dropG_ne 0 hi hi' hc, cond_false]
      refine LoopTo.left (by simp) fun k => ?_
      rw [lWeq]
      simp only [Int.toNat_natCast]
      rw [bt (by rw [decide_eq_true_eq]; omega), bt (by rw [decide_eq_true_eq]; omega), bt (by rw [decide_eq_true_eq]; omega), bt (by rw [bne_iff_ne]; exact hc)]
      exact ⟨_, rfl, fd (fd (fk (fd (fd (Forget.same _)))))⟩

theorem weq_ok (O : OT) (hO : OOk O) : OrcOk Try.prog 47 (.pure (weqF Ar.real)) := by
  refine pureOk (Cx.ok hO (Lweq Ar.real)) mixed 47 Try.f47 (by kernel_rfl) (by kernel_rfl) (by kernel_rfl) 100 1 (by kernel_rfl) (fun i h => ?_) fun args r h => ?_
  · obtain rfl : i = 0 := by omega
    refine Tells.mk (key := 4) (N := 26) (ks := [0, 1, 4, 12, 13]) (F := LweqF Ar.real) (by kernel_rfl) rfl fun xs H r h => ?_
    unfold LweqF at h
    split at h
    · rename_i a na b nb z l i
      obtain ⟨hg, rfl⟩ := Tr.two h
      simp only [rw_se, decide_eq_true_eq] at hg ⊢
      dsimp only [Ty.den] at hg
      obtain ⟨h1, h2, h3, h4, h5⟩ := hg
      obtain ⟨m, rfl⟩ := Int.eq_ofNat_of_zero_le h4
      subst h3
      simp only [Int.toNat_natCast]
      exact loopWeq O a na b nb z h1 h2 _ m rfl (by omega)
    · cases h
  · unfold weqF at h
    split at h
    · rename_i a na b nb
      obtain ⟨hg, rfl⟩ := Tr.one h
      refine ⟨rfl, rfl, [], ?_⟩
      rw [tWeq]
      simp only [rw_se, decide_eq_true_eq, show Int.toNat 0 = 0 from rfl, List.drop_zero] at hg ⊢
      by_cases hl : a.length = b.length
      · rw [bf (by rw [hl]; simp), bt (by rw [decide_eq_true_eq]; exact ⟨hg, hl.symm, trivial, by omega, by omega⟩)]
        by_cases he : a = b
        · rw [bt (by rw [decide_eq_true_eq]; exact he), decide_eq_true he]
        · rw [bf (by rw [decide_eq_false_iff_not]; exact he), decide_eq_false he]
      · have he : a ≠ b := fun e => hl (by rw [e])
        rw [bt (by rw [bne_iff_ne]; omega), decide_eq_false he]
    · cases h

theorem loopWsa (O : OT) (a : List Int) (na : Option Bool) (b : List Int) (nb : Option Bool) (z : Bool) (ha : a.length ≤ 1000000) (hb : b.length = a.length) : ∀ (n i : Nat), a.length - i = n → i ≤ a.length →
    LoopTo (Cx Ar.real O (Lwsa Ar.real)) 100 (loopAt Try.f26 0) 26 [0, 1, 4, 5] [i64s a na false, i64s b nb false, boolx z, i64x (i : Int)] []
      (bif decide (a.drop i = b.drop i) then (.exit 0, [.dead, .dead, .dead, .dead], []) else (.ret, [.dead, .dead, boolx false, .dead], [])) := by
  intro n
  induction n with
  | zero =>
    intro i h1 h2
    rw [dropG_nil (by omega) (by omega), cond_true]
    refine LoopTo.left (by simp) fun k => ?_
    rw [lWsa, bf (by rw [decide_eq_false_iff_not]; omega)]
    exact ⟨_, rfl, fd (fd (fd (fd (Forget.same _))))⟩
  | succ n ih =>
    intro i h1 h2
    have hi : i < a.length := by omega
    have hi' : i < b.length := by omega
    by_cases hc : a.getD i 0 = b.getD i 0
    · rw [dropG_eq 0 hi hi' hc]
      refine LoopTo.next (fun k => ?_) (ih (i + 1) (by omega) (by omega))
      rw [lWsa]
      simp only [Int.toNat_natCast, wi1 (show i ≤ 9000000000000000000 by omega)]
      rw [bt (by rw [decide_eq_true_eq]; omega), bt (by rw [decide_eq_true_eq]; omega), bt (by rw [decide_eq_true_eq]; omega), bf (by rw [hc]; simp)]
    · rw [dropG_ne 0 hi hi' hc, cond_false]
      refine LoopTo.left (by simp) fun k => ?_
      rw [lWsa]
      simp only [Int.toNat_natCast]
      rw [bt (by rw [decide_eq_true_eq]; omega), bt (by rw [decide_eq_true_eq]; omega), bt (by rw [decide_eq_true_eq]; omega), bt (by rw [bne_iff_ne]; exact hc)]
      exact ⟨_, rfl, fd (fd (fk (fd (Forget.same _))))⟩

theorem wsa_ok (O : OT) (hO : OOk O) : OrcOk Try.prog 26 (.pure (weqF Ar.real)) := by
  refine pureOk (Cx.ok hO (Lwsa Ar.real)) mixed 26 Try.f26 (by kernel_rfl) (by kernel_rfl) (by kernel_rfl) 100 1 (by kernel_rfl) (fun i h => ?_) fun args r h => ?_
  · obtain rfl : i = 0 := by omega
    refine Tells.mk (key := 4) (N := 26) (ks := [0, 1, 4, 5]) (F := LwsaF Ar.real) (by kernel_rfl) rfl fun xs H r h => ?_
    unfold LwsaF at h
    split at h
    · rename_i a na b nb z i
      obtain ⟨hg, rfl⟩ := Tr.two h
      simp only [rw_se, decide_eq_true_eq] at hg ⊢
      dsimp only [Ty.den] at hg
      obtain ⟨h1, h2, h4, h5⟩ := hg
      obtain ⟨m, rfl⟩ := Int.eq_ofNat_of_zero_le h4
      simp only [Int.toNat_natCast]
      exact loopWsa O a na b nb z h1 h2 _ m rfl (by omega)
    · cases h
  · unfold weqF at h
    split at h
    · rename_i a na b nb
      obtain ⟨hg, rfl⟩ := Tr.one h
      refine ⟨rfl, rfl, [], ?_⟩
      rw [tWsa]
      simp only [rw_se, decide_eq_true_eq, show Int.toNat 0 = 0 from rfl, List.drop_zero] at hg ⊢
      by_cases hl : a.length = b.length
      · rw [bf (by rw [hl]; simp), bt (by rw [decide_eq_true_eq]; exact ⟨hg, hl.symm, by omega, by omega⟩)]
        by_cases he : a = b
        · rw [bt (by rw [decide_eq_true_eq]; exact he), decide_eq_true he]
        · rw [bf (by rw [decide_eq_false_iff_not]; exact he), decide_eq_false he]
      · have he : a ≠ b := fun e => hl (by rw [e])
        rw [bt (by rw [bne_iff_ne]; omega), decide_eq_false he]
    · cases h

end Go.Proofs.Ytnbfiifkaddehaa.V.R

/- Chapter 03, order: how words stand: the functions do what they tell. -/
namespace Go.Proofs.Ytnbfiifkaddehaa.V.R

open Go

set_option linter.unusedVariables false

set_option linter.unusedSimpArgs false

theorem comL_eq {a b : List Int} {i : Nat} (ha : i < a.length) (hb : i < b.length) (h : a.getD i 0 = b.getD i 0) : comL (a.drop i) (b.drop i) = comL (a.drop (i + 1)) (b.drop (i + 1)) + 1 := by
  rw [dropG 0 ha, dropG 0 hb, comL, if_pos h]

theorem comL_ne {a b : List Int} {i : Nat} (ha : i < a.length) (hb : i < b.length) (h : a.getD i 0 ≠ b.getD i 0) : comL (a.drop i) (b.drop i) = 0 := by
  rw [dropG 0 ha, dropG 0 hb, comL, if_neg h]

theorem comL_end {a b : List Int} {i : Nat} (h : a.length ≤ i ∨ b.length ≤ i) : comL (a.drop i) (b.drop i) = 0 := by
  rcases h with h | h
  · rw [List.drop_eq_nil_iff.2 h]; simp [comL]
  · rw [List.drop_eq_nil_iff.2 h]; cases a.drop i <;> simp [comL]

theorem comL_le : ∀ a b : List Int, comL a b ≤ a.length ∧ comL a b ≤ b.length
  | [], _ => by simp [comL]
  | _ :: _, [] => by simp [comL]
  | x :: a, y :: b => by
    have := comL_le a b
    simp only [comL]
    split <;> simp <;> omega

theorem ltL_com : ∀ a b : List Int, ltL a b = if comL a b = b.length then false else if comL a b = a.length then true else decide (a.getD (comL a b) 0 < b.getD (comL a b) 0)
  | [], [] => by decide
  | [], y :: b => by simp [comL, ltL, Go.Proofs.ltOf, cmpL]
  | x :: a, [] => by simp [comL, ltL, Go.Proofs.ltOf, cmpL]
  | x :: a, y :: b => by
    have ih := ltL_com a b
    simp only [comL, ltL, Go.Proofs.ltOf, cmpL] at ih ⊢
    by_cases h : x = y
    · subst h
      simpa using ih
    · by_cases h1 : x < y
      · simp [h, h1]
      · have h2 : y < x := by omega
        simp [h, h1, h2]

theorem cmp_ok : OrcOk Try.prog 37 (.pure (cmpF Ar.real)) := by
  show PureOk _ _ _
  refine ⟨fnOk (fn := Try.f37) (by kernel_rfl) (by decide +kernel) (by kernel_rfl), fun args r hr g w d dh vs hd hw ha => ?_⟩
  replace hr : (cmpF Ar.real args).run some = some r := hr
  unfold cmpF at hr
  split at hr
  · rename_i a na b nb
    obtain ⟨hg, rfl⟩ := Tr.one hr
    simp only [rw_se, decide_eq_true_eq] at hg ⊢
    simp only [RepXs] at ha
    obtain ⟨v0, us0, rfl, k0, v1, us1, rfl, k1, rfl⟩ := ha
    simp only [RepX] at k0 k1
    obtain ⟨a0, c0, rfl, p1, p2, _⟩ := k0
    obtain ⟨a1, c1, rfl, q1, q2, _⟩ := k1
    obtain ⟨_, e, _, h1, _⟩ := word_at (g := g) (w := w) (x := a) (cs := [.slice a0 (List.length a) c0]) ⟨a0, c0, rfl, p1, p2⟩ hg.1
    cases e
    obtain ⟨_, e, _, h2, _⟩ := word_at (g := g) (w := w) (x := b) (cs := [.slice a1 (List.length b) c1]) ⟨a1, c1, rfl, q1, q2⟩ hg.2
    cases e
    refine (k_compare _ _ a b w h1 h2).mono ?_
    rintro e w' ⟨rfl, rfl⟩
    exact ⟨_, g, rfl, RepX.int_iff.2 rfl, Ext.refl _ _ _ _, hw⟩
  · cases hr

theorem loopRco (O : OT) (a : List Int) (na : Option Bool) (b : List Int) (nb : Option Bool) (ha : a.length ≤ 1000000) (hb : b.length ≤ 1000000) : ∀ (n i : Nat), a.length - i = n → i ≤ a.length → i ≤ b.length →
    LoopTo (Cx Ar.real O (Lrco Ar.real)) 100 (loopAt Try.f58 0) 30 [0, 1, 5] [i64s a na false, i64s b nb false, i64x (i : Int)] []
      (.exit 0, [.dead, .dead, i64x ((i : Int) + (comL (a.drop i) (b.drop i) : Int))], []) := by
  intro n
  induction n with
  | zero =>
    intro i h1 h2 h3
    rw [comL_end (by omega), show (i : Int) + ((0 : Nat) : Int) = (i : Int) by omega]
    refine LoopTo.left (by simp) fun k => ?_
    rw [lRco, bf (by rw [decide_eq_false (by omega)]; rfl)]
    exact ⟨_, rfl, fd (fd (fk (Forget.same _)))⟩
  | succ n ih =>
    intro i h1 h2 h3
    have hi : i < a.length := by omega
    by_cases hi' : i < b.length
    · by_cases hc : a.getD i 0 = b.getD i 0
      · rw [comL_eq hi hi' hc]
        have e : (i : Int) + ((comL (a.drop (i + 1)) (b.drop (i + 1)) + 1 : Nat) : Int) = ((i + 1 : Nat) : Int) + (comL (a.drop (i + 1)) (b.drop (i + 1)) : Int) := by omega
        rw [e]
        refine LoopTo.next (fun k => ?_) (ih (i + 1) (by omega) (by omega) (by omega))
        rw [lRco]
        simp only [Int.toNat_natCast, wi1 (show i ≤ 9000000000000000000 by omega)]
        rw [bt (by rw [decide_eq_true (by omega)]; rfl), bt (by rw [decide_eq_true (by omega)]; rfl), bt (by rw [decide_eq_true_eq]; omega), bt (by rw [decide_eq_true_eq]; omega), bt (by rw [hc]; simp)]
      · rw [comL_ne hi hi' hc, show (i : Int) + ((0 : Nat) : Int) = (i : Int) by omega]
        refine LoopTo.left (by simp) fun k => ?_
        rw [lRco]
        simp only [Int.toNat_natCast]
        rw [bt (by rw [decide_eq_true (by omega)]; rfl), bt (by rw [decide_eq_true (by omega)]; rfl), bt (by rw [decide_eq_true_eq]; omega), bt (by rw [decide_eq_true_eq]; omega), bf (by rw [beq_eq_false_iff_ne]; exact hc)]
        exact ⟨_, rfl, fd (fd (fk (Forget.same _)))⟩
    · rw [comL_end (by omega), show (i : Int) + ((0 : Nat) : Int) = (i : Int) by omega]
      refine LoopTo.left (by simp) fun k => ?_
      rw [lRco, bt (by rw [decide_eq_true (by omega)]; rfl), bf (by rw [decide_eq_false (by omega)]; rfl)]
      exact ⟨_, rfl, fd (fd (fk (Forget.same _)))⟩

theorem rco_ok (O : OT) (hO : OOk O) : OrcOk Try.prog 58 (.pure (comF Ar.real)) := by
  refine pureOk (Cx.ok hO (Lrco Ar.real)) mixed 58 Try.f58 (by kernel_rfl) (by kernel_rfl) (by kernel_rfl) 100 1 (by kernel_rfl) (fun i h => ?_) fun args r h => ?_
  · obtain rfl : i = 0 := by omega
    refine Tells.mk (key := 2) (N := 30) (ks := [0, 1, 5]) (F := LrcoF Ar.real) (by kernel_rfl) rfl fun xs H r h => ?_
    unfold LrcoF at h
    split at h
    · rename_i a na b nb i
      obtain ⟨hg, rfl⟩ := Tr.one h
      simp only [rw_se, decide_eq_true_eq] at hg ⊢
      dsimp only [Ty.den] at hg
      obtain ⟨h1, h2, h6, h7, h8⟩ := hg
      obtain ⟨m, rfl⟩ := Int.eq_ofNat_of_zero_le h6
      simp only [Int.toNat_natCast]
      exact loopRco O a na b nb h1 h2 _ m rfl (by omega) (by omega)
    · cases h
  · unfold comF at h
    split at h
    · rename_i a na b nb
      obtain ⟨hg, rfl⟩ := Tr.one h
      refine ⟨rfl, rfl, [], ?_⟩
      rw [tRco]
      simp only [rw_se, decide_eq_true_eq, show Int.toNat 0 = 0 from rfl, List.drop_zero, Int.zero_add] at hg ⊢
      rw [bt (by rw [decide_eq_true_eq]; exact ⟨hg.1, hg.2, by omega, by omega, by omega⟩)]
    · cases h

theorem o1 : OOk (Or1 Ar.real) := ((OOk.none.add cmp_ok).add (weq_ok _ OOk.none)).add (wsa_ok _ OOk.none)

theorem o2 : OOk (Or2 Ar.real) := ((o1).add (rco_ok _ OOk.none)).add srt_ok

theorem rless_ok : OrcOk Try.prog 49 (.pure (lessF Ar.real)) := by
  refine pureOk (Cx.ok o2 noL) mixed 49 Try.f49 (by kernel_rfl) (by kernel_rfl) (by kernel_rfl) 100 0 (by kernel_rfl) (fun i h => by omega) fun args r h => ?_
  unfold lessF at h
  split at h
  · rename_i a na b nb
    obtain ⟨hg, rfl⟩ := Tr.one h
    refine ⟨rfl, rfl, [], ?_⟩
    have hle := comL_le a b
    rw [tRless, bt hg]
    simp only [rw_se, Int.toNat_natCast]
    rw [ltL_com]
    by_cases h1 : comL a b = b.length
    · rw [bt (by rw [h1]; simp), if_pos h1]
    · rw [bf (by rw [beq_eq_false_iff_ne]; omega), if_neg h1]
      by_cases h2 : comL a b = a.length
      · rw [bf (by rw [h2]; simp), if_pos h2]
      · rw [bt (by rw [show ((comL a b : Int) == (a.length : Int)) = false from by rw [beq_eq_false_iff_ne]; omega]; rfl), if_neg h2, bt (by rw [decide_eq_true_eq]; omega), bt (by rw [decide_eq_true_eq]; omega)]
  · cases h

theorem o3 : OOk (Or3 Ar.real) := ((o2)).add rless_ok

end Go.Proofs.Ytnbfiifkaddehaa.V.R

/- Chapter 03, order: where words stand, lists that are the same, few words: the functions do what they tell. -/
namespace Go.Proofs.Ytnbfiifkaddehaa.V.R

open Go

set_option linter.unusedVariables false

set_option linter.unusedSimpArgs false

theorem short_get {l : List (List Int)} (h : shortB l = true) {i : Nat} (hi : i < l.length) : (l.getD i (Ty.zero wT)).length ≤ 1000 := by
  have := List.all_eq_true.1 h _ (memG (Ty.zero wT) hi)
  simpa using this

theorem loopRfi (l : List (List Int)) (nl : Option Bool) (w : List Int) (nw : Option Bool) (hl : l.length ≤ 1000000) (hw : w.length ≤ 1000000) (hs : shortB l = true) : ∀ (m i n : Nat) (h : Bool), l.length - i = m → i ≤ l.length → n ≤ i →
    LoopTo (Cx Ar.real (Or3 Ar.real) (Lrfi Ar.real)) 100 (loopAt Try.f51 0) 34 [0, 1, 6, 7, 8] [.sl wT l nl false, i64s w nw false, i64x (n : Int), boolx h, i64x (i : Int)] []
      (.exit 0, [.dead, .dead, i64x ((n : Int) + (cntL (l.drop i) w : Int)), boolx (h || decide (w ∈ l.drop i)), .dead], []) := by
  intro m
  induction m with
  | zero =>
    intro i n h h1 h2 h3
    rw [List.drop_eq_nil_iff.2 (show l.length ≤ i by omega)]
    refine LoopTo.left (by simp) fun k => ?_
    rw [lRfi, bf (by rw [decide_eq_false_iff_not]; omega)]
    refine ⟨_, rfl, ?_⟩
    rw [show (n : Int) + (cntL [] w : Int) = (n : Int) by simp [cntL], show (h || decide (w ∈ ([] : List (List Int)))) = h by simp]
    exact fd (fd (fk (fk (fd (Forget.same _)))))
  | succ m ih =>
    intro i n h h1 h2 h3
    have hi : i < l.length := by omega
    have hsi := short_get hs hi
    rw [dropG (Ty.zero wT) hi]
    generalize hx : l.getD i (Ty.zero wT) = x at hsi
    have e1 : cntL (x :: l.drop (i + 1)) w = (bif ltL x w then 1 else 0) + cntL (l.drop (i + 1)) w := by
      unfold cntL
      rw [List.countP_cons]
      cases ltL x w <;> simp <;> omega
    have e2 : (h || decide (w ∈ x :: l.drop (i + 1))) = ((h || decide (x = w)) || decide (w ∈ l.drop (i + 1))) := by
      rw [Bool.or_assoc]
      congr 1
      by_cases q : x = w
      · simp [q]
      · have q' : ¬ w = x := fun e => q e.symm
        simp [q, q']
    rw [e1, e2]
    have hk := wi1 (show i ≤ 9000000000000000000 by omega)
    have hn1 := wi1 (show n ≤ 9000000000000000000 by omega)
    have d1 : decide (List.length x ≤ 1000000 ∧ List.length w ≤ 1000000) = true := decide_eq_true ⟨by omega, hw⟩
    have d2 : decide (List.length x ≤ 1000000) = true := decide_eq_true (by omega)
    have d3 : decide ((0 : Int) ≤ (i : Int) ∧ (i : Int) < (l.length : Int)) = true := decide_eq_true (by omega)
    have d4 : decide ((i : Int) < (l.length : Int)) = true := decide_eq_true (by omega)
    cases hlt : ltL x w
    · have e3 : (n : Int) + (((bif false then 1 else 0) + cntL (l.drop (i + 1)) w : Nat) : Int) = (n : Int) + (cntL (l.drop (i + 1)) w : Int) := by simp
      rw [e3]
      refine LoopTo.next (fun k => ?_) (ih (i + 1) n (h || decide (x = w)) (by omega) (by omega) (by omega))
      rw [lRfi]
      cases h <;> simp only [Int.toNat_natCast, hx, rw_se, d1, d2, d3, d4, hlt, hk, cond_true, cond_false, Bool.false_or, Bool.true_or, beq_self_eq_true] <;> rfl
    · have e3 : (n : Int) + (((bif true then 1 else 0) + cntL (l.drop (i + 1)) w : Nat) : Int) = ((n + 1 : Nat) : Int) + (cntL (l.drop (i + 1)) w : Int) := by simp; omega
      rw [e3]
      refine LoopTo.next (fun k => ?_) (ih (i + 1) (n + 1) (h || decide (x = w)) (by omega) (by omega) (by omega))
      rw [lRfi]
      cases h <;> simp only [Int.toNat_natCast, hx, rw_se, d1, d2, d3, d4, hlt, hk, hn1, cond_true, cond_false, Bool.false_or, Bool.true_or, beq_self_eq_true] <;> rfl

theorem rfi_ok : OrcOk Try.prog 51 (.pure (rfindF Ar.real)) := by
  refine pureOk (Cx.ok o3 (Lrfi Ar.real)) mixed 51 Try.f51 (by kernel_rfl) (by kernel_rfl) (by kernel_rfl) 100 1 (by kernel_rfl) (fun i h => ?_) fun args r h => ?_
  · obtain rfl : i = 0 := by omega
    refine Tells.mk (key := 4) (N := 34) (ks := [0, 1, 6, 7, 8]) (F := LrfiF Ar.real) (by kernel_rfl) rfl fun xs H r h => ?_
    unfold LrfiF at h
    split at h
    · rename_i l nl w nw n hh i
      obtain ⟨hg, rfl⟩ := Tr.one h
      simp only [rw_se, Bool.and_eq_true, decide_eq_true_eq] at hg ⊢
      dsimp only [Ty.den] at hg
      obtain ⟨⟨h1, h2, h3, h4, h5, h6⟩, h7⟩ := hg
      obtain ⟨i, rfl⟩ := Int.eq_ofNat_of_zero_le h3
      obtain ⟨n, rfl⟩ := Int.eq_ofNat_of_zero_le h5
      simp only [Int.toNat_natCast]
      exact loopRfi l nl w nw h1 h2 h7 _ i n hh rfl (by omega) (by omega)
    · cases h
  · unfold rfindF at h
    split at h
    · rename_i l nl w nw
      obtain ⟨hg, rfl⟩ := Tr.one h
      refine ⟨rfl, rfl, [], ?_⟩
      rw [tRfi]
      simp only [rw_se, Bool.and_eq_true, decide_eq_true_eq, show Int.toNat 0 = 0 from rfl, List.drop_zero, Int.zero_add, Bool.false_or] at hg ⊢
      rw [bt (by rw [Bool.and_eq_true, decide_eq_true_eq]; exact ⟨⟨hg.1.1, hg.1.2, by omega, by omega, by omega, by omega⟩, hg.2⟩)]
    · cases h

theorem loopFew (O : OT) (l : List (List Int)) (nl : Option Bool) (m : Int) (z : Bool) (hl : l.length ≤ 9000000000000000000) : ∀ (n i : Nat), l.length - i = n → i ≤ l.length →
    LoopTo (Cx Ar.real O (Lfew Ar.real)) 100 (loopAt Try.f22 0) 22 [0, 1, 4, 5] [.sl wT l nl false, i64x m, boolx z, i64x (i : Int)] []
      (bif (l.drop i).all (fun x => decide (List.length x ≤ 100)) then (.exit 0, [.sl wT l nl false, i64x m, .dead, .dead], []) else (.ret, [.dead, .dead, boolx false, .dead], [])) := by
  intro n
  induction n with
  | zero =>
    intro i h1 h2
    rw [List.drop_eq_nil_iff.2 (show l.length ≤ i by omega), List.all_nil, cond_true]
    refine LoopTo.left (by simp) fun k => ?_
    rw [lFew, bf (by rw [decide_eq_false_iff_not]; omega)]
    exact ⟨_, rfl, fk (fk (fd (fd (Forget.same _))))⟩
  | succ n ih =>
    intro i h1 h2
    have hi : i < l.length := by omega
    rw [dropG (Ty.zero wT) hi, List.all_cons]
    generalize hx : l.getD i (Ty.zero wT) = x
    by_cases hc : List.length x ≤ 100
    · rw [decide_eq_true hc, Bool.true_and]
      refine LoopTo.next (fun k => ?_) (ih (i + 1) (by omega) (by omega))
      rw [lFew]
      simp only [Int.toNat_natCast, wi1 (show i ≤ 9000000000000000000 by omega), hx]
      rw [bt (by rw [decide_eq_true_eq]; omega), bt (by rw [decide_eq_true_eq]; omega), bf (by rw [decide_eq_false_iff_not]; omega)]
    · rw [decide_eq_false hc, Bool.false_and, cond_false]
      refine LoopTo.left (by simp) fun k => ?_
      rw [lFew]
      simp only [Int.toNat_natCast, hx]
      rw [bt (by rw [decide_eq_true_eq]; omega), bt (by rw [decide_eq_true_eq]; omega), bt (by rw [decide_eq_true_eq]; omega)]
      exact ⟨_, rfl, fd (fd (fk (fd (Forget.same _))))⟩

theorem few_ok (O : OT) (hO : OOk O) : OrcOk Try.prog 22 (.pure (fewF Ar.real)) := by
  refine pureOk (Cx.ok hO (Lfew Ar.real)) mixed 22 Try.f22 (by kernel_rfl) (by kernel_rfl) (by kernel_rfl) 100 1 (by kernel_rfl) (fun i h => ?_) fun args r h => ?_
  · obtain rfl : i = 0 := by omega
    refine Tells.mk (key := 2) (N := 22) (ks := [0, 1, 4, 5]) (F := LfewF Ar.real) (by kernel_rfl) rfl fun xs H r h => ?_
    unfold LfewF at h
    split at h
    · rename_i l nl m z i
      obtain ⟨hg, rfl⟩ := Tr.two h
      simp only [rw_se] at hg ⊢
      rw [decide_eq_true_eq] at hg
      dsimp only [Ty.den] at hg
      obtain ⟨h1, h4, h5⟩ := hg
      obtain ⟨i, rfl⟩ := Int.eq_ofNat_of_zero_le h4
      simp only [Int.toNat_natCast]
      exact loopFew O l nl m z h1 _ i rfl (by omega)
    · cases h
  · unfold fewF at h
    split at h
    · rename_i l nl m
      obtain ⟨hg, rfl⟩ := Tr.one h
      refine ⟨rfl, rfl, [], ?_⟩
      rw [tFew]
      rw [rw_se, decide_eq_true_eq] at hg
      simp only [rw_se, show Int.toNat 0 = 0 from rfl, List.drop_zero]
      rw [bt (by rw [decide_eq_true_eq]; exact ⟨hg, by omega, by omega⟩)]
      unfold fewB
      cases l.all (fun x => decide (List.length x ≤ 100))
      · rfl
      · rw [cond_true, Bool.true_and]
    · cases h

theorem o4 : OOk (Or4 Ar.real) := ((o3.add rfi_ok)).add (few_ok _ OOk.none)

end Go.Proofs.Ytnbfiifkaddehaa.V.R

/- Chapter 03, order: what the functions that sort and find tell. -/
namespace Go.Proofs.Ytnbfiifkaddehaa.V.R

open Go

set_option linter.unusedVariables false

/-- A word put in at its place, if it is not there. -/
def insL (out : List (List Int)) (w : List Int) : List (List Int) := if w ∈ out then out else out.take (cntL out w) ++ w :: out.drop (cntL out w)

def setL (l : List (List Int)) : List (List Int) := l.foldl insL []

/-- Of neighbours that are the same, one. -/
def compG (p : List Int) : List (List Int) → List (List Int)
  | [] => []
  | x :: xs => if x = p then compG x xs else x :: compG x xs

def compL : List (List Int) → List (List Int)
  | [] => []
  | x :: xs => x :: compG x xs

def risesB (l : List (List Int)) : Bool := decide (l.Pairwise fun x y => ltL x y = true)

/-- slices.Clone at a word of which it is known whether it is nil. -/
def wcloF (A : Ar) : List X → Tr X
  | [.sl (.int .i64) w (some nl) false] => .test (A.se (decide (List.length w ≤ 1000000) && nlB nl w)) (.give (i64s w (some nl) true)) .no
  | _ => .no

def wcloneF (A : Ar) : List X → Tr X
  | [.sl (.int .i64) w nl false] => .test (A.se (decide (List.length w ≤ 1000000))) (.give (i64s w none true)) .no
  | _ => .no

/-- slices.CompactFunc in place. -/
def cmpcF (A : Ar) : List X → Hp → Tr (X × Hp)
  | [.mref (.slice (.int .i64)) 0 [] 0 n, .fn f [] []], [(.arr m (.slice (.int .i64)), .d (.arr q (.slice (.int .i64))) l)] =>
    .test (A.se (decide (f = 46 ∧ m = n ∧ q = n ∧ List.length l = n ∧ n ≤ 1000000) && shortB l))
      (.give (.mref (.slice (.int .i64)) 0 [] 0 (A.se (compL l).length), [(.arr m (.slice (.int .i64)), .d (.arr q (.slice (.int .i64))) (A.se (compL l ++ List.replicate (l.length - (compL l).length) [])))])) .no
  | [.sl (.slice (.int .i64)) [] nl false, .fn f [] []], H => .give (.sl (.slice (.int .i64)) [] nl false, H)
  | _, _ => .no

def LcfoF (A : Ar) : List X → Hp → Tr (Ex × List X × Hp)
  | [.mref (.slice (.int .i64)) 0 [] 0 n, .fn f [] [], .sl (.slice (.int .i64)) [] (some true) true, .d (.int .i64) k], [(.arr m (.slice (.int .i64)), .d (.arr q (.slice (.int .i64))) l)] =>
    .test (A.se (decide (f = 46 ∧ m = n ∧ q = n ∧ List.length l = n ∧ n ≤ 1000000 ∧ 1 ≤ k ∧ k ≤ n ∧ compL (l.take k.toNat) = l.take k.toNat) && shortB l))
      (.test (A.se (decide (compL l = l)))
        (.give (.exit 0, [.mref (.slice (.int .i64)) 0 [] 0 n, .dead, .dead, .dead], [(.arr m (.slice (.int .i64)), .d (.arr q (.slice (.int .i64))) l)]))
        (.give (.ret, [.dead, .dead, .mref (.slice (.int .i64)) 0 [] 0 (A.se (compL l).length), .dead], [(.arr m (.slice (.int .i64)), .d (.arr q (.slice (.int .i64))) (A.se (compL l ++ List.replicate (l.length - (compL l).length) [])))]))) .no
  | _, _ => .no

def LcfiF (A : Ar) : List X → Hp → Tr (Ex × List X × Hp)
  | [.mref (.slice (.int .i64)) 0 [] 0 n, .fn f [] [], .d (.int .i64) k, .mref (.slice (.int .i64)) 0 [] off len, .d (.int .i64) j], [(.arr m (.slice (.int .i64)), .d (.arr q (.slice (.int .i64))) l)] =>
    .test (A.se (decide (f = 46 ∧ m = n ∧ q = n ∧ List.length l = n ∧ n ≤ 1000000 ∧ off + len = n ∧ 0 ≤ k ∧ 1 ≤ j ∧ k ≤ off + j - 1 ∧ j ≤ len) && shortB l))
      (.give (.exit 2, [.mref (.slice (.int .i64)) 0 [] 0 n, .dead, i64x (A.se (k + (compG (l.getD (off + j.toNat - 1) []) (l.drop (off + j.toNat))).length)), .dead, .dead],
        [(.arr m (.slice (.int .i64)), .d (.arr q (.slice (.int .i64))) (A.se (l.take k.toNat ++ compG (l.getD (off + j.toNat - 1) []) (l.drop (off + j.toNat)) ++ l.drop (k.toNat + (compG (l.getD (off + j.toNat - 1) []) (l.drop (off + j.toNat))).length))))])) .no
  | _, _ => .no

def Lcf (A : Ar) : Lp := fun k => match k with
  | 4 => some (66, [0, 1, 4, 5], LcfoF A)
  | 9 => some (66, [0, 1, 5, 6, 7], LcfiF A)
  | _ => none

def sortF (A : Ar) : List X → Tr X
  | [.sl (.slice (.int .i64)) l nl false] => .test (A.se (decide (List.length l ≤ 1000) && shortB l)) (.give (.sl (.slice (.int .i64)) (A.se (setL l)) (A.se (bif l.isEmpty then none else some false)) false)) .no
  | _ => .no

/-- order.Sort: copies are gathered. -/
def LsrtF (A : Ar) : List X → Hp → Tr (Ex × List X × Hp)
  | [.ps (.slice (.int .i64)) out, .sl (.slice (.int .i64)) l nl false, .d (.int .i64) n, .d (.int .i64) i], [] =>
    .test (A.se (decide (n = List.length l ∧ List.length l ≤ 1000 ∧ 0 ≤ i ∧ i ≤ n ∧ out = l.take i.toNat) && shortB l))
      (.give (.exit 0, [.ps (.slice (.int .i64)) (A.se l), .dead, .dead, .dead], [])) .no
  | _, _ => .no

def Lsrt (A : Ar) : Lp := fun k => match k with
  | 3 => some (25, [3, 9, 10, 11], LsrtF A)
  | _ => none

def Msrt : Nat → Nat := fun d => match d with
  | 3 => 1
  | 21 => 2
  | 2 => 3
  | _ => 0

def Or5 (A : Ar) : OT := (Oadd (Oadd (Or4 A) 42 (.pure (wcloneF A))) 46 (.pure (weqF A)))

def Or6 (A : Ar) : OT := Oadd ((Or5 A)) 45 (.eff (cmpcF A))

end Go.Proofs.Ytnbfiifkaddehaa.V.R

/- Chapter 03, order: the trees of the functions that sort and find. By program; each equation is checked by the kernel. -/
namespace Go.Proofs.Ytnbfiifkaddehaa.V.R

open Go

set_option linter.unusedVariables false

theorem tWclo (A : Ar) (O : OT) (w : List Int) (nl : Bool) : bodyX (Cx A O noL) 100 Try.f42 [i64s w (some nl) false] [] =
    (bif nl then some (X.sl (Ty.int IntKind.i64) [] (some true) true, [])
    else
      bif decide (((0 : Nat) + List.length w) * (8 : Nat) ≤ (140737488355328 : Nat)) then
        some (X.sl (Ty.int IntKind.i64) ([] ++ w) (some (false && List.isEmpty w)) true, [])
      else none) := by kernel_rfl

theorem tCl26 (A : Ar) (a : List Int) (na : Option Bool) (b : List Int) (nb : Option Bool) : bodyX (Cx A (Or4 A) noL) 100 Try.f46 [i64s a na false, i64s b nb false] [] =
    (bif A.se (decide (List.length a ≤ (1000000 : Nat))) then some (X.d Ty.bool (A.se (decide (a = b))), []) else none) := by kernel_rfl

theorem tCf (A : Ar) (n : Nat) (l : List (List Int)) : bodyX (CxM A (Or5 A) (Lcf A) (fun _ => 0)) 100 Try.f45 [.mref wT 0 [] 0 n, .fn 46 [] []] [(.arr n wT, .d (.arr n wT) l)] =
    (bif decide ((↑n : Int) < (2 : Int)) then some (X.mref wT (0 : Nat) [] (0 : Nat) n, [(Ty.arr n wT, X.d (Ty.arr n wT) l)])
    else
      bif
          A.se
            (decide
                ((46 : Nat) = (46 : Nat) ∧
                  n = n ∧
                    n = n ∧
                      List.length l = n ∧
                        n ≤ (1000000 : Nat) ∧
                          (1 : Int) ≤ (1 : Int) ∧
                            (1 : Int) ≤ (↑n : Int) ∧
                              compL (List.take (Int.toNat (1 : Int)) l) = List.take (Int.toNat (1 : Int)) l) &&
              shortB l) then
        bif A.se (decide (compL l = l)) then
          some
            (X.mref (Ty.slice (Ty.int IntKind.i64)) (0 : Nat) [] (0 : Nat) n,
              [(Ty.arr n (Ty.slice (Ty.int IntKind.i64)), X.d (Ty.arr n (Ty.slice (Ty.int IntKind.i64))) l)])
        else
          some
            (X.mref (Ty.slice (Ty.int IntKind.i64)) (0 : Nat) [] (0 : Nat) (A.se (List.length (compL l))),
              [(Ty.arr n (Ty.slice (Ty.int IntKind.i64)),
                  X.d (Ty.arr n (Ty.slice (Ty.int IntKind.i64)))
                    (A.se (compL l ++ List.replicate (List.length l - List.length (compL l)) [])))])
      else none) := by kernel_rfl

theorem tCf0 (A : Ar) (f : Nat) (nl : Option Bool) (H : Hp) : bodyX (CxM A (Or5 A) (Lcf A) (fun _ => 0)) 100 Try.f45 [.sl wT [] nl false, .fn f [] []] H =
    (some (X.sl wT [] nl false, H)) := by kernel_rfl

theorem lCfo (A : Ar) (R : Type) (n : Nat) (l : List (List Int)) (i : Int) (k : Ex → List X → Hp → Option R) : stepF (CxM A (Or5 A) (Lcf A) (fun _ => 0)) 100 (loopAt Try.f45 0) 66 [0, 1, 4, 5] [.mref wT 0 [] 0 n, .fn 46 [] [], .sl wT [] (some true) true, i64x i] [(.arr n wT, .d (.arr n wT) l)] k =
    (bif decide (i < (↑n : Int)) then
      bif decide ((0 : Int) ≤ i ∧ i < (↑n : Int)) then
        bif decide ((0 : Int) ≤ A.wrap IntKind.i64 (i - (1 : Int)) ∧ A.wrap IntKind.i64 (i - (1 : Int)) < (↑n : Int)) then
          bif A.se (decide (List.length (List.getD l ((0 : Nat) + Int.toNat i) (Ty.zero wT)) ≤ (1000000 : Nat))) then
            bif
                A.se
                  (decide
                    (List.getD l ((0 : Nat) + Int.toNat i) (Ty.zero wT) =
                      List.getD l ((0 : Nat) + Int.toNat (A.wrap IntKind.i64 (i - (1 : Int)))) (Ty.zero wT))) then
              bif decide ((0 : Int) ≤ i ∧ i ≤ (↑n : Int)) then
                bif
                    A.se
                      (decide
                          ((46 : Nat) = (46 : Nat) ∧
                            n = n ∧
                              n = n ∧
                                List.length l = n ∧
                                  n ≤ (1000000 : Nat) ∧
                                    (0 : Nat) + Int.toNat i + (n - Int.toNat i) = n ∧
                                      (0 : Int) ≤ i ∧
                                        (1 : Int) ≤ (1 : Int) ∧
                                          i ≤
                                              (↑((0 : Nat) + Int.toNat i) : Int) + (1 : Int) -
                                                (1 : Int) ∧
                                            (1 : Int) ≤ (↑(n - Int.toNat i) : Int)) &&
                        shortB l) then
                  bif
                      decide
                        ((0 : Int) ≤
                            A.se
                              (i +
                                (↑(List.length
                                      (compG (List.getD l ((0 : Nat) + Int.toNat i + Int.toNat (1 : Int) - (1 : Nat)) [])
                                        (List.drop ((0 : Nat) + Int.toNat i + Int.toNat (1 : Int)) l))) :
                                  Int)) ∧
                          A.se
                              (i +
                                (↑(List.length
                                      (compG (List.getD l ((0 : Nat) + Int.toNat i + Int.toNat (1 : Int) - (1 : Nat)) [])
                                        (List.drop ((0 : Nat) + Int.toNat i + Int.toNat (1 : Int)) l))) :
                                  Int)) ≤
                            (↑n : Int)) then
                    bif
                        decide
                          ((0 : Int) ≤
                              A.se
                                (i +
                                  (↑(List.length
                                        (compG (List.getD l ((0 : Nat) + Int.toNat i + Int.toNat (1 : Int) - (1 : Nat)) [])
                                          (List.drop ((0 : Nat) + Int.toNat i + Int.toNat (1 : Int)) l))) :
                                    Int)) ∧
                            A.se
                                (i +
                                  (↑(List.length
                                        (compG (List.getD l ((0 : Nat) + Int.toNat i + Int.toNat (1 : Int) - (1 : Nat)) [])
                                          (List.drop ((0 : Nat) + Int.toNat i + Int.toNat (1 : Int)) l))) :
                                    Int)) ≤
                              (↑n : Int)) then
                      k Ex.ret
                        [X.mref (Ty.slice (Ty.int IntKind.i64)) (0 : Nat) [] (0 : Nat) n, X.dead,
                          X.mref (Ty.slice (Ty.int IntKind.i64)) (0 : Nat) [] (0 : Nat)
                            (Int.toNat
                              (A.se
                                (i +
                                  (↑(List.length
                                        (compG (List.getD l ((0 : Nat) + Int.toNat i + Int.toNat (1 : Int) - (1 : Nat)) [])
                                          (List.drop ((0 : Nat) + Int.toNat i + Int.toNat (1 : Int)) l))) :
                                    Int)))),
                          X.d (Ty.int IntKind.i64)
                            (A.se
                              (i +
                                (↑(List.length
                                      (compG (List.getD l ((0 : Nat) + Int.toNat i + Int.toNat (1 : Int) - (1 : Nat)) [])
                                        (List.drop ((0 : Nat) + Int.toNat i + Int.toNat (1 : Int)) l))) :
                                  Int)))]
                        [(Ty.arr n (Ty.slice (Ty.int IntKind.i64)),
                            X.d (Ty.arr n (Ty.slice (Ty.int IntKind.i64)))
                              (List.take
                                    ((0 : Nat) +
                                      Int.toNat
                                        (A.se
                                          (i +
                                            (↑(List.length
                                                  (compG
                                                    (List.getD l ((0 : Nat) + Int.toNat i + Int.toNat (1 : Int) - (1 : Nat))
                                                      [])
                                                    (List.drop ((0 : Nat) + Int.toNat i + Int.toNat (1 : Int)) l))) :
                                              Int))))
                                    (A.se
                                      (List.take (Int.toNat i) l ++
                                          compG (List.getD l ((0 : Nat) + Int.toNat i + Int.toNat (1 : Int) - (1 : Nat)) [])
                                            (List.drop ((0 : Nat) + Int.toNat i + Int.toNat (1 : Int)) l) ++
                                        List.drop
                                          (Int.toNat i +
                                            List.length
                                              (compG
                                                (List.getD l ((0 : Nat) + Int.toNat i + Int.toNat (1 : Int) - (1 : Nat)) [])
                                                (List.drop ((0 : Nat) + Int.toNat i + Int.toNat (1 : Int)) l)))
                                          l)) ++
                                  List.replicate
                                    (n -
                                      Int.toNat
                                        (A.se
                                          (i +
                                            (↑(List.length
                                                  (compG
                                                    (List.getD l ((0 : Nat) + Int.toNat i + Int.toNat (1 : Int) - (1 : Nat))
                                                      [])
                                                    (List.drop ((0 : Nat) + Int.toNat i + Int.toNat (1 : Int)) l))) :
                                              Int))))
                                    [] ++
                                List.drop
                                  ((0 : Nat) +
                                      Int.toNat
                                        (A.se
                                          (i +
                                            (↑(List.length
                                                  (compG
                                                    (List.getD l ((0 : Nat) + Int.toNat i + Int.toNat (1 : Int) - (1 : Nat))
                                                      [])
                                                    (List.drop ((0 : Nat) + Int.toNat i + Int.toNat (1 : Int)) l))) :
                                              Int))) +
                                    (n -
                                      Int.toNat
                                        (A.se
                                          (i +
                                            (↑(List.length
                                                  (compG
                                                    (List.getD l ((0 : Nat) + Int.toNat i + Int.toNat (1 : Int) - (1 : Nat))
                                                      [])
                                                    (List.drop ((0 : Nat) + Int.toNat i + Int.toNat (1 : Int)) l))) :
                                              Int)))))
                                  (A.se
                                    (List.take (Int.toNat i) l ++
                                        compG (List.getD l ((0 : Nat) + Int.toNat i + Int.toNat (1 : Int) - (1 : Nat)) [])
                                          (List.drop ((0 : Nat) + Int.toNat i + Int.toNat (1 : Int)) l) ++
                                      List.drop
                                        (Int.toNat i +
                                          List.length
                                            (compG
                                              (List.getD l ((0 : Nat) + Int.toNat i + Int.toNat (1 : Int) - (1 : Nat)) [])
                                              (List.drop ((0 : Nat) + Int.toNat i + Int.toNat (1 : Int)) l)))
                                        l))))]
                    else none
                  else none
                else none
              else none
            else
              k Ex.normal
                [X.mref wT (0 : Nat) [] (0 : Nat) n, X.fn (46 : Nat) [] [], X.sl wT [] (some true) true,
                  X.d (Ty.int IntKind.i64) (A.wrap IntKind.i64 (i + (1 : Int)))]
                [(Ty.arr n wT, X.d (Ty.arr n wT) l)]
          else none
        else none
      else none
    else
      k (Ex.exit (0 : Nat))
        [X.mref wT (0 : Nat) [] (0 : Nat) n, X.fn (46 : Nat) [] [], X.sl wT [] (some true) true, X.d (Ty.int IntKind.i64) i]
        [(Ty.arr n wT, X.d (Ty.arr n wT) l)]) := by kernel_rfl

theorem lCfi (A : Ar) (R : Type) (n : Nat) (l : List (List Int)) (off len : Nat) (i j : Int) (k : Ex → List X → Hp → Option R) : stepF (CxM A (Or5 A) (Lcf A) (fun _ => 0)) 100 (loopAt Try.f45 1) 66 [0, 1, 5, 6, 7] [.mref wT 0 [] 0 n, .fn 46 [] [], i64x i, .mref wT 0 [] off len, i64x j] [(.arr n wT, .d (.arr n wT) l)] k =
    (bif decide (j < (↑len : Int)) then
      bif decide ((0 : Int) ≤ j ∧ j < (↑len : Int)) then
        bif decide ((0 : Int) ≤ A.wrap IntKind.i64 (j - (1 : Int)) ∧ A.wrap IntKind.i64 (j - (1 : Int)) < (↑len : Int)) then
          bif A.se (decide (List.length (List.getD l (off + Int.toNat j) (Ty.zero wT)) ≤ (1000000 : Nat))) then
            bif
                !A.se
                    (decide
                      (List.getD l (off + Int.toNat j) (Ty.zero wT) =
                        List.getD l (off + Int.toNat (A.wrap IntKind.i64 (j - (1 : Int)))) (Ty.zero wT))) then
              bif decide ((0 : Int) ≤ j ∧ j < (↑len : Int)) then
                bif decide ((0 : Int) ≤ i ∧ i < (↑n : Int)) then
                  k Ex.normal
                    [X.mref wT (0 : Nat) [] (0 : Nat) n, X.fn (46 : Nat) [] [],
                      X.d (Ty.int IntKind.i64) (A.wrap IntKind.i64 (i + (1 : Int))), X.mref wT (0 : Nat) [] off len,
                      X.d (Ty.int IntKind.i64) (A.wrap IntKind.i64 (j + (1 : Int)))]
                    [(Ty.arr n wT,
                        X.d (Ty.arr n wT)
                          (List.set l ((0 : Nat) + Int.toNat i) (List.getD l (off + Int.toNat j) (Ty.zero wT))))]
                else none
              else none
            else
              k Ex.normal
                [X.mref wT (0 : Nat) [] (0 : Nat) n, X.fn (46 : Nat) [] [], X.d (Ty.int IntKind.i64) i,
                  X.mref wT (0 : Nat) [] off len, X.d (Ty.int IntKind.i64) (A.wrap IntKind.i64 (j + (1 : Int)))]
                [(Ty.arr n wT, X.d (Ty.arr n wT) l)]
          else none
        else none
      else none
    else
      k (Ex.exit (2 : Nat))
        [X.mref wT (0 : Nat) [] (0 : Nat) n, X.fn (46 : Nat) [] [], X.d (Ty.int IntKind.i64) i,
          X.mref wT (0 : Nat) [] off len, X.d (Ty.int IntKind.i64) j]
        [(Ty.arr n wT, X.d (Ty.arr n wT) l)]) := by kernel_rfl

theorem tSort (A : Ar) (l : List (List Int)) (nl : Option Bool) : bodyX (CxM A (Or6 A) (Lsrt A) Msrt) 100 Try.f21 [.sl wT l nl false] [] =
    (bif
        decide
          ((0 : Int) ≤ (↑(List.length l) : Int) ∧
            (↑(List.length l) : Int) * (↑(24 : Nat) : Int) ≤
                (140737488355328 : Int) ∧
              (↑(List.length l) : Int) ≤ (9223372036854775807 : Int)) then
      bif
          A.se
            (decide
                ((↑(List.length l) : Int) = (↑(List.length l) : Int) ∧
                  List.length l ≤ (1000 : Nat) ∧
                    (0 : Int) ≤ (0 : Int) ∧
                      (0 : Int) ≤ (↑(List.length l) : Int) ∧ [] = List.take (Int.toNat (0 : Int)) l) &&
              shortB l) then
        bif List.isEmpty (A.se l) then some (X.sl (Ty.slice (Ty.int IntKind.i64)) [] none false, [])
        else
          bif
              A.se
                (decide
                    ((44 : Nat) = (44 : Nat) ∧
                      List.length (A.se l) = List.length (A.se l) ∧
                        List.length (A.se l) = List.length (A.se l) ∧ List.length (A.se l) ≤ (1000000 : Nat)) &&
                  List.all (A.se l) fun x => decide (List.length x ≤ (1000000 : Nat))) then
            bif
                A.se
                  (decide
                      ((46 : Nat) = (46 : Nat) ∧
                        List.length (A.se l) = List.length (A.se l) ∧
                          List.length (A.se l) = List.length (A.se l) ∧
                            List.length (A.se (srtL (A.se l))) = List.length (A.se l) ∧
                              List.length (A.se l) ≤ (1000000 : Nat)) &&
                    shortB (A.se (srtL (A.se l)))) then
              some
                (X.sl (Ty.slice (Ty.int IntKind.i64))
                    (List.take (A.se (List.length (compL (A.se (srtL (A.se l))))))
                      (List.drop (0 : Nat)
                        (A.se
                          (compL (A.se (srtL (A.se l))) ++
                            List.replicate (List.length (A.se (srtL (A.se l))) - List.length (compL (A.se (srtL (A.se l)))))
                              []))))
                    (some false) false,
                  [(Ty.arr (List.length (A.se l)) (Ty.slice (Ty.int IntKind.i64)), X.dead)])
            else none
          else none
      else none
    else none) := by kernel_rfl

theorem lSort (A : Ar) (R : Type) (out : List (List Int)) (l : List (List Int)) (nl : Option Bool) (n i : Int) (k : Ex → List X → Hp → Option R) : stepF (CxM A (Or6 A) (Lsrt A) Msrt) 100 (loopAt Try.f21 0) 25 [3, 9, 10, 11] [.ps wT out, .sl wT l nl false, i64x n, i64x i] [] k =
    (bif decide (i < n) then
      bif decide ((0 : Int) ≤ i ∧ i < (↑(List.length l) : Int)) then
        bif A.se (decide (List.length (List.getD l (Int.toNat i) (Ty.zero wT)) ≤ (1000000 : Nat))) then
          bif
              decide
                ((List.length out + List.length [List.getD l (Int.toNat i) (Ty.zero wT)]) * (24 : Nat) ≤
                  (140737488355328 : Nat)) then
            k Ex.normal
              [X.ps wT (out ++ [List.getD l (Int.toNat i) (Ty.zero wT)]), X.sl wT l nl false, X.d (Ty.int IntKind.i64) n,
                X.d (Ty.int IntKind.i64) (A.wrap IntKind.i64 (i + (1 : Int)))]
              []
          else none
        else none
      else none
    else k (Ex.exit (0 : Nat)) [X.ps wT out, X.sl wT l nl false, X.d (Ty.int IntKind.i64) n, X.d (Ty.int IntKind.i64) i] []) := by kernel_rfl

end Go.Proofs.Ytnbfiifkaddehaa.V.R

/- Chapter 03, order, the plain law: lists of words that rise. -/
namespace Go.Proofs.Ytnbfiifkaddehaa.V.R

open Go

set_option linter.unusedVariables false

set_option linter.unusedSimpArgs false

abbrev Rises (l : List (List Int)) : Prop := l.Pairwise fun x y => ltL x y = true

theorem risesB_iff {l : List (List Int)} : risesB l = true ↔ Rises l := by simp [risesB, Rises]

theorem ltL_irr (a : List Int) : ltL a a = false := swoL.irrefl a

theorem ltL_tr {a b c : List Int} (h1 : ltL a b = true) (h2 : ltL b c = true) : ltL a c = true := swoL.trans _ _ _ h1 h2

theorem ltL_asym {a b : List Int} (h : ltL a b = true) : ltL b a = false := by
  cases h2 : ltL b a
  · rfl
  · have := ltL_tr h h2; rw [ltL_irr] at this; cases this

theorem ltL_or {a b : List Int} (h : a ≠ b) : ltL a b = true ∨ ltL b a = true := by
  cases h1 : ltL a b
  · cases h2 : ltL b a
    · exact absurd (ltL_anti h1 h2) h
    · exact .inr rfl
  · exact .inl rfl

/-- In a list that rises: who stands ahead stands at the head. -/
theorem cnt_at : ∀ {l : List (List Int)} (w : List Int), Rises l → ∀ i, (h : i < l.length) → ltL l[i] w = decide (i < cntL l w)
  | [], _, _, i, h => absurd h (by simp)
  | x :: l, w, hr, i, h => by
    obtain ⟨h1, h2⟩ := List.pairwise_cons.1 hr
    have ih := cnt_at (l := l) w h2
    unfold cntL at ih ⊢
    rw [List.countP_cons]
    cases hx : ltL x w
    · have h0 : List.countP (fun x => ltL x w) l = 0 := by
        rw [List.countP_eq_zero]
        intro y hy hlt
        have := ltL_tr (h1 y hy) hlt
        rw [hx] at this; cases this
      rw [h0]
      cases i with
      | zero => simpa using hx
      | succ i =>
        have hi : i < l.length := by simpa using h
        have := ih i hi
        rw [h0] at this
        simpa using this
    · cases i with
      | zero => simpa using hx
      | succ i =>
        have hi : i < l.length := by simpa using h
        have := ih i hi
        simp only [List.getElem_cons_succ, if_true]
        rw [this]
        simp

theorem mem_cnt {l : List (List Int)} {w : List Int} (hr : Rises l) : w ∈ l ↔ ∃ h : cntL l w < l.length, l[cntL l w] = w := by
  constructor
  · intro hm
    obtain ⟨i, hi, rfl⟩ := List.getElem_of_mem hm
    have h1 := cnt_at l[i] hr i hi
    rw [ltL_irr] at h1
    have hle : cntL l l[i] ≤ i := by
      have := h1.symm
      rw [decide_eq_false_iff_not] at this
      omega
    have hlt : cntL l l[i] < l.length := by omega
    refine ⟨hlt, ?_⟩
    have h2 := cnt_at l[i] hr (cntL l l[i]) hlt
    rw [decide_eq_false (by omega)] at h2
    by_cases e : cntL l l[i] = i
    · simp only [e]
    · have h3 := (List.pairwise_iff_getElem.1 hr) (cntL l l[i]) i hlt hi (by omega)
      rw [h2] at h3; cases h3
  · rintro ⟨h, e⟩
    rw [← e]
    exact List.getElem_mem h

/-- Two lists that rise, of the same words, are one. -/
theorem rises_ext : ∀ {a b : List (List Int)}, Rises a → Rises b → (∀ x, x ∈ a ↔ x ∈ b) → a = b
  | [], [], _, _, _ => rfl
  | [], y :: b, _, _, h => absurd ((h y).2 (by simp)) (by simp)
  | x :: a, [], _, _, h => absurd ((h x).1 (by simp)) (by simp)
  | x :: a, y :: b, ha, hb, h => by
    obtain ⟨a1, a2⟩ := List.pairwise_cons.1 ha
    obtain ⟨b1, b2⟩ := List.pairwise_cons.1 hb
    have e : x = y := by
      by_cases e : x = y
      · exact e
      · have q1 : x ∈ b := by
          rcases List.mem_cons.1 ((h x).1 (by simp)) with q | q
          · exact absurd q e
          · exact q
        have q2 : y ∈ a := by
          rcases List.mem_cons.1 ((h y).2 (by simp)) with q | q
          · exact absurd q.symm e
          · exact q
        have := ltL_asym (a1 y q2)
        rw [b1 x q1] at this; cases this
    subst e
    congr 1
    refine rises_ext a2 b2 fun z => ?_
    have nx : ∀ {c : List (List Int)}, (∀ y ∈ c, ltL x y = true) → x ∉ c := fun hc hm => by
      have := hc x hm; rw [ltL_irr] at this; cases this
    constructor
    · intro hz
      rcases List.mem_cons.1 ((h z).1 (List.mem_cons_of_mem _ hz)) with q | q
      · exact absurd (q ▸ hz) (nx a1)
      · exact q
    · intro hz
      rcases List.mem_cons.1 ((h z).2 (List.mem_cons_of_mem _ hz)) with q | q
      · exact absurd (q ▸ hz) (nx b1)
      · exact q

theorem insL_mem {out : List (List Int)} {w z : List Int} : z ∈ insL out w ↔ z ∈ out ∨ z = w := by
  unfold insL
  by_cases h : w ∈ out
  · rw [if_pos h]
    constructor
    · exact .inl
    · rintro (q | rfl)
      · exact q
      · exact h
  · rw [if_neg h, List.mem_append, List.mem_cons]
    have e := List.take_append_drop (cntL out w) out
    constructor
    · rintro (q | q | q)
      · exact .inl (List.mem_of_mem_take q)
      · exact .inr q
      · exact .inl (List.mem_of_mem_drop q)
    · rintro (q | q)
      · rw [← e] at q
        rcases List.mem_append.1 q with q | q
        · exact .inl q
        · exact .inr (.inr q)
      · exact .inr (.inl q)

theorem insL_rises {out : List (List Int)} {w : List Int} (h : Rises out) : Rises (insL out w) := by
  unfold insL
  by_cases hm : w ∈ out
  · rw [if_pos hm]; exact h
  · rw [if_neg hm]
    have hlow : ∀ y ∈ out.take (cntL out w), ltL y w = true := fun y hy => by
      obtain ⟨i, hi, rfl⟩ := List.getElem_of_mem hy
      rw [List.length_take] at hi
      rw [List.getElem_take, cnt_at w h i (by omega), decide_eq_true_eq]
      omega
    have hhigh : ∀ y ∈ out.drop (cntL out w), ltL w y = true := fun y hy => by
      obtain ⟨i, hi, rfl⟩ := List.getElem_of_mem hy
      rw [List.length_drop] at hi
      rw [List.getElem_drop]
      have hlt := cnt_at w h (cntL out w + i) (by omega)
      rw [decide_eq_false (by omega)] at hlt
      have hne : out[cntL out w + i] ≠ w := fun e => hm (e ▸ List.getElem_mem _)
      rcases ltL_or hne with q | q
      · rw [hlt] at q; cases q
      · exact q
    refine List.pairwise_append.2 ⟨h.sublist (List.take_sublist _ _), List.pairwise_cons.2 ⟨hhigh, h.sublist (List.drop_sublist _ _)⟩, fun a ha b hb => ?_⟩
    rcases List.mem_cons.1 hb with rfl | hb
    · exact hlow a ha
    · exact ltL_tr (hlow a ha) (hhigh b hb)

theorem foldl_insL {l : List (List Int)} : ∀ {out : List (List Int)}, Rises out → Rises (l.foldl insL out) ∧ ∀ z, z ∈ l.foldl insL out ↔ z ∈ out ∨ z ∈ l := by
  induction l with
  | nil => intro out h; exact ⟨h, fun z => by simp⟩
  | cons x l ih =>
    intro out h
    obtain ⟨h1, h2⟩ := ih (insL_rises (w := x) h)
    refine ⟨h1, fun z => ?_⟩
    rw [List.foldl_cons, h2, insL_mem, List.mem_cons, or_assoc]

theorem setL_rises (l : List (List Int)) : Rises (setL l) := (foldl_insL List.Pairwise.nil).1

theorem setL_mem {l : List (List Int)} {z : List Int} : z ∈ setL l ↔ z ∈ l := by
  have := (foldl_insL (l := l) (out := []) List.Pairwise.nil).2 z
  simpa [setL] using this

theorem insL_len {out : List (List Int)} {w : List Int} : (insL out w).length ≤ out.length + 1 ∧ out.length ≤ (insL out w).length := by
  unfold insL
  split
  · omega
  · have := congrArg List.length (List.take_append_drop (cntL out w) out)
    rw [List.length_append] at this
    rw [List.length_append, List.length_cons]
    omega

theorem insL_ne {out : List (List Int)} {w : List Int} : (insL out w).isEmpty = false := by
  have : w ∈ insL out w := insL_mem.2 (.inr rfl)
  cases h : insL out w with
  | nil => rw [h] at this; simp at this
  | cons _ _ => rfl

theorem setL_short {l : List (List Int)} (h : shortB l = true) : shortB (setL l) = true := by
  unfold shortB at h ⊢
  rw [List.all_eq_true] at h ⊢
  exact fun x hx => h x (setL_mem.1 hx)

theorem setL_len (l : List (List Int)) : (setL l).length ≤ l.length := by
  have : ∀ (l out : List (List Int)), (l.foldl insL out).length ≤ out.length + l.length := by
    intro l
    induction l with
    | nil => intro out; simp
    | cons x l ih =>
      intro out
      have h1 := ih (insL out x)
      have h2 := (insL_len (out := out) (w := x)).1
      simp only [List.foldl_cons, List.length_cons]; omega
  have := this l []
  simpa [setL] using this

theorem setL_of_rises {l : List (List Int)} (h : Rises l) : setL l = l := rises_ext (setL_rises l) h fun _ => setL_mem

theorem setL_ext {a b : List (List Int)} (h : ∀ x, x ∈ a ↔ x ∈ b) : setL a = setL b := rises_ext (setL_rises a) (setL_rises b) fun x => by rw [setL_mem, setL_mem, h]

theorem compG_mem {p z : List Int} : ∀ {l : List (List Int)}, z ∈ compG p l → z ∈ l
  | [], h => by simp [compG] at h
  | x :: l, h => by
    unfold compG at h
    split at h
    · exact List.mem_cons_of_mem _ (compG_mem h)
    · rcases List.mem_cons.1 h with rfl | h
      · simp
      · exact List.mem_cons_of_mem _ (compG_mem h)

theorem compG_has {z : List Int} : ∀ {p : List Int} {l : List (List Int)}, z ∈ l → z = p ∨ z ∈ compG p l
  | p, [], h => by simp at h
  | p, x :: l, h => by
    unfold compG
    split
    · rename_i e
      subst e
      rcases List.mem_cons.1 h with rfl | h
      · exact .inl rfl
      · exact compG_has h
    · rcases List.mem_cons.1 h with rfl | h
      · exact .inr (by simp)
      · rcases compG_has (p := x) h with rfl | h
        · exact .inr (by simp)
        · exact .inr (List.mem_cons_of_mem _ h)

theorem compG_rises : ∀ {p : List Int} {l : List (List Int)}, (∀ y ∈ l, ltL y p = false) → l.Pairwise (fun x y => ltL y x = false) → (∀ y ∈ compG p l, ltL p y = true) ∧ Rises (compG p l)
  | p, [], _, _ => ⟨fun y h => by simp [compG] at h, List.Pairwise.nil⟩
  | p, x :: l, hp, hl => by
    obtain ⟨l1, l2⟩ := List.pairwise_cons.1 hl
    obtain ⟨i1, i2⟩ := compG_rises (p := x) l1 l2
    unfold compG
    split
    · rename_i e
      subst e
      exact ⟨i1, i2⟩
    · rename_i e
      have hpx : ltL p x = true := by
        rcases ltL_or e with q | q
        · rw [hp x (by simp)] at q; cases q
        · exact q
      refine ⟨fun y hy => ?_, List.pairwise_cons.2 ⟨i1, i2⟩⟩
      rcases List.mem_cons.1 hy with rfl | hy
      · exact hpx
      · exact ltL_tr hpx (i1 y hy)

theorem comp_srt (l : List (List Int)) : compL (srtL l) = setL l := by
  have hs : (srtL l).Pairwise fun x y => ltL y x = false := by
    have := List.pairwise_mergeSort (le := fun x y => !ltL y x) (fun a b c h1 h2 => by
      simp only [Bool.not_eq_true'] at h1 h2 ⊢
      exact swoL.ntrans c b a h2 h1) (fun a b => by
      cases h : ltL b a
      · simp
      · simp [ltL_asym h]) l
    exact this.imp fun h => by simpa using h
  have hm : ∀ z, z ∈ srtL l ↔ z ∈ l := fun z => (List.mergeSort_perm l _).mem_iff
  cases h : srtL l with
  | nil =>
    have : l = [] := by
      have := (List.mergeSort_perm l (fun x y => !ltL y x)).length_eq
      unfold srtL at h
      rw [h] at this
      exact List.eq_nil_of_length_eq_zero this.symm
    subst this; rfl
  | cons x s =>
    rw [h] at hs hm
    obtain ⟨l1, l2⟩ := List.pairwise_cons.1 hs
    obtain ⟨i1, i2⟩ := compG_rises (p := x) l1 l2
    refine rises_ext (List.pairwise_cons.2 ⟨i1, i2⟩) (setL_rises l) fun z => ?_
    rw [setL_mem, ← hm]
    constructor
    · intro hz
      rcases List.mem_cons.1 hz with rfl | hz
      · simp
      · exact List.mem_cons_of_mem _ (compG_mem hz)
    · intro hz
      rcases List.mem_cons.1 hz with rfl | hz
      · exact List.mem_cons_self
      · rcases compG_has (p := x) hz with rfl | hz
        · exact List.mem_cons_self
        · exact List.mem_cons_of_mem _ hz

end Go.Proofs.Ytnbfiifkaddehaa.V.R

/- Chapter 03, order: the reference's sorting, copies, and finding do what they tell. -/
namespace Go.Proofs.Ytnbfiifkaddehaa.V.R

open Go

set_option linter.unusedVariables false

set_option linter.unusedSimpArgs false

/-! ### Copies -/

theorem wclo_ok : OrcOk Try.prog 42 (.pure (wcloF Ar.real)) := by
  refine pureOk (Cx.ok OOk.none noL) mixed 42 Try.f42 (by kernel_rfl) (by kernel_rfl) (by kernel_rfl) 100 0 (by kernel_rfl) (fun i h => by omega) fun args r h => ?_
  unfold wcloF at h
  split at h
  · rename_i b nl
    obtain ⟨hg, rfl⟩ := Tr.one h
    refine ⟨rfl, rfl, [], ?_⟩
    rw [tWclo]
    simp only [rw_se, Bool.and_eq_true, decide_eq_true_eq] at hg
    obtain ⟨h1, h2⟩ := hg
    cases nl
    · rw [bf rfl, bt (by rw [decide_eq_true_eq]; omega)]
      simp [i64s]
    · have := nlB_nil h2 rfl
      simp [this]
  · cases h

theorem wclone_ok : OrcOk Try.prog 42 (.pure (wcloneF Ar.real)) := by
  obtain ⟨h1, h2⟩ := (show PureOk _ _ _ from wclo_ok)
  refine ⟨h1, fun args r hr g w d dh vs hd hw ha => ?_⟩
  replace hr : (wcloneF Ar.real args).run some = some r := hr
  unfold wcloneF at hr
  split at hr
  · rename_i x nl
    obtain ⟨hg, rfl⟩ := Tr.one hr
    simp only [rw_se, decide_eq_true_eq] at hg
    simp only [RepXs] at ha
    obtain ⟨v0, us, rfl, k0, rfl⟩ := ha
    simp only [RepX] at k0
    obtain ⟨a, c, rfl, p1, p2, p3, p4⟩ := k0
    have hrep : RepXs g w dh [i64s x (some a.isNone) false] [.slice a (List.length x) c] := by
      simp only [RepXs, RepX]
      exact ⟨_, _, rfl, ⟨a, c, rfl, p1, p2, fun b e => by cases e; rfl, fun h => by cases h⟩, rfl⟩
    have hn : nlB a.isNone x = true := by
      cases a with
      | some a => rfl
      | none =>
        cases x with
        | nil => rfl
        | cons y x =>
          obtain ⟨A, _, e, _⟩ := p2 0 (by simp)
          cases e
    have hF : (wcloF Ar.real [i64s x (some a.isNone) false]).run some = some (i64s x (some a.isNone) true) := by
      unfold wcloF
      simp only [rw_se, hn, decide_eq_true hg, Bool.and_self]
      rfl
    refine (h2 _ _ hF g w d dh _ hd hw hrep).mono ?_
    rintro e w' ⟨v, g', e1, e2, e3, e4⟩
    refine ⟨v, g', e1, ?_, e3, e4⟩
    simp only [RepX] at e2 ⊢
    obtain ⟨a', c', q1, q2, q3, q4, q5⟩ := e2
    exact ⟨a', c', q1, q2, q3, (fun b e => by cases e), q5⟩
  · cases hr

theorem cl26_ok : OrcOk Try.prog 46 (.pure (weqF Ar.real)) := by
  refine pureOk (Cx.ok o4 noL) mixed 46 Try.f46 (by kernel_rfl) (by kernel_rfl) (by kernel_rfl) 100 0 (by kernel_rfl) (fun i h => by omega) fun args r h => ?_
  unfold weqF at h
  split at h
  · rename_i a na b nb
    obtain ⟨hg, rfl⟩ := Tr.one h
    refine ⟨rfl, rfl, [], ?_⟩
    rw [tCl26, bt hg]
  · cases h

theorem o5 : OOk (Or5 Ar.real) := ((o4.add wclone_ok).add cl26_ok)

/-! ### The reference's sorting -/

/-! ### Finding -/

end Go.Proofs.Ytnbfiifkaddehaa.V.R

/- Chapter 03, order: neighbours that are the same, struck in place; finding. -/
namespace Go.Proofs.Ytnbfiifkaddehaa.V.R

open Go

set_option linter.unusedVariables false

set_option linter.unusedSimpArgs false

theorem compG_len : ∀ (p : List Int) (l : List (List Int)), (compG p l).length ≤ l.length
  | _, [] => by simp [compG]
  | p, x :: l => by
    have := compG_len x l
    unfold compG
    split <;> simp <;> omega

theorem compG_split : ∀ {p : List Int} {l : List (List Int)} {k : Nat}, k ≤ l.length → compG p (l.take k) = l.take k → compG p l = l.take k ++ compG ((p :: l).getD k []) (l.drop k)
  | p, l, 0, _, _ => by simp
  | p, [], k + 1, h, _ => by simp at h
  | p, x :: l, k + 1, h, he => by
    have hk : k ≤ l.length := by simpa using h
    rw [List.take_succ_cons] at he ⊢
    unfold compG at he
    by_cases e : x = p
    · rw [if_pos e] at he
      have h1 := compG_len x (l.take k)
      rw [he] at h1
      simp at h1
      omega
    · rw [if_neg e] at he
      have h1 := compG_split (p := x) hk (List.cons.inj he).2
      rw [compG, if_neg e, h1]
      simp

theorem compL_split {l : List (List Int)} {k : Nat} (h1 : 1 ≤ k) (hk : k ≤ l.length) (he : compL (l.take k) = l.take k) : compL l = l.take k ++ compG (l.getD (k - 1) []) (l.drop k) := by
  match l, k, h1, hk, he with
  | [], k, h1, hk, he => simp at hk; omega
  | y :: l, k + 1, h1, hk, he =>
    rw [List.take_succ_cons, compL] at he
    have := compG_split (p := y) (l := l) (k := k) (by simpa using hk) (List.cons.inj he).2
    rw [compL, this]
    simp

theorem compL_step {l : List (List Int)} {k : Nat} (h1 : 1 ≤ k) (hk : k < l.length) (he : compL (l.take k) = l.take k) (hne : l.getD k [] ≠ l.getD (k - 1) []) : compL (l.take (k + 1)) = l.take (k + 1) := by
  have hlen : (l.take (k + 1)).length = k + 1 := by rw [List.length_take]; omega
  have ht : (l.take (k + 1)).take k = l.take k := by rw [List.take_take]; congr 1; omega
  have hd : (l.take (k + 1)).drop k = [l.getD k []] := by
    rw [List.drop_take, show k + 1 - k = 1 by omega, dropG [] hk]
    simp
  have hg : (l.take (k + 1)).getD (k - 1) [] = l.getD (k - 1) [] := by
    rw [List.getD_eq_getElem?_getD, List.getD_eq_getElem?_getD, List.getElem?_take, if_pos (by omega)]
  have := compL_split (l := l.take (k + 1)) h1 (by omega) (by rw [ht]; exact he)
  rw [this, ht, hd, hg, compG, if_neg hne, compG]
  conv => rhs; rw [← List.take_append_drop k (l.take (k + 1)), ht, hd]

theorem compL_dup {l : List (List Int)} {k : Nat} (h1 : 1 ≤ k) (hk : k < l.length) (he : compL (l.take k) = l.take k) (hd : l.getD k [] = l.getD (k - 1) []) :
    compL l = l.take k ++ compG (l.getD k []) (l.drop (k + 1)) ∧ compL l ≠ l := by
  have e : compL l = l.take k ++ compG (l.getD k []) (l.drop (k + 1)) := by
    rw [compL_split h1 (by omega) he, dropG [] hk, compG, if_pos hd]
  refine ⟨e, fun h => ?_⟩
  have h2 := congrArg List.length e
  have h3 := compG_len (l.getD k []) (l.drop (k + 1))
  rw [h, List.length_append, List.length_take] at h2
  rw [List.length_drop] at h3
  omega

abbrev heapW (n : Nat) (l : List (List Int)) : Hp := [(.arr n wT, .d (.arr n wT) l)]

/-- What the inner loop leaves. -/
def innL (k off j : Nat) (l : List (List Int)) : List (List Int) := l.take k ++ compG (l.getD (off + j - 1) []) (l.drop (off + j)) ++ l.drop (k + (compG (l.getD (off + j - 1) []) (l.drop (off + j))).length)

theorem innL_end {k off j : Nat} {l : List (List Int)} (h : l.length ≤ off + j) : innL k off j l = l := by
  unfold innL
  rw [List.drop_eq_nil_iff.2 h]
  simp [compG]

theorem innL_skip {k off j : Nat} {l : List (List Int)} (h : off + j < l.length) (hj : 1 ≤ j) (e : l.getD (off + j) [] = l.getD (off + j - 1) []) : innL k off j l = innL k off (j + 1) l ∧ compG (l.getD (off + j - 1) []) (l.drop (off + j)) = compG (l.getD (off + (j + 1) - 1) []) (l.drop (off + (j + 1))) := by
  have : compG (l.getD (off + j - 1) []) (l.drop (off + j)) = compG (l.getD (off + (j + 1) - 1) []) (l.drop (off + (j + 1))) := by
    rw [dropG [] h, compG, if_pos e, show off + (j + 1) - 1 = off + j by omega]
    rfl
  exact ⟨by unfold innL; rw [this], this⟩

theorem innL_put {k off j : Nat} {l : List (List Int)} (h : off + j < l.length) (hk : k < off + j) (hne : l.getD (off + j) [] ≠ l.getD (off + j - 1) []) :
    innL k off j l = innL (k + 1) off (j + 1) (l.set k (l.getD (off + j) [])) ∧ (compG (l.getD (off + j - 1) []) (l.drop (off + j))).length = (compG ((l.set k (l.getD (off + j) [])).getD (off + (j + 1) - 1) []) ((l.set k (l.getD (off + j) [])).drop (off + (j + 1)))).length + 1 := by
  have e1 : (l.set k (l.getD (off + j) [])).getD (off + (j + 1) - 1) [] = l.getD (off + j) [] := by
    rw [show off + (j + 1) - 1 = off + j by omega, List.getD_eq_getElem?_getD, List.getElem?_set_ne (by omega), ← List.getD_eq_getElem?_getD]
  have e2 : (l.set k (l.getD (off + j) [])).drop (off + (j + 1)) = l.drop (off + (j + 1)) := by
    rw [List.drop_set_of_lt (by omega)]
  have e3 : compG (l.getD (off + j - 1) []) (l.drop (off + j)) = l.getD (off + j) [] :: compG (l.getD (off + j) []) (l.drop (off + (j + 1))) := by
    rw [dropG [] h, compG, if_neg hne]
    rfl
  refine ⟨?_, by rw [e1, e2, e3]; simp⟩
  unfold innL
  rw [e1, e2, e3]
  generalize compG (l.getD (off + j) []) (l.drop (off + (j + 1))) = G
  generalize l.getD (off + j) [] = x
  have e4 : (l.set k x).take (k + 1) = l.take k ++ [x] := by
    rw [List.take_set]
    have : (l.take (k + 1)).length = k + 1 := by rw [List.length_take]; omega
    have hs : l.take (k + 1) = l.take k ++ [l[k]'(by omega)] := by rw [List.take_succ_eq_append_getElem]
    rw [hs, List.set_append_right _ _ (by rw [List.length_take]; omega)]
    simp [List.length_take, show min k l.length = k by omega]
  have e5 : (l.set k x).drop (k + 1 + G.length) = l.drop (k + (x :: G).length) := by
    rw [List.drop_set_of_lt (by omega)]
    congr 1
    simp; omega
  rw [e4, e5]
  simp

theorem short_set {l : List (List Int)} {k : Nat} {x : List Int} (h : shortB l = true) (hx : x.length ≤ 1000) : shortB (l.set k x) = true := by
  unfold shortB at h ⊢
  rw [List.all_eq_true] at h ⊢
  intro z hz
  rcases List.mem_or_eq_of_mem_set hz with q | rfl
  · exact h z q
  · exact decide_eq_true hx

theorem loopCfi (n off len : Nat) (hn : n ≤ 1000000) (ho : off + len = n) : ∀ (m j k : Nat) (l : List (List Int)), len - j = m → 1 ≤ j → j ≤ len → k < off + j → l.length = n → shortB l = true →
    LoopTo (CxM Ar.real (Or5 Ar.real) (Lcf Ar.real) (fun _ => 0)) 100 (loopAt Try.f45 1) 66 [0, 1, 5, 6, 7] [.mref wT 0 [] 0 n, .fn 46 [] [], i64x (k : Int), .mref wT 0 [] off len, i64x (j : Int)] (heapW n l)
      (.exit 2, [.mref wT 0 [] 0 n, .dead, i64x ((k : Int) + (compG (l.getD (off + j - 1) []) (l.drop (off + j))).length), .dead, .dead], heapW n (innL k off j l)) := by
  intro m
  induction m with
  | zero =>
    intro j k l h1 h2 h3 h4 h5 h6
    obtain rfl : j = len := by omega
    rw [innL_end (by omega), List.drop_eq_nil_iff.2 (show l.length ≤ off + j by omega), compG]
    refine LoopTo.left (by simp) fun K => ?_
    rw [lCfi, bf (by rw [decide_eq_false_iff_not]; omega)]
    exact ⟨_, rfl, fk (fd (Forget.cons (.inr (by simp)) (fd (fd (Forget.same _)))))⟩
  | succ m ih =>
    intro j k l h1 h2 h3 h4 h5 h6
    have hj : j < len := by omega
    have hoj : off + j < l.length := by omega
    have hsx : (l.getD (off + j) []).length ≤ 1000 := short_get h6 hoj
    have hj1 : Ar.real.wrap .i64 ((j : Int) - 1) = ((j - 1 : Nat) : Int) := by rw [rw_wrap, wi64 (by omega) (by omega)]; omega
    have hjn := wi1 (show j ≤ 9000000000000000000 by omega)
    have hkn := wi1 (show k ≤ 9000000000000000000 by omega)
    have hidx : off + (j - 1) = off + j - 1 := by omega
    have c1 : decide ((j : Int) < (len : Int)) = true := decide_eq_true (by omega)
    have c2 : decide ((0 : Int) ≤ (j : Int) ∧ (j : Int) < (len : Int)) = true := decide_eq_true (by omega)
    have c3 : decide ((0 : Int) ≤ ((j - 1 : Nat) : Int) ∧ ((j - 1 : Nat) : Int) < (len : Int)) = true := decide_eq_true (by omega)
    have c4 : decide ((l.getD (off + j) (Ty.zero wT)).length ≤ 1000000) = true := decide_eq_true (by have : (l.getD (off + j) (Ty.zero wT)).length ≤ 1000 := hsx; omega)
    have c5 : decide ((0 : Int) ≤ (k : Int) ∧ (k : Int) < (n : Int)) = true := decide_eq_true (by omega)
    by_cases e : l.getD (off + j) [] = l.getD (off + j - 1) []
    · obtain ⟨q1, q2⟩ := innL_skip (k := k) hoj h2 e
      rw [q1, q2]
      refine LoopTo.next (fun K => ?_) (ih (j + 1) k l (by omega) (by omega) (by omega) (by omega) h5 h6)
      rw [lCfi]
      simp only [hj1, hjn, Int.toNat_natCast, hidx, rw_se, c1, c2, c3, c4, cond_true]
      rw [bf (by rw [decide_eq_true (show l.getD (off + j) (Ty.zero wT) = l.getD (off + j - 1) (Ty.zero wT) from e)]; rfl)]
    · obtain ⟨q1, q2⟩ := innL_put (k := k) hoj h4 e
      rw [q1, q2]
      have hs := short_set (k := k) h6 hsx
      have e5 : ((k : Int) + (((compG ((l.set k (l.getD (off + j) [])).getD (off + (j + 1) - 1) []) ((l.set k (l.getD (off + j) [])).drop (off + (j + 1)))).length + 1 : Nat) : Int)) = ((k + 1 : Nat) : Int) + ((compG ((l.set k (l.getD (off + j) [])).getD (off + (j + 1) - 1) []) ((l.set k (l.getD (off + j) [])).drop (off + (j + 1)))).length : Int) := by omega
      rw [e5]
      refine LoopTo.next (fun K => ?_) (ih (j + 1) (k + 1) (l.set k (l.getD (off + j) [])) (by omega) (by omega) (by omega) (by omega) (by rw [List.length_set]; exact h5) hs)
      rw [lCfi]
      simp only [hj1, hjn, hkn, Int.toNat_natCast, hidx, rw_se, c1, c2, c3, c4, c5, cond_true, Nat.zero_add]
      rw [bt (by rw [decide_eq_false (show ¬ l.getD (off + j) (Ty.zero wT) = l.getD (off + j - 1) (Ty.zero wT) from e)]; rfl)]
      rfl

end Go.Proofs.Ytnbfiifkaddehaa.V.R

/- Chapter 03, order: CompactFunc, Find and Sort do what they tell. -/
namespace Go.Proofs.Ytnbfiifkaddehaa.V.R

open Go

set_option linter.unusedVariables false

set_option linter.unusedSimpArgs false

theorem loopCfo (n : Nat) (l : List (List Int)) (hn : n ≤ 1000000) (hl : l.length = n) (hs : shortB l = true) : ∀ (m k : Nat), n - k = m → 1 ≤ k → k ≤ n → compL (l.take k) = l.take k →
    LoopTo (CxM Ar.real (Or5 Ar.real) (Lcf Ar.real) (fun _ => 0)) 100 (loopAt Try.f45 0) 66 [0, 1, 4, 5] [.mref wT 0 [] 0 n, .fn 46 [] [], .sl wT [] (some true) true, i64x (k : Int)] (heapW n l)
      (bif decide (compL l = l) then (.exit 0, [.mref wT 0 [] 0 n, .dead, .dead, .dead], heapW n l) else (.ret, [.dead, .dead, .mref wT 0 [] 0 (compL l).length, .dead], heapW n (compL l ++ List.replicate (l.length - (compL l).length) []))) := by
  intro m
  induction m with
  | zero =>
    intro k h1 h2 h3 h4
    obtain rfl : k = n := by omega
    have e : l.take k = l := List.take_of_length_le (by omega)
    rw [e] at h4
    rw [decide_eq_true h4, cond_true]
    refine LoopTo.left (by simp) fun K => ?_
    rw [lCfo, bf (by rw [decide_eq_false_iff_not]; omega)]
    exact ⟨_, rfl, fk (fd (fd (fd (Forget.same _))))⟩
  | succ m ih =>
    intro k h1 h2 h3 h4
    have hk : k < l.length := by omega
    have hk1 : Ar.real.wrap .i64 ((k : Int) - 1) = ((k - 1 : Nat) : Int) := by rw [rw_wrap, wi64 (by omega) (by omega)]; omega
    have hkn := wi1 (show k ≤ 9000000000000000000 by omega)
    have hsx : (l.getD k (Ty.zero wT)).length ≤ 1000 := short_get hs hk
    have c1 : decide ((k : Int) < (n : Int)) = true := decide_eq_true (by omega)
    have c2 : decide ((0 : Int) ≤ (k : Int) ∧ (k : Int) < (n : Int)) = true := decide_eq_true (by omega)
    have c3 : decide ((0 : Int) ≤ ((k - 1 : Nat) : Int) ∧ ((k - 1 : Nat) : Int) < (n : Int)) = true := decide_eq_true (by omega)
    have c4 : decide ((l.getD k (Ty.zero wT)).length ≤ 1000000) = true := decide_eq_true (by omega)
    have c5 : decide ((0 : Int) ≤ (k : Int) ∧ (k : Int) ≤ (n : Int)) = true := decide_eq_true (by omega)
    by_cases e : l.getD k [] = l.getD (k - 1) []
    · obtain ⟨q1, q2⟩ := compL_dup h2 hk h4 e
      rw [decide_eq_false q2, cond_false]
      have hg := compG_len (l.getD k []) (l.drop (k + 1))
      rw [List.length_drop] at hg
      have ht : (l.take k).length = k := by rw [List.length_take]; omega
      refine LoopTo.left (by simp) fun K => ?_
      rw [lCfo]
      simp only [hk1, hkn, Int.toNat_natCast, rw_se, c1, c2, c3, c4, c5, cond_true, Nat.zero_add, show Int.toNat 1 = 1 from rfl, Nat.add_sub_cancel, hs, Bool.and_true]
      rw [bt (decide_eq_true (show l.getD k (Ty.zero wT) = l.getD (k - 1) (Ty.zero wT) from e)), bt (by rw [decide_eq_true_eq]; refine ⟨trivial, trivial, trivial, hl, hn, ?_, ?_, ?_, ?_, ?_⟩ <;> omega)]
      generalize hG : compG (l.getD k []) (l.drop (k + 1)) = G at q1 hg
      have hK : Int.toNat ((k : Int) + (G.length : Int)) = k + G.length := by omega
      rw [bt (by rw [decide_eq_true_eq]; omega), bt (by rw [decide_eq_true_eq]; omega), hK]
      have hcl : (compL l).length = k + G.length := by rw [q1, List.length_append, ht]
      have t1 : (l.take k ++ G ++ l.drop (k + G.length)).take (k + G.length) = compL l := by
        rw [q1, List.take_left' (by rw [List.length_append, ht])]
      have t2 : (l.take k ++ G ++ l.drop (k + G.length)).drop (k + G.length + (n - (k + G.length))) = [] := by
        rw [List.drop_eq_nil_iff]
        simp only [List.length_append, ht, List.length_drop]
        omega
      rw [t1, t2, hcl, hl, List.append_nil]
      exact ⟨_, rfl, fd (fd (fk (fd (Forget.same _))))⟩
    · refine LoopTo.next (fun K => ?_) (ih (k + 1) (by omega) (by omega) (by omega) (compL_step h2 hk h4 e))
      rw [lCfo]
      simp only [hk1, hkn, Int.toNat_natCast, rw_se, c1, c2, c3, c4, c5, cond_true, Nat.zero_add]
      rw [bf (decide_eq_false (show ¬ l.getD k (Ty.zero wT) = l.getD (k - 1) (Ty.zero wT) from e))]

theorem cmpc_ok : OrcOk Try.prog 45 (.eff (cmpcF Ar.real)) := by
  refine effOk (CxM.ok o5 (Lcf Ar.real) (fun _ => 0)) mixed 45 Try.f45 (by kernel_rfl) (by kernel_rfl) (by kernel_rfl) 100 2 (by kernel_rfl) (fun i h => ?_) fun args H r H' h => ?_
  · have hi : i = 0 ∨ i = 1 := by omega
    rcases hi with rfl | rfl
    · refine Tells.mk (key := 4) (N := 66) (ks := [0, 1, 4, 5]) (F := LcfoF Ar.real) (by kernel_rfl) rfl fun xs H r h => ?_
      unfold LcfoF at h
      split at h
      · rename_i n f k m q l
        obtain ⟨hg, rfl⟩ := Tr.two h
        simp only [rw_se, Bool.and_eq_true, decide_eq_true_eq] at hg ⊢
        dsimp only [Ty.den] at hg
        obtain ⟨⟨rfl, hm, hq, h1, h2, h3, h4, h5⟩, h6⟩ := hg
        replace hm := hm.symm
        replace hq := hq.symm
        subst hm
        subst hq
        obtain ⟨k, rfl⟩ := Int.eq_ofNat_of_zero_le (show (0 : Int) ≤ k by omega)
        simp only [Int.toNat_natCast] at h5
        exact loopCfo n l h2 h1 h6 _ k rfl (by omega) (by omega) h5
      · cases h
    · refine Tells.mk (key := 9) (N := 66) (ks := [0, 1, 5, 6, 7]) (F := LcfiF Ar.real) (by kernel_rfl) rfl fun xs H r h => ?_
      unfold LcfiF at h
      split at h
      · rename_i n f k off len j m q l
        obtain ⟨hg, rfl⟩ := Tr.one h
        simp only [rw_se, Bool.and_eq_true, decide_eq_true_eq] at hg ⊢
        dsimp only [Ty.den] at hg
        obtain ⟨⟨rfl, hm, hq, h1, h2, h3, h4, h5, h6, h7⟩, h8⟩ := hg
        replace hm := hm.symm
        replace hq := hq.symm
        subst hm
        subst hq
        obtain ⟨k, rfl⟩ := Int.eq_ofNat_of_zero_le h4
        obtain ⟨j, rfl⟩ := Int.eq_ofNat_of_zero_le (show (0 : Int) ≤ j by omega)
        simp only [Int.toNat_natCast]
        exact loopCfi n off len h2 h3 _ j k l rfl (by omega) (by omega) (by omega) h1 h8
      · cases h
  · unfold cmpcF at h
    split at h
    · rename_i n f m q l
      obtain ⟨hg, he⟩ := Tr.one h
      cases he
      simp only [rw_se, Bool.and_eq_true, decide_eq_true_eq] at hg ⊢
      dsimp only [Ty.den] at hg
      obtain ⟨⟨rfl, hm, hq, h1, h2⟩, h6⟩ := hg
      replace hm := hm.symm
      replace hq := hq.symm
      subst hm
      subst hq
      have hc0 : compL l = l → compL l ++ List.replicate (l.length - (compL l).length) [] = l := fun e => by rw [e]; simp
      refine ⟨by simp [X.unown], .mref wT 0 [] 0 (compL l).length, heapW n (compL l ++ List.replicate (l.length - (compL l).length) []), rfl, ?_, HWeak.refl _, by simp, .inl rfl⟩
      rw [tCf]
      by_cases hn2 : (n : Int) < 2
      · have e : compL l = l := by
          match l, h1 with
          | [], _ => rfl
          | [x], _ => rfl
          | x :: y :: l, h1 => simp at h1; omega
        rw [bt (decide_eq_true hn2), hc0 e, e, h1]
      · have ht : compL (l.take 1) = l.take 1 := by
          cases l with
          | nil => rfl
          | cons x l => rfl
        rw [bf (decide_eq_false hn2)]
        simp only [rw_se, show Int.toNat 1 = 1 from rfl, h6, Bool.and_true]
        rw [bt (by rw [decide_eq_true_eq]; exact ⟨trivial, trivial, trivial, h1, h2, by omega, by omega, ht⟩)]
        by_cases e : compL l = l
        · rw [bt (decide_eq_true e), hc0 e, e, h1]
        · rw [bf (decide_eq_false e)]
    · rename_i nl f
      cases h
      refine ⟨by simp [X.unown], .sl wT [] nl false, H, rfl, ?_, HWeak.refl _, Nat.le_refl _, .inl rfl⟩
      rw [tCf0]
    · cases h

theorem loopSort (l : List (List Int)) (nl : Option Bool) (hl : l.length ≤ 1000) (hs : shortB l = true) : ∀ (m i : Nat), l.length - i = m → i ≤ l.length →
    LoopTo (CxM Ar.real (Or6 Ar.real) (Lsrt Ar.real) Msrt) 100 (loopAt Try.f21 0) 25 [3, 9, 10, 11] [.ps wT (l.take i), .sl wT l nl false, i64x (l.length : Int), i64x (i : Int)] []
      (.exit 0, [.ps wT l, .dead, .dead, .dead], []) := by
  intro m
  induction m with
  | zero =>
    intro i h1 h2
    obtain rfl : i = l.length := by omega
    refine LoopTo.left (by simp) fun K => ?_
    rw [lSort, bf (by rw [decide_eq_false_iff_not]; omega), List.take_length]
    exact ⟨_, rfl, fk (fd (fd (fd (Forget.same _))))⟩
  | succ m ih =>
    intro i h1 h2
    have hi : i < l.length := by omega
    have hsi := short_get hs hi
    have hk := wi1 (show i ≤ 9000000000000000000 by omega)
    have e1 : l.take i ++ [l.getD i (Ty.zero wT)] = l.take (i + 1) := by
      rw [List.getD_eq_getElem?_getD, List.getElem?_eq_getElem hi, Option.getD_some, List.take_succ_eq_append_getElem]
    refine LoopTo.next (fun K => ?_) (ih (i + 1) (by omega) (by omega))
    rw [lSort]
    simp only [Int.toNat_natCast, rw_se, hk, e1]
    rw [bt (by rw [decide_eq_true_eq]; omega), bt (by rw [decide_eq_true_eq]; omega), bt (by rw [decide_eq_true_eq]; omega), bt (by rw [decide_eq_true_eq, List.length_take]; simp; omega)]

end Go.Proofs.Ytnbfiifkaddehaa.V.R

/- Chapter 03, order: Find and Sort do what they tell. -/
namespace Go.Proofs.Ytnbfiifkaddehaa.V.R

open Go

set_option linter.unusedVariables false

set_option linter.unusedSimpArgs false

theorem o6 : OOk (Or6 Ar.real) := ((o5)).add cmpc_ok

theorem sort_ok : OrcOk Try.prog 21 (.pure (sortF Ar.real)) := by
  refine pureOk (CxM.ok o6 (Lsrt Ar.real) Msrt) mixed 21 Try.f21 (by kernel_rfl) (by kernel_rfl) (by kernel_rfl) 100 1 (by kernel_rfl) (fun i h => ?_) fun args r h => ?_
  · obtain rfl : i = 0 := by omega
    refine Tells.mk (key := 3) (N := 25) (ks := [3, 9, 10, 11]) (F := LsrtF Ar.real) (by kernel_rfl) rfl fun xs H r h => ?_
    unfold LsrtF at h
    split at h
    · rename_i out l nl n i
      obtain ⟨hg, rfl⟩ := Tr.one h
      simp only [rw_se, Bool.and_eq_true, decide_eq_true_eq] at hg ⊢
      dsimp only [Ty.den] at hg
      obtain ⟨⟨rfl, h1, h2, h3, rfl⟩, h4⟩ := hg
      obtain ⟨i, rfl⟩ := Int.eq_ofNat_of_zero_le h2
      exact loopSort l nl h1 h4 _ i rfl (by omega)
    · cases h
  · unfold sortF at h
    split at h
    · rename_i l nl
      obtain ⟨hg, rfl⟩ := Tr.one h
      simp only [rw_se, Bool.and_eq_true, decide_eq_true_eq] at hg ⊢
      obtain ⟨h1, h2⟩ := hg
      refine ⟨rfl, rfl, ?_⟩
      rw [tSort]
      have hsl : (srtL l).length = l.length := (List.mergeSort_perm l _).length_eq
      have hsh : shortB (srtL l) = true := by
        unfold shortB at h2 ⊢
        rw [List.all_eq_true] at h2 ⊢
        exact fun x hx => h2 x ((List.mergeSort_perm l _).mem_iff.1 hx)
      have hall : l.all (fun x => decide (List.length x ≤ 1000000)) = true := by
        unfold shortB at h2
        rw [List.all_eq_true] at h2 ⊢
        intro x hx
        have := h2 x hx
        rw [decide_eq_true_eq] at this ⊢
        omega
      simp only [rw_se, show Int.toNat 0 = 0 from rfl, List.drop_zero, List.take_zero, h2, hsh, hall, Bool.and_true, comp_srt]
      rw [bt (by rw [decide_eq_true_eq]; omega), bt (by rw [decide_eq_true_eq]; exact ⟨trivial, h1, by omega, by omega, trivial⟩)]
      cases he : l.isEmpty with
      | true =>
        have : l = [] := by simpa using he
        subst this
        exact ⟨_, rfl⟩
      | false =>
        rw [cond_false, bt (by rw [decide_eq_true_eq]; exact ⟨trivial, trivial, trivial, by omega⟩), bt (by rw [decide_eq_true_eq]; exact ⟨trivial, trivial, trivial, hsl, by omega⟩), List.take_left]
        exact ⟨_, rfl⟩
    · cases h

end Go.Proofs.Ytnbfiifkaddehaa.V.R

/-
  Chapter 14: the table and the sums do what they tell.
  It speaks of the pinned program alone; no condition.
-/
import Derived.Test.YtnjjloffhbfenaaCrc4
namespace Go.Proofs.Ytnjjloffhbfenaa.V
open Go
set_option linter.unusedVariables false
set_option linter.unusedSimpArgs false

theorem stp_odd {s : Nat} (h : s < 2 ^ 32) (ho : s % 2 = 1) : IntKind.u32.wrap (Ar.real.bxor 32 ((s / 2 : Nat) : Int) 3988292384) = ((stp s : Nat) : Int) := by
  rw [show (3988292384 : Int) = ((3988292384 : Nat) : Int) from rfl, bxor_nat (n := 32) (by omega) (by decide)]
  have h1 : s / 2 ^^^ 3988292384 < 2 ^ 32 := Nat.xor_lt_two_pow (by omega) (by decide)
  rw [wu32 (by omega) (by omega), stp, if_pos ho]
theorem stp_even {s : Nat} (ho : ¬ s % 2 = 1) : ((s / 2 : Nat) : Int) = ((stp s : Nat) : Int) := by rw [stp, if_neg ho]

theorem loopTab2 (H : Hp) (i j : Int) (O : OT) : ∀ (n k s : Nat), 8 - k = n → k ≤ 8 → s < 2 ^ 32 →
    LoopTo (Cx Ar.real O (Ltab Ar.real)) 100 (loopAt Try.f16 1) 26 [0, 1, 2, 4, 9] [.ptr 0 [], i64x i, u32x s, i64x j, i64x k] H (.exit 2, [.ptr 0 [], i64x i, u32x (stps (8 - k) s : Nat), i64x j, i64x 8], H) := by
  intro n
  induction n with
  | zero =>
    intro k s h1 h2 h3
    obtain rfl : k = 8 := by omega
    refine LoopTo.done (by simp) fun k => ?_
    rw [lTable2, bf (by decide)]
    rfl
  | succ n ih =>
    intro k s h1 h2 h3
    have e : 8 - k = (8 - (k + 1)) + 1 := by omega
    have e2 : stps (8 - k) s = stps (8 - (k + 1)) (stp s) := by rw [e]; rfl
    rw [e2]
    refine LoopTo.next (fun K => ?_) (ih (k + 1) (stp s) (by omega) (by omega) (stp_lt h3))
    have hb : Ar.real.wrap .u32 (Ar.real.band 32 (s : Int) 1) = ((s % 2 : Nat) : Int) := by
      rw [show (1 : Int) = ((1 : Nat) : Int) from rfl, band_nat (n := 32) h3 (by decide), Nat.and_one_is_mod, rw_wrap, wu32 (by omega) (by omega)]
    have hd : Int.fdiv (s : Int) (Ar.real.p2 1 32) = ((s / 2 : Nat) : Int) := by
      rw [rw_p2, show min (Int.toNat 1) 32 = 1 from rfl, nfdiv]
    have hk : Ar.real.wrap .i64 ((k : Int) + 1) = ((k + 1 : Nat) : Int) := by rw [rw_wrap, wi64 (by omega) (by omega)]; rfl
    rw [lTable2, bt (by rw [decide_eq_true_eq]; omega), hb, hd, hk]
    by_cases ho : s % 2 = 1
    · rw [bt (by rw [ho]; rfl), rw_wrap, stp_odd h3 ho]
    · rw [bf (by rw [beq_eq_false_iff_ne]; omega), stp_even ho]

theorem set_tab {l : List Int} {i : Nat} (hl : l.length = 256) (hi : i < 256) : (l.set i ((stps 8 i : Nat) : Int)).take (i + 1) ++ crcTab.drop (i + 1) = l.take i ++ crcTab.drop i := by
  have e1 : crcTab.drop i = ((stps 8 i : Nat) : Int) :: crcTab.drop (i + 1) := by
    rw [drop_cons (by rw [crcTab_len]; exact hi), crcTab_get i hi]
  rw [e1, take_succ (by rw [List.length_set]; omega), List.take_set_of_le (Nat.le_refl _), List.append_assoc]
  congr 2
  rw [List.getD_eq_getElem?_getD, List.getElem?_set_self (by omega)]
  rfl

theorem loopTab (O : OT) : ∀ (n i : Nat) (l : List Int), 256 - i = n → i ≤ 256 → l.length = 256 →
    LoopTo (Cx Ar.real O (Ltab Ar.real)) 100 (loopAt Try.f16 0) 26 [0, 4] [.ptr 0 [], i64x i] [(.arr 256 (.int .u32), .d (.arr 256 (.int .u32)) l)]
      (.exit 0, [.ptr 0 [], i64x 256], [(.arr 256 (.int .u32), .d (.arr 256 (.int .u32)) (l.take i ++ crcTab.drop i))]) := by
  intro n
  induction n with
  | zero =>
    intro i l h1 h2 h3
    obtain rfl : i = 256 := by omega
    refine LoopTo.done (by simp) fun k => ?_
    have e1 : l.take 256 ++ crcTab.drop 256 = l := by
      rw [List.take_of_length_le (by omega), List.drop_eq_nil_of_le (by rw [crcTab_len]; omega), List.append_nil]
    rw [lTable, bf (by decide), e1]
    rfl
  | succ n ih =>
    intro i l h1 h2 h3
    have hw : Ar.real.wrap .u32 (i : Int) = (i : Int) := by rw [rw_wrap, wu32 (by omega) (by omega)]
    have hk : Ar.real.wrap .i64 ((i : Int) + 1) = ((i + 1 : Nat) : Int) := by rw [rw_wrap, wi64 (by omega) (by omega)]; rfl
    rw [← set_tab h3 (by omega)]
    refine LoopTo.next (fun K => ?_) (ih (i + 1) _ (by omega) (by omega) (by rw [List.length_set]; exact h3))
    rw [lTable]
    simp only [rw_se, hw, hk, Int.toNat_natCast]
    rw [bt (by rw [decide_eq_true_eq]; omega), bt (by rw [Bool.and_eq_true, isU32_iff, decide_eq_true_eq]; omega), bt (by rw [decide_eq_true_eq]; omega)]
    rfl

theorem o_std : OOk (Ostd Ar.real) := (OOk.none.add clone_ok).add equal_ok

theorem table_ok : OrcOk Try.prog 16 (.pure tableF) := by
  refine pureOk (Cx.ok o_std (Ltab Ar.real)) mixed 16 Try.f16 (by kernel_rfl) (by kernel_rfl) (by kernel_rfl) 100 2 (by kernel_rfl) (fun i h => ?_) fun args r h => ?_
  · have hi : i = 0 ∨ i = 1 := by omega
    rcases hi with rfl | rfl
    · refine Tells.mk (key := 2) (N := 26) (ks := [0, 4]) (F := LtabF Ar.real) (by kernel_rfl) rfl fun xs H r h => ?_
      unfold LtabF at h
      split at h
      · rename_i i l
        obtain ⟨hg, rfl⟩ := Tr.one h
        simp only [rw_se, Bool.and_eq_true, decide_eq_true_eq] at hg ⊢
        dsimp only [Ty.den] at hg
        obtain ⟨⟨h1, h2⟩, h3⟩ := hg
        obtain ⟨m, rfl⟩ := Int.eq_ofNat_of_zero_le h1
        simp only [Int.toNat_natCast]
        exact loopTab _ _ m l rfl (by omega) h3
      · cases h
    · refine Tells.mk (key := 6) (N := 26) (ks := [0, 1, 2, 4, 9]) (F := Ltab2F Ar.real) (by kernel_rfl) rfl fun xs H r h => ?_
      unfold Ltab2F at h
      split at h
      · rename_i i s j k
        obtain ⟨hg, rfl⟩ := Tr.one h
        simp only [rw_se, Bool.and_eq_true, decide_eq_true_eq, isU32_iff] at hg ⊢
        dsimp only [Ty.den] at hg
        obtain ⟨⟨h1, h2⟩, h3, h4⟩ := hg
        obtain ⟨m, rfl⟩ := Int.eq_ofNat_of_zero_le h3
        obtain ⟨s, rfl⟩ := Int.eq_ofNat_of_zero_le h1
        simp only [Int.toNat_natCast]
        exact loopTab2 _ i j _ _ m s rfl (by omega) (by omega)
      · cases h
  · unfold tableF at h
    split at h
    · cases h
      refine ⟨rfl, rfl, ?_⟩
      rw [tTable]
      have z : Int.toNat 0 = 0 := rfl
      simp only [rw_se, z, List.take_zero, List.drop_zero, List.nil_append]
      rw [List.length_replicate, bt (by decide)]
      exact ⟨_, rfl⟩
    · cases h

theorem o_tab : OOk (Otab Ar.real) := o_std.add table_ok

theorem byt_drop {b : List Int} (h : bytesB b = true) : Byt b := bytesB_iff.1 h

theorem loopSum (b : List Int) (nl : Bool) (hb : b.length ≤ 100000) (hy : Byt b) : ∀ (n i s : Nat), b.length - i = n → i ≤ b.length → s < 2 ^ 32 →
    LoopTo (Cx Ar.real (Otab Ar.real) (Lsum Ar.real)) 100 (loopAt Try.f10 0) 26 [3, 4, 8, 9, 10] [.ptr 0 [], u32x s, u8s b (some nl) false, i64x (b.length : Int), i64x i] [(.arr 256 (.int .u32), .d (.arr 256 (.int .u32)) crcTab)]
      (.exit 0, [.ptr 0 [], u32x (crcS s (b.drop i) : Nat), u8s b (some nl) false, i64x (b.length : Int), i64x (b.length : Int)], [(.arr 256 (.int .u32), .d (.arr 256 (.int .u32)) crcTab)]) := by
  intro n
  induction n with
  | zero =>
    intro i s h1 h2 h3
    obtain rfl : i = b.length := by omega
    refine LoopTo.done (by simp) fun k => ?_
    rw [lSum, bf (by rw [decide_eq_false_iff_not]; omega), List.drop_length]
    rfl
  | succ n ih =>
    intro i s h1 h2 h3
    have hi : i < b.length := by omega
    have hc := hy _ (getD_mem hi)
    generalize hcd : b.getD i 0 = c at hc
    obtain ⟨cn, rfl⟩ := Int.eq_ofNat_of_zero_le hc.1
    have hcn : cn < 256 := by omega
    have hx : s % 256 ^^^ cn < 256 := Nat.xor_lt_two_pow (n := 8) (by omega) hcn
    have hix : Ar.real.wrap .u8 (Ar.real.bxor 8 (Ar.real.wrap .u8 (s : Int)) (cn : Int)) = ((s % 256 ^^^ cn : Nat) : Int) := by
      rw [rw_wrap, rw_wrap, wrapu8 (s : Int), show ((s : Int) % 256) = ((s % 256 : Nat) : Int) from by omega, bxor_nat (n := 8) (by omega) hcn, wu8 (by omega) (by omega)]
    have hd : Int.fdiv (s : Int) (Ar.real.p2 8 32) = ((s / 256 : Nat) : Int) := by
      rw [rw_p2, show min (Int.toNat 8) 32 = 8 from rfl, nfdiv]
    have hk : Ar.real.wrap .i64 ((i : Int) + 1) = ((i + 1 : Nat) : Int) := by rw [rw_wrap, wi64 (by omega) (by omega)]; rfl
    have hst : stps 8 (s ^^^ cn) < 2 ^ 32 := stps_lt 8 (Nat.xor_lt_two_pow h3 (by omega))
    have hs8 : stps 8 (s % 256 ^^^ cn) < 2 ^ 32 := stps_lt 8 (by omega)
    rw [drop_cons hi, hcd, crcS_cons, Int.toNat_natCast]
    refine LoopTo.next (fun K => ?_) (ih (i + 1) _ (by omega) (by omega) hst)
    rw [lSum]
    simp only [Int.toNat_natCast, hcd, hix, hd, hk]
    rw [bt (by rw [decide_eq_true_eq]; omega), bt (by rw [decide_eq_true_eq]; omega), bt (by rw [decide_eq_true_eq]; omega), crcTab_get _ hx, bxor_nat (n := 32) hs8 (by omega), tab_step s cn hcn, rw_wrap, wu32 (by omega) (by omega)]

theorem toNat_ones : Int.toNat 4294967295 = ones := rfl
theorem fin_sum {s : Nat} (h : s < 2 ^ 32) : Ar.real.wrap .u32 (Ar.real.bxor 32 ((s : Nat) : Int) 4294967295) = ((s ^^^ ones : Nat) : Int) := by
  rw [show (4294967295 : Int) = ((ones : Nat) : Int) from rfl, bxor_nat (n := 32) h (by decide), rw_wrap]
  have : s ^^^ ones < 2 ^ 32 := Nat.xor_lt_two_pow h (by decide)
  rw [wu32 (by omega) (by omega)]

theorem sum_ok : OrcOk Try.prog 10 (.pure (sumF Ar.real)) := by
  refine pureOk (Cx.ok o_tab (Lsum Ar.real)) mixed 10 Try.f10 (by kernel_rfl) (by kernel_rfl) (by kernel_rfl) 100 1 (by kernel_rfl) (fun i h => ?_) fun args r h => ?_
  · obtain rfl : i = 0 := by omega
    refine Tells.mk (key := 4) (N := 26) (ks := [3, 4, 8, 9, 10]) (F := LsumF Ar.real) (by kernel_rfl) rfl fun xs H r h => ?_
    unfold LsumF at h
    split at h
    · rename_i s b nl l i t
      obtain ⟨hg, rfl⟩ := Tr.one h
      simp only [rw_se, Bool.and_eq_true, decide_eq_true_eq, isU32_iff, bytesB_iff] at hg ⊢
      dsimp only [Ty.den] at hg
      obtain ⟨h1, rfl, ⟨h2, h3⟩, h4, rfl, h6, h7⟩ := hg
      obtain ⟨m, rfl⟩ := Int.eq_ofNat_of_zero_le h6
      obtain ⟨s, rfl⟩ := Int.eq_ofNat_of_zero_le h2
      simp only [Int.toNat_natCast]
      exact loopSum b nl h4 h1 _ m s rfl (by omega) (by omega)
    · cases h
  · unfold sumF at h
    split at h
    · rename_i b nl
      obtain ⟨hg, rfl⟩ := Tr.one h
      refine ⟨rfl, rfl, ?_⟩
      rw [tSum]
      have z : Int.toNat 0 = 0 := rfl
      simp only [rw_se, Bool.and_eq_true, decide_eq_true_eq, z, List.drop_zero, toNat_ones] at hg ⊢
      have hy := byt_drop hg.2
      rw [bt (by simp [hg.1, hg.2, isU32]), fin_sum (crcS_lt b hy (by decide))]
      exact ⟨_, rfl⟩
    · cases h

theorem loopRef2 (b : List Int) (nl : Bool) (i : Int) : ∀ (n k s : Nat), 8 - k = n → k ≤ 8 → s < 2 ^ 32 →
    LoopTo (Cx Ar.real (Otab Ar.real) (Lref Ar.real)) 100 (loopAt Try.f11 1) 33 [0, 3, 4, 5] [u8s b (some nl) false, u32x s, i64x i, i64x k] [] (.exit 2, [u8s b (some nl) false, u32x (stps (8 - k) s : Nat), i64x i, i64x 8], []) := by
  intro n
  induction n with
  | zero =>
    intro k s h1 h2 h3
    obtain rfl : k = 8 := by omega
    refine LoopTo.done (by simp) fun k => ?_
    rw [lRef2, bf (by decide)]
    rfl
  | succ n ih =>
    intro k s h1 h2 h3
    have e : 8 - k = (8 - (k + 1)) + 1 := by omega
    have e2 : stps (8 - k) s = stps (8 - (k + 1)) (stp s) := by rw [e]; rfl
    rw [e2]
    refine LoopTo.next (fun K => ?_) (ih (k + 1) (stp s) (by omega) (by omega) (stp_lt h3))
    have hk : Ar.real.wrap .i64 ((k : Int) + 1) = ((k + 1 : Nat) : Int) := by rw [rw_wrap, wi64 (by omega) (by omega)]; rfl
    have hm : Int.tmod (s : Int) 2 = ((s % 2 : Nat) : Int) := ntmod s 2
    have hd : Ar.real.wrap .u32 (Int.tdiv (s : Int) 2) = ((s / 2 : Nat) : Int) := by
      rw [show (2 : Int) = ((2 : Nat) : Int) from rfl, ntdiv, rw_wrap, wu32 (by omega) (by omega)]
    rw [lRef2, bt (by rw [decide_eq_true_eq]; omega), hm, hd, hk]
    by_cases ho : s % 2 = 1
    · rw [bt (by rw [ho]; rfl), rw_wrap, stp_odd h3 ho]
    · rw [bf (by rw [beq_eq_false_iff_ne]; omega), stp_even ho]

theorem loopRef (b : List Int) (nl : Bool) (hb : b.length ≤ 100000) (hy : Byt b) : ∀ (n i s : Nat), b.length - i = n → i ≤ b.length → s < 2 ^ 32 →
    LoopTo (Cx Ar.real (Otab Ar.real) (Lref Ar.real)) 100 (loopAt Try.f11 0) 33 [0, 3, 4] [u8s b (some nl) false, u32x s, i64x i] []
      (.exit 0, [u8s b (some nl) false, u32x (crcS s (b.drop i) : Nat), i64x (b.length : Int)], []) := by
  intro n
  induction n with
  | zero =>
    intro i s h1 h2 h3
    obtain rfl : i = b.length := by omega
    refine LoopTo.done (by simp) fun k => ?_
    rw [lRef, bf (by rw [decide_eq_false_iff_not]; omega), List.drop_length]
    rfl
  | succ n ih =>
    intro i s h1 h2 h3
    have hi : i < b.length := by omega
    have hc := hy _ (getD_mem hi)
    generalize hcd : b.getD i 0 = c at hc
    obtain ⟨cn, rfl⟩ := Int.eq_ofNat_of_zero_le hc.1
    have hcn : cn < 256 := by omega
    have hx : s ^^^ cn < 2 ^ 32 := Nat.xor_lt_two_pow h3 (by omega)
    have hix : Ar.real.wrap .u32 (Ar.real.bxor 32 (s : Int) (Ar.real.wrap .u32 (cn : Int))) = ((s ^^^ cn : Nat) : Int) := by
      rw [rw_wrap, rw_wrap, wu32 (n := (cn : Int)) (by omega) (by omega), bxor_nat (n := 32) h3 (by omega), wu32 (by omega) (by omega)]
    have hk : Ar.real.wrap .i64 ((i : Int) + 1) = ((i + 1 : Nat) : Int) := by rw [rw_wrap, wi64 (by omega) (by omega)]; rfl
    have hst : stps 8 (s ^^^ cn) < 2 ^ 32 := stps_lt 8 hx
    rw [drop_cons hi, hcd, crcS_cons, Int.toNat_natCast]
    refine LoopTo.next (fun K => ?_) (ih (i + 1) _ (by omega) (by omega) hst)
    rw [lRef]
    simp only [Int.toNat_natCast, hcd, hix, hk, rw_se]
    rw [bt (by rw [decide_eq_true_eq]; omega), bt (by rw [decide_eq_true_eq]; omega), bt (by rw [Bool.and_eq_true, isU32_iff, decide_eq_true_eq]; omega)]
    rfl

theorem refSum_ok : OrcOk Try.prog 11 (.pure (sumF Ar.real)) := by
  refine pureOk (Cx.ok o_tab (Lref Ar.real)) mixed 11 Try.f11 (by kernel_rfl) (by kernel_rfl) (by kernel_rfl) 100 2 (by kernel_rfl) (fun i h => ?_) fun args r h => ?_
  · have hi : i = 0 ∨ i = 1 := by omega
    rcases hi with rfl | rfl
    · refine Tells.mk (key := 3) (N := 33) (ks := [0, 3, 4]) (F := LrefF Ar.real) (by kernel_rfl) rfl fun xs H r h => ?_
      unfold LrefF at h
      split at h
      · rename_i b nl s i
        obtain ⟨hg, rfl⟩ := Tr.one h
        simp only [rw_se, Bool.and_eq_true, decide_eq_true_eq, isU32_iff, bytesB_iff] at hg ⊢
        dsimp only [Ty.den] at hg
        obtain ⟨h1, ⟨h2, h3⟩, h4, h6, h7⟩ := hg
        obtain ⟨m, rfl⟩ := Int.eq_ofNat_of_zero_le h6
        obtain ⟨s, rfl⟩ := Int.eq_ofNat_of_zero_le h2
        simp only [Int.toNat_natCast]
        exact loopRef b nl h4 h1 _ m s rfl (by omega) (by omega)
      · cases h
    · refine Tells.mk (key := 7) (N := 33) (ks := [0, 3, 4, 5]) (F := Lref2F Ar.real) (by kernel_rfl) rfl fun xs H r h => ?_
      unfold Lref2F at h
      split at h
      · rename_i b nl s i k
        obtain ⟨hg, rfl⟩ := Tr.one h
        simp only [rw_se, Bool.and_eq_true, decide_eq_true_eq, isU32_iff] at hg ⊢
        dsimp only [Ty.den] at hg
        obtain ⟨⟨h1, h2⟩, h3, h4⟩ := hg
        obtain ⟨m, rfl⟩ := Int.eq_ofNat_of_zero_le h3
        obtain ⟨s, rfl⟩ := Int.eq_ofNat_of_zero_le h1
        simp only [Int.toNat_natCast]
        exact loopRef2 b nl i _ m s rfl (by omega) (by omega)
      · cases h
  · unfold sumF at h
    split at h
    · rename_i b nl
      obtain ⟨hg, rfl⟩ := Tr.one h
      refine ⟨rfl, rfl, ?_⟩
      rw [tRefSum]
      have z : Int.toNat 0 = 0 := rfl
      simp only [rw_se, Bool.and_eq_true, decide_eq_true_eq, z, List.drop_zero, toNat_ones] at hg ⊢
      have hy := byt_drop hg.2
      rw [bt (by
        rw [Bool.and_eq_true, Bool.and_eq_true, decide_eq_true_eq]
        exact ⟨hg.2, by decide, hg.1, by omega, by omega⟩), fin_sum (crcS_lt b hy (by decide))]
      exact ⟨_, rfl⟩
    · cases h

theorem o_sum : OOk (Osum Ar.real) := (o_tab.add sum_ok).add refSum_ok

end Go.Proofs.Ytnjjloffhbfenaa.V

/-
  Chapter 05, numbers: the functions do what they tell.
  It speaks of the pinned program alone; no condition.
-/
import Derived.Test.YtlikejlgpfhkfaaDoorNu4
namespace Go.Proofs.YtlikejlgpfhkfaaDoor.V
open Go
set_option linter.unusedVariables false
set_option linter.unusedSimpArgs false

theorem o_no : OOk noO := fun _ _ h => by cases h
theorem o_n1 : OOk (On1 Ar.real) := o_no.add au_ok

theorem append_ok : OrcOk Tryd.prog 14 (.own (auF Ar.real)) := by
  show OwnOk Tryd.prog 14 fun args => (auF Ar.real args).run some
  refine ownOk (Cx.ok o_n1 noL) mixed 14 Tryd.f14 (by kernel_rfl) (by kernel_rfl) (by kernel_rfl) 100 0 (by kernel_rfl) (fun i h => by omega) fun e xs nl rest r h => ?_
  unfold auF at h
  split at h
  · rename_i c b heq
    obtain ⟨hg, rfl⟩ := Tr.one h
    cases heq
    exact ⟨rfl, rfl, [], by rw [tAppend, bt hg]⟩
  · cases h
theorem o_n2 : OOk (On2 Ar.real) := o_n1.add append_ok

theorem write_ok : OrcOk Tryd.prog 11 (.pure (wrF Ar.real)) := by
  refine pureOk (Cx.ok o_n2 noL) mixed 11 Tryd.f11 (by kernel_rfl) (by kernel_rfl) (by kernel_rfl) 100 0 (by kernel_rfl) (fun i h => by omega) fun args r h => ?_
  unfold wrF at h
  split at h
  · rename_i c
    obtain ⟨hg, rfl⟩ := Tr.one h
    refine ⟨rfl, rfl, [], ?_⟩
    rw [tWrite]
    simp only [rw_se] at hg ⊢
    rw [bt (by simp [hg])]
  · cases h
theorem o_n3 : OOk (On3 Ar.real) := o_n2.add write_ok

theorem rw_ok : ∀ n, OrcOk Tryd.prog 12 (.pure (rwF Ar.real n))
  | 0 => by
    refine ⟨fnOk (fn := Tryd.f12) (by kernel_rfl) (by decide +kernel) (by kernel_rfl), fun args r h => ?_⟩
    replace h : (rwF Ar.real 0 args).run some = some r := h
    unfold rwF at h
    split at h
    · obtain ⟨hg, rfl⟩ := Tr.one h
      simp [rw_se] at hg
    · cases h
  | n + 1 => by
    refine pureOk (Cx.ok (o_no.add (rw_ok n)) noL) mixed 12 Tryd.f12 (by kernel_rfl) (by kernel_rfl) (by kernel_rfl) 100 0 (by kernel_rfl) (fun i h => by omega) fun args r h => ?_
    unfold rwF at h
    split at h
    · rename_i c0
      obtain ⟨c, rfl⟩ : ∃ c : Int, c = c0 := ⟨c0, rfl⟩
      obtain ⟨hg, rfl⟩ := Tr.one h
      simp only [rw_se, Bool.and_eq_true, decide_eq_true_eq] at hg
      obtain ⟨hc, hn⟩ := hg
      rw [isU64_iff] at hc
      refine ⟨rfl, rfl, [], ?_⟩
      have ht := tRefW Ar.real n c
      unfold Orw at ht
      rw [ht]
      simp only [rw_se, rw_wrap]
      obtain ⟨m, rfl⟩ : ∃ m : Nat, c = (m : Int) := Int.eq_ofNat_of_zero_le hc.1
      rw [Int.toNat_natCast] at hn ⊢
      by_cases h10 : m < 10
      · rw [bt (by rw [decide_eq_true_eq]; omega), digs_small h10, wu64 (by omega) (by omega), wu8 (by omega) (by omega)]
      · rw [bf (by rw [decide_eq_false_iff_not]; omega)]
        have e1 : Int.tdiv (m : Int) 10 = ((m / 10 : Nat) : Int) := ntdiv m 10
        have e2 : Int.tmod (m : Int) 10 = ((m % 10 : Nat) : Int) := ntmod m 10
        have hm : m < 18446744073709551616 := by omega
        have hlen := digs_le20 (n := m / 10) (by omega)
        rw [e1, e2, wu64 (n := ((m / 10 : Nat) : Int)) (by omega) (by omega), Int.toNat_natCast, wu64 (by omega) (by omega), wu8 (by omega) (by omega)]
        rw [bt (by rw [Bool.and_eq_true, isU64_iff, decide_eq_true_eq]; omega), digs_big (n := m) (by omega) (by omega)]
        have hb2 : ((digs (m / 10)).length + [(48 : Int) + ((m % 10 : Nat) : Int)].length) * 1 ≤ 140737488355328 := by
          rw [List.length_singleton]; omega
        rw [bt (decide_eq_true hb2)]
        rfl
    · cases h

theorem rwrite_ok : OrcOk Tryd.prog 12 (.pure (wrF Ar.real)) := by
  have h0 := rw_ok 18446744073709551616
  refine ⟨h0.1, fun args r h => h0.2 args r ?_⟩
  replace h : (wrF Ar.real args).run some = some r := h
  show (rwF Ar.real 18446744073709551616 args).run some = some r
  unfold wrF at h
  split at h
  · rename_i c
    obtain ⟨hg, rfl⟩ := Tr.one h
    unfold rwF
    simp only [rw_se] at hg ⊢
    have hc := isU64_iff.1 hg
    simp only [Tr.run]
    rw [bt (by rw [Bool.and_eq_true, decide_eq_true_eq]; exact ⟨hg, by omega⟩)]
  · cases h
theorem o_n4 : OOk (On4 Ar.real) := o_n3.add rwrite_ok
theorem o_n5 : OOk (On5 Ar.real) := o_n4.add pu_ok

/-! ### A walk over signs -/
theorem decode_pos (s : ByteArray) (i : Nat) : 1 ≤ (Utf8.decode s i).2 := by
  unfold Utf8.decode
  simp only []
  repeat' split
  all_goals simp
theorem decode_low (s : ByteArray) (i : Nat) (h : (s.get! i).toNat < 128) : Utf8.decode s i = ((s.get! i).toNat, 1) := by
  unfold Utf8.decode
  simp only [Nat.add_zero]
  rw [if_pos h]
theorem decode_high (s : ByteArray) (i : Nat) (h : 128 ≤ (s.get! i).toNat) : 128 ≤ (Utf8.decode s i).1 := by
  unfold Utf8.decode
  simp only [Nat.add_zero]
  rw [if_neg (by omega)]
  have e : Utf8.runeError = 65533 := rfl
  split
  · split
    · simp only []; omega
    · simp [e]
  · split
    · split
      · rename_i hh
        simp only [Bool.and_eq_true, decide_eq_true_eq, ge_iff_le] at hh
        simp only []; omega
      · simp [e]
    · split
      · split
        · rename_i hh
          simp only [Bool.and_eq_true, decide_eq_true_eq, ge_iff_le] at hh
          simp only []; omega
        · simp [e]
      · simp [e]

theorem str_get {b : List Int} (hb : bytesB b = true) {i : Nat} (hi : i < b.length) : (((strOf b).get! i).toNat : Int) = b.getD i 0 := by
  have hx := bytesB_iff.1 hb _ (getD_mem hi)
  have hd : (strOf b).data = (b.map fun n => UInt8.ofNat n.toNat).toArray := by
    apply Array.ext'
    rw [strOfNums_data]
  have e : (strOf b).get! i = UInt8.ofNat (b.getD i 0).toNat := by
    show (strOf b).data[i]! = _
    rw [hd]
    simp [hi, List.getD_eq_getElem?_getD]
  rw [e, UInt8.toNat_ofNat', Nat.mod_eq_of_lt (by omega)]
  omega
theorem str_size (b : List Int) : (strOf b).size = b.length := by
  have : (strOf b).data.toList.length = (b.map fun n => UInt8.ofNat n.toNat).length := by rw [strOfNums_data]
  rw [List.length_map, Array.length_toList] at this
  exact this

theorem scan_dig {b : List Int} (hb : bytesB b = true) : ∀ (f p : Nat), p ≤ b.length → b.length - p < f → (scanF f (strOf b) (p : Int)).1 = allDig (b.drop p)
  | 0, p, _, h => by omega
  | f + 1, p, hp, hf => by
    rw [scanF]
    by_cases hlt : p < b.length
    · rw [bt (by rw [decide_eq_true_eq, str_size]; omega)]
      have hg := str_get hb hlt
      have hr : runeAt (strOf b) (p : Int) = ((Utf8.decode (strOf b) p).1 : Nat) := by unfold runeAt; rw [Int.toNat_natCast]
      have hw : widthAt (strOf b) (p : Int) = ((Utf8.decode (strOf b) p).2 : Nat) := by unfold widthAt; rw [Int.toNat_natCast]
      rw [drop_cons hlt]
      show _ = (isDig (b.getD p 0) && allDig (b.drop (p + 1)))
      by_cases hlow : ((strOf b).get! p).toNat < 128
      · rw [hr, hw, decode_low _ _ hlow, hg]
        by_cases hd : 48 ≤ b.getD p 0 ∧ b.getD p 0 ≤ 57
        · rw [bf (by rw [Bool.or_eq_false_iff, decide_eq_false_iff_not, decide_eq_false_iff_not]; omega), isDig_iff.2 hd, Bool.true_and]
          exact scan_dig hb f (p + 1) (by omega) (by omega)
        · rw [bt (by rw [Bool.or_eq_true, decide_eq_true_eq, decide_eq_true_eq]; omega)]
          have : isDig (b.getD p 0) = false := by
            rw [Bool.eq_false_iff, Ne, isDig_iff]; exact hd
          rw [this]
          rfl
      · have hh := decode_high (strOf b) p (by omega)
        rw [hr, bt (by rw [Bool.or_eq_true, decide_eq_true_eq, decide_eq_true_eq]; omega)]
        have : isDig (b.getD p 0) = false := by
          rw [Bool.eq_false_iff, Ne, isDig_iff]; omega
        rw [this]
        rfl
    · rw [bf (by rw [decide_eq_false_iff_not, str_size]; omega)]
      have : p = b.length := by omega
      subst this
      rw [List.drop_length]
      rfl

theorem decode_fits {b : List Int} (hb : bytesB b = true) {p : Nat} (hp : p < b.length) (hd : 48 ≤ runeAt (strOf b) (p : Int) ∧ runeAt (strOf b) (p : Int) ≤ 57) : widthAt (strOf b) (p : Int) = 1 := by
  have hr : runeAt (strOf b) (p : Int) = ((Utf8.decode (strOf b) p).1 : Nat) := by unfold runeAt; rw [Int.toNat_natCast]
  have hw : widthAt (strOf b) (p : Int) = ((Utf8.decode (strOf b) p).2 : Nat) := by unfold widthAt; rw [Int.toNat_natCast]
  by_cases hlow : ((strOf b).get! p).toNat < 128
  · rw [hw, decode_low _ _ hlow]
    rfl
  · have hh := decode_high (strOf b) p (by omega)
    omega

theorem read_loop {b : List Int} {nl : Option Bool} (hb : bytesB b = true) : ∀ (f p : Nat), p ≤ b.length → b.length - p < f →
    LoopTo (Cx Ar.real (On5 Ar.real) (Lread Ar.real)) 100 (loopAt Tryd.f9 0) 41 [0, 9] [u8s b nl false, .ptr 0 []] [(.unit, iterX (strOf b) (p : Int))]
      (bif (scanF f (strOf b) p).1 then (.exit 0, [u8s b nl false, .ptr 0 []], [(.unit, iterX (strOf b) (scanF f (strOf b) p).2)]) else (.goto 0, [u8s b nl false, .ptr 0 []], [(.unit, iterX (strOf b) (scanF f (strOf b) p).2)]))
  | 0, p, _, h => by omega
  | f + 1, p, hp, hf => by
    rw [scanF]
    by_cases hlt : p < b.length
    · have hc : decide ((p : Int) < ((strOf b).size : Int)) = true := by rw [decide_eq_true_eq, str_size]; omega
      rw [bt hc]
      by_cases hd : 48 ≤ runeAt (strOf b) (p : Int) ∧ runeAt (strOf b) (p : Int) ≤ 57
      · have hw := decode_fits hb hlt hd
        have hc2 : (decide (runeAt (strOf b) (p : Int) < 48) || decide (runeAt (strOf b) (p : Int) > 57)) = false := by
          rw [Bool.or_eq_false_iff, decide_eq_false_iff_not, decide_eq_false_iff_not]; omega
        rw [hc2, cond_false, hw]
        have e : (p : Int) + 1 = ((p + 1 : Nat) : Int) := by omega
        rw [e]
        refine LoopTo.next (fun k => ?_) (read_loop hb f (p + 1) (by omega) (by omega))
        rw [lRead, bt hc, bt (by rw [beq_iff_eq, decide_eq_false_iff_not]; omega), bf (by rw [decide_eq_false_iff_not]; omega), hw, e]
        rfl
      · have hc2 : (decide (runeAt (strOf b) (p : Int) < 48) || decide (runeAt (strOf b) (p : Int) > 57)) = true := by
          rw [Bool.or_eq_true, decide_eq_true_eq, decide_eq_true_eq]; omega
        rw [hc2, cond_true]
        refine LoopTo.left (by simp) fun k => ⟨_, ?_, Forget.same _⟩
        rw [lRead, bt hc]
        by_cases h48 : runeAt (strOf b) (p : Int) < 48
        · rw [bf (by simp [h48])]
          rfl
        · rw [bt (by simp; omega), bt (by rw [decide_eq_true_eq]; omega)]
          rfl
    · have hc : decide ((p : Int) < ((strOf b).size : Int)) = false := by rw [decide_eq_false_iff_not, str_size]; omega
      rw [bf hc]
      refine LoopTo.left (by simp) fun k => ⟨_, ?_, Forget.same _⟩
      rw [lRead, bf hc]
      rfl

/-! ### What the library's parser tells of digits -/
theorem valF_le (b : List Int) : ∀ c : Nat, c ≤ valF c b := by
  induction b with
  | nil => intro c; exact Nat.le_refl _
  | cons d b ih =>
    intro c
    have := ih (10 * c + (d - 48).toNat)
    show c ≤ valF (10 * c + (d - 48).toNat) b
    omega
theorem parse_dig (b : List Int) (hd : allDig b = true) : ∀ acc : Nat, acc ≤ 18446744073709551615 → Lib.parseUintM (2 ^ 64 - 1) acc (b.map fun n => UInt8.ofNat n.toNat) = if valF acc b ≤ 18446744073709551615 then .ok (valF acc b) else .range := by
  induction b with
  | nil => intro acc h; simp [Lib.parseUintM, valF, h]
  | cons d b ih =>
    intro acc h
    have hdd := allDig_iff.1 hd d (by simp)
    have hb : allDig b = true := allDig_iff.2 fun x hx => allDig_iff.1 hd x (by simp [hx])
    have e : (UInt8.ofNat d.toNat).toNat = d.toNat := by rw [UInt8.toNat_ofNat', Nat.mod_eq_of_lt (by omega)]
    have e2 : d.toNat - 48 = (d - 48).toNat := by omega
    rw [List.map_cons, Lib.parseUintM, e, if_pos (by omega), e2]
    have hv : valF acc (d :: b) = valF (10 * acc + (d - 48).toNat) b := rfl
    have hle := valF_le b (10 * acc + (d - 48).toNat)
    rw [hv]
    split
    · rw [if_neg (by omega)]
    · split
      · rw [if_neg (by omega)]
      · rw [show acc * 10 + (d - 48).toNat = 10 * acc + (d - 48).toNat by omega]
        exact ih hb _ (by omega)
theorem pu_dig {b : List Int} (hd : allDig b = true) (hne : b ≠ []) : puE (strOf b) = decide (val b ≤ 18446744073709551615) ∧ (val b ≤ 18446744073709551615 → puV (strOf b) = (val b : Nat)) := by
  have hp : Lib.parseUintB 64 (strOf b).data.toList = if val b ≤ 18446744073709551615 then .ok (val b) else .range := by
    rw [strOfNums_data]
    unfold Lib.parseUintB
    rw [if_neg (by simpa using hne)]
    exact parse_dig b hd 0 (by omega)
  unfold puE puV
  rw [hp]
  by_cases h : val b ≤ 18446744073709551615
  · rw [if_pos h]
    exact ⟨by simp [h], fun _ => rfl⟩
  · rw [if_neg h]
    exact ⟨by simp [h], fun e => absurd e h⟩
theorem pu_nil : puE (strOf []) = false := by decide

theorem read_none {b : List Int} (h : readN b = none) : readC b = 0 ∧ readE b = 50 := by
  unfold readC readE
  rw [h]
  exact ⟨rfl, rfl⟩
theorem read_some {b : List Int} {n : Nat} (h : readN b = some n) : readC b = (n : Int) ∧ readE b = 0 := by
  unfold readC readE
  rw [h]
  exact ⟨rfl, rfl⟩

/-- Behind the test on digits, and on a digit 0 ahead. -/
theorem read_end {b : List Int} (hd : allDig b = true) (hc : canon b = true) : (bif puE (strOf b) == true then bif decide (puV (strOf b) < 18446744073709551615) then (puV (strOf b), (0 : Int)) else (0, 50) else ((0 : Int), (50 : Int))) = (readC b, readE b) := by
  by_cases hne : b = []
  · subst hne
    rw [pu_nil]
    obtain ⟨h1, h2⟩ := read_none (b := []) (by unfold readN; simp)
    rw [h1, h2]
    rfl
  · obtain ⟨h1, h2⟩ := pu_dig hd hne
    rw [h1]
    by_cases hv : val b ≤ 18446744073709551615
    · rw [bt (by simp [hv]), h2 hv]
      by_cases hv2 : val b < 18446744073709551615
      · rw [bt (by rw [decide_eq_true_eq]; omega)]
        obtain ⟨h3, h4⟩ := read_some (b := b) (n := val b) (by unfold readN; rw [if_pos ⟨hd, hne, hc, hv2⟩])
        rw [h3, h4]
      · rw [bf (by rw [decide_eq_false_iff_not]; omega)]
        obtain ⟨h3, h4⟩ := read_none (b := b) (by unfold readN; rw [if_neg (fun h => hv2 h.2.2.2)])
        rw [h3, h4]
    · rw [bf (by simp [hv])]
      obtain ⟨h3, h4⟩ := read_none (b := b) (by unfold readN; rw [if_neg (fun h => hv (by omega))])
      rw [h3, h4]

theorem read_ok : OrcOk Tryd.prog 9 (.pure (rdN Ar.real)) := by
  refine pureOk (Cx.ok o_n5 (Lread Ar.real)) mixed 9 Tryd.f9 (by kernel_rfl) (by kernel_rfl) (by kernel_rfl) 100 1 (by kernel_rfl) (fun i h => ?_) fun args r h => ?_
  · obtain rfl : i = 0 := by omega
    refine Tells.mk (key := 3) (by kernel_rfl) rfl fun xs H r h => ?_
    unfold LreadF at h
    split at h
    · rename_i b nl s p0
      obtain ⟨p, rfl⟩ : ∃ p : Int, p = p0 := ⟨p0, rfl⟩
      cases hg : Ar.real.se (decide (0 ≤ p ∧ p ≤ s.size ∧ s.size ≤ 1000000000 ∧ bytesB b = true ∧ s = strOf b)) with
      | false => rw [hg] at h; cases h
      | true =>
        rw [hg] at h
        simp only [rw_se, decide_eq_true_eq] at hg
        obtain ⟨h1, h2, h3, h4, rfl⟩ := hg
        rw [str_size] at h2
        obtain ⟨q, rfl⟩ : ∃ q : Nat, p = (q : Int) := Int.eq_ofNat_of_zero_le h1
        have key := read_loop (nl := nl) h4 ((strOf b).size + 1) q (by omega) (by rw [str_size]; omega)
        cases hs : (scan (strOf b) (q : Int)).1 with
        | true =>
          rw [show (scanF ((strOf b).size + 1) (strOf b) (q : Int)).1 = true from hs, cond_true] at key
          simp only [rw_se, hs] at h
          obtain rfl := (Option.some.inj h).symm
          exact key
        | false =>
          rw [show (scanF ((strOf b).size + 1) (strOf b) (q : Int)).1 = false from hs, cond_false] at key
          simp only [rw_se, hs] at h
          obtain rfl := (Option.some.inj h).symm
          exact key
    · cases h
  · unfold rdN at h
    split at h
    · rename_i b nl
      obtain ⟨hg, rfl⟩ := Tr.one h
      simp only [rw_se, Bool.and_eq_true, decide_eq_true_eq] at hg
      obtain ⟨hb, hl⟩ := hg
      refine ⟨rfl, rfl, [(.unit, iterX (strOf b) (scan (strOf b) 0).2)], ?_⟩
      have hsc : (scan (strOf b) 0).1 = allDig b := by
        exact scan_dig hb ((strOf b).size + 1) 0 (by omega) (by rw [str_size]; omega)
      rw [tRead]
      simp only [rw_se, hsc]
      rw [bt (by rw [decide_eq_true_eq, str_size]; exact ⟨by omega, by omega, by omega, hb, trivial⟩)]
      have tail : ∀ (hd : allDig b = true) (hc : canon b = true), (bif puE (strOf b) == true then bif decide (puV (strOf b) < (18446744073709551615 : Int)) then some (X.tup [X.d (Ty.int IntKind.u64) (puV (strOf b)), X.d (Ty.int IntKind.i64) (0 : Int)], [((Ty.unit, iterX (strOf b) (scan (strOf b) 0).2) : Ty × X)]) else some (X.tup [X.d (Ty.int IntKind.u64) (0 : Int), X.d (Ty.int IntKind.i64) (50 : Int)], [(Ty.unit, iterX (strOf b) (scan (strOf b) 0).2)])
          else some (X.tup [X.d (Ty.int IntKind.u64) (0 : Int), X.d (Ty.int IntKind.i64) (50 : Int)], [(Ty.unit, iterX (strOf b) (scan (strOf b) 0).2)])) = some (X.tup [u64x (readC b), i64x (readE b)], [(.unit, iterX (strOf b) (scan (strOf b) 0).2)]) := by
        intro hd hc
        have := read_end hd hc
        cases h1 : puE (strOf b) == true with
        | false =>
          rw [h1, cond_false] at this
          obtain ⟨q1, q2⟩ := Prod.mk.inj this
          rw [← q1, ← q2]
          rfl
        | true =>
          simp only [h1, cond_true] at this ⊢
          cases h2 : decide (puV (strOf b) < 18446744073709551615) with
          | false =>
            rw [h2, cond_false] at this
            obtain ⟨q1, q2⟩ := Prod.mk.inj this
            rw [← q1, ← q2]
            rfl
          | true =>
            rw [h2, cond_true] at this
            obtain ⟨q1, q2⟩ := Prod.mk.inj this
            rw [← q1, ← q2]
            rfl
      have hs : ByteArray.size (strOf b) ≤ 281474976710656 := by rw [str_size]; omega
      cases hd : allDig b with
      | false =>
        obtain ⟨h3, h4⟩ := read_none (b := b) (by unfold readN; rw [if_neg (fun h => by rw [hd] at h; cases h.1)])
        rw [h3, h4]
        rfl
      | true =>
        rw [cond_true]
        by_cases hl1 : 1 < b.length
        · rw [bt (by rw [beq_iff_eq, decide_eq_true_eq]; omega), bt (by rw [decide_eq_true_eq]; omega)]
          by_cases h48 : b.getD 0 0 = 48
          · obtain ⟨h3, h4⟩ := read_none (b := b) (by
              unfold readN
              rw [if_neg]
              rintro ⟨_, _, h, _⟩
              unfold canon at h
              rw [Bool.or_eq_true, decide_eq_true_eq, decide_eq_true_eq] at h
              rcases h with h | h
              · omega
              · exact h h48)
            rw [h3, h4, bt (by rw [beq_iff_eq]; exact h48)]
            rfl
          · rw [bf (by rw [beq_eq_false_iff_ne]; exact h48), bt (by rw [decide_eq_true_eq]; simp; exact hs)]
            exact tail hd (canon_of (.inr h48))
        · rw [bf (by rw [beq_eq_false_iff_ne]; simp; omega), bt (by rw [decide_eq_true_eq]; simp; exact hs)]
          exact tail hd (canon_of (.inl (by omega)))
    · cases h

end Go.Proofs.YtlikejlgpfhkfaaDoor.V

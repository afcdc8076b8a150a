/-
  Chapter 14: the statement on bits that are changed.
  It speaks of the pinned program alone; no condition.
-/
import Derived.Test.YtnjjloffhbfenaaCrc9
import Derived.Test.YtnjjloffhbfenaaCb2
namespace Go.Proofs.Ytnjjloffhbfenaa.V
open Go
set_option linter.unusedVariables false
set_option linter.unusedSimpArgs false

theorem flips_stop (burst from_ i : Nat) (c : List Int) : flips burst from_ 0 i c = c := rfl

theorem loopBack (b : List Int) (nl : Bool) (w : Nat) (up : Bool) (x : List Int) (nx : Bool) (e : Int) (y : List Int) (ny : Bool) (f : Int) (n fr : Nat) (hn : n ≤ 2000) (hf : fr + 32 ≤ 8 * n) :
    ∀ (m i : Nat) (l : List Int), 32 - i = m → i ≤ 32 → l.length = n → Byt l →
    LoopTo (CxM Ar.real (Oawake Ar.real) (Lback Ar.real) Mcb) 200 (loopAt Try.f4 0) 112 [0, 2, 7, 9, 10, 11, 12, 13, 14, 15]
      [u8s b (some nl) false, u32x (w : Int), boolx up, u8s x (some nx) false, i64x e, u8s y (some ny) false, i64x f, .mref (.int .u8) 0 [] 0 n, i64x (fr : Int), i64x (i : Int)] [(.arr n (.int .u8), .d (.arr n (.int .u8)) l)]
      (.exit 0, [u8s b (some nl) false, u32x (w : Int), boolx up, u8s x (some nx) false, i64x e, u8s y (some ny) false, i64x f, .mref (.int .u8) 0 [] 0 n, i64x (fr : Int), i64x 32], [(.arr n (.int .u8), .d (.arr n (.int .u8)) (flips w fr (32 - i) i l))]) := by
  intro m
  induction m with
  | zero =>
    intro i l h1 h2 h3 h4
    obtain rfl : i = 32 := by omega
    refine LoopTo.done (by simp) fun k => ?_
    rw [lBack, bf (by decide)]
    rfl
  | succ m ih =>
    intro i l h1 h2 h3 h4
    have e1 : 32 - i = (32 - (i + 1)) + 1 := by omega
    rw [e1, flips]
    have hk : Ar.real.wrap .i64 ((i : Int) + 1) = ((i + 1 : Nat) : Int) := by rw [rw_wrap, wi64 (by omega) (by omega)]; rfl
    have hu : Ar.real.wrap .u64 (i : Int) = (i : Int) := by rw [rw_wrap, wu64 (by omega) (by omega)]
    have hp : Int.fdiv (w : Int) (Ar.real.p2 (i : Int) 32) = ((w / 2 ^ i : Nat) : Int) := by
      rw [rw_p2, Int.toNat_natCast, show min i 32 = i by omega, nfdiv]
    have hm2 : Int.tmod ((w / 2 ^ i : Nat) : Int) 2 = ((w / 2 ^ i % 2 : Nat) : Int) := ntmod _ 2
    by_cases ho : w / 2 ^ i % 2 = 1
    · rw [if_pos ho]
      have hx8 : (fr + i) / 8 < n := by omega
      have ha : Ar.real.wrap .i64 ((fr : Int) + (i : Int)) = ((fr + i : Nat) : Int) := by rw [rw_wrap, wi64 (by omega) (by omega)]; rfl
      have hd : Int.tdiv ((fr + i : Nat) : Int) 8 = (((fr + i) / 8 : Nat) : Int) := ntdiv _ 8
      have hdw : Ar.real.wrap .i64 (((fr + i) / 8 : Nat) : Int) = (((fr + i) / 8 : Nat) : Int) := by rw [rw_wrap, wi64 (by omega) (by omega)]
      have hm8 : Int.tmod ((fr + i : Nat) : Int) 8 = (((fr + i) % 8 : Nat) : Int) := ntmod _ 8
      have hmw : Ar.real.wrap .u64 (((fr + i) % 8 : Nat) : Int) = (((fr + i) % 8 : Nat) : Int) := by rw [rw_wrap, wu64 (by omega) (by omega)]
      have hpw : 2 ^ ((fr + i) % 8) < 2 ^ 8 := Nat.pow_lt_pow_right (by decide) (by omega)
      have hp8 : Ar.real.wrap .u8 (1 * Ar.real.p2 (((fr + i) % 8 : Nat) : Int) 8) = ((2 ^ ((fr + i) % 8) : Nat) : Int) := by
        rw [rw_p2, Int.toNat_natCast, show min ((fr + i) % 8) 8 = (fr + i) % 8 by omega, Int.one_mul, rw_wrap]
        have : ((2 : Int) ^ ((fr + i) % 8)) = ((2 ^ ((fr + i) % 8) : Nat) : Int) := by rw [Int.natCast_pow]; rfl
        have hq : 2 ^ ((fr + i) % 8) < 256 := hpw
        rw [this]
        generalize 2 ^ ((fr + i) % 8) = p at hq
        rw [wu8 (by omega) (by omega)]
      have hc := h4 _ (getD_mem (show (fr + i) / 8 < l.length by omega))
      have hx : Ar.real.wrap .u8 (Ar.real.bxor 8 (l.getD ((fr + i) / 8) 0) ((2 ^ ((fr + i) % 8) : Nat) : Int)) = (((l.getD ((fr + i) / 8) 0).toNat ^^^ 2 ^ ((fr + i) % 8) : Nat) : Int) := by
        generalize l.getD ((fr + i) / 8) 0 = c at hc
        obtain ⟨c, rfl⟩ := Int.eq_ofNat_of_zero_le hc.1
        have hc2 : c < 2 ^ 8 := by omega
        have hxo := Nat.xor_lt_two_pow hc2 hpw
        rw [bxor_nat hc2 hpw, Int.toNat_natCast, rw_wrap, wu8 (by omega) (by omega)]
      refine LoopTo.next (fun K => ?_) (ih (i + 1) (flip (fr + i) l) (by omega) (by omega) (by rw [flip_len]; exact h3) (flip_byt h4 _))
      rw [lBack]
      simp only [hk, hu, hp, hm2, ha, hd, hdw, hm8, hmw, hp8, Int.toNat_natCast, Nat.zero_add]
      rw [hx, bt (by rw [decide_eq_true_eq]; omega), bt (by rw [decide_eq_true_eq]; omega), bt (by rw [ho]; rfl), bt (by rw [decide_eq_true_eq]; omega), bt (by rw [decide_eq_true_eq]; omega), bt (by rw [decide_eq_true_eq]; omega)]
      rfl
    · rw [if_neg ho]
      refine LoopTo.next (fun K => ?_) (ih (i + 1) l (by omega) (by omega) h3 h4)
      rw [lBack]
      simp only [hk, hu, hp, hm2]
      rw [bt (by rw [decide_eq_true_eq]; omega), bt (by rw [decide_eq_true_eq]; omega), bf (by rw [beq_eq_false_iff_ne]; omega)]

theorem opE_zero (b : List Int) : (opE b == 0) = openB b := by
  unfold opE
  cases openB b <;> rfl
theorem opE_not (b : List Int) : (opE b != 0) = !openB b := by
  unfold opE
  cases openB b <;> rfl
theorem opR_seal (b : List Int) : opR (sealB b) = b := by
  unfold opR
  rw [open_seal, cond_true, sealB_len, Nat.add_sub_cancel, sealB_take]
theorem opR_open {b : List Int} (h : openB b = true) : sealB (opR b) = b := by
  unfold opR
  rw [h, cond_true]
  unfold openB at h
  rw [Bool.and_eq_true, decide_eq_true_eq, decide_eq_true_eq] at h
  exact h.2

theorem back_law (b : List Int) (nl : Bool) (at_ w : Int) (hy : bytesB b = true) (hn : nlB nl b = true) (ha : 0 ≤ at_ ∧ at_ < 65536) (hw : 0 ≤ w ∧ w < 4294967296) :
    ∃ H', bodyX (CxM Ar.real (Oawake Ar.real) (Lback Ar.real) Mcb) 200 Try.f4 [u8s b (some nl) false, .d (.int .u16) at_, u32x w] [] = some (boolx true, H') := by
  rw [tBack]
  by_cases hb : b.length > 1000
  · rw [bt (by rw [decide_eq_true_eq]; omega)]
    exact ⟨_, rfl⟩
  · rw [bf (by rw [decide_eq_false_iff_not]; omega)]
    obtain ⟨w, rfl⟩ := Int.eq_ofNat_of_zero_le hw.1
    obtain ⟨at_, rfl⟩ := Int.eq_ofNat_of_zero_le ha.1
    have hB := byt_drop hy
    have sB := sealB_byt hB
    have sy := bytesB_iff.2 sB
    have sl := sealB_len b
    have so : openB (sealB b) = true := open_seal
    have sr := opR_seal b
    have hne : (sealB b).isEmpty = false := by
      cases h : sealB b with
      | nil => rw [h] at sl; simp at sl
      | cons _ _ => rfl
    have hws : Ar.real.wrap .i64 (Ar.real.wrap .i64 (8 * ((sealB b).length : Int)) - 31) = ((8 * b.length + 1 : Nat) : Int) := by
      rw [sl, rw_wrap, rw_wrap, wi64 (n := 8 * ((b.length + 4 : Nat) : Int)) (by omega) (by omega), wi64 (by omega) (by omega)]
      omega
    have hwa : Ar.real.wrap .i64 (at_ : Int) = (at_ : Int) := by rw [rw_wrap, wi64 (by omega) (by omega)]
    have hmo : Int.tmod (at_ : Int) ((8 * b.length + 1 : Nat) : Int) = ((at_ % (8 * b.length + 1) : Nat) : Int) := ntmod _ _
    have hfr : at_ % (8 * b.length + 1) < 8 * b.length + 1 := Nat.mod_lt _ (by omega)
    have fl := flips_len w (at_ % (8 * b.length + 1)) 32 0 (sealB b)
    have fy := bytesB_iff.2 (flips_byt w (at_ % (8 * b.length + 1)) 32 0 (sealB b) sB)
    have seen := burst_seen sB (by omega) so (burst := w) (from_ := at_ % (8 * b.length + 1)) (by omega) (by omega)
    generalize at_ % (8 * b.length + 1) = fr at hmo hfr fl fy seen
    have ft : (flips w fr 32 0 (sealB b)).take (sealB b).length = flips w fr 32 0 (sealB b) := by
      rw [← fl]; exact List.take_length
    have z : Int.toNat 0 = 0 := rfl
    have ry : bytesB (opR b) = true := by
      unfold opR
      cases openB b
      · rfl
      · exact bytesB_take hy _
    have rl : (opR b).length ≤ b.length := by
      unfold opR
      cases openB b
      · simp
      · simp only [cond_true, List.length_take]; omega
    have rn : nlB (!openB b) (opR b) = true := by
      unfold opR
      cases openB b <;> rfl
    have d1 : decide (b.length ≤ 100000) = true := decide_eq_true (by omega)
    have d2 : decide ((sealB b).length ≤ 100000) = true := decide_eq_true (by omega)
    have d3 : decide (((sealB b).length : Int) < 4) = false := decide_eq_false (by omega)
    have d4 : decide ((0 + (sealB b).length) * 1 ≤ 140737488355328) = true := decide_eq_true (by omega)
    have d5 : decide (((8 * b.length + 1 : Nat) : Int) = 0) = false := decide_eq_false (by omega)
    have d6 : decide ((flips w fr 32 0 (sealB b)).length ≤ 100000) = true := decide_eq_true (by omega)
    have d7 : decide ((opR b).length ≤ 100000) = true := decide_eq_true (by omega)
    have hu : isU32 (w : Int) = true := isU32_iff.2 (by omega)
    have ew : ((w : Int) == 0) = decide (w = 0) := by
      by_cases h : w = 0
      · subst h; rfl
      · rw [decide_eq_false h, beq_eq_false_iff_ne]; omega
    simp only [rw_se, hws, hne, hwa, hmo, Int.toNat_natCast, z, Nat.sub_zero, List.nil_append, List.drop_zero, ft, hy, hn, sy, fy, ry, rn, nlB_false, d1, d2, d3, d4, d5, d6, d7, hu, Bool.true_and, Bool.and_true, cond_true, cond_false, sr, seq_self, opE_zero, opE_not, so, seen, ew]
    rw [bt (decide_eq_true ⟨trivial, trivial, trivial, by omega, by omega, by omega, by omega, by omega⟩)]
    simp only [cond_true, beq_self_eq_true]
    cases ho : openB b with
    | false => exact ⟨_, rfl⟩
    | true =>
      rw [opR_open ho, seq_self]
      exact ⟨_, rfl⟩

theorem backLaw_ok : OrcOk Try.prog 4 (.pure (LawFc [.slice (.int .u8), .int .u16, .int .u32])) := by
  refine law_pure (CxM.ok o_awake (Lback Ar.real) Mcb) mixed 4 Try.f4 _ (by kernel_rfl) (by kernel_rfl) (by kernel_rfl) 200 1 (by kernel_rfl) (fun i h => ?_) fun args h => ?_
  · obtain rfl : i = 0 := by omega
    refine Tells.mk (key := 12) (N := 112) (ks := [0, 2, 7, 9, 10, 11, 12, 13, 14, 15]) (F := LbackF Ar.real) (by kernel_rfl) rfl fun xs H r h => ?_
    unfold LbackF at h
    split at h
    · rename_i b nl w up x nx e y ny f n fr i m q l
      obtain ⟨hg, rfl⟩ := Tr.one h
      simp only [rw_se, Bool.and_eq_true, decide_eq_true_eq, bytesB_iff, isU32_iff] at hg ⊢
      dsimp only [Ty.den] at hg
      obtain ⟨h1, ⟨h2, h3⟩, h4, rfl, rfl, h5, h6, h7, h8, h9⟩ := hg
      obtain ⟨i, rfl⟩ := Int.eq_ofNat_of_zero_le h8
      obtain ⟨fr, rfl⟩ := Int.eq_ofNat_of_zero_le h6
      obtain ⟨w, rfl⟩ := Int.eq_ofNat_of_zero_le h2
      simp only [Int.toNat_natCast]
      exact loopBack b nl w up x nx e y ny f _ fr h5 (by omega) _ i l rfl (by omega) h4 h1
    · cases h
  · obtain ⟨x, _, rfl, h1, hh⟩ := h.cons
    obtain ⟨y, _, rfl, ⟨at_, rfl, h2⟩, hh2⟩ := hh.cons
    obtain ⟨z, _, rfl, ⟨w, rfl, h3⟩, hh3⟩ := hh2.cons
    obtain rfl := hh3.nil
    obtain ⟨b, nl, rfl, hy, hn⟩ := arg_bytes h1
    have q2 := wfD_int h2
    have q3 := wfD_int h3
    rw [show IntKind.u16.min = 0 by decide, show IntKind.u16.max = 65535 by decide] at q2
    rw [show IntKind.u32.min = 0 by decide, show IntKind.u32.max = 4294967295 by decide] at q3
    exact back_law b nl at_ w hy hn (by omega) (by omega)

end Go.Proofs.Ytnjjloffhbfenaa.V

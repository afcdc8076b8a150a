/-
  Chapter 14: what is sealed, and what is opened.
  It speaks of the pinned program alone; no condition.
-/
import Derived.Test.YtnjjloffhbfenaaCrc5
namespace Go.Proofs.Ytnjjloffhbfenaa.V
open Go
set_option linter.unusedVariables false
set_option linter.unusedSimpArgs false

theorem leN_len : ∀ (n s : Nat), (leN n s).length = n := by
  intro n
  induction n with
  | zero => intro s; rfl
  | succ n ih => intro s; simp [leN, ih]
theorem leN_four (s : Nat) : leN 4 s = le4 s := by
  simp only [leN, le4]
  rw [Nat.div_div_eq_div_mul, Nat.div_div_eq_div_mul]

theorem loopSeal : ∀ (n i s : Nat) (b : List Int) (nl : Bool), 4 - i = n → i ≤ 4 → s < 2 ^ 32 → b.length ≤ 1000000 + i →
    LoopTo (Cx Ar.real (Osum Ar.real) (Lseal Ar.real)) 100 (loopAt Try.f12 0) 20 [3, 4, 9] [u8s b (some nl) true, u32x s, i64x i] []
      (.exit 0, [u8s (b ++ leN (4 - i) s) (some (nl && decide ((i : Int) = 4))) true, .dead, i64x 4], []) := by
  intro n
  induction n with
  | zero =>
    intro i s b nl h1 h2 h3 h4
    obtain rfl : i = 4 := by omega
    refine LoopTo.left (by simp) fun k => ?_
    rw [lSeal, bf (by decide)]
    refine ⟨_, rfl, ?_⟩
    simp only [leN, Nat.sub_self, List.append_nil, show decide (((4 : Nat) : Int) = 4) = true from rfl, Bool.and_true]
    exact Forget.cons (.inr rfl) (Forget.cons (.inl rfl) (Forget.cons (.inr rfl) (Forget.same _)))
  | succ n ih =>
    intro i s b nl h1 h2 h3 h4
    have e : 4 - i = (4 - (i + 1)) + 1 := by omega
    have e1 : b ++ leN (4 - i) s = b ++ [((s % 256 : Nat) : Int)] ++ leN (4 - (i + 1)) (s / 256) := by rw [e, leN]; simp
    have e2 : (nl && decide ((i : Int) = 4)) = (false && decide (((i + 1 : Nat) : Int) = 4)) := by
      rw [show decide ((i : Int) = 4) = false from by rw [decide_eq_false_iff_not]; omega]
      simp
    rw [e1, e2]
    have hw : Ar.real.wrap .u8 (s : Int) = ((s % 256 : Nat) : Int) := by rw [rw_wrap, wrapu8]; omega
    have hd : Int.fdiv (s : Int) (Ar.real.p2 8 32) = ((s / 256 : Nat) : Int) := by
      rw [rw_p2, show min (Int.toNat 8) 32 = 8 from rfl, nfdiv]
    have hk : Ar.real.wrap .i64 ((i : Int) + 1) = ((i + 1 : Nat) : Int) := by rw [rw_wrap, wi64 (by omega) (by omega)]; rfl
    refine LoopTo.next (fun K => ?_) (ih (i + 1) (s / 256) _ false (by omega) (by omega) (by omega) (by simp; omega))
    rw [lSeal, hw, hd, hk, bt (by rw [decide_eq_true_eq]; omega), bt (by rw [decide_eq_true_eq]; simp; omega)]
    simp

theorem seal_ok : OrcOk Try.prog 12 (.pure (sealF Ar.real false)) := by
  refine pureOk (Cx.ok o_sum (Lseal Ar.real)) mixed 12 Try.f12 (by kernel_rfl) (by kernel_rfl) (by kernel_rfl) 100 1 (by kernel_rfl) (fun i h => ?_) fun args r h => ?_
  · obtain rfl : i = 0 := by omega
    refine Tells.mk (key := 4) (N := 20) (ks := [3, 4, 9]) (F := LsealF Ar.real) (by kernel_rfl) rfl fun xs H r h => ?_
    unfold LsealF at h
    split at h
    · rename_i b nl s i
      obtain ⟨hg, rfl⟩ := Tr.one h
      simp only [rw_se, Bool.and_eq_true, decide_eq_true_eq, isU32_iff] at hg ⊢
      dsimp only [Ty.den] at hg
      obtain ⟨⟨h2, h3⟩, h4, h6, h7⟩ := hg
      obtain ⟨m, rfl⟩ := Int.eq_ofNat_of_zero_le h6
      obtain ⟨s, rfl⟩ := Int.eq_ofNat_of_zero_le h2
      simp only [Int.toNat_natCast]
      exact loopSeal _ m s b nl rfl (by omega) (by omega) (by omega)
    · cases h
  · unfold sealF at h
    split at h
    · rename_i b nl
      obtain ⟨hg, rfl⟩ := Tr.one h
      refine ⟨rfl, rfl, ?_⟩
      rw [tSeal]
      have z : Int.toNat 0 = 0 := rfl
      simp only [rw_se, Bool.and_eq_true, decide_eq_true_eq, z, Int.toNat_natCast] at hg ⊢
      have hs := sumB_lt (byt_drop hg.2.1)
      rw [bt (by rw [Bool.and_eq_true, decide_eq_true_eq]; exact ⟨by omega, hg.2.2⟩), bt (by rw [Bool.and_eq_true, decide_eq_true_eq]; exact ⟨hg.1, hg.2.1⟩), bt (by
        rw [Bool.and_eq_true, Bool.and_eq_true, isU32_iff, decide_eq_true_eq, decide_eq_true_eq]; omega)]
      refine ⟨[], ?_⟩
      rw [show leN (4 - 0) (sumB b) = le4 (sumB b) from leN_four _]
      simp [sealB]
    · cases h

theorem le4_words {s : Nat} (h : s < 2 ^ 32) : [Ar.real.wrap .u8 (s : Int), Ar.real.wrap .u8 (Ar.real.wrap .u32 (Int.tdiv (s : Int) 256)), Ar.real.wrap .u8 (Ar.real.wrap .u32 (Int.tdiv (s : Int) 65536)), Ar.real.wrap .u8 (Ar.real.wrap .u32 (Int.tdiv (s : Int) 16777216))] = le4 s := by
  have d1 : Int.tdiv (s : Int) 256 = ((s / 256 : Nat) : Int) := ntdiv s 256
  have d2 : Int.tdiv (s : Int) 65536 = ((s / 65536 : Nat) : Int) := ntdiv s 65536
  have d3 : Int.tdiv (s : Int) 16777216 = ((s / 16777216 : Nat) : Int) := ntdiv s 16777216
  rw [d1, d2, d3]
  simp only [rw_wrap, wrapu8, wrapu32, le4, List.cons.injEq, and_true]
  omega

theorem refSeal_ok : OrcOk Try.prog 13 (.pure (sealF Ar.real true)) := by
  refine pureOk (Cx.ok o_sum noL) mixed 13 Try.f13 (by kernel_rfl) (by kernel_rfl) (by kernel_rfl) 100 0 (by kernel_rfl) (fun i h => by omega) fun args r h => ?_
  unfold sealF at h
  split at h
  · rename_i b nl
    obtain ⟨hg, rfl⟩ := Tr.one h
    refine ⟨rfl, rfl, ?_⟩
    rw [tRefSeal]
    simp only [rw_se, Bool.and_eq_true, decide_eq_true_eq] at hg ⊢
    have hs := sumB_lt (byt_drop hg.2.1)
    rw [le4_words hs, bt (by rw [Bool.and_eq_true, decide_eq_true_eq]; exact ⟨hg.1, hg.2.1⟩), bt (by rw [decide_eq_true_eq]; omega), bt (by
      rw [decide_eq_true_eq]; simp [le4]; omega)]
    exact ⟨[], by simp [sealB]⟩
  · cases h

theorem o_seal : OOk (Oseal Ar.real) := (o_sum.add seal_ok).add refSeal_ok

theorem nlB_take {nl : Bool} {b : List Int} (h : nlB nl b = true) (n : Nat) : nlB nl (b.take n) = true := by
  cases nl
  · rfl
  · rw [nlB_nil h rfl]; simp [nlB]
theorem bytesB_take {b : List Int} (h : bytesB b = true) (n : Nat) : bytesB (b.take n) = true := bytesB_iff.2 fun x hx => bytesB_iff.1 h x (List.mem_of_mem_take hx)
theorem nl_long {nl : Bool} {b : List Int} (h : nlB nl b = true) (hl : 0 < b.length) : nl = false := by
  cases nl
  · rfl
  · rw [nlB_nil h rfl] at hl; simp at hl

theorem open_ok : OrcOk Try.prog 8 (.pure (openF Ar.real)) := by
  refine pureOk (Cx.ok o_seal noL) mixed 8 Try.f8 (by kernel_rfl) (by kernel_rfl) (by kernel_rfl) 100 0 (by kernel_rfl) (fun i h => by omega) fun args r h => ?_
  unfold openF at h
  split at h
  · rename_i b nl
    obtain ⟨hg, rfl⟩ := Tr.one h
    refine ⟨rfl, rfl, [], ?_⟩
    rw [tOpen]
    simp only [rw_se, Bool.and_eq_true, decide_eq_true_eq] at hg ⊢
    obtain ⟨h1, h2, h3⟩ := hg
    have hw : Ar.real.wrap .i64 ((b.length : Int) - 4) = (b.length : Int) - 4 := by rw [rw_wrap, wi64 (by omega) (by omega)]
    have ht : ((b.length : Int) - 4).toNat = b.length - 4 := by omega
    simp only [hw, ht]
    by_cases h4 : 4 ≤ b.length
    · have hl : (b.take (b.length - 4)).length = b.length - 4 := by rw [List.length_take]; omega
      rw [bt (by rw [show decide ((b.length : Int) - 4 < 0) = false from by rw [decide_eq_false_iff_not]; omega]; rfl), bt (by rw [decide_eq_true_eq]; omega), bt (by
        rw [Bool.and_eq_true, Bool.and_eq_true, decide_eq_true_eq]; exact ⟨by omega, bytesB_take h2 _, nlB_take h3 _⟩), bt (by rw [decide_eq_true_eq, sealB_len]; omega)]
      by_cases he : sealB (b.take (b.length - 4)) = b
      · have ho : openB b = true := by unfold openB; rw [decide_eq_true h4, decide_eq_true he]; rfl
        rw [decide_eq_true he, bf (by rfl), bt (by rw [decide_eq_true_eq]; omega), bt (by
          rw [Bool.and_eq_true, decide_eq_true_eq]; exact ⟨by omega, nlB_take h3 _⟩), nl_long h3 (by omega)]
        simp [opR, opE, ho]
      · have ho : openB b = false := by unfold openB; rw [decide_eq_true h4, decide_eq_false he]; rfl
        rw [decide_eq_false he, bt (by rfl)]
        simp [opR, opE, ho]
    · have ho : openB b = false := by unfold openB; rw [decide_eq_false h4]; rfl
      rw [bf (by rw [show decide ((b.length : Int) - 4 < 0) = true from by rw [decide_eq_true_eq]; omega]; rfl)]
      simp [opR, opE, ho]
  · cases h

theorem refOpen_ok : OrcOk Try.prog 9 (.pure (openF Ar.real)) := by
  refine pureOk (Cx.ok o_seal noL) mixed 9 Try.f9 (by kernel_rfl) (by kernel_rfl) (by kernel_rfl) 100 0 (by kernel_rfl) (fun i h => by omega) fun args r h => ?_
  unfold openF at h
  split at h
  · rename_i b nl
    obtain ⟨hg, rfl⟩ := Tr.one h
    refine ⟨rfl, rfl, [], ?_⟩
    rw [tRefOpen]
    simp only [rw_se, Bool.and_eq_true, decide_eq_true_eq] at hg ⊢
    obtain ⟨h1, h2, h3⟩ := hg
    have hw : Ar.real.wrap .i64 ((b.length : Int) - 4) = (b.length : Int) - 4 := by rw [rw_wrap, wi64 (by omega) (by omega)]
    have ht : ((b.length : Int) - 4).toNat = b.length - 4 := by omega
    simp only [hw, ht]
    by_cases h4 : 4 ≤ b.length
    · have hl : (b.take (b.length - 4)).length = b.length - 4 := by rw [List.length_take]; omega
      rw [bt (by rw [show decide ((b.length : Int) < 4) = false from by rw [decide_eq_false_iff_not]; omega]; rfl), bt (by rw [decide_eq_true_eq]; omega), bt (by
        rw [Bool.and_eq_true, Bool.and_eq_true, decide_eq_true_eq]; exact ⟨by omega, bytesB_take h2 _, nlB_take h3 _⟩),
        seq_str (sealB_byt (byt_drop (bytesB_take h2 _))) (byt_drop h2)]
      by_cases he : sealB (b.take (b.length - 4)) = b
      · have ho : openB b = true := by unfold openB; rw [decide_eq_true h4, decide_eq_true he]; rfl
        rw [decide_eq_true he, bf (by rfl), bt (by rw [decide_eq_true_eq]; omega), nl_long h3 (by omega)]
        simp [opR, opE, ho]
      · have ho : openB b = false := by unfold openB; rw [decide_eq_true h4, decide_eq_false he]; rfl
        rw [decide_eq_false he, bt (by rfl)]
        simp [opR, opE, ho]
    · have ho : openB b = false := by unfold openB; rw [decide_eq_false h4]; rfl
      rw [bf (by rw [show decide ((b.length : Int) < 4) = true from by rw [decide_eq_true_eq]; omega]; rfl)]
      simp [opR, opE, ho]
  · cases h

theorem o_open : OOk (Oopen Ar.real) := (o_seal.add open_ok).add refOpen_ok

theorem awake_ok : OrcOk Try.prog 7 (.pure awakeF) := by
  refine pureOk (Cx.ok o_open noL) mixed 7 Try.f7 (by kernel_rfl) (by kernel_rfl) (by kernel_rfl) 100 0 (by kernel_rfl) (fun i h => by omega) fun args r h => ?_
  unfold awakeF at h
  split at h
  · cases h
    refine ⟨rfl, rfl, [], ?_⟩
    rw [tAwake]
    have hab : ({ data := #[(97 : UInt8), (98 : UInt8)] } : ByteArray) = strOf [97, 98] := rfl
    have c1 : opR (sealB [97, 98]) = [97, 98] := by kernel_rfl
    have c2 : opE (sealB [97, 98]) = 0 := by kernel_rfl
    have c3 : opE [97, 98, 99, 100, 101] = 140 := by kernel_rfl
    have c4 : opE [] = 140 := by kernel_rfl
    have c5 : sumB [49, 50, 51, 52, 53, 54, 55, 56, 57] = 3421780262 := by kernel_rfl
    have c6 : sumB [] = 0 := by kernel_rfl
    have c7 : sealB [97, 98] = [97, 98, 109, 72, 131, 158] := by kernel_rfl
    simp only [rw_se, hab, c1, c2, c3, c4, c5, c6, seq_self]
    rw [c7]
    rfl
  · cases h

theorem o_awake : OOk (Oawake Ar.real) := o_open.add awake_ok

end Go.Proofs.Ytnjjloffhbfenaa.V

/-
  Chapter 01, utf: eight bytes as one number; what is valid.
  It speaks of the pinned program alone; no condition.
-/
import Derived.Test.YtnjlfeigcappjaaDoorUt9
namespace Go.Proofs.YtnjlfeigcappjaaDoor.V
open Go
set_option linter.unusedVariables false
set_option linter.unusedSimpArgs false

/-! Eight bytes. -/
def wl : List Nat → Nat
  | [] => 0
  | c :: s => c + 256 * wl s
def mk : Nat → Nat
  | 0 => 0
  | n + 1 => 128 + 256 * mk n
theorem and128 (c : Nat) (h : c < 256) : c &&& 128 = 0 ↔ c < 128 := by
  have key : ((List.range 256).all fun c => (c &&& 128 == 0) == decide (c < 128)) = true := by decide +kernel
  rw [List.all_eq_true] at key
  have := key c (List.mem_range.2 h)
  rw [beq_iff_eq] at this
  by_cases h1 : c < 128
  · simp only [h1, decide_true, beq_iff_eq] at this
    exact ⟨fun _ => h1, fun _ => this⟩
  · simp only [h1, decide_false, beq_eq_false_iff_ne] at this
    exact ⟨fun e => absurd e this, fun e => absurd e h1⟩
theorem land_mask : ∀ l : List Nat, (∀ c ∈ l, c < 256) → (wl l &&& mk l.length = 0 ↔ ∀ c ∈ l, c < 128)
  | [], _ => by simp [wl, mk]
  | c :: s, h => by
    have hc := h c (by simp)
    have ih := land_mask s (fun x hx => h x (by simp [hx]))
    have p : (2 : Nat) ^ 8 = 256 := by decide
    have e1 : (wl (c :: s) &&& mk (c :: s).length) % 2 ^ 8 = c &&& 128 := by
      rw [Nat.and_mod_two_pow]
      simp only [wl, mk, List.length_cons, p]
      rw [show (c + 256 * wl s) % 256 = c by omega, show (128 + 256 * mk s.length) % 256 = 128 by omega]
    have e2 : (wl (c :: s) &&& mk (c :: s).length) / 2 ^ 8 = wl s &&& mk s.length := by
      rw [Nat.and_div_two_pow]
      simp only [wl, mk, List.length_cons, p]
      rw [show (c + 256 * wl s) / 256 = wl s by omega, show (128 + 256 * mk s.length) / 256 = mk s.length by omega]
    rw [p] at e1 e2
    have a := and128 c hc
    constructor
    · intro h0
      rw [h0] at e1 e2
      have h1 := a.1 (by omega)
      have h2 := ih.1 (by omega)
      intro x hx
      rcases List.mem_cons.1 hx with rfl | hx
      · exact h1
      · exact h2 x hx
    · intro h0
      have h1 := a.2 (h0 c (by simp))
      have h2 := ih.2 (fun x hx => h0 x (by simp [hx]))
      omega
theorem wl_lt : ∀ l : List Nat, (∀ c ∈ l, c < 256) → wl l < 256 ^ l.length
  | [], _ => by simp [wl]
  | c :: s, h => by
    have hc := h c (by simp)
    have ih := wl_lt s (fun x hx => h x (by simp [hx]))
    simp only [wl, List.length_cons, Nat.pow_succ]
    omega
theorem wordL_wl : ∀ l : List Int, (∀ c ∈ l, 0 ≤ c ∧ c < 256) → wordL l = (wl (l.map Int.toNat) : Nat)
  | [], _ => rfl
  | c :: s, h => by
    have hc := h c (by simp)
    have ih := wordL_wl s (fun x hx => h x (by simp [hx]))
    simp only [wordL, wl, List.map_cons, ih]
    omega
theorem map_lt {l : List Int} (h : ∀ c ∈ l, 0 ≤ c ∧ c < 256) : ∀ c ∈ l.map Int.toNat, c < 256 := by
  intro c hc
  obtain ⟨x, hx, rfl⟩ := List.mem_map.1 hc
  have := h x hx
  omega
def asc (l : List Int) : Bool := l.all fun c => decide (c < 128)
theorem asc_iff {l : List Int} : asc l = true ↔ ∀ c ∈ l, c < 128 := by simp [asc]
theorem asc_nat {l : List Int} (h : ∀ c ∈ l, 0 ≤ c ∧ c < 256) : asc l = true ↔ ∀ c ∈ l.map Int.toNat, c < 128 := by
  rw [asc_iff]
  constructor
  · intro h1 c hc
    obtain ⟨x, hx, rfl⟩ := List.mem_map.1 hc
    have := h1 x hx
    have := h x hx
    omega
  · intro h1 c hc
    have := h1 c.toNat (List.mem_map.2 ⟨c, hc, rfl⟩)
    have := h c hc
    omega

theorem mk8 : ((mk 8 : Nat) : Int) = 9259542123273814144 := by decide
theorem band_word {x : Nat} (h : x < 2 ^ 64) : Ar.real.wrap .u64 (Ar.real.band 64 (x : Int) 9259542123273814144) = ((x &&& mk 8 : Nat) : Int) := by
  rw [← mk8, band_nat h (by decide), rw_wrap]
  have : x &&& mk 8 ≤ mk 8 := Nat.and_le_right
  have m8 : mk 8 = 9259542123273814144 := by decide
  rw [wu64 (by omega) (by omega)]

theorem word_test {l : List Int} (h : ∀ c ∈ l, 0 ≤ c ∧ c < 256) (hl : l.length = 8) : (Ar.real.wrap .u64 (Ar.real.band 64 (wordL l) 9259542123273814144) == (0 : Int)) = asc l := by
  have hm := map_lt h
  have hw := wl_lt _ hm
  rw [List.length_map, hl] at hw
  rw [wordL_wl l h, band_word (Nat.lt_of_lt_of_le hw (by decide))]
  have key := land_mask _ hm
  rw [List.length_map, hl, ← asc_nat h] at key
  cases ha : asc l with
  | true => rw [beq_iff_eq, key.2 ha]; rfl
  | false =>
    rw [beq_eq_false_iff_ne]
    intro e
    rw [key.1 (by omega)] at ha
    cases ha

theorem bor_word {x y : Nat} (hx : x < 2 ^ 64) (hy : y < 2 ^ 64) : Ar.real.wrap .u64 (Ar.real.bor 64 (x : Int) (y : Int)) = ((x ||| y : Nat) : Int) := by
  rw [bor_nat hx hy, rw_wrap]
  have := Nat.or_lt_two_pow hx hy
  rw [wu64 (by omega) (by omega)]

theorem or_mask (x y m : Nat) : (x ||| y) &&& m = 0 ↔ x &&& m = 0 ∧ y &&& m = 0 := by
  rw [Nat.and_or_distrib_right, Nat.or_eq_zero_iff]

theorem word2_test {l m : List Int} (h : ∀ c ∈ l, 0 ≤ c ∧ c < 256) (hl : l.length = 8) (h' : ∀ c ∈ m, 0 ≤ c ∧ c < 256) (hm' : m.length = 8) :
    (Ar.real.wrap .u64 (Ar.real.band 64 (Ar.real.wrap .u64 (Ar.real.bor 64 (wordL l) (wordL m))) 9259542123273814144) == (0 : Int)) = (asc l && asc m) := by
  have w1 := wl_lt _ (map_lt h)
  have w2 := wl_lt _ (map_lt h')
  rw [List.length_map, hl] at w1
  rw [List.length_map, hm'] at w2
  have w1' := Nat.lt_of_lt_of_le w1 (show 256 ^ 8 ≤ 2 ^ 64 by decide)
  have w2' := Nat.lt_of_lt_of_le w2 (show 256 ^ 8 ≤ 2 ^ 64 by decide)
  rw [wordL_wl l h, wordL_wl m h', bor_word w1' w2', band_word (Nat.or_lt_two_pow w1' w2')]
  have k1 := land_mask _ (map_lt h)
  have k2 := land_mask _ (map_lt h')
  rw [List.length_map, hl, ← asc_nat h] at k1
  rw [List.length_map, hm', ← asc_nat h'] at k2
  have k := or_mask (wl (l.map Int.toNat)) (wl (m.map Int.toNat)) (mk 8)
  rw [k1, k2] at k
  cases ha : (asc l && asc m) with
  | true =>
    rw [Bool.and_eq_true] at ha
    rw [beq_iff_eq, k.2 ha]; rfl
  | false =>
    rw [beq_eq_false_iff_ne]
    intro e
    have := k.1 (by omega)
    rw [this.1, this.2] at ha
    cases ha

theorem word4_test {l m n o : List Int} (h : ∀ c ∈ l, 0 ≤ c ∧ c < 256) (hl : l.length = 8) (h' : ∀ c ∈ m, 0 ≤ c ∧ c < 256) (hm' : m.length = 8) (h2 : ∀ c ∈ n, 0 ≤ c ∧ c < 256) (hn : n.length = 8) (h3 : ∀ c ∈ o, 0 ≤ c ∧ c < 256) (ho : o.length = 8) :
    (Ar.real.wrap .u64 (Ar.real.band 64 (Ar.real.wrap .u64 (Ar.real.bor 64 (Ar.real.wrap .u64 (Ar.real.bor 64 (wordL l) (wordL m))) (Ar.real.wrap .u64 (Ar.real.bor 64 (wordL n) (wordL o))))) 9259542123273814144) == (0 : Int)) = (asc l && asc m && (asc n && asc o)) := by
  have w1 := wl_lt _ (map_lt h)
  have w2 := wl_lt _ (map_lt h')
  have w3 := wl_lt _ (map_lt h2)
  have w4 := wl_lt _ (map_lt h3)
  rw [List.length_map, hl] at w1
  rw [List.length_map, hm'] at w2
  rw [List.length_map, hn] at w3
  rw [List.length_map, ho] at w4
  have w1' := Nat.lt_of_lt_of_le w1 (show 256 ^ 8 ≤ 2 ^ 64 by decide)
  have w2' := Nat.lt_of_lt_of_le w2 (show 256 ^ 8 ≤ 2 ^ 64 by decide)
  have w3' := Nat.lt_of_lt_of_le w3 (show 256 ^ 8 ≤ 2 ^ 64 by decide)
  have w4' := Nat.lt_of_lt_of_le w4 (show 256 ^ 8 ≤ 2 ^ 64 by decide)
  rw [wordL_wl l h, wordL_wl m h', wordL_wl n h2, wordL_wl o h3, bor_word w1' w2', bor_word w3' w4', bor_word (Nat.or_lt_two_pow w1' w2') (Nat.or_lt_two_pow w3' w4'), band_word (Nat.or_lt_two_pow (Nat.or_lt_two_pow w1' w2') (Nat.or_lt_two_pow w3' w4'))]
  have k1 := land_mask _ (map_lt h)
  have k2 := land_mask _ (map_lt h')
  have k3 := land_mask _ (map_lt h2)
  have k4 := land_mask _ (map_lt h3)
  rw [List.length_map, hl, ← asc_nat h] at k1
  rw [List.length_map, hm', ← asc_nat h'] at k2
  rw [List.length_map, hn, ← asc_nat h2] at k3
  rw [List.length_map, ho, ← asc_nat h3] at k4
  have k := (or_mask (wl (l.map Int.toNat) ||| wl (m.map Int.toNat)) (wl (n.map Int.toNat) ||| wl (o.map Int.toNat)) (mk 8)).trans (and_congr ((or_mask _ _ _).trans (and_congr k1 k2)) ((or_mask _ _ _).trans (and_congr k3 k4)))
  cases ha : (asc l && asc m && (asc n && asc o)) with
  | true =>
    rw [Bool.and_eq_true, Bool.and_eq_true, Bool.and_eq_true] at ha
    rw [beq_iff_eq, k.2 ha]; rfl
  | false =>
    rw [beq_eq_false_iff_ne]
    intro e
    have := k.1 (by omega)
    rw [this.1.1, this.1.2, this.2.1, this.2.2] at ha
    cases ha

theorem or_up {n k : Nat} {a b : Int} (hk : k < n) (ha : 0 ≤ a) (ha2 : a < 2 ^ k) (hb : 0 ≤ b) (hd : b % 2 ^ k = 0) (hn : b + 2 ^ k ≤ 2 ^ n) : Ar.real.bor n a b = a + b := by
  have : Ar.real.bor n a b = Ar.real.bor n b a := by rw [rw_bor, rw_bor, BitVec.or_comm]
  rw [this, or_add hk hb ha ha2 hd hn]
  omega
theorem p2_64 (k : Nat) (b : Int) (hb : b = (k : Int)) (hk : k ≤ 64) : Ar.real.p2 b 64 = 2 ^ k := by
  rw [rw_p2, hb, Int.toNat_natCast, Nat.min_eq_left hk]

theorem word_step (kb : Int) (k : Nat) (a c q : Int) (hq : Ar.real.p2 kb 64 = q) (hq2 : q = 2 ^ k) (hk : k ≤ 56) (ha : 0 ≤ a ∧ a < q) (hc : 0 ≤ c ∧ c < 256) (hle : 256 * q ≤ 18446744073709551616) (hm : ∀ c : Int, (c * q) % q = 0) (hmul : 0 ≤ c * q ∧ c * q ≤ 255 * q) :
    Ar.real.wrap .u64 (Ar.real.bor 64 a (Ar.real.wrap .u64 (Ar.real.wrap .u64 c * Ar.real.p2 kb 64))) = a + c * q := by
  have w1 : Ar.real.wrap .u64 c = c := by rw [rw_wrap, wu64 (by omega) (by omega)]
  have p64 : (2 : Int) ^ 64 = 18446744073709551616 := by decide
  rw [w1, hq]
  have w2 : Ar.real.wrap .u64 (c * q) = c * q := by rw [rw_wrap, wu64 (by omega) (by omega)]
  rw [w2, or_up (k := k) (by omega) ha.1 (by rw [← hq2]; exact ha.2) hmul.1 (by rw [← hq2]; exact hm c) (by rw [← hq2, p64]; omega), rw_wrap, wu64 (by omega) (by omega)]

theorem word_core (b : List Int) (nl : Option Bool) (hy : ∀ x ∈ b, 0 ≤ x ∧ x < 256) (hl : 8 ≤ b.length) :
    bodyX (Cx Ar.real (Out6 Ar.real) noL) 100 Tryd.f27 [u8s b nl false] [] = some (u64x (wordL (b.take 8)), []) := by
  match b, hl with
  | c0 :: c1 :: c2 :: c3 :: c4 :: c5 :: c6 :: c7 :: r, _ =>
    have h0 := hy c0 (by simp)
    have h1 := hy c1 (by simp)
    have h2 := hy c2 (by simp)
    have h3 := hy c3 (by simp)
    have h4 := hy c4 (by simp)
    have h5 := hy c5 (by simp)
    have h6 := hy c6 (by simp)
    have h7 := hy c7 (by simp)
    rw [tWord]
    have hlen : (((c0 :: c1 :: c2 :: c3 :: c4 :: c5 :: c6 :: c7 :: r).length : Nat) : Int) = r.length + 8 := by simp only [List.length_cons]; omega
    simp only [hlen, show Int.toNat 0 = 0 from rfl, show Int.toNat 1 = 1 from rfl, show Int.toNat 2 = 2 from rfl, show Int.toNat 3 = 3 from rfl, show Int.toNat 4 = 4 from rfl, show Int.toNat 5 = 5 from rfl, show Int.toNat 6 = 6 from rfl, show Int.toNat 7 = 7 from rfl, List.getD_cons_zero, List.getD_cons_succ]
    iterate 8 rw [bt (by rw [decide_eq_true_eq]; omega)]
    have w0 : Ar.real.wrap .u64 c0 = c0 := by rw [rw_wrap, wu64 (by omega) (by omega)]
    have s1 := word_step 8 8 c0 c1 256 ((p2_64 8 _ rfl (by decide)).trans (by decide)) (by decide) (by decide) (by omega) h1 (by omega) (by intro c; omega) (by omega)
    have s2 := word_step 16 16 (c0 + c1 * 256) c2 65536 ((p2_64 16 _ rfl (by decide)).trans (by decide)) (by decide) (by decide) (by omega) h2 (by omega) (by intro c; omega) (by omega)
    have s3 := word_step 24 24 (c0 + c1 * 256 + c2 * 65536) c3 16777216 ((p2_64 24 _ rfl (by decide)).trans (by decide)) (by decide) (by decide) (by omega) h3 (by omega) (by intro c; omega) (by omega)
    have s4 := word_step 32 32 (c0 + c1 * 256 + c2 * 65536 + c3 * 16777216) c4 4294967296 ((p2_64 32 _ rfl (by decide)).trans (by decide)) (by decide) (by decide) (by omega) h4 (by omega) (by intro c; omega) (by omega)
    have s5 := word_step 40 40 (c0 + c1 * 256 + c2 * 65536 + c3 * 16777216 + c4 * 4294967296) c5 1099511627776 ((p2_64 40 _ rfl (by decide)).trans (by decide)) (by decide) (by decide) (by omega) h5 (by omega) (by intro c; omega) (by omega)
    have s6 := word_step 48 48 (c0 + c1 * 256 + c2 * 65536 + c3 * 16777216 + c4 * 4294967296 + c5 * 1099511627776) c6 281474976710656 ((p2_64 48 _ rfl (by decide)).trans (by decide)) (by decide) (by decide) (by omega) h6 (by omega) (by intro c; omega) (by omega)
    have s7 := word_step 56 56 (c0 + c1 * 256 + c2 * 65536 + c3 * 16777216 + c4 * 4294967296 + c5 * 1099511627776 + c6 * 281474976710656) c7 72057594037927936 ((p2_64 56 _ rfl (by decide)).trans (by decide)) (by decide) (by decide) (by omega) h7 (by omega) (by intro c; omega) (by omega)
    rw [w0, s1, s2, s3, s4, s5, s6, s7]
    clear s1 s2 s3 s4 s5 s6 s7
    have e : c0 + c1 * 256 + c2 * 65536 + c3 * 16777216 + c4 * 4294967296 + c5 * 1099511627776 + c6 * 281474976710656 + c7 * 72057594037927936 = wordL [c0, c1, c2, c3, c4, c5, c6, c7] := by
      simp only [wordL]
      omega
    rw [e]
    rfl

theorem word_ok : OrcOk Tryd.prog 27 (.pure (wordF Ar.real)) := by
  refine pureOk (Cx.ok o_ut6 noL) mixed 27 Tryd.f27 (by kernel_rfl) (by kernel_rfl) (by kernel_rfl) 100 0 (by kernel_rfl) (fun i h => by omega) fun args r h => ?_
  unfold wordF at h
  split at h
  · rename_i b nl
    obtain ⟨hg, rfl⟩ := Tr.one h
    rw [rw_se, Bool.and_eq_true, bytesB_iff, decide_eq_true_eq] at hg
    exact ⟨rfl, rfl, [], word_core b nl hg.1 hg.2⟩
  · cases h

theorem o_ut7 : OOk (Out7 Ar.real) := (o_ut6.add utake_ok).add word_ok

end Go.Proofs.YtnjlfeigcappjaaDoor.V

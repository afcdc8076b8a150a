/-
  Chapter 01, utf: all takes do what they tell.
  It speaks of the pinned program alone; no condition.
-/
import Derived.Test.YtnjlfeigcappjaaDoorUt8
namespace Go.Proofs.YtnjlfeigcappjaaDoor.V
open Go
set_option linter.unusedVariables false
set_option linter.unusedSimpArgs false

def tk (b : List Int) : Option (Int × Int) := match takeU b with
  | some (n, r) => some (n, (b.length : Int) - r.length)
  | none => none
theorem slowX_tk {b : List Int} (h : b ≠ []) : slowX (tk b) = .tup [i32x (dR b), i64x (dL b)] := by
  unfold tk dR dL
  cases takeU b with
  | none =>
    have : b.isEmpty = false := by cases b with | nil => exact absurd rfl h | cons _ _ => rfl
    simp [slowX, this]
  | some p => rfl

theorem con_iff {d : Int} : con d ↔ 128 ≤ d ∧ d < 192 := Iff.rfl

theorem cls2 (c : Int) (s : List Int) (h : 194 ≤ c ∧ c < 224) (hs : ∀ x ∈ s, 0 ≤ x ∧ x < 256) : (bif decide ((s.length : Int) + 1 < 2) then none else slowV c s 128 191 2) = tk (c :: s) := by
  unfold tk
  rw [takeU, if_neg (by omega), if_pos (by omega)]
  cases s with
  | nil => rw [bt (by decide)]; rfl
  | cons d r =>
    rw [bf (by rw [decide_eq_false_iff_not, List.length_cons]; omega)]
    simp only [slowV, utk2]
    by_cases hd : con d
    · rw [con_iff] at hd
      rw [if_neg (by omega), if_pos (by decide), if_pos ⟨h.1, hd⟩]
      simp only [List.length_cons, Option.some.injEq, Prod.mk.injEq]
      omega
    · rw [if_neg (fun h : 194 ≤ c ∧ con d => hd h.2)]
      rw [con_iff] at hd
      rw [if_pos (by omega)]

theorem cls3 (c lo hi : Int) (s : List Int) (h : (c = 224 ∧ lo = 160 ∧ hi = 191) ∨ (225 ≤ c ∧ c < 240 ∧ c ≠ 237 ∧ lo = 128 ∧ hi = 191) ∨ (c = 237 ∧ lo = 128 ∧ hi = 159)) (hs : ∀ x ∈ s, 0 ≤ x ∧ x < 256) :
    (bif decide ((s.length : Int) + 1 < 3) then none else slowV c s lo hi 3) = tk (c :: s) := by
  unfold tk
  rw [takeU, if_neg (by omega), if_neg (by omega), if_pos (by omega)]
  match s with
  | [] => rw [bt (by decide)]; rfl
  | [d] => rw [bt (by rw [decide_eq_true_eq]; simp)]; rfl
  | d :: e :: r =>
    have hd := hs d (by simp)
    have he := hs e (by simp)
    rw [bf (by rw [decide_eq_false_iff_not, List.length_cons, List.length_cons]; omega)]
    simp only [slowV, utk3]
    by_cases g : con d ∧ con e ∧ goodN ((c - 224) * 4096 + (d - 128) * 64 + (e - 128)) = true ∧ 2048 ≤ (c - 224) * 4096 + (d - 128) * 64 + (e - 128)
    · rw [if_pos g]
      rw [con_iff, con_iff, goodN_iff] at g
      rw [if_neg (by omega), if_neg (by decide), if_neg (by omega), if_pos (by decide)]
      simp only [List.length_cons, Option.some.injEq, Prod.mk.injEq]
      omega
    · rw [if_neg g]
      rw [con_iff, con_iff, goodN_iff] at g
      by_cases g1 : d < lo ∨ hi < d
      · rw [if_pos g1]
      · rw [if_neg g1, if_neg (by decide), if_pos (by omega)]

theorem cls4 (c lo hi : Int) (s : List Int) (h : (c = 240 ∧ lo = 144 ∧ hi = 191) ∨ (241 ≤ c ∧ c < 244 ∧ lo = 128 ∧ hi = 191) ∨ (c = 244 ∧ lo = 128 ∧ hi = 143)) (hs : ∀ x ∈ s, 0 ≤ x ∧ x < 256) :
    (bif decide ((s.length : Int) + 1 < 4) then none else slowV c s lo hi 4) = tk (c :: s) := by
  unfold tk
  rw [takeU, if_neg (by omega), if_neg (by omega), if_neg (by omega)]
  match s with
  | [] => rw [bt (by decide)]; rfl
  | [d] => rw [bt (by rw [decide_eq_true_eq]; simp)]; rfl
  | [d, e] => rw [bt (by rw [decide_eq_true_eq]; simp)]; rfl
  | d :: e :: f :: r =>
    have hd := hs d (by simp)
    have he := hs e (by simp)
    have hf := hs f (by simp)
    rw [bf (by rw [decide_eq_false_iff_not, List.length_cons, List.length_cons, List.length_cons]; omega)]
    simp only [slowV, utk4]
    by_cases g : con d ∧ con e ∧ con f ∧ goodN ((c - 240) * 262144 + (d - 128) * 4096 + (e - 128) * 64 + (f - 128)) = true ∧ 65536 ≤ (c - 240) * 262144 + (d - 128) * 4096 + (e - 128) * 64 + (f - 128)
    · rw [if_pos g]
      rw [con_iff, con_iff, con_iff, goodN_iff] at g
      rw [if_neg (by omega), if_neg (by decide), if_neg (by omega), if_neg (by decide), if_neg (by omega)]
      simp only [List.length_cons, Option.some.injEq, Prod.mk.injEq]
      omega
    · rw [if_neg g]
      rw [con_iff, con_iff, con_iff, goodN_iff] at g
      by_cases g1 : d < lo ∨ hi < d
      · rw [if_pos g1]
      · rw [if_neg g1, if_neg (by decide)]
        by_cases g2 : e < 128 ∨ 191 < e
        · rw [if_pos g2]
        · rw [if_neg g2, if_neg (by decide), if_pos (by omega)]

theorem clsBad (c : Int) (s : List Int) (h : (128 ≤ c ∧ c < 194) ∨ 245 ≤ c) (hs : ∀ x ∈ s, 0 ≤ x ∧ x < 256) : none = tk (c :: s) := by
  unfold tk
  rw [takeU, if_neg (by omega)]
  by_cases h1 : c < 224
  · rw [if_pos h1]
    cases s with
    | nil => rfl
    | cons d r => simp only [utk2]; rw [if_neg (by omega)]
  · rw [if_neg h1, if_neg (by omega)]
    match s with
    | [] => rfl
    | [d] => rfl
    | [d, e] => rfl
    | d :: e :: f :: r =>
      simp only [utk4]
      rw [if_neg]
      rw [con_iff, con_iff, con_iff, goodN_iff]
      omega

theorem slow_core (b : List Int) (nl : Option Bool) (hy : ∀ x ∈ b, 0 ≤ x ∧ x < 256) (ha : ascB b = false) :
    ∃ H', bodyX (Cx Ar.real (Out4 Ar.real) noL) 100 Tryd.f26 [u8s b nl false] [] = some (.tup [i32x (dR b), i64x (dL b)], H') := by
  cases b with
  | nil =>
    rw [tSlow, bt (by decide)]
    exact ⟨_, rfl⟩
  | cons c s =>
    have hc := hy c (by simp)
    have hs : ∀ x ∈ s, 0 ≤ x ∧ x < 256 := fun x hx => hy x (by simp [hx])
    have h128 : 128 ≤ c := by
      simp [ascB] at ha
      omega
    rw [← slowX_tk (by simp)]
    obtain ⟨m, rfl⟩ := Int.eq_ofNat_of_zero_le hc.1
    have hf := first_at hc.1 hc.2
    rw [Int.toNat_natCast] at hf
    have go : ∀ (v lo hi sz idx : Int), fx m = v → v < 240 → Ar.real.wrap .i64 (Ar.real.wrap .u8 (Ar.real.band 8 v 7)) = sz → (2 ≤ sz ∧ sz ≤ 4) → Int.fdiv v (Ar.real.p2 4 8) = idx → (0 ≤ idx ∧ idx < 16) →
        List.getD acceptT idx.toNat (Ty.zero (.struct (.prod (.int .u8) (.prod (.int .u8) .unit)))) = (lo, hi, ()) → (bif decide ((s.length : Int) + 1 < sz) then none else slowV m s lo hi sz) = tk ((m : Int) :: s) →
        ∃ H', bodyX (Cx Ar.real (Out4 Ar.real) noL) 100 Tryd.f26 [u8s ((m : Int) :: s) nl false] [] = some (slowX (tk ((m : Int) :: s)), H') := by
      intro v lo hi sz idx e1 e2 e3 e4 e5 e6 e7 e8
      have := slow_go m s nl v lo hi sz idx hc hs (by rw [Int.toNat_natCast, hf, e1]) e2 e3 e4 e5 e6 e7
      rw [e8] at this
      exact this
    have bad : fx m = 241 → none = tk ((m : Int) :: s) → ∃ H', bodyX (Cx Ar.real (Out4 Ar.real) noL) 100 Tryd.f26 [u8s ((m : Int) :: s) nl false] [] = some (slowX (tk ((m : Int) :: s)), H') := by
      intro e1 e2
      rw [← e2]
      exact slow_bad m s nl hc (by rw [Int.toNat_natCast, hf, e1])
    have n1 : ¬ m < 128 := by omega
    by_cases c1 : m < 194
    · exact bad (by simp [fx, n1, c1]) (clsBad _ _ (.inl (by omega)) hs)
    by_cases c2 : m < 224
    · exact go 2 128 191 2 0 (by simp [fx, n1, c1, c2]) (by decide) (by decide) (by decide) (by decide) (by decide) rfl (cls2 _ _ (by omega) hs)
    by_cases c3 : m = 224
    · exact go 19 160 191 3 1 (by simp [fx, n1, c1, c2, c3]) (by decide) (by decide) (by decide) (by decide) (by decide) rfl (cls3 _ _ _ _ (by omega) hs)
    by_cases c4 : m = 237
    · exact go 35 128 159 3 2 (by simp [fx, n1, c1, c2, c3, c4]) (by decide) (by decide) (by decide) (by decide) (by decide) rfl (cls3 _ _ _ _ (by omega) hs)
    by_cases c5 : m < 240
    · exact go 3 128 191 3 0 (by simp [fx, n1, c1, c2, c3, c4, c5]) (by decide) (by decide) (by decide) (by decide) (by decide) rfl (cls3 _ _ _ _ (by omega) hs)
    by_cases c6 : m = 240
    · exact go 52 144 191 4 3 (by simp [fx, n1, c1, c2, c3, c4, c5, c6]) (by decide) (by decide) (by decide) (by decide) (by decide) rfl (cls4 _ _ _ _ (by omega) hs)
    by_cases c7 : m < 244
    · exact go 4 128 191 4 0 (by simp [fx, n1, c1, c2, c3, c4, c5, c6, c7]) (by decide) (by decide) (by decide) (by decide) (by decide) rfl (cls4 _ _ _ _ (by omega) hs)
    by_cases c8 : m = 244
    · exact go 68 128 143 4 4 (by simp [fx, n1, c1, c2, c3, c4, c5, c6, c7, c8]) (by decide) (by decide) (by decide) (by decide) (by decide) rfl (cls4 _ _ _ _ (by omega) hs)
    exact bad (by simp [fx, n1, c1, c2, c3, c4, c5, c6, c7, c8]) (clsBad _ _ (.inr (by omega)) hs)

theorem slow_ok : OrcOk Tryd.prog 26 (.pure (slowF Ar.real)) := by
  refine pureOk (Cx.ok o_ut4 noL) mixed 26 Tryd.f26 (by kernel_rfl) (by kernel_rfl) (by kernel_rfl) 100 0 (by kernel_rfl) (fun i h => by omega) fun args r h => ?_
  unfold slowF at h
  split at h
  · rename_i b nl
    obtain ⟨hg, rfl⟩ := Tr.one h
    rw [rw_se, Bool.and_eq_true, bytesB_iff, Bool.not_eq_true'] at hg
    exact ⟨rfl, rfl, slow_core b nl hg.1 hg.2⟩
  · cases h

theorem o_ut5 : OOk (Out5 Ar.real) := (o_ut4.add slow_ok).add num_ok

theorem dec_ok : OrcOk Tryd.prog 22 (.pure (decF Ar.real)) := by
  refine pureOk (Cx.ok o_ut5 (Ldec Ar.real)) mixed 22 Tryd.f22 (by kernel_rfl) (by kernel_rfl) (by kernel_rfl) 100 1 (by kernel_rfl) (fun i h => ?_) fun args r h => ?_
  · obtain rfl : i = 0 := by omega
    refine Tells.mk (key := 2) (N := 22) (ks := [0, 2, 3, 6, 7, 8]) (F := LdecF Ar.real) (by kernel_rfl) rfl fun xs H r h => ?_
    unfold LdecF at h
    split at h
    · rename_i b nl y z b2 nl2 l i
      replace h : (Tr.test (bytesB b && decide (b2 = b ∧ l = (b.length : Int) ∧ i = 0)) (.test (ascB b) _ _) .no).run some = some r := h
      have hg : (bytesB b && decide (b2 = b ∧ l = (b.length : Int) ∧ i = 0)) = true := by
        cases hc : (bytesB b && decide (b2 = b ∧ l = (b.length : Int) ∧ i = 0))
        · rw [hc] at h; cases h
        · rfl
      rw [hg] at h
      simp only [Bool.and_eq_true, decide_eq_true_eq, bytesB_iff] at hg
      obtain ⟨g1, rfl, rfl, rfl⟩ := hg
      have key := loopDec b2 nl nl2 y z g1
      cases ha : ascB b2 <;> rw [ha] at h key
      · cases h; exact key
      · cases h; exact key
    · cases h
  · unfold decF at h
    split at h
    · rename_i b nl
      obtain ⟨hg, rfl⟩ := Tr.one h
      rw [rw_se] at hg
      refine ⟨rfl, rfl, [], ?_⟩
      rw [tDec, bt (by rw [rw_se, hg, Bool.true_and, decide_eq_true_eq]; exact ⟨rfl, rfl, rfl⟩)]
      simp only [rw_se]
      cases ha : ascB b with
      | true =>
        have ht := takeU_asc ha
        have hne : b ≠ [] := by rintro rfl; simp [ascB] at ha
        have hl : 0 < b.length := List.length_pos_iff.2 hne
        have e1 : dR b = b.getD 0 0 := by simp [dR, ht]
        have e2 : dL b = 1 := by simp only [dL, ht, List.length_drop]; omega
        rw [e1, e2]
        rfl
      | false =>
        rw [bf rfl, bt (by rw [hg]; rfl)]
    · cases h

theorem rtake_ok : OrcOk Tryd.prog 14 (.pure (utakeF Ar.real)) := by
  refine pureOk (Cx.ok o_ut5 (LrTake Ar.real)) mixed 14 Tryd.f14 (by kernel_rfl) (by kernel_rfl) (by kernel_rfl) 100 1 (by kernel_rfl) (fun i h => ?_) fun args r h => ?_
  · obtain rfl : i = 0 := by omega
    refine Tells.mk (key := 2) (N := 34) (ks := [0, 2, 3, 4, 5]) (F := LrTakeF Ar.real) (by kernel_rfl) rfl fun xs H r h => ?_
    unfold LrTakeF at h
    split at h
    · rename_i b nl x y z n
      replace h : (Tr.test (bytesB b && (decide ((1 : Int) ≤ n ∧ n ≤ (5 : Int)) && (List.range n.toNat).all fun m => !tryB b m)) (.test (takeU b).isSome _ _) .no).run some = some r := h
      have hg : (bytesB b && (decide ((1 : Int) ≤ n ∧ n ≤ (5 : Int)) && (List.range n.toNat).all fun m => !tryB b m)) = true := by
        cases hc : (bytesB b && (decide ((1 : Int) ≤ n ∧ n ≤ (5 : Int)) && (List.range n.toNat).all fun m => !tryB b m))
        · rw [hc] at h; cases h
        · rfl
      rw [hg] at h
      simp only [Bool.and_eq_true, decide_eq_true_eq, bytesB_iff, List.all_eq_true, List.mem_range, Bool.not_eq_true'] at hg
      obtain ⟨g1, ⟨g2, g3⟩, g4⟩ := hg
      obtain ⟨m, rfl⟩ := Int.eq_ofNat_of_zero_le (Int.le_trans (by decide : (0 : Int) ≤ 1) g2)
      have key := loopRTake b nl x y z g1 _ m rfl (by have : (1 : Int) ≤ (m : Int) := g2; omega) (by have : (m : Int) ≤ 5 := g3; omega) (fun k hk => g4 k (by rw [Int.toNat_natCast]; exact hk))
      unfold resT at key
      cases ha : (takeU b).isSome <;> rw [ha] at h key
      · cases h; exact key
      · cases h; exact key
    · cases h
  · unfold utakeF at h
    split at h
    · rename_i b nl
      obtain ⟨hg, rfl⟩ := Tr.one h
      rw [rw_se] at hg
      refine ⟨rfl, rfl, [], ?_⟩
      rw [tRTake, bt (by rw [rw_se, hg]; simp [tryB])]
      simp only [rw_se]
      cases ht : takeU b with
      | none => simp [uN, uL, uE, ht]
      | some p => simp [uN, uL, uE, ht]
    · cases h

theorem o_ut6 : OOk (Out6 Ar.real) := (o_ut5.add dec_ok).add rtake_ok

theorem utake_core (b : List Int) (nl : Option Bool) (hy : ∀ x ∈ b, 0 ≤ x ∧ x < 256) :
    bodyX (Cx Ar.real (Out6 Ar.real) noL) 100 Tryd.f13 [u8s b nl false] [] = some (.tup [i64x (uN b), i64x (uL b), i64x (uE b)], []) := by
  rw [tUTake, bt (by rw [rw_se]; exact bytesB_iff.2 hy)]
  simp only [rw_se]
  cases ht : takeU b with
  | none =>
    by_cases hb : b = []
    · subst hb
      rfl
    · have he : b.isEmpty = false := by cases b with | nil => exact absurd rfl hb | cons _ _ => rfl
      have e1 : dL b = 1 := by simp [dL, ht, he]
      have e2 : dR b = 65533 := by simp [dR, ht]
      rw [e1, e2, bt (by decide), bt (by decide)]
      simp [uN, uL, uE, ht]
  | some p =>
    obtain ⟨n, r⟩ := p
    obtain ⟨_, h2, h3⟩ := try_of hy ht
    have h4 := ub_pos n
    rw [goodN_iff] at h3
    have e1 : dL b = ((ub n).length : Int) := by simp only [dL, ht]; omega
    have e2 : dR b = n := by simp [dR, ht]
    have e3 : uN b = n := by simp [uN, ht]
    have e4 : uL b = ((ub n).length : Int) := by simp only [uL, ht]; omega
    have e5 : uE b = 0 := by simp [uE, ht]
    have w : Ar.real.wrap .i64 n = n := by rw [rw_wrap, wi64 (by omega) (by omega)]
    rw [e1, e2, e3, e4, e5, w]
    have z : ((((ub n).length : Nat) : Int) == (0 : Int)) = false := by rw [beq_eq_false_iff_ne]; omega
    rw [bf z]
    by_cases h1 : (((ub n).length : Nat) : Int) = 1
    · rw [bt (by rw [h1]; rfl)]
      have hn : n < 128 := by
        have := ub_len n
        by_cases hc : n < 128
        · exact hc
        · rw [if_neg hc] at this
          split at this
          · omega
          · split at this <;> omega
      rw [bf (by rw [beq_eq_false_iff_ne]; omega)]
    · rw [bf (by have : ((((ub n).length : Nat) : Int) == (1 : Int)) = false := by rw [beq_eq_false_iff_ne]; exact h1
                 rw [this]; rfl)]

theorem utake_ok : OrcOk Tryd.prog 13 (.pure (utakeF Ar.real)) := by
  refine pureOk (Cx.ok o_ut6 noL) mixed 13 Tryd.f13 (by kernel_rfl) (by kernel_rfl) (by kernel_rfl) 100 0 (by kernel_rfl) (fun i h => by omega) fun args r h => ?_
  unfold utakeF at h
  split at h
  · rename_i b nl
    obtain ⟨hg, rfl⟩ := Tr.one h
    rw [rw_se, bytesB_iff] at hg
    exact ⟨rfl, rfl, [], utake_core b nl hg⟩
  · cases h

end Go.Proofs.YtnjlfeigcappjaaDoor.V

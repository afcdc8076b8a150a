/-
  Means for all chapters: short names for data, what reckoning comes to, bytes and strings, lists.
  It speaks of the pinned program alone; no condition.
-/
import Derived.Test.YtnbfiifkaddehaaT
import Derived.IntWalk
import Derived.Laws.Strings
namespace Go.Proofs.Ytnbfiifkaddehaa.V
open Go
set_option linter.unusedVariables false
set_option linter.unusedSimpArgs false

abbrev OT := Nat → Option Orc
abbrev u8s (b : List Int) (nl : Option Bool) (own : Bool) : X := .sl (.int .u8) b nl own
abbrev i64s (b : List Int) (nl : Option Bool) (own : Bool) : X := .sl (.int .i64) b nl own
abbrev u64s (b : List Int) (nl : Option Bool) (own : Bool) : X := .sl (.int .u64) b nl own
abbrev u64x (n : Int) : X := .d (.int .u64) n
abbrev u32x (n : Int) : X := .d (.int .u32) n
abbrev u16x (n : Int) : X := .d (.int .u16) n
abbrev i32x (n : Int) : X := .d (.int .i32) n
abbrev u8x (n : Int) : X := .d (.int .u8) n
abbrev i64x (n : Int) : X := .d (.int .i64) n
abbrev boolx (n : Bool) : X := .d .bool n
abbrev strx (s : ByteArray) : X := .d .str s

def bytesB (b : List Int) : Bool := b.all fun x => decide (0 ≤ x ∧ x < 256)
def isU64 (n : Int) : Bool := decide (0 ≤ n ∧ n < 18446744073709551616)
theorem isU64_iff {n : Int} : isU64 n = true ↔ 0 ≤ n ∧ n < 18446744073709551616 := by simp [isU64]
theorem bytesB_iff {b : List Int} : bytesB b = true ↔ ∀ x ∈ b, 0 ≤ x ∧ x < 256 := by simp [bytesB]
/-- A slice that may be nil is so only if it is empty. -/
def nlB (nl : Bool) (b : List Int) : Bool := !nl || b.isEmpty
theorem nlB_nil {nl : Bool} {b : List Int} (h : nlB nl b = true) : nl = true → b = [] := by
  intro e; subst e; simpa [nlB] using h
theorem nlB_false (b : List Int) : nlB false b = true := rfl

theorem rw_wrap (k : IntKind) (n : Int) : Ar.real.wrap k n = k.wrap n := Eq.trans rfl rfl
theorem rw_se {α : Type} (x : α) : Ar.real.se x = x := Eq.trans rfl rfl
theorem rw_p2 (b : Int) (n : Nat) : Ar.real.p2 b n = 2 ^ (min (Int.toNat b) n) := Eq.trans rfl rfl
theorem rw_seq (a b : ByteArray) : Ar.real.seq a b = (a.toList == b.toList) := Eq.trans rfl rfl
theorem rw_slt (a b : ByteArray) : Ar.real.slt a b = Op.bytesLess a.toList b.toList := Eq.trans rfl rfl
theorem rw_bor (n : Nat) (a b : Int) : Ar.real.bor n a b = ((BitVec.ofInt n a ||| BitVec.ofInt n b).toNat : Int) := Eq.trans rfl rfl
theorem rw_band (n : Nat) (a b : Int) : Ar.real.band n a b = ((BitVec.ofInt n a &&& BitVec.ofInt n b).toNat : Int) := Eq.trans rfl rfl
theorem rw_bxor (n : Nat) (a b : Int) : Ar.real.bxor n a b = ((BitVec.ofInt n a ^^^ BitVec.ofInt n b).toNat : Int) := Eq.trans rfl rfl
theorem bvNat (n a : Nat) (h : a < 2 ^ n) : (BitVec.ofInt n (a : Int)).toNat = a := by
  rw [BitVec.ofInt_natCast, BitVec.toNat_ofNat, Nat.mod_eq_of_lt h]
theorem bor_nat {n a b : Nat} (ha : a < 2 ^ n) (hb : b < 2 ^ n) : Ar.real.bor n (a : Int) (b : Int) = ((a ||| b : Nat) : Int) := by
  rw [rw_bor, BitVec.toNat_or, bvNat n a ha, bvNat n b hb]
theorem band_nat {n a b : Nat} (ha : a < 2 ^ n) (hb : b < 2 ^ n) : Ar.real.band n (a : Int) (b : Int) = ((a &&& b : Nat) : Int) := by
  rw [rw_band, BitVec.toNat_and, bvNat n a ha, bvNat n b hb]
theorem bxor_nat {n a b : Nat} (ha : a < 2 ^ n) (hb : b < 2 ^ n) : Ar.real.bxor n (a : Int) (b : Int) = ((a ^^^ b : Nat) : Int) := by
  rw [rw_bxor, BitVec.toNat_xor, bvNat n a ha, bvNat n b hb]

theorem wu64 {n : Int} (h0 : 0 ≤ n) (h1 : n < 18446744073709551616) : IntKind.u64.wrap n = n := IntWalk.u64_in n ⟨h0, by omega⟩
theorem wu8 {n : Int} (h0 : 0 ≤ n) (h1 : n < 256) : IntKind.u8.wrap n = n := IntWalk.u8_in n ⟨h0, by omega⟩
theorem wi64 {n : Int} (h0 : -9223372036854775808 ≤ n) (h1 : n < 9223372036854775808) : IntKind.i64.wrap n = n := IntWalk.i64_in n ⟨h0, by omega⟩
theorem wi32 {n : Int} (h0 : -2147483648 ≤ n) (h1 : n < 2147483648) : IntKind.i32.wrap n = n := IntWalk.i32_in n ⟨h0, by omega⟩
theorem wu32 {n : Int} (h0 : 0 ≤ n) (h1 : n < 4294967296) : IntKind.u32.wrap n = n := IntWalk.u32_in n ⟨h0, by omega⟩
theorem wrapu64 (n : Int) : IntKind.u64.wrap n = n % 18446744073709551616 := by simp [IntKind.wrap, IntKind.bits, IntKind.signed]
theorem wrapu32 (n : Int) : IntKind.u32.wrap n = n % 4294967296 := by simp [IntKind.wrap, IntKind.bits, IntKind.signed]
theorem wrapu8 (n : Int) : IntKind.u8.wrap n = n % 256 := by simp [IntKind.wrap, IntKind.bits, IntKind.signed]

theorem bt {α : Type} {c : Bool} {a b : α} (h : c = true) : (bif c then a else b) = a := by rw [h]; rfl
theorem bf {α : Type} {c : Bool} {a b : α} (h : c = false) : (bif c then a else b) = b := by rw [h]; rfl
theorem nfdiv (a b : Nat) : Int.fdiv (a : Int) (2 ^ b) = ((a / 2 ^ b : Nat) : Int) := by
  have h : ((2 : Int) ^ b) = ((2 ^ b : Nat) : Int) := by simp
  rw [h]
  exact Int.ofNat_fdiv a (2 ^ b) |>.symm
theorem ntdiv (a b : Nat) : Int.tdiv (a : Int) (b : Int) = ((a / b : Nat) : Int) := by
  rw [Int.tdiv_eq_ediv_of_nonneg (by omega)]; omega
theorem ntmod (a b : Nat) : Int.tmod (a : Int) (b : Int) = ((a % b : Nat) : Int) := by
  rw [Int.tmod_eq_emod_of_nonneg (by omega)]; omega

theorem seq_self (a : ByteArray) : Ar.real.seq a a = true := by rw [rw_seq]; simp
theorem bytes_inj : ∀ {xs ys : List Int}, (∀ x ∈ xs, 0 ≤ x ∧ x < 256) → (∀ x ∈ ys, 0 ≤ x ∧ x < 256) → (xs.map fun n => UInt8.ofNat n.toNat) = (ys.map fun n => UInt8.ofNat n.toNat) → xs = ys := by
  intro xs
  induction xs with
  | nil => intro ys _ _ h; cases ys with | nil => rfl | cons y ys => simp at h
  | cons x xs ih =>
    intro ys hx hy h
    cases ys with
    | nil => simp at h
    | cons y ys =>
      simp only [List.map_cons, List.cons.injEq] at h
      have h1 := hx x (by simp)
      have h2 := hy y (by simp)
      have h3 := congrArg UInt8.toNat h.1
      rw [UInt8.toNat_ofNat', UInt8.toNat_ofNat', Nat.mod_eq_of_lt (by omega), Nat.mod_eq_of_lt (by omega)] at h3
      rw [ih (fun x hx' => hx x (by simp [hx'])) (fun x hx' => hy x (by simp [hx'])) h.2]
      congr 1
      omega
theorem strOf_list (xs : List Int) : (strOf xs).toList = xs.map fun n => UInt8.ofNat n.toNat := by
  rw [ByteArray.toList_eq, strOfNums_data]
theorem seq_str {xs ys : List Int} (hx : ∀ x ∈ xs, 0 ≤ x ∧ x < 256) (hy : ∀ x ∈ ys, 0 ≤ x ∧ x < 256) : Ar.real.seq (strOf xs) (strOf ys) = decide (xs = ys) := by
  rw [rw_seq, strOf_list, strOf_list]
  by_cases h : xs = ys
  · subst h; simp
  · rw [decide_eq_false h, beq_eq_false_iff_ne]
    exact fun e => h (bytes_inj hx hy e)
theorem strOf_append (xs ys : List Int) : strOf xs ++ strOf ys = strOf (xs ++ ys) := by
  apply ByteArray.ext
  simp [strOfNums]

theorem getD_mem {b : List Int} {i : Nat} (h : i < b.length) : b.getD i 0 ∈ b := by
  rw [List.getD_eq_getElem?_getD, List.getElem?_eq_getElem h]; exact List.getElem_mem _
theorem drop_cons {b : List Int} {i : Nat} (h : i < b.length) : b.drop i = b.getD i 0 :: b.drop (i + 1) := by
  rw [List.drop_eq_getElem_cons h, List.getD_eq_getElem?_getD, List.getElem?_eq_getElem h]; rfl
theorem take_succ {b : List Int} {j : Nat} (h : j < b.length) : b.take (j + 1) = b.take j ++ [b.getD j 0] := by
  rw [List.take_add_one, List.getElem?_eq_getElem h, List.getD_eq_getElem?_getD, List.getElem?_eq_getElem h]; rfl

theorem forget_dead (ys : List X) (n : Nat) : Forget ys (List.replicate n .dead) := by
  intro i
  refine .inl ?_
  rw [List.getD_eq_getElem?_getD, List.getElem?_replicate]
  split <;> rfl

theorem bytes_wf {b : List Int} (h : wfD (.slice (.int .u8)) b = true) : bytesB b = true := by
  simp only [wfD, Bool.and_eq_true, List.all_eq_true] at h
  rw [bytesB_iff]
  intro x hx
  have h1 := wfD_int (h.2 x hx)
  have h2 : IntKind.u8.min = 0 := by decide
  have h3 : IntKind.u8.max = 255 := by decide
  omega

end Go.Proofs.Ytnbfiifkaddehaa.V

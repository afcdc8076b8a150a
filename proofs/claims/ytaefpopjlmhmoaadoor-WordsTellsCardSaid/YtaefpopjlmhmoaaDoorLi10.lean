/-
  Chapter 04, lines: what is needed of it: the functions do what they tell; the plain law.
  It speaks of whatever program; no condition.
-/
import Derived.Test.YtaefpopjlmhmoaaDoorB1
import Derived.Lib.BytesEntry

/- Chapter 04, lines: what the functions come to, as plain lists. -/
namespace Go.Proofs.YtaefpopjlmhmoaaDoor.V.L
open Go
set_option linter.unusedVariables false
set_option linter.unusedSimpArgs false

def isEnd (c : Int) : Bool := c == 10
def isBl (c : Int) : Bool := c == 32 || c == 9

/-- The first place at which it is so; else -1. -/
def idxP (p : Int → Bool) : List Int → Int
  | [] => -1
  | x :: l => bif p x then 0 else bif idxP p l == -1 then -1 else idxP p l + 1

/-- The pieces between. -/
def cut (p : Int → Bool) : List Int → List (List Int)
  | [] => [[]]
  | x :: l => bif p x then [] :: cut p l else match cut p l with
    | [] => [[x]]
    | q :: qs => (x :: q) :: qs

def pcs (p : Int → Bool) (b : List Int) (i : Nat) : List (List Int) := if i ≤ b.length then cut p (b.drop i) else []

def dropE (l : List (List Int)) : List (List Int) := bif (l.getD (l.length - 1) []).isEmpty then l.take (l.length - 1) else l
def splitL (b : List Int) : List (List Int) := dropE (cut isEnd b)
def full (l : List (List Int)) : List (List Int) := l.filter fun x => !x.isEmpty
def fieldsL (b : List Int) : List (List Int) := full (cut isBl b)
def bareB (b : List Int) : Bool := (fieldsL b).isEmpty || ((fieldsL b).getD 0 []).getD 0 0 == 35

theorem idxP_ge (p : Int → Bool) : ∀ l, -1 ≤ idxP p l
  | [] => by simp [idxP]
  | x :: l => by
    have := idxP_ge p l
    simp only [idxP]
    cases p x
    · cases h : idxP p l == -1
      · simp only [cond_false]; omega
      · simp
    · simp

theorem idxP_lt (p : Int → Bool) : ∀ l, idxP p l < l.length
  | [] => by simp [idxP]
  | x :: l => by
    have := idxP_lt p l
    simp only [idxP, List.length_cons]
    cases p x
    · cases h : idxP p l == -1
      · simp only [cond_false]; omega
      · simp only [cond_false, cond_true]; omega
    · simp only [cond_true]; omega

theorem cut_ne (p : Int → Bool) : ∀ l, cut p l ≠ []
  | [] => by simp [cut]
  | x :: l => by
    simp only [cut]
    cases p x
    · simp only [cond_false]
      split <;> simp
    · simp

/-- The first piece, and the others. -/
theorem cut_step (p : Int → Bool) : ∀ r, (idxP p r = -1 → cut p r = [r]) ∧ ∀ n : Nat, idxP p r = n → n < r.length ∧ cut p r = r.take n :: cut p (r.drop (n + 1))
  | [] => ⟨fun _ => rfl, fun n h => by simp [idxP] at h⟩
  | x :: l => by
    obtain ⟨h1, h2⟩ := cut_step p l
    cases hp : p x
    · cases he : idxP p l == -1
      · have hne : idxP p l ≠ -1 := by simpa using he
        have hge := idxP_ge p l
        refine ⟨fun h => ?_, fun n h => ?_⟩
        · simp only [idxP, hp, he, cond_false] at h
          omega
        · simp only [idxP, hp, he, cond_false] at h
          obtain ⟨m, rfl⟩ : ∃ m, n = m + 1 := ⟨n - 1, by omega⟩
          obtain ⟨k1, k2⟩ := h2 m (by omega)
          refine ⟨by simp only [List.length_cons]; omega, ?_⟩
          simp only [cut, hp, cond_false, k2]
          rfl
      · have he' : idxP p l = -1 := by simpa using he
        refine ⟨fun _ => ?_, fun n h => ?_⟩
        · simp only [cut, hp, cond_false, h1 he']
        · simp only [idxP, hp, he, cond_false, cond_true] at h
          omega
    · refine ⟨fun h => ?_, fun n h => ?_⟩
      · simp [idxP, hp] at h
      · simp only [idxP, hp, cond_true] at h
        have : n = 0 := by omega
        subst this
        simp [cut, hp]

theorem pcs_step (p : Int → Bool) (b : List Int) (i : Nat) (hi : i ≤ b.length) : ∃ n : Nat, (n : Int) = (bif decide (idxP p (b.drop i) < 0) then (b.length : Int) - i else idxP p (b.drop i)) ∧ i + n ≤ b.length ∧
    pcs p b i = (b.take (i + n)).drop i :: pcs p b (i + n + 1) := by
  obtain ⟨h1, h2⟩ := cut_step p (b.drop i)
  have hge := idxP_ge p (b.drop i)
  by_cases hn : idxP p (b.drop i) = -1
  · refine ⟨b.length - i, ?_, by omega, ?_⟩
    · rw [hn]
      simp only [decide_true, cond_true, show decide ((-1 : Int) < 0) = true from rfl]
      omega
    · unfold pcs
      rw [if_pos hi, if_neg (by omega), h1 hn]
      congr 1
      rw [show i + (b.length - i) = b.length from by omega, List.take_length]
  · obtain ⟨n, hn'⟩ : ∃ n : Nat, idxP p (b.drop i) = n := ⟨(idxP p (b.drop i)).toNat, by omega⟩
    obtain ⟨k1, k2⟩ := h2 n hn'
    rw [List.length_drop] at k1
    refine ⟨n, ?_, by omega, ?_⟩
    · rw [hn', decide_eq_false (by omega)]
      rfl
    · unfold pcs
      rw [if_pos hi, if_pos (by omega), k2, List.drop_drop, List.take_drop]
      rfl

theorem pcs_done (p : Int → Bool) (b : List Int) (i : Nat) (hi : b.length < i) : pcs p b i = [] := by
  unfold pcs
  rw [if_neg (by omega)]

theorem cut_len (p : Int → Bool) : ∀ l, (cut p l).length ≤ l.length + 1
  | [] => by simp [cut]
  | x :: l => by
    have := cut_len p l
    simp only [cut]
    cases p x
    · simp only [cond_false]
      split
      · simp
      · rename_i q qs e
        rw [e] at this
        simpa using Nat.le_succ_of_le this
    · simpa using this

theorem pcs_len (p : Int → Bool) (b : List Int) (i : Nat) : (pcs p b i).length ≤ b.length + 1 := by
  unfold pcs
  split
  · have := cut_len p (b.drop i)
    simp only [List.length_drop] at this
    omega
  · simp

/-- A piece's elements are the whole's, and none of them parts. -/
theorem cut_mem (p : Int → Bool) : ∀ l q, q ∈ cut p l → ∀ x ∈ q, x ∈ l ∧ p x = false
  | [], q, h, x, hx => by
    simp [cut] at h
    subst h
    cases hx
  | y :: l, q, h, x, hx => by
    simp only [cut] at h
    cases hp : p y
    · rw [hp] at h
      simp only [cond_false] at h
      split at h
      · rename_i e
        exact absurd e (cut_ne p l)
      · rename_i q0 qs e
        rcases List.mem_cons.1 h with rfl | h
        · rcases List.mem_cons.1 hx with rfl | hx
          · exact ⟨by simp, hp⟩
          · obtain ⟨k1, k2⟩ := cut_mem p l q0 (by rw [e]; simp) x hx
            exact ⟨List.mem_cons_of_mem _ k1, k2⟩
        · obtain ⟨k1, k2⟩ := cut_mem p l q (by rw [e]; simp [h]) x hx
          exact ⟨List.mem_cons_of_mem _ k1, k2⟩
    · rw [hp] at h
      simp only [cond_true] at h
      rcases List.mem_cons.1 h with rfl | h
      · cases hx
      · obtain ⟨k1, k2⟩ := cut_mem p l q h x hx
        exact ⟨List.mem_cons_of_mem _ k1, k2⟩

end Go.Proofs.YtaefpopjlmhmoaaDoor.V.L

/- Chapter 04, lines: what the functions tell. -/
namespace Go.Proofs.YtaefpopjlmhmoaaDoor.V.L
open Go
set_option linter.unusedVariables false

abbrev sT : Ty := .slice (.int .u8)
abbrev ssT : Ty := .slice sT
abbrev sss (l : List (List Int)) (nl : Option Bool) (own : Bool) : X := .sl sT l nl own

def nlO : Option Bool → List Int → Bool
  | some true, b => b.isEmpty
  | _, _ => true

def cloneF (A : Ar) : List X → Tr X
  | [.sl (.int .u8) b (some nl) false] => .test (A.se (decide (b.length ≤ 1000000000) && nlB nl b)) (.give (u8s b (some nl) true)) .no
  | _ => .no
def cloneG (A : Ar) : List X → Tr X
  | [.sl (.int .u8) b nl false] => .test (A.se (decide (b.length ≤ 1000000000) && nlO nl b)) (.give (u8s b nl true)) .no
  | _ => .no

def endF : List X → Tr X
  | [.d (.int .u8) c] => .give (boolx (c == 10))
  | _ => .no
def ixbF (A : Ar) : List X → Tr X
  | [.sl (.int .u8) xs nl false, .d (.int .u8) c] => .test (A.se (decide (xs = [32, 9]) && decide (0 ≤ c ∧ c < 256))) (.give (i64x (A.se (bif c == 32 then 0 else bif c == 9 then 1 else -1)))) .no
  | _ => .no
def blF (A : Ar) : List X → Tr X
  | [.d (.int .u8) c] => .test (A.se (decide (0 ≤ c ∧ c < 256))) (.give (boolx (A.se (isBl c)))) .no
  | _ => .no

/-- What a function given by its number asks of a byte. -/
def pOf : Nat → Option (Int → Bool)
  | 45 => some isEnd
  | 47 => some isBl
  | _ => none

def idxF (A : Ar) : List X → Tr X
  | [.sl (.int .u8) b nl false, .fn g [] []] => match pOf g with
    | some p => .test (A.se (bytesB b && decide (b.length ≤ 1000000000))) (.give (i64x (A.se (idxP p b)))) .no
    | none => .no
  | _ => .no
def LidxF (A : Ar) : List X → Hp → Tr (Ex × List X × Hp)
  | [.sl (.int .u8) b nl false, .fn g [] [], .d (.int .i64) z, .d (.int .i64) l, .d (.int .i64) i], [] => match pOf g with
    | some p => .test (A.se (bytesB b && decide (b.length ≤ 1000000000 ∧ l = b.length ∧ 0 ≤ i ∧ i ≤ l)))
      (.test (A.se (decide (idxP p (b.drop i.toNat) < 0))) (.give (.exit 0, [u8s b nl false, .fn g [] [], i64x z, i64x l, .dead], []))
        (.give (.ret, [u8s b nl false, .fn g [] [], i64x (A.se (i + idxP p (b.drop i.toNat))), i64x l, .dead], []))) .no
    | none => .no
  | _, _ => .no
def Lidx (A : Ar) : Lp := fun k => match k with
  | 2 => some (19, [0, 1, 4, 7, 8], LidxF A)
  | _ => none

def piecesF : List X → Hp → Tr (X × Hp)
  | [.sl (.int .u8) b nl false, .fn g [] []], [h] => .give (.fn 68 [] [.ptr 1 [], .ptr 2 []], [h, (sT, u8s b nl false), (.any, .fn g [] [])])
  | _, _ => .no

/-- A round that takes each piece; one that takes the full ones. -/
def allR (A : Ar) : Nat → List X → List X → Hp → Tr (Bool × Hp)
  | 3, [.ptr 0 []], [.sl (.int .u8) q nl false], [(.slice (.slice (.int .u8)), .sl (.slice (.int .u8)) out (some x) true), h1, h2, h3] =>
      .test (A.se (decide (q.length ≤ 1000000000 ∧ out.length ≤ 1000000) && nlO nl q)) (.give (true, [(ssT, sss (out ++ [q]) (some (A.se false)) true), h1, h2, h3])) .no
  | _, _, _, _ => .no
def fullR (A : Ar) : Nat → List X → List X → Hp → Tr (Bool × Hp)
  | 3, [.ptr 0 []], [.sl (.int .u8) q nl false], [(.slice (.slice (.int .u8)), .sl (.slice (.int .u8)) out (some x) true), h1, h2, h3] =>
      .test (A.se (decide (q.length ≤ 1000000000 ∧ out.length ≤ 1000000) && nlO nl q)) (.give (true, [(ssT, sss (A.se (out ++ full [q])) (some (A.se (x && q.isEmpty))) true), h1, h2, h3])) .no
  | _, _, _, _ => .no
def Ys (A : Ar) : Yt := fun k => match k with
  | 7 => some (allR A)
  | 9 => some (fullR A)
  | _ => none

/-- What of the pieces is taken. -/
def tk : Nat → List (List Int) → List (List Int)
  | 7, l => l
  | _, l => full l
def kOf : Nat → Option Nat
  | 7 => some 45
  | 9 => some 47
  | _ => none

def seqF (A : Ar) : List X → Hp → Tr (X × Hp)
  | [.yld 3, .ptr 1 [], .ptr 2 []], [(.slice (.slice (.int .u8)), .sl (.slice (.int .u8)) out (some x) true), (.slice (.int .u8), .sl (.int .u8) b nl false), (.any, .fn g [] []), (.unit, .rnd key [.ptr 0 []])] =>
    match pOf g with
    | some p => .test (A.se (bytesB b && (nlO nl b && (decide (kOf key = some g) && decide (b.length + out.length ≤ 100000)))))
      (.give (.tup [], [(ssT, sss (A.se (out ++ tk key (cut p b))) (some (A.se (x && (tk key (cut p b)).isEmpty))) true), (sT, u8s b nl false), (.any, .fn g [] []), (.unit, .rnd key [.ptr 0 []])])) .no
    | none => .no
  | _, _ => .no
def LseqF (A : Ar) : List X → Hp → Tr (Ex × List X × Hp)
  | [.yld 3, .ptr 1 [], .ptr 2 [], .d (.int .i64) i], [(.slice (.slice (.int .u8)), .sl (.slice (.int .u8)) out (some x) true), (.slice (.int .u8), .sl (.int .u8) b nl false), (.any, .fn g [] []), (.unit, .rnd key [.ptr 0 []])] =>
    match pOf g with
    | some p => .test (A.se (bytesB b && (nlO nl b && (decide (kOf key = some g) && decide (b.length + out.length ≤ 100000 ∧ 0 ≤ i ∧ i ≤ b.length + 1)))))
      (.give (.exit 0, [.yld 3, .ptr 1 [], .ptr 2 [], .dead], [(ssT, sss (A.se (out ++ tk key (pcs p b i.toNat))) (some (A.se (x && (tk key (pcs p b i.toNat)).isEmpty))) true), (sT, u8s b nl false), (.any, .fn g [] []), (.unit, .rnd key [.ptr 0 []])])) .no
    | none => .no
  | _, _ => .no
def Lseq (A : Ar) : Lp := fun k => match k with
  | 1 => some (34, [0, 1, 2, 4], LseqF A)
  | _ => none

def Ok (A : Ar) (b : List Int) (nl : Option Bool) : Bool := A.se (bytesB b && (nlO nl b && decide (b.length ≤ 50000)))
def splitF (A : Ar) : List X → Tr X
  | [.sl (.int .u8) b nl false] => .test (Ok A b nl) (.give (sss (A.se (splitL b)) (some (A.se false)) false)) .no
  | _ => .no
def fieldsF (A : Ar) : List X → Tr X
  | [.sl (.int .u8) b nl false] => .test (Ok A b nl) (.give (sss (A.se (fieldsL b)) (some (A.se (fieldsL b).isEmpty)) false)) .no
  | _ => .no
def bareF (A : Ar) : List X → Tr X
  | [.sl (.int .u8) b nl false] => .test (Ok A b nl) (.give (boolx (A.se (bareB b)))) .no
  | _ => .no

def bytesBB (l : List (List Int)) : Bool := l.all bytesB
def sameF (A : Ar) : List X → Tr X
  | [.sl (.slice (.int .u8)) a nl false, .sl (.slice (.int .u8)) b nl2 false] => .test (A.se (bytesBB a && (bytesBB b && decide (a.length ≤ 100000 ∧ b.length ≤ 100000)))) (.give (boolx (A.se (a == b)))) .no
  | _ => .no
def LsameF (A : Ar) : List X → Hp → Tr (Ex × List X × Hp)
  | [.sl (.slice (.int .u8)) a nl false, .sl (.slice (.int .u8)) b nl2 false, .d .bool x, .d (.int .i64) i], [] =>
    .test (A.se (bytesBB a && (bytesBB b && decide (a.length ≤ 100000 ∧ a.length = b.length ∧ 0 ≤ i ∧ i ≤ a.length))))
      (.test (A.se (a.drop i.toNat == b.drop i.toNat)) (.give (.exit 0, [sss a nl false, sss b nl2 false, boolx x, .dead], []))
        (.give (.ret, [sss a nl false, sss b nl2 false, boolx false, .dead], []))) .no
  | _, _ => .no
def Lsame (A : Ar) : Lp := fun k => match k with
  | 4 => some (28, [0, 1, 4, 5], LsameF A)
  | _ => none
def awakeF : List X → Tr X
  | [] => .give (boolx true)
  | _ => .no

def noO : OT := fun _ => none
def Ol1 (A : Ar) : OT := Oadd (Oadd noO 46 (.pure (cloneG A))) 45 (.pure endF)
def Ol2 (A : Ar) : OT := Oadd (Ol1 A) 70 (.ext (ixbF A))
def Ol3 (A : Ar) : OT := Oadd (Ol2 A) 48 (.pure (ixbF A))
def Ol4 (A : Ar) : OT := Oadd (Ol3 A) 47 (.pure (blF A))
def Ol5 (A : Ar) : OT := Oadd (Ol4 A) 69 (.pure (idxF A))
def Ol6 (A : Ar) : OT := Oadd (Oadd (Ol5 A) 44 (.eff piecesF)) 68 (.eff (seqF A))
def Ol7 (A : Ar) : OT := Oadd (Oadd (Ol6 A) 17 (.pure (splitF A))) 19 (.pure (fieldsF A))
def Ol8 (A : Ar) : OT := (Oadd (Ol7 A) 18 (.pure (bareF A)))
def Ol9 (A : Ar) : OT := (Ol8 A)

def k7 : Nat → Option Nat := fun _ => some 7
def k9 : Nat → Option Nat := fun _ => some 9

end Go.Proofs.YtaefpopjlmhmoaaDoor.V.L

/- Chapter 04, lines: each function's tree. By program; each equation is checked by the kernel. -/
namespace Go.Proofs.YtaefpopjlmhmoaaDoor.V.L
open Go
set_option linter.unusedVariables false
set_option linter.unusedSimpArgs false

theorem tClone (A : Ar) (b : List Int) (nl : Bool) : bodyX (Cx A noO noL) 100 Tryd.f46 [u8s b (some nl) false] [] =
    (bif nl then some (X.sl (Ty.int IntKind.u8) [] (some true) true, [])
    else
      bif decide (((0 : Nat) + List.length b) * (1 : Nat) ≤ (140737488355328 : Nat)) then
        some (X.sl (Ty.int IntKind.u8) ([] ++ b) (some (false && List.isEmpty b)) true, [])
      else none) := by kernel_rfl
theorem tEnd (A : Ar) (c : Int) : bodyX (Cx A noO noL) 100 Tryd.f45 [u8x c] [] =
    (some (X.d Ty.bool (c == (10 : Int)), [])) := by kernel_rfl
theorem tIxb (A : Ar) (xs : List Int) (nl : Option Bool) (c : Int) : bodyX (Cx A (Ol2 A) noL) 100 Tryd.f48 [u8s xs nl false, u8x c] [] =
    (bif
        A.se
          (decide (xs = [(32 : Int), (9 : Int)]) &&
            decide ((0 : Int) ≤ c ∧ c < (256 : Int))) then
      some
        (X.d (Ty.int IntKind.i64)
            (A.se
              (bif c == (32 : Int) then (0 : Int)
              else bif c == (9 : Int) then (1 : Int) else (-1 : Int))),
          [])
    else none) := by kernel_rfl
theorem tBl (A : Ar) (c : Int) : bodyX (Cx A (Ol3 A) noL) 100 Tryd.f47 [u8x c] [] =
    (bif
        A.se
          (decide ([(32 : Int), (9 : Int)] = [(32 : Int), (9 : Int)]) &&
            decide ((0 : Int) ≤ c ∧ c < (256 : Int))) then
      some
        (X.d Ty.bool
            (decide
              (A.se
                  (bif c == (32 : Int) then (0 : Int)
                  else bif c == (9 : Int) then (1 : Int) else (-1 : Int)) ≥
                (0 : Int))),
          [])
    else none) := by kernel_rfl
theorem lIdxE (A : Ar) (R : Type) (b : List Int) (nl : Option Bool) (z l i : Int) (k : Ex → List X → Hp → Option R) : stepF (Cx A (Ol4 A) (Lidx A)) 100 (loopAt Tryd.f69 0) 19 [0, 1, 4, 7, 8] [u8s b nl false, .fn 45 [] [], i64x z, i64x l, i64x i] [] k =
    (bif decide (i < l) then
      bif decide ((0 : Int) ≤ i ∧ i < (↑(List.length b) : Int)) then
        bif List.getD b (Int.toNat i) (0 : Int) == (10 : Int) then
          k Ex.ret
            [X.sl (Ty.int IntKind.u8) b nl false, X.fn (45 : Nat) [] [], X.d (Ty.int IntKind.i64) i,
              X.d (Ty.int IntKind.i64) l, X.d (Ty.int IntKind.i64) i]
            []
        else
          k Ex.normal
            [X.sl (Ty.int IntKind.u8) b nl false, X.fn (45 : Nat) [] [], X.d (Ty.int IntKind.i64) z,
              X.d (Ty.int IntKind.i64) l, X.d (Ty.int IntKind.i64) (A.wrap IntKind.i64 (i + (1 : Int)))]
            []
      else none
    else
      k (Ex.exit (0 : Nat))
        [X.sl (Ty.int IntKind.u8) b nl false, X.fn (45 : Nat) [] [], X.d (Ty.int IntKind.i64) z, X.d (Ty.int IntKind.i64) l,
          X.d (Ty.int IntKind.i64) i]
        []) := by kernel_rfl
theorem lIdxB (A : Ar) (R : Type) (b : List Int) (nl : Option Bool) (z l i : Int) (k : Ex → List X → Hp → Option R) : stepF (Cx A (Ol4 A) (Lidx A)) 100 (loopAt Tryd.f69 0) 19 [0, 1, 4, 7, 8] [u8s b nl false, .fn 47 [] [], i64x z, i64x l, i64x i] [] k =
    (bif decide (i < l) then
      bif decide ((0 : Int) ≤ i ∧ i < (↑(List.length b) : Int)) then
        bif
            A.se
              (decide
                ((0 : Int) ≤ List.getD b (Int.toNat i) (0 : Int) ∧
                  List.getD b (Int.toNat i) (0 : Int) < (256 : Int))) then
          bif A.se (isBl (List.getD b (Int.toNat i) (0 : Int))) then
            k Ex.ret
              [X.sl (Ty.int IntKind.u8) b nl false, X.fn (47 : Nat) [] [], X.d (Ty.int IntKind.i64) i,
                X.d (Ty.int IntKind.i64) l, X.d (Ty.int IntKind.i64) i]
              []
          else
            k Ex.normal
              [X.sl (Ty.int IntKind.u8) b nl false, X.fn (47 : Nat) [] [], X.d (Ty.int IntKind.i64) z,
                X.d (Ty.int IntKind.i64) l, X.d (Ty.int IntKind.i64) (A.wrap IntKind.i64 (i + (1 : Int)))]
              []
        else none
      else none
    else
      k (Ex.exit (0 : Nat))
        [X.sl (Ty.int IntKind.u8) b nl false, X.fn (47 : Nat) [] [], X.d (Ty.int IntKind.i64) z, X.d (Ty.int IntKind.i64) l,
          X.d (Ty.int IntKind.i64) i]
        []) := by kernel_rfl
theorem tIdxE (A : Ar) (b : List Int) (nl : Option Bool) : bodyX (Cx A (Ol4 A) (Lidx A)) 100 Tryd.f69 [u8s b nl false, .fn 45 [] []] [] =
    (bif
        A.se
          (bytesB b &&
            decide
              (List.length b ≤ (1000000000 : Nat) ∧
                (↑(List.length b) : Int) = (↑(List.length b) : Int) ∧
                  (0 : Int) ≤ (0 : Int) ∧ (0 : Int) ≤ (↑(List.length b) : Int))) then
      bif A.se (decide (idxP isEnd (List.drop (Int.toNat (0 : Int)) b) < (0 : Int))) then
        some (X.d (Ty.int IntKind.i64) (-1 : Int), [])
      else some (X.d (Ty.int IntKind.i64) (A.se ((0 : Int) + idxP isEnd (List.drop (Int.toNat (0 : Int)) b))), [])
    else none) := by kernel_rfl
theorem tIdxB (A : Ar) (b : List Int) (nl : Option Bool) : bodyX (Cx A (Ol4 A) (Lidx A)) 100 Tryd.f69 [u8s b nl false, .fn 47 [] []] [] =
    (bif
        A.se
          (bytesB b &&
            decide
              (List.length b ≤ (1000000000 : Nat) ∧
                (↑(List.length b) : Int) = (↑(List.length b) : Int) ∧
                  (0 : Int) ≤ (0 : Int) ∧ (0 : Int) ≤ (↑(List.length b) : Int))) then
      bif A.se (decide (idxP isBl (List.drop (Int.toNat (0 : Int)) b) < (0 : Int))) then
        some (X.d (Ty.int IntKind.i64) (-1 : Int), [])
      else some (X.d (Ty.int IntKind.i64) (A.se ((0 : Int) + idxP isBl (List.drop (Int.toNat (0 : Int)) b))), [])
    else none) := by kernel_rfl
theorem tPieces (A : Ar) (h : Ty × X) (b : List Int) (nl : Option Bool) (g : Nat) : bodyX (Cx A (Ol5 A) noL) 100 Tryd.f44 [u8s b nl false, .fn g [] []] [h] =
    (some
      (X.fn (68 : Nat) []
          [X.ptr (List.length [h]) [],
            X.ptr
              (List.length
                ([h] ++
                  [(Ty.slice (Ty.int IntKind.u8),
                      typed (Cx A (Ol5 A) noL) (22 : Nat)
                        (St.val
                          {
                            tm :=
                              [u8s b nl false, X.fn g [] []] ++
                                List.replicate ((6 : Nat) - List.length [u8s b nl false, X.fn g [] []]) X.undef,
                            H := [h] }
                          (Operand.tmp (0 : Nat))))]))
              []],
        [h, (Ty.slice (Ty.int IntKind.u8), X.sl (Ty.int IntKind.u8) b nl false), (Ty.any, X.fn g [] [])])) := by kernel_rfl
theorem tAll (A : Ar) (q : List Int) (nl : Option Bool) (out : List (List Int)) (x : Bool) (h1 h2 : Ty × X) : roundX (CxG A (Ol5 A) noL noY (fun _ => none) true) 100 7 3 [.ptr 0 []] [u8s q nl false] [(ssT, sss out (some x) true), h1, h2, (.unit, .rnd 7 [.ptr 0 []])] =
    (bif A.se (decide (List.length q ≤ (1000000000 : Nat)) && nlO nl q) then
      bif decide ((List.length out + List.length [q]) * (24 : Nat) ≤ (140737488355328 : Nat)) then
        some
          (true,
            [(ssT, X.sl sT (out ++ [q]) (some (x && List.isEmpty [q])) true), h1, h2,
              (Ty.unit, X.rnd (7 : Nat) [X.ptr (0 : Nat) []])])
      else none
    else none) := by kernel_rfl
theorem tFull (A : Ar) (q : List Int) (nl : Option Bool) (out : List (List Int)) (x : Bool) (h1 h2 : Ty × X) : roundX (CxG A (Ol5 A) noL noY (fun _ => none) true) 100 9 3 [.ptr 0 []] [u8s q nl false] [(ssT, sss out (some x) true), h1, h2, (.unit, .rnd 9 [.ptr 0 []])] =
    (bif decide ((↑(List.length q) : Int) > (0 : Int)) then
      bif A.se (decide (List.length q ≤ (1000000000 : Nat)) && nlO nl q) then
        bif decide ((List.length out + List.length [q]) * (24 : Nat) ≤ (140737488355328 : Nat)) then
          some
            (true,
              [(ssT, X.sl sT (out ++ [q]) (some (x && List.isEmpty [q])) true), h1, h2,
                (Ty.unit, X.rnd (9 : Nat) [X.ptr (0 : Nat) []])])
        else none
      else none
    else some (true, [(ssT, X.sl sT out (some x) true), h1, h2, (Ty.unit, X.rnd (9 : Nat) [X.ptr (0 : Nat) []])])) := by kernel_rfl
theorem lSeqE (A : Ar) (R : Type) (b : List Int) (nl : Option Bool) (i : Int) (out : List (List Int)) (x : Bool) (k : Ex → List X → Hp → Option R) : stepF (CxG A (Ol5 A) (Lseq A) (Ys A) (fun _ => none) false) 100 (loopAt Tryd.f68 0) 34 [0, 1, 2, 4] [.yld 3, .ptr 1 [], .ptr 2 [], i64x i] [(ssT, sss out (some x) true), (sT, u8s b nl false), (.any, .fn 45 [] []), (.unit, .rnd 7 [.ptr 0 []])] k =
    (bif decide (i ≤ (↑(List.length b) : Int)) then
      bif decide ((0 : Int) ≤ i ∧ i ≤ (↑(List.length b) : Int)) then
        bif
            A.se
              (bytesB (List.drop (Int.toNat i) b) &&
                decide (List.length (List.drop (Int.toNat i) b) ≤ (1000000000 : Nat))) then
          bif decide (A.se (idxP isEnd (List.drop (Int.toNat i) b)) < (0 : Int)) then
            bif
                decide
                  ((0 : Int) ≤
                      A.wrap IntKind.i64 (i + A.wrap IntKind.i64 ((↑(List.length b) : Int) - i)) ∧
                    A.wrap IntKind.i64 (i + A.wrap IntKind.i64 ((↑(List.length b) : Int) - i)) ≤
                      (↑(List.length b) : Int)) then
              bif
                  decide
                    ((0 : Int) ≤ i ∧
                      i ≤ A.wrap IntKind.i64 (i + A.wrap IntKind.i64 ((↑(List.length b) : Int) - i))) then
                bif
                    A.se
                      (decide
                          (List.length
                                (List.drop (Int.toNat i)
                                  (List.take
                                    (Int.toNat (A.wrap IntKind.i64 (i + A.wrap IntKind.i64 ((↑(List.length b) : Int) - i))))
                                    b)) ≤
                              (1000000000 : Nat) ∧
                            List.length out ≤ (1000000 : Nat)) &&
                        nlO nl
                          (List.drop (Int.toNat i)
                            (List.take
                              (Int.toNat (A.wrap IntKind.i64 (i + A.wrap IntKind.i64 ((↑(List.length b) : Int) - i))))
                              b))) then
                  k Ex.normal
                    [X.yld (3 : Nat), X.ptr (1 : Nat) [], X.ptr (2 : Nat) [],
                      X.d (Ty.int IntKind.i64)
                        (A.wrap IntKind.i64
                          (i + A.wrap IntKind.i64 (A.wrap IntKind.i64 ((↑(List.length b) : Int) - i) + (1 : Int))))]
                    [(ssT,
                        X.sl sT
                          (out ++
                            [List.drop (Int.toNat i)
                                (List.take
                                  (Int.toNat (A.wrap IntKind.i64 (i + A.wrap IntKind.i64 ((↑(List.length b) : Int) - i))))
                                  b)])
                          (some (A.se false)) true),
                      (sT, X.sl (Ty.int IntKind.u8) b nl false), (Ty.any, X.fn (45 : Nat) [] []),
                      (Ty.unit, X.rnd (7 : Nat) [X.ptr (0 : Nat) []])]
                else none
              else none
            else none
          else
            bif
                decide
                  ((0 : Int) ≤
                      A.wrap IntKind.i64 (i + A.se (idxP isEnd (List.drop (Int.toNat i) b))) ∧
                    A.wrap IntKind.i64 (i + A.se (idxP isEnd (List.drop (Int.toNat i) b))) ≤ (↑(List.length b) : Int)) then
              bif
                  decide
                    ((0 : Int) ≤ i ∧
                      i ≤ A.wrap IntKind.i64 (i + A.se (idxP isEnd (List.drop (Int.toNat i) b)))) then
                bif
                    A.se
                      (decide
                          (List.length
                                (List.drop (Int.toNat i)
                                  (List.take
                                    (Int.toNat (A.wrap IntKind.i64 (i + A.se (idxP isEnd (List.drop (Int.toNat i) b)))))
                                    b)) ≤
                              (1000000000 : Nat) ∧
                            List.length out ≤ (1000000 : Nat)) &&
                        nlO nl
                          (List.drop (Int.toNat i)
                            (List.take (Int.toNat (A.wrap IntKind.i64 (i + A.se (idxP isEnd (List.drop (Int.toNat i) b)))))
                              b))) then
                  k Ex.normal
                    [X.yld (3 : Nat), X.ptr (1 : Nat) [], X.ptr (2 : Nat) [],
                      X.d (Ty.int IntKind.i64)
                        (A.wrap IntKind.i64
                          (i + A.wrap IntKind.i64 (A.se (idxP isEnd (List.drop (Int.toNat i) b)) + (1 : Int))))]
                    [(ssT,
                        X.sl sT
                          (out ++
                            [List.drop (Int.toNat i)
                                (List.take
                                  (Int.toNat (A.wrap IntKind.i64 (i + A.se (idxP isEnd (List.drop (Int.toNat i) b))))) b)])
                          (some (A.se false)) true),
                      (sT, X.sl (Ty.int IntKind.u8) b nl false), (Ty.any, X.fn (45 : Nat) [] []),
                      (Ty.unit, X.rnd (7 : Nat) [X.ptr (0 : Nat) []])]
                else none
              else none
            else none
        else none
      else none
    else
      k (Ex.exit (0 : Nat)) [X.yld (3 : Nat), X.ptr (1 : Nat) [], X.ptr (2 : Nat) [], X.d (Ty.int IntKind.i64) i]
        [(ssT, X.sl sT out (some x) true), (sT, X.sl (Ty.int IntKind.u8) b nl false), (Ty.any, X.fn (45 : Nat) [] []),
          (Ty.unit, X.rnd (7 : Nat) [X.ptr (0 : Nat) []])]) := by kernel_rfl
theorem lSeqB (A : Ar) (R : Type) (b : List Int) (nl : Option Bool) (i : Int) (out : List (List Int)) (x : Bool) (k : Ex → List X → Hp → Option R) : stepF (CxG A (Ol5 A) (Lseq A) (Ys A) (fun _ => none) false) 100 (loopAt Tryd.f68 0) 34 [0, 1, 2, 4] [.yld 3, .ptr 1 [], .ptr 2 [], i64x i] [(ssT, sss out (some x) true), (sT, u8s b nl false), (.any, .fn 47 [] []), (.unit, .rnd 9 [.ptr 0 []])] k =
    (bif decide (i ≤ (↑(List.length b) : Int)) then
      bif decide ((0 : Int) ≤ i ∧ i ≤ (↑(List.length b) : Int)) then
        bif
            A.se
              (bytesB (List.drop (Int.toNat i) b) &&
                decide (List.length (List.drop (Int.toNat i) b) ≤ (1000000000 : Nat))) then
          bif decide (A.se (idxP isBl (List.drop (Int.toNat i) b)) < (0 : Int)) then
            bif
                decide
                  ((0 : Int) ≤
                      A.wrap IntKind.i64 (i + A.wrap IntKind.i64 ((↑(List.length b) : Int) - i)) ∧
                    A.wrap IntKind.i64 (i + A.wrap IntKind.i64 ((↑(List.length b) : Int) - i)) ≤
                      (↑(List.length b) : Int)) then
              bif
                  decide
                    ((0 : Int) ≤ i ∧
                      i ≤ A.wrap IntKind.i64 (i + A.wrap IntKind.i64 ((↑(List.length b) : Int) - i))) then
                bif
                    A.se
                      (decide
                          (List.length
                                (List.drop (Int.toNat i)
                                  (List.take
                                    (Int.toNat (A.wrap IntKind.i64 (i + A.wrap IntKind.i64 ((↑(List.length b) : Int) - i))))
                                    b)) ≤
                              (1000000000 : Nat) ∧
                            List.length out ≤ (1000000 : Nat)) &&
                        nlO nl
                          (List.drop (Int.toNat i)
                            (List.take
                              (Int.toNat (A.wrap IntKind.i64 (i + A.wrap IntKind.i64 ((↑(List.length b) : Int) - i))))
                              b))) then
                  k Ex.normal
                    [X.yld (3 : Nat), X.ptr (1 : Nat) [], X.ptr (2 : Nat) [],
                      X.d (Ty.int IntKind.i64)
                        (A.wrap IntKind.i64
                          (i + A.wrap IntKind.i64 (A.wrap IntKind.i64 ((↑(List.length b) : Int) - i) + (1 : Int))))]
                    [(ssT,
                        X.sl sT
                          (A.se
                            (out ++
                              full
                                [List.drop (Int.toNat i)
                                    (List.take
                                      (Int.toNat
                                        (A.wrap IntKind.i64 (i + A.wrap IntKind.i64 ((↑(List.length b) : Int) - i))))
                                      b)]))
                          (some
                            (A.se
                              (x &&
                                List.isEmpty
                                  (List.drop (Int.toNat i)
                                    (List.take
                                      (Int.toNat
                                        (A.wrap IntKind.i64 (i + A.wrap IntKind.i64 ((↑(List.length b) : Int) - i))))
                                      b)))))
                          true),
                      (sT, X.sl (Ty.int IntKind.u8) b nl false), (Ty.any, X.fn (47 : Nat) [] []),
                      (Ty.unit, X.rnd (9 : Nat) [X.ptr (0 : Nat) []])]
                else none
              else none
            else none
          else
            bif
                decide
                  ((0 : Int) ≤
                      A.wrap IntKind.i64 (i + A.se (idxP isBl (List.drop (Int.toNat i) b))) ∧
                    A.wrap IntKind.i64 (i + A.se (idxP isBl (List.drop (Int.toNat i) b))) ≤ (↑(List.length b) : Int)) then
              bif
                  decide
                    ((0 : Int) ≤ i ∧
                      i ≤ A.wrap IntKind.i64 (i + A.se (idxP isBl (List.drop (Int.toNat i) b)))) then
                bif
                    A.se
                      (decide
                          (List.length
                                (List.drop (Int.toNat i)
                                  (List.take
                                    (Int.toNat (A.wrap IntKind.i64 (i + A.se (idxP isBl (List.drop (Int.toNat i) b)))))
                                    b)) ≤
                              (1000000000 : Nat) ∧
                            List.length out ≤ (1000000 : Nat)) &&
                        nlO nl
                          (List.drop (Int.toNat i)
                            (List.take (Int.toNat (A.wrap IntKind.i64 (i + A.se (idxP isBl (List.drop (Int.toNat i) b)))))
                              b))) then
                  k Ex.normal
                    [X.yld (3 : Nat), X.ptr (1 : Nat) [], X.ptr (2 : Nat) [],
                      X.d (Ty.int IntKind.i64)
                        (A.wrap IntKind.i64
                          (i + A.wrap IntKind.i64 (A.se (idxP isBl (List.drop (Int.toNat i) b)) + (1 : Int))))]
                    [(ssT,
                        X.sl sT
                          (A.se
                            (out ++
                              full
                                [List.drop (Int.toNat i)
                                    (List.take
                                      (Int.toNat (A.wrap IntKind.i64 (i + A.se (idxP isBl (List.drop (Int.toNat i) b)))))
                                      b)]))
                          (some
                            (A.se
                              (x &&
                                List.isEmpty
                                  (List.drop (Int.toNat i)
                                    (List.take
                                      (Int.toNat (A.wrap IntKind.i64 (i + A.se (idxP isBl (List.drop (Int.toNat i) b)))))
                                      b)))))
                          true),
                      (sT, X.sl (Ty.int IntKind.u8) b nl false), (Ty.any, X.fn (47 : Nat) [] []),
                      (Ty.unit, X.rnd (9 : Nat) [X.ptr (0 : Nat) []])]
                else none
              else none
            else none
        else none
      else none
    else
      k (Ex.exit (0 : Nat)) [X.yld (3 : Nat), X.ptr (1 : Nat) [], X.ptr (2 : Nat) [], X.d (Ty.int IntKind.i64) i]
        [(ssT, X.sl sT out (some x) true), (sT, X.sl (Ty.int IntKind.u8) b nl false), (Ty.any, X.fn (47 : Nat) [] []),
          (Ty.unit, X.rnd (9 : Nat) [X.ptr (0 : Nat) []])]) := by kernel_rfl
theorem tSeqE (A : Ar) (b : List Int) (nl : Option Bool) (out : List (List Int)) (x : Bool) : bodyX (CxG A (Ol5 A) (Lseq A) (Ys A) (fun _ => none) false) 100 Tryd.f68 [.yld 3, .ptr 1 [], .ptr 2 []] [(ssT, sss out (some x) true), (sT, u8s b nl false), (.any, .fn 45 [] []), (.unit, .rnd 7 [.ptr 0 []])] =
    (bif
        A.se
          (bytesB b &&
            (nlO nl b &&
              (decide (kOf (7 : Nat) = some (45 : Nat)) &&
                decide
                  (List.length b + List.length out ≤ (100000 : Nat) ∧
                    (0 : Int) ≤ (0 : Int) ∧
                      (0 : Int) ≤
                        (↑(List.length b) : Int) + (1 : Int))))) then
      some
        (X.tup [],
          [(ssT,
              X.sl sT (A.se (out ++ tk (7 : Nat) (pcs isEnd b (Int.toNat (0 : Int)))))
                (some (A.se (x && List.isEmpty (tk (7 : Nat) (pcs isEnd b (Int.toNat (0 : Int))))))) true),
            (sT, X.sl (Ty.int IntKind.u8) b nl false), (Ty.any, X.fn (45 : Nat) [] []),
            (Ty.unit, X.rnd (7 : Nat) [X.ptr (0 : Nat) []])])
    else none) := by kernel_rfl
theorem tSeqB (A : Ar) (b : List Int) (nl : Option Bool) (out : List (List Int)) (x : Bool) : bodyX (CxG A (Ol5 A) (Lseq A) (Ys A) (fun _ => none) false) 100 Tryd.f68 [.yld 3, .ptr 1 [], .ptr 2 []] [(ssT, sss out (some x) true), (sT, u8s b nl false), (.any, .fn 47 [] []), (.unit, .rnd 9 [.ptr 0 []])] =
    (bif
        A.se
          (bytesB b &&
            (nlO nl b &&
              (decide (kOf (9 : Nat) = some (47 : Nat)) &&
                decide
                  (List.length b + List.length out ≤ (100000 : Nat) ∧
                    (0 : Int) ≤ (0 : Int) ∧
                      (0 : Int) ≤
                        (↑(List.length b) : Int) + (1 : Int))))) then
      some
        (X.tup [],
          [(ssT,
              X.sl sT (A.se (out ++ tk (9 : Nat) (pcs isBl b (Int.toNat (0 : Int)))))
                (some (A.se (x && List.isEmpty (tk (9 : Nat) (pcs isBl b (Int.toNat (0 : Int))))))) true),
            (sT, X.sl (Ty.int IntKind.u8) b nl false), (Ty.any, X.fn (47 : Nat) [] []),
            (Ty.unit, X.rnd (9 : Nat) [X.ptr (0 : Nat) []])])
    else none) := by kernel_rfl
theorem tSplit (A : Ar) (b : List Int) (nl : Option Bool) : bodyX (CxG A (Ol6 A) noL noY k7 false) 100 Tryd.f17 [u8s b nl false] [] =
    (bif
        A.se
          (bytesB b &&
            (nlO nl b &&
              (decide (kOf (7 : Nat) = some (45 : Nat)) && decide (List.length b + (0 : Nat) ≤ (100000 : Nat))))) then
      bif
          decide
            ((0 : Int) ≤ A.wrap IntKind.i64 ((↑(List.length (A.se ([] ++ tk (7 : Nat) (cut isEnd b)))) : Int) - (1 : Int)) ∧
              A.wrap IntKind.i64 ((↑(List.length (A.se ([] ++ tk (7 : Nat) (cut isEnd b)))) : Int) - (1 : Int)) <
                (↑(List.length (A.se ([] ++ tk (7 : Nat) (cut isEnd b)))) : Int)) then
        bif
            (↑(List.length
                    (List.getD (A.se ([] ++ tk (7 : Nat) (cut isEnd b)))
                      (Int.toNat
                        (A.wrap IntKind.i64 ((↑(List.length (A.se ([] ++ tk (7 : Nat) (cut isEnd b)))) : Int) - (1 : Int))))
                      (Ty.zero sT))) :
                Int) ==
              (0 : Int) then
          bif
              decide
                ((0 : Int) ≤
                    A.wrap IntKind.i64 ((↑(List.length (A.se ([] ++ tk (7 : Nat) (cut isEnd b)))) : Int) - (1 : Int)) ∧
                  A.wrap IntKind.i64 ((↑(List.length (A.se ([] ++ tk (7 : Nat) (cut isEnd b)))) : Int) - (1 : Int)) ≤
                    (↑(List.length (A.se ([] ++ tk (7 : Nat) (cut isEnd b)))) : Int)) then
            some
              (X.sl sT
                  (List.take
                    (Int.toNat
                      (A.wrap IntKind.i64 ((↑(List.length (A.se ([] ++ tk (7 : Nat) (cut isEnd b)))) : Int) - (1 : Int))))
                    (A.se ([] ++ tk (7 : Nat) (cut isEnd b))))
                  (some (A.se (true && List.isEmpty (tk (7 : Nat) (cut isEnd b))))) false,
                [(ssT,
                    X.sl sT
                      (List.take
                        (Int.toNat
                          (A.wrap IntKind.i64
                            ((↑(List.length (A.se ([] ++ tk (7 : Nat) (cut isEnd b)))) : Int) - (1 : Int))))
                        (A.se ([] ++ tk (7 : Nat) (cut isEnd b))))
                      (some (A.se (true && List.isEmpty (tk (7 : Nat) (cut isEnd b))))) false),
                  (sT, X.sl (Ty.int IntKind.u8) b nl false), (Ty.any, X.fn (45 : Nat) [] []), (Ty.unit, X.dead)])
          else none
        else
          some
            (X.sl sT (A.se ([] ++ tk (7 : Nat) (cut isEnd b)))
                (some (A.se (true && List.isEmpty (tk (7 : Nat) (cut isEnd b))))) false,
              [(ssT,
                  X.sl sT (A.se ([] ++ tk (7 : Nat) (cut isEnd b)))
                    (some (A.se (true && List.isEmpty (tk (7 : Nat) (cut isEnd b))))) false),
                (sT, X.sl (Ty.int IntKind.u8) b nl false), (Ty.any, X.fn (45 : Nat) [] []), (Ty.unit, X.dead)])
      else none
    else none) := by kernel_rfl
theorem tFields (A : Ar) (b : List Int) (nl : Option Bool) : bodyX (CxG A (Ol6 A) noL noY k9 false) 100 Tryd.f19 [u8s b nl false] [] =
    (bif
        A.se
          (bytesB b &&
            (nlO nl b &&
              (decide (kOf (9 : Nat) = some (47 : Nat)) && decide (List.length b + (0 : Nat) ≤ (100000 : Nat))))) then
      some
        (X.sl sT (A.se ([] ++ tk (9 : Nat) (cut isBl b))) (some (A.se (true && List.isEmpty (tk (9 : Nat) (cut isBl b)))))
            false,
          [(ssT,
              X.sl sT (A.se ([] ++ tk (9 : Nat) (cut isBl b)))
                (some (A.se (true && List.isEmpty (tk (9 : Nat) (cut isBl b))))) false),
            (sT, X.sl (Ty.int IntKind.u8) b nl false), (Ty.any, X.fn (47 : Nat) [] []), (Ty.unit, X.dead)])
    else none) := by kernel_rfl
theorem tBare (A : Ar) (b : List Int) (nl : Option Bool) : bodyX (Cx A (Ol7 A) noL) 100 Tryd.f18 [u8s b nl false] [] =
    (bif Ok A b nl then
      bif ((↑(List.length (A.se (fieldsL b))) : Int) == (0 : Int)) == false then
        bif decide ((0 : Int) ≤ (0 : Int) ∧ (0 : Int) < (↑(List.length (A.se (fieldsL b))) : Int)) then
          bif
              decide
                ((0 : Int) ≤ (0 : Int) ∧
                  (0 : Int) < (↑(List.length (List.getD (A.se (fieldsL b)) (Int.toNat (0 : Int)) (Ty.zero sT))) : Int)) then
            some
              (X.d Ty.bool
                  (List.getD (List.getD (A.se (fieldsL b)) (Int.toNat (0 : Int)) (Ty.zero sT)) (Int.toNat (0 : Int))
                      (0 : Int) ==
                    (35 : Int)),
                [])
          else none
        else none
      else some (X.d Ty.bool true, [])
    else none) := by kernel_rfl
end Go.Proofs.YtaefpopjlmhmoaaDoor.V.L

/- Chapter 04, lines: the functions do what they tell: bytes, pieces. -/
namespace Go.Proofs.YtaefpopjlmhmoaaDoor.V.L
open Go
set_option linter.unusedVariables false
set_option linter.unusedSimpArgs false

theorem Tr.run_test {α : Type} {c : Bool} {a : Tr α} {r : α} (h : (Tr.test c a .no).run some = some r) : c = true ∧ a.run some = some r := by
  cases c
  · cases h
  · exact ⟨rfl, h⟩

theorem o_no : OOk noO := fun _ _ h => by cases h

theorem clone_ok0 : OrcOk Tryd.prog 46 (.pure (cloneF Ar.real)) := by
  refine pureOk (Cx.ok o_no noL) mixed 46 Tryd.f46 (by kernel_rfl) (by kernel_rfl) (by kernel_rfl) 100 0 (by kernel_rfl) (fun i h => by omega) fun args r h => ?_
  unfold cloneF at h
  split at h
  · rename_i b nl
    obtain ⟨hg, rfl⟩ := Tr.one h
    refine ⟨rfl, rfl, [], ?_⟩
    rw [tClone]
    simp only [rw_se, Bool.and_eq_true, decide_eq_true_eq] at hg
    obtain ⟨h1, h2⟩ := hg
    cases nl
    · rw [bf rfl, bt (by simp; omega)]
      simp [u8s]
    · have := nlB_nil h2 rfl
      simp [this]
  · cases h

theorem clone_ok : OrcOk Tryd.prog 46 (.pure (cloneG Ar.real)) := by
  have h0 : PureOk Tryd.prog 46 fun args => (cloneF Ar.real args).run some := clone_ok0
  refine h0.anyNl fun args r h => ?_
  unfold cloneG at h
  split at h
  · rename_i b nl
    obtain ⟨hg, rfl⟩ := Tr.one h
    simp only [rw_se, Bool.and_eq_true, decide_eq_true_eq] at hg
    obtain ⟨h1, h2⟩ := hg
    have key : ∀ x, nlB x b = true → (cloneF Ar.real [u8s b (some x) false]).run some = some (u8s b (some x) true) := by
      intro x hx
      unfold cloneF
      simp only [rw_se, Tr.run]
      rw [bt (by rw [Bool.and_eq_true, decide_eq_true_eq]; exact ⟨h1, hx⟩)]
    cases nl with
    | some x =>
      refine .inl (key x ?_)
      cases x
      · rfl
      · simpa [nlO, nlB] using h2
    | none =>
      refine .inr ⟨_, b, [], rfl, fun hb => ⟨_, key true (by simp [nlB, hb]), .inl (Wk1.sl (.inl rfl) (fun _ => rfl))⟩, _, key false rfl, .inl (Wk1.sl (.inl rfl) (fun _ => rfl))⟩
  · cases h

theorem end_ok : OrcOk Tryd.prog 45 (.pure endF) := by
  refine pureOk (Cx.ok o_no noL) mixed 45 Tryd.f45 (by kernel_rfl) (by kernel_rfl) (by kernel_rfl) 100 0 (by kernel_rfl) (fun i h => by omega) fun args r h => ?_
  unfold endF at h
  split at h
  · cases h
    exact ⟨rfl, rfl, [], tEnd _ _⟩
  · cases h

theorem o1 : OOk (Ol1 Ar.real) := (o_no.add clone_ok).add end_ok

theorem ext_ok : OrcOk Tryd.prog 70 (.ext (ixbF Ar.real)) := by
  intro args r h0 g w dh vs hw ha
  have h : (ixbF Ar.real args).run some = some r := h0
  clear h0
  unfold ixbF at h
  split at h
  · rename_i xs nl c
    obtain ⟨hg, rfl⟩ := Tr.one h
    simp only [rw_se, Bool.and_eq_true, decide_eq_true_eq] at hg
    obtain ⟨rfl, h1, h2⟩ := hg
    simp only [RepXs] at ha
    obtain ⟨v1, us, rfl, k1, v2, us2, rfl, k2, rfl⟩ := ha
    rw [RepX.int_iff] at k2
    subst k2
    have hrun : ∀ v, (Extern.BytealgIndexByte.indexByte #[v1, .int .u8 c]).run Tryd.prog w = .ok v w → (callFunc 70 #[v1, .int .u8 c]).run Tryd.prog w = .ok (.value v) w := by
      intro v hv
      rw [run_callFunc_extern (fn := Tryd.f70) (e := Extern.BytealgIndexByte.indexByte) (by kernel_rfl) (by kernel_rfl) (by kernel_rfl) (by kernel_rfl) (by kernel_rfl), hv]
      rfl
    simp only [RepX] at k1
    obtain ⟨a, cp, rfl, k3, k4, _⟩ := k1
    obtain ⟨A, cs, rfl, hs, _⟩ := k4 0 (by simp)
    obtain ⟨b, o, sp⟩ := A
    simp only at hs
    subst hs
    obtain ⟨cs, q1, q2, q3⟩ := Run.cells k4 (by decide)
    have hcs := Parts.ints [32, 9] cs q1
    refine ⟨_, hrun _ (Lib.run_indexByteSlice w b o 2 cp [32, 9] rfl (fun i hi => ?_) c), ?_⟩
    · subst hcs
      obtain ⟨e1, _⟩ := q3 _ rfl i (by simpa using hi)
      refine e1.trans ?_
      have h01 : i = 0 ∨ i = 1 := by omega
      rcases h01 with rfl | rfl <;> rfl
    · rw [RepX.int_iff, rw_se]
      congr 1
      obtain ⟨n, rfl⟩ : ∃ n : Nat, c = (n : Int) := Int.eq_ofNat_of_zero_le h1
      have hn : (n : Int) < 256 := h2
      have e : ∀ m : Nat, m < 256 → ((UInt8.ofNat m == n.toUInt8) = ((n : Int) == (m : Int))) := by
        intro m hm
        rw [Bool.eq_iff_iff, beq_iff_eq, beq_iff_eq, ← UInt8.toNat_inj]
        simp only [UInt8.toNat_ofNat', Nat.toUInt8_eq]
        omega
      show Lib.indexByte [UInt8.ofNat 32, UInt8.ofNat 9] n.toUInt8 = _
      simp only [Lib.indexByte, e 32 (by decide), e 9 (by decide)]
      rw [show ((32 : Nat) : Int) = 32 from rfl, show ((9 : Nat) : Int) = 9 from rfl]
      cases h3 : (n : Int) == 32 <;> cases h4 : (n : Int) == 9 <;> rfl
  · cases h

theorem o2 : OOk (Ol2 Ar.real) := o1.add ext_ok

theorem ixb_ok : OrcOk Tryd.prog 48 (.pure (ixbF Ar.real)) := by
  refine pureOk (Cx.ok o2 noL) mixed 48 Tryd.f48 (by kernel_rfl) (by kernel_rfl) (by kernel_rfl) 100 0 (by kernel_rfl) (fun i h => by omega) fun args r h => ?_
  unfold ixbF at h
  split at h
  · rename_i xs nl c
    obtain ⟨hg, rfl⟩ := Tr.one h
    exact ⟨rfl, rfl, [], by rw [tIxb, bt hg]⟩
  · cases h

theorem o3 : OOk (Ol3 Ar.real) := o2.add ixb_ok

theorem bl_ok : OrcOk Tryd.prog 47 (.pure (blF Ar.real)) := by
  refine pureOk (Cx.ok o3 noL) mixed 47 Tryd.f47 (by kernel_rfl) (by kernel_rfl) (by kernel_rfl) 100 0 (by kernel_rfl) (fun i h => by omega) fun args r h => ?_
  unfold blF at h
  split at h
  · rename_i c
    obtain ⟨hg, rfl⟩ := Tr.one h
    refine ⟨rfl, rfl, [], ?_⟩
    rw [tBl]
    simp only [rw_se] at hg ⊢
    rw [bt (by simp [hg])]
    congr 3
    unfold isBl
    cases h1 : c == 32 <;> cases h2 : c == 9 <;> rfl
  · cases h

theorem o4 : OOk (Ol4 Ar.real) := o3.add bl_ok

theorem byte_at {b : List Int} (h : bytesB b = true) {i : Nat} (hi : i < b.length) : 0 ≤ b.getD i 0 ∧ b.getD i 0 < 256 := by
  rw [bytesB_iff] at h
  rw [List.getD_eq_getElem?_getD, List.getElem?_eq_getElem hi]
  exact h _ (List.getElem_mem hi)

theorem idxP_cons (p : Int → Bool) {b : List Int} {i : Nat} (hi : i < b.length) :
    idxP p (b.drop i) = bif p (b.getD i 0) then 0 else bif idxP p (b.drop (i + 1)) == -1 then -1 else idxP p (b.drop (i + 1)) + 1 := by
  rw [drop_cons hi]
  rfl

theorem loopIdx (g : Nat) (p : Int → Bool) (hstep : ∀ (R : Type) (b : List Int) (nl : Option Bool) (z : Int) (i : Nat) (k : Ex → List X → Hp → Option R), bytesB b = true → i < b.length → b.length ≤ 1000000000 →
      stepF (Cx Ar.real (Ol4 Ar.real) (Lidx Ar.real)) 100 (loopAt Tryd.f69 0) 19 [0, 1, 4, 7, 8] [u8s b nl false, .fn g [] [], i64x z, i64x b.length, i64x i] [] k =
        bif p (b.getD i 0) then k .ret [u8s b nl false, .fn g [] [], i64x i, i64x b.length, i64x i] [] else k .normal [u8s b nl false, .fn g [] [], i64x z, i64x b.length, i64x ((i + 1 : Nat) : Int)] [])
    (hdone : ∀ (R : Type) (b : List Int) (nl : Option Bool) (z : Int) (k : Ex → List X → Hp → Option R),
      stepF (Cx Ar.real (Ol4 Ar.real) (Lidx Ar.real)) 100 (loopAt Tryd.f69 0) 19 [0, 1, 4, 7, 8] [u8s b nl false, .fn g [] [], i64x z, i64x b.length, i64x b.length] [] k = k (.exit 0) [u8s b nl false, .fn g [] [], i64x z, i64x b.length, i64x b.length] [])
    (b : List Int) (nl : Option Bool) (z : Int) (hb : bytesB b = true) (hl : b.length ≤ 1000000000) : ∀ (n i : Nat), b.length - i = n → i ≤ b.length →
    LoopTo (Cx Ar.real (Ol4 Ar.real) (Lidx Ar.real)) 100 (loopAt Tryd.f69 0) 19 [0, 1, 4, 7, 8] [u8s b nl false, .fn g [] [], i64x z, i64x b.length, i64x i] []
      (bif decide (idxP p (b.drop i) < 0) then (.exit 0, [u8s b nl false, .fn g [] [], i64x z, i64x b.length, .dead], []) else (.ret, [u8s b nl false, .fn g [] [], i64x (i + idxP p (b.drop i)), i64x b.length, .dead], [])) := by
  have hf : ∀ (u v w x : X), Forget [u, v, w, x, i64x (0 : Int)] [u, v, w, x, i64x 0] := fun _ _ _ _ => Forget.same _
  have hfd : ∀ (u v w x y : X), Forget [u, v, w, x, y] [u, v, w, x, .dead] := fun u v w x y => by
    repeat' first | exact Forget.same _ | refine Forget.cons (.inl rfl) ?_ | refine Forget.cons (.inr rfl) ?_
  intro n
  induction n with
  | zero =>
    intro i h1 h2
    obtain rfl : i = b.length := by omega
    rw [List.drop_length, show idxP p [] = -1 from rfl, bt (by decide)]
    exact LoopTo.left (by simp) fun k => ⟨_, hdone _ b nl z k, hfd _ _ _ _ _⟩
  | succ n ih =>
    intro i h1 h2
    have hi : i < b.length := by omega
    rw [idxP_cons p hi]
    cases hp : p (b.getD i 0) with
    | true =>
      rw [show (bif true then (0 : Int) else bif idxP p (b.drop (i + 1)) == -1 then -1 else idxP p (b.drop (i + 1)) + 1) = 0 from rfl, bf (by decide), Int.add_zero]
      exact LoopTo.left (by simp) fun k => ⟨_, by rw [hstep _ b nl z i k hb hi hl, hp]; rfl, hfd _ _ _ _ _⟩
    | false =>
      refine LoopTo.next (fun k => by rw [hstep _ b nl z i k hb hi hl, hp]; rfl) ?_
      have := ih (i + 1) (by omega) (by omega)
      have hge := idxP_ge p (b.drop (i + 1))
      cases he : idxP p (b.drop (i + 1)) == -1 with
      | true =>
        have he' : idxP p (b.drop (i + 1)) = -1 := by simpa using he
        rw [he', bt (by decide)] at this
        simpa only [cond_false, cond_true, decide_true, Int.reduceNeg, show decide ((-1 : Int) < 0) = true from rfl] using this
      | false =>
        have he' : idxP p (b.drop (i + 1)) ≠ -1 := by simpa using he
        rw [bf (by rw [decide_eq_false_iff_not]; omega)] at this
        simp only [cond_false]
        rw [bf (by rw [decide_eq_false_iff_not]; omega)]
        have e : ((i + 1 : Nat) : Int) + idxP p (b.drop (i + 1)) = (i : Int) + (idxP p (b.drop (i + 1)) + 1) := by omega
        rw [e] at this
        exact this

theorem wnext {i : Nat} (h : i < 4000000000000) : Ar.real.wrap .i64 ((i : Int) + 1) = ((i + 1 : Nat) : Int) := by
  rw [rw_wrap, wi64 (by omega) (by omega)]; rfl

theorem stepE (R : Type) (b : List Int) (nl : Option Bool) (z : Int) (i : Nat) (k : Ex → List X → Hp → Option R) (hb : bytesB b = true) (hi : i < b.length) (hl : b.length ≤ 1000000000) :
    stepF (Cx Ar.real (Ol4 Ar.real) (Lidx Ar.real)) 100 (loopAt Tryd.f69 0) 19 [0, 1, 4, 7, 8] [u8s b nl false, .fn 45 [] [], i64x z, i64x b.length, i64x i] [] k =
      bif isEnd (b.getD i 0) then k .ret [u8s b nl false, .fn 45 [] [], i64x i, i64x b.length, i64x i] [] else k .normal [u8s b nl false, .fn 45 [] [], i64x z, i64x b.length, i64x ((i + 1 : Nat) : Int)] [] := by
  rw [lIdxE, bt (by rw [decide_eq_true_eq]; omega), bt (by rw [decide_eq_true_eq]; omega), Int.toNat_natCast, wnext (by omega)]
  rfl
theorem stepB (R : Type) (b : List Int) (nl : Option Bool) (z : Int) (i : Nat) (k : Ex → List X → Hp → Option R) (hb : bytesB b = true) (hi : i < b.length) (hl : b.length ≤ 1000000000) :
    stepF (Cx Ar.real (Ol4 Ar.real) (Lidx Ar.real)) 100 (loopAt Tryd.f69 0) 19 [0, 1, 4, 7, 8] [u8s b nl false, .fn 47 [] [], i64x z, i64x b.length, i64x i] [] k =
      bif isBl (b.getD i 0) then k .ret [u8s b nl false, .fn 47 [] [], i64x i, i64x b.length, i64x i] [] else k .normal [u8s b nl false, .fn 47 [] [], i64x z, i64x b.length, i64x ((i + 1 : Nat) : Int)] [] := by
  have h0 := byte_at hb hi
  rw [lIdxB, bt (by rw [decide_eq_true_eq]; omega), bt (by rw [decide_eq_true_eq]; omega), Int.toNat_natCast, wnext (by omega), rw_se, bt (by rw [decide_eq_true_eq]; exact h0), rw_se]

theorem idx_ok : OrcOk Tryd.prog 69 (.pure (idxF Ar.real)) := by
  refine pureOk (Cx.ok o4 (Lidx Ar.real)) mixed 69 Tryd.f69 (by kernel_rfl) (by kernel_rfl) (by kernel_rfl) 100 1 (by kernel_rfl) (fun i h => ?_) fun args r h => ?_
  · obtain rfl : i = 0 := by omega
    refine Tells.mk (key := 2) (by kernel_rfl) rfl fun xs H r h => ?_
    unfold LidxF at h
    split at h
    · rename_i b nl g z l i
      split at h
      · rename_i p hp
        obtain ⟨hg, h⟩ := Tr.run_test h
        simp only [rw_se, Bool.and_eq_true, decide_eq_true_eq] at hg
        obtain ⟨hb, h1, rfl, h2, h3⟩ := hg
        obtain ⟨i, rfl⟩ : ∃ n : Nat, i = (n : Int) := Int.eq_ofNat_of_zero_le h2
        have h3 : (i : Int) ≤ (b.length : Int) := h3
        have hr : r = (bif decide (idxP p (b.drop i) < 0) then (Ex.exit 0, [u8s b nl false, .fn g [] [], i64x z, i64x b.length, .dead], []) else (.ret, [u8s b nl false, .fn g [] [], i64x (i + idxP p (b.drop i)), i64x b.length, .dead], [])) := by
          simp only [rw_se, Int.toNat_natCast, Tr.run] at h
          cases hd : decide (idxP p (b.drop i) < 0) <;> rw [hd] at h <;> simpa using h.symm
        rw [hr]
        have hg : (g = 45 ∧ p = isEnd) ∨ (g = 47 ∧ p = isBl) := by
          unfold pOf at hp
          split at hp
          · exact .inl ⟨rfl, by cases hp; rfl⟩
          · exact .inr ⟨rfl, by cases hp; rfl⟩
          · cases hp
        rcases hg with ⟨rfl, rfl⟩ | ⟨rfl, rfl⟩
        · exact loopIdx _ _ stepE (fun R b nl z k => by rw [lIdxE, bf (by simp)]) b nl z hb h1 _ i rfl (by omega)
        · exact loopIdx _ _ stepB (fun R b nl z k => by rw [lIdxB, bf (by simp)]) b nl z hb h1 _ i rfl (by omega)
      · cases h
    · cases h
  · unfold idxF at h
    split at h
    · rename_i b nl g
      split at h
      · rename_i p hp
        obtain ⟨hg, rfl⟩ := Tr.one h
        refine ⟨rfl, rfl, [], ?_⟩
        simp only [rw_se, Bool.and_eq_true, decide_eq_true_eq] at hg
        obtain ⟨hb, h1⟩ := hg
        have hge := idxP_ge p b
        have hg : (g = 45 ∧ p = isEnd) ∨ (g = 47 ∧ p = isBl) := by
          unfold pOf at hp
          split at hp
          · exact .inl ⟨rfl, by cases hp; rfl⟩
          · exact .inr ⟨rfl, by cases hp; rfl⟩
          · cases hp
        have fin : (bif decide (idxP p b < 0) then some (i64x (-1), ([] : Hp)) else some (i64x (0 + idxP p b), [])) = some (i64x (idxP p b), []) := by
          cases hd : decide (idxP p b < 0)
          · simp
          · have : idxP p b < 0 := by simpa using hd
            simp only [cond_true]
            congr 3
            omega
        rcases hg with ⟨rfl, rfl⟩ | ⟨rfl, rfl⟩
        · rw [tIdxE]
          simp only [rw_se, Int.toNat_zero, List.drop_zero]
          rw [bt (by simp [hb, h1])]
          exact fin
        · rw [tIdxB]
          simp only [rw_se, Int.toNat_zero, List.drop_zero]
          rw [bt (by simp [hb, h1])]
          exact fin
      · cases h
    · cases h

theorem o5 : OOk (Ol5 Ar.real) := o4.add idx_ok

end Go.Proofs.YtaefpopjlmhmoaaDoor.V.L

/- Chapter 04, lines: the functions do what they tell: rounds, lines, fields. -/
namespace Go.Proofs.YtaefpopjlmhmoaaDoor.V.L
open Go
set_option linter.unusedVariables false
set_option linter.unusedSimpArgs false

noncomputable def rd7 : Rd := (rdOf Tryd.f17 0 [2]).getD ⟨#[], .skip, .skip, 0, []⟩
noncomputable def rd9 : Rd := (rdOf Tryd.f19 0 [2]).getD ⟨#[], .skip, .skip, 0, []⟩

theorem no_loops {c : Code} (h : (loopsAll c).isEmpty = true) {T : Code → Prop} : ∀ b ∈ loopsAll c, T b := by
  intro b hb
  rw [List.isEmpty_iff] at h
  rw [h] at hb
  cases hb

theorem all_ok : YldOk Tryd.prog 7 fun id tms args H => (allR Ar.real id tms args H).run some := by
  refine yldOk (CxG.ok o5 noL YOk.none (fun _ => none) true) mixed 7 rd7 (by kernel_rfl) rfl 100 (no_loops (by kernel_rfl)) (no_loops (by kernel_rfl)) (by kernel_rfl) (by kernel_rfl) fun id tms args H b H' hH h => ?_
  unfold allR at h
  split at h
  · rename_i q nl out x h1 h2 h3
    obtain ⟨hg, hr⟩ := Tr.one h
    cases hr
    simp only [List.getElem?_cons_succ, List.getElem?_cons_zero, Option.some.injEq] at hH
    subst hH
    refine ⟨_, ?_, HWeak.refl _, Nat.le_refl _⟩
    simp only [rw_se, Bool.and_eq_true, decide_eq_true_eq] at hg
    have hl : out.length ≤ 1000000 := hg.1.2
    rw [tAll, rw_se, bt (by rw [Bool.and_eq_true, decide_eq_true_eq]; exact ⟨hg.1.1, hg.2⟩), bt (by rw [decide_eq_true_eq]; simp only [List.length_cons, List.length_nil]; omega), show (x && List.isEmpty [q]) = false from Bool.and_false x]
    rfl
  · cases h

theorem full_ok : YldOk Tryd.prog 9 fun id tms args H => (fullR Ar.real id tms args H).run some := by
  refine yldOk (CxG.ok o5 noL YOk.none (fun _ => none) true) mixed 9 rd9 (by kernel_rfl) rfl 100 (no_loops (by kernel_rfl)) (no_loops (by kernel_rfl)) (by kernel_rfl) (by kernel_rfl) fun id tms args H b H' hH h => ?_
  unfold fullR at h
  split at h
  · rename_i q nl out x h1 h2 h3
    obtain ⟨hg, hr⟩ := Tr.one h
    cases hr
    simp only [List.getElem?_cons_succ, List.getElem?_cons_zero, Option.some.injEq] at hH
    subst hH
    refine ⟨_, ?_, HWeak.refl _, Nat.le_refl _⟩
    rw [tFull]
    cases q with
    | nil =>
      rw [bf (by decide)]
      simp [rw_se, full, sss]
    | cons y q =>
      simp only [rw_se, Bool.and_eq_true, decide_eq_true_eq] at hg
      have hl : out.length ≤ 1000000 := hg.1.2
      rw [bt (by rw [decide_eq_true_eq]; simp only [List.length_cons]; omega), rw_se, bt (by rw [Bool.and_eq_true, decide_eq_true_eq]; exact ⟨hg.1.1, hg.2⟩), bt (by rw [decide_eq_true_eq]; simp only [List.length_cons, List.length_nil]; omega), show (x && List.isEmpty [y :: q]) = false from Bool.and_false x]
      simp [rw_se, full, sss]
  · cases h

theorem y_ok : YOk (Ys Ar.real) := by
  intro key F h
  unfold Ys at h
  split at h
  · cases h; exact all_ok
  · cases h; exact full_ok
  · cases h

theorem pieces_ok : OrcOk Tryd.prog 44 (.eff piecesF) := by
  show EffOk Tryd.prog _ _
  refine effOk (Cx.ok o5 noL) mixed 44 Tryd.f44 (by kernel_rfl) (by kernel_rfl) (by kernel_rfl) 100 0 (by kernel_rfl) (fun i h => by omega) fun args H r H' h => ?_
  unfold piecesF at h
  split at h
  · rename_i b nl g h0
    simp only [Tr.run, Option.some.injEq, Prod.mk.injEq] at h
    obtain ⟨rfl, rfl⟩ := h
    refine ⟨?_, _, _, rfl, tPieces Ar.real h0 b nl g, HWeak.refl _, by simp, .inl rfl⟩
    intro x hx
    simp only [List.mem_cons, List.not_mem_nil, or_false] at hx
    rcases hx with rfl | rfl <;> rfl
  · cases h

theorem seq_end (b : List Int) (nl : Option Bool) (hb : bytesB b = true) (hn : nlO nl b = true) (i n : Nat) (hi : i + n ≤ b.length) : nlO nl ((b.take (i + n)).drop i) = true := by
  cases nl with
  | none => rfl
  | some x =>
    cases x
    · rfl
    · simp only [nlO, List.isEmpty_iff] at hn ⊢
      subst hn
      simp

theorem bytes_drop {b : List Int} (h : bytesB b = true) (i : Nat) : bytesB (b.drop i) = true := by
  rw [bytesB_iff] at h ⊢
  exact fun x hx => h x (List.mem_of_mem_drop hx)

end Go.Proofs.YtaefpopjlmhmoaaDoor.V.L

/- Chapter 04, lines: the functions do what they tell: the walk over the pieces, lines, fields, what is the same. -/
namespace Go.Proofs.YtaefpopjlmhmoaaDoor.V.L
open Go
set_option linter.unusedVariables false
set_option linter.unusedSimpArgs false

abbrev CSeq : Ctx := CxG Ar.real (Ol5 Ar.real) (Lseq Ar.real) (Ys Ar.real) (fun _ => none) false
abbrev seqH (b : List Int) (nl : Option Bool) (g key : Nat) (out : List (List Int)) (x : Bool) : Hp := [(ssT, sss out (some x) true), (sT, u8s b nl false), (.any, .fn g [] []), (.unit, .rnd key [.ptr 0 []])]

theorem seqE_step (R : Type) {b : List Int} {nl : Option Bool} (hb : bytesB b = true) (hnl : nlO nl b = true) (hl : b.length ≤ 100000) {i n : Nat} (hi : i ≤ b.length) (hn : (n : Int) = (bif decide (idxP isEnd (b.drop i) < 0) then (b.length : Int) - i else idxP isEnd (b.drop i))) (hin : i + n ≤ b.length)
    {out : List (List Int)} (ho : out.length ≤ 1000000) (x : Bool) (k : Ex → List X → Hp → Option R) :
    stepF CSeq 100 (loopAt Tryd.f68 0) 34 [0, 1, 2, 4] [.yld 3, .ptr 1 [], .ptr 2 [], i64x i] (seqH b nl 45 7 out x) k =
      k .normal [.yld 3, .ptr 1 [], .ptr 2 [], i64x ((i + n + 1 : Nat) : Int)] (seqH b nl 45 7 (out ++ [(b.take (i + n)).drop i]) false) := by
  have w1 : Ar.real.wrap .i64 ((i : Int) + (n : Int)) = ((i + n : Nat) : Int) := by rw [rw_wrap, wi64 (by omega) (by omega)]; rfl
  have w2 : Ar.real.wrap .i64 ((n : Int) + 1) = ((n + 1 : Nat) : Int) := wnext (by omega)
  have w3 : Ar.real.wrap .i64 ((i : Int) + ((n + 1 : Nat) : Int)) = ((i + n + 1 : Nat) : Int) := by rw [rw_wrap, wi64 (by omega) (by omega)]; omega
  rw [lSeqE, bt (by rw [decide_eq_true_eq]; omega), bt (by rw [decide_eq_true_eq]; omega)]
  simp only [rw_se, Int.toNat_natCast]
  rw [bt (by rw [Bool.and_eq_true, decide_eq_true_eq]; exact ⟨bytes_drop hb i, by rw [List.length_drop]; omega⟩)]
  have fin : ∀ c1 c2 : Bool, nlO nl ((b.take (i + n)).drop i) = true := fun _ _ => seq_end b nl hb hnl i n hin
  cases hd : decide (idxP isEnd (b.drop i) < 0) with
  | true =>
    rw [hd] at hn
    simp only [cond_true] at hn ⊢
    have w0 : Ar.real.wrap .i64 ((b.length : Int) - i) = (n : Int) := by rw [← hn, rw_wrap, wi64 (by omega) (by omega)]
    rw [w0, w1, w2, w3, Int.toNat_natCast, bt (by rw [decide_eq_true_eq]; omega), bt (by rw [decide_eq_true_eq]; omega),
      bt (by rw [Bool.and_eq_true, decide_eq_true_eq]; exact ⟨⟨by rw [List.length_drop, List.length_take]; omega, ho⟩, fin true true⟩)]
  | false =>
    rw [hd] at hn
    simp only [cond_false] at hn ⊢
    rw [← hn, w1, w2, w3, Int.toNat_natCast, bt (by rw [decide_eq_true_eq]; omega), bt (by rw [decide_eq_true_eq]; omega),
      bt (by rw [Bool.and_eq_true, decide_eq_true_eq]; exact ⟨⟨by rw [List.length_drop, List.length_take]; omega, ho⟩, fin true true⟩)]

theorem seqB_step (R : Type) {b : List Int} {nl : Option Bool} (hb : bytesB b = true) (hnl : nlO nl b = true) (hl : b.length ≤ 100000) {i n : Nat} (hi : i ≤ b.length) (hn : (n : Int) = (bif decide (idxP isBl (b.drop i) < 0) then (b.length : Int) - i else idxP isBl (b.drop i))) (hin : i + n ≤ b.length)
    {out : List (List Int)} (ho : out.length ≤ 1000000) (x : Bool) (k : Ex → List X → Hp → Option R) :
    stepF CSeq 100 (loopAt Tryd.f68 0) 34 [0, 1, 2, 4] [.yld 3, .ptr 1 [], .ptr 2 [], i64x i] (seqH b nl 47 9 out x) k =
      k .normal [.yld 3, .ptr 1 [], .ptr 2 [], i64x ((i + n + 1 : Nat) : Int)] (seqH b nl 47 9 (out ++ full [(b.take (i + n)).drop i]) (x && ((b.take (i + n)).drop i).isEmpty)) := by
  have w1 : Ar.real.wrap .i64 ((i : Int) + (n : Int)) = ((i + n : Nat) : Int) := by rw [rw_wrap, wi64 (by omega) (by omega)]; rfl
  have w2 : Ar.real.wrap .i64 ((n : Int) + 1) = ((n + 1 : Nat) : Int) := wnext (by omega)
  have w3 : Ar.real.wrap .i64 ((i : Int) + ((n + 1 : Nat) : Int)) = ((i + n + 1 : Nat) : Int) := by rw [rw_wrap, wi64 (by omega) (by omega)]; omega
  rw [lSeqB, bt (by rw [decide_eq_true_eq]; omega), bt (by rw [decide_eq_true_eq]; omega)]
  simp only [rw_se, Int.toNat_natCast]
  rw [bt (by rw [Bool.and_eq_true, decide_eq_true_eq]; exact ⟨bytes_drop hb i, by rw [List.length_drop]; omega⟩)]
  have fin : ∀ c1 c2 : Bool, nlO nl ((b.take (i + n)).drop i) = true := fun _ _ => seq_end b nl hb hnl i n hin
  cases hd : decide (idxP isBl (b.drop i) < 0) with
  | true =>
    rw [hd] at hn
    simp only [cond_true] at hn ⊢
    have w0 : Ar.real.wrap .i64 ((b.length : Int) - i) = (n : Int) := by rw [← hn, rw_wrap, wi64 (by omega) (by omega)]
    rw [w0, w1, w2, w3, Int.toNat_natCast, bt (by rw [decide_eq_true_eq]; omega), bt (by rw [decide_eq_true_eq]; omega),
      bt (by rw [Bool.and_eq_true, decide_eq_true_eq]; exact ⟨⟨by rw [List.length_drop, List.length_take]; omega, ho⟩, fin true true⟩)]
  | false =>
    rw [hd] at hn
    simp only [cond_false] at hn ⊢
    rw [← hn, w1, w2, w3, Int.toNat_natCast, bt (by rw [decide_eq_true_eq]; omega), bt (by rw [decide_eq_true_eq]; omega),
      bt (by rw [Bool.and_eq_true, decide_eq_true_eq]; exact ⟨⟨by rw [List.length_drop, List.length_take]; omega, ho⟩, fin true true⟩)]

theorem full_cons (q : List Int) (l : List (List Int)) : full (q :: l) = full [q] ++ full l := by
  unfold full
  rw [← List.filter_append]
  rfl

theorem loopSeqE {b : List Int} {nl : Option Bool} (hb : bytesB b = true) (hnl : nlO nl b = true) (hl : b.length ≤ 100000) : ∀ (m i : Nat) (out : List (List Int)) (x : Bool), b.length + 1 - i ≤ m → i ≤ b.length + 1 → out.length + (b.length + 1 - i) ≤ 1000000 →
    LoopTo CSeq 100 (loopAt Tryd.f68 0) 34 [0, 1, 2, 4] [.yld 3, .ptr 1 [], .ptr 2 [], i64x i] (seqH b nl 45 7 out x)
      (.exit 0, [.yld 3, .ptr 1 [], .ptr 2 [], .dead], seqH b nl 45 7 (out ++ tk 7 (pcs isEnd b i)) (x && (tk 7 (pcs isEnd b i)).isEmpty)) := by
  have done : ∀ (out : List (List Int)) (x : Bool), LoopTo CSeq 100 (loopAt Tryd.f68 0) 34 [0, 1, 2, 4] [.yld 3, .ptr 1 [], .ptr 2 [], i64x ((b.length + 1 : Nat) : Int)] (seqH b nl 45 7 out x)
      (.exit 0, [.yld 3, .ptr 1 [], .ptr 2 [], .dead], seqH b nl 45 7 (out ++ tk 7 (pcs isEnd b (b.length + 1))) (x && (tk 7 (pcs isEnd b (b.length + 1))).isEmpty)) := by
    intro out x
    rw [pcs_done isEnd b (b.length + 1) (by omega)]
    refine LoopTo.left (by simp) fun k => ⟨[.yld 3, .ptr 1 [], .ptr 2 [], i64x ((b.length + 1 : Nat) : Int)], ?_, ?_⟩
    · rw [lSeqE, bf (by rw [decide_eq_false_iff_not]; omega)]
      simp [tk, seqH, sss, u8s]
    · repeat' first | exact Forget.same _ | refine Forget.cons (.inl rfl) ?_ | refine Forget.cons (.inr rfl) ?_
  intro m
  induction m with
  | zero =>
    intro i out x h1 h2 h3
    obtain rfl : i = b.length + 1 := by omega
    exact done out x
  | succ m ih =>
    intro i out x h1 h2 h3
    by_cases hi : i ≤ b.length
    · obtain ⟨n, hn, hin, hp⟩ := pcs_step isEnd b i hi
      refine LoopTo.next (fun k => seqE_step _ hb hnl hl hi hn hin (by omega) x k) ?_
      have := ih (i + n + 1) (out ++ [(b.take (i + n)).drop i]) false (by omega) (by omega) (by rw [List.length_append, List.length_singleton]; omega)
      rw [hp]
      have e1 : out ++ [(b.take (i + n)).drop i] ++ tk 7 (pcs isEnd b (i + n + 1)) = out ++ tk 7 ((b.take (i + n)).drop i :: pcs isEnd b (i + n + 1)) := by simp [tk]
      have e2 : (x && (tk 7 ((b.take (i + n)).drop i :: pcs isEnd b (i + n + 1))).isEmpty) = (false && (tk 7 (pcs isEnd b (i + n + 1))).isEmpty) := by simp [tk]
      rw [e1] at this
      rw [e2]
      exact this
    · obtain rfl : i = b.length + 1 := by omega
      exact done out x

theorem loopSeqB {b : List Int} {nl : Option Bool} (hb : bytesB b = true) (hnl : nlO nl b = true) (hl : b.length ≤ 100000) : ∀ (m i : Nat) (out : List (List Int)) (x : Bool), b.length + 1 - i ≤ m → i ≤ b.length + 1 → out.length + (b.length + 1 - i) ≤ 1000000 →
    LoopTo CSeq 100 (loopAt Tryd.f68 0) 34 [0, 1, 2, 4] [.yld 3, .ptr 1 [], .ptr 2 [], i64x i] (seqH b nl 47 9 out x)
      (.exit 0, [.yld 3, .ptr 1 [], .ptr 2 [], .dead], seqH b nl 47 9 (out ++ tk 9 (pcs isBl b i)) (x && (tk 9 (pcs isBl b i)).isEmpty)) := by
  have done : ∀ (out : List (List Int)) (x : Bool), LoopTo CSeq 100 (loopAt Tryd.f68 0) 34 [0, 1, 2, 4] [.yld 3, .ptr 1 [], .ptr 2 [], i64x ((b.length + 1 : Nat) : Int)] (seqH b nl 47 9 out x)
      (.exit 0, [.yld 3, .ptr 1 [], .ptr 2 [], .dead], seqH b nl 47 9 (out ++ tk 9 (pcs isBl b (b.length + 1))) (x && (tk 9 (pcs isBl b (b.length + 1))).isEmpty)) := by
    intro out x
    rw [pcs_done isBl b (b.length + 1) (by omega)]
    refine LoopTo.left (by simp) fun k => ⟨[.yld 3, .ptr 1 [], .ptr 2 [], i64x ((b.length + 1 : Nat) : Int)], ?_, ?_⟩
    · rw [lSeqB, bf (by rw [decide_eq_false_iff_not]; omega)]
      simp [tk, full, seqH, sss, u8s]
    · repeat' first | exact Forget.same _ | refine Forget.cons (.inl rfl) ?_ | refine Forget.cons (.inr rfl) ?_
  intro m
  induction m with
  | zero =>
    intro i out x h1 h2 h3
    obtain rfl : i = b.length + 1 := by omega
    exact done out x
  | succ m ih =>
    intro i out x h1 h2 h3
    by_cases hi : i ≤ b.length
    · obtain ⟨n, hn, hin, hp⟩ := pcs_step isBl b i hi
      refine LoopTo.next (fun k => seqB_step _ hb hnl hl hi hn hin (by omega) x k) ?_
      have hlf : (full [(b.take (i + n)).drop i]).length ≤ 1 := by
        unfold full
        exact List.length_filter_le _ _
      have := ih (i + n + 1) (out ++ full [(b.take (i + n)).drop i]) (x && ((b.take (i + n)).drop i).isEmpty) (by omega) (by omega) (by rw [List.length_append]; omega)
      rw [hp]
      have e0 : tk 9 ((b.take (i + n)).drop i :: pcs isBl b (i + n + 1)) = full [(b.take (i + n)).drop i] ++ tk 9 (pcs isBl b (i + n + 1)) := full_cons _ _
      have e1 : out ++ full [(b.take (i + n)).drop i] ++ tk 9 (pcs isBl b (i + n + 1)) = out ++ tk 9 ((b.take (i + n)).drop i :: pcs isBl b (i + n + 1)) := by rw [e0, List.append_assoc]
      have e2 : (x && (tk 9 ((b.take (i + n)).drop i :: pcs isBl b (i + n + 1))).isEmpty) = ((x && ((b.take (i + n)).drop i).isEmpty) && (tk 9 (pcs isBl b (i + n + 1))).isEmpty) := by
        rw [e0]
        cases he : ((b.take (i + n)).drop i).isEmpty <;> simp [full, he]
      rw [e1] at this
      rw [e2]
      exact this
    · obtain rfl : i = b.length + 1 := by omega
      exact done out x

theorem cases_pk {p : Int → Bool} {g key : Nat} (hp : pOf g = some p) (hk : kOf key = some g) : (g = 45 ∧ p = isEnd ∧ key = 7) ∨ (g = 47 ∧ p = isBl ∧ key = 9) := by
  unfold kOf at hk
  split at hk
  · cases hk
    cases hp
    exact .inl ⟨rfl, rfl, rfl⟩
  · cases hk
    cases hp
    exact .inr ⟨rfl, rfl, rfl⟩
  · cases hk

theorem seq_ok : OrcOk Tryd.prog 68 (.eff (seqF Ar.real)) := by
  show EffOk Tryd.prog _ _
  refine effOk (CxG.ok o5 (Lseq Ar.real) y_ok (fun _ => none) false) mixed 68 Tryd.f68 (by kernel_rfl) (by kernel_rfl) (by kernel_rfl) 100 1 (by kernel_rfl) (fun i h => ?_) fun args H r H' h => ?_
  · obtain rfl : i = 0 := by omega
    refine Tells.mk (key := 1) (by kernel_rfl) rfl fun xs H r h => ?_
    unfold LseqF at h
    split at h
    · rename_i i out x b nl g key
      split at h
      · rename_i p hp
        obtain ⟨hg, rfl⟩ := Tr.one h
        simp only [rw_se, Bool.and_eq_true, decide_eq_true_eq] at hg
        obtain ⟨hb, hn, hk, h1, h2, h3⟩ := hg
        obtain ⟨i, rfl⟩ : ∃ n : Nat, i = (n : Int) := Int.eq_ofNat_of_zero_le h2
        have h3 : (i : Int) ≤ (b.length : Int) + 1 := h3
        have h1 : b.length + out.length ≤ 100000 := h1
        simp only [rw_se, Int.toNat_natCast]
        rcases cases_pk hp hk with ⟨rfl, rfl, rfl⟩ | ⟨rfl, rfl, rfl⟩
        · exact loopSeqE hb hn (by omega) _ i out x (Nat.le_refl _) (by omega) (by omega)
        · exact loopSeqB hb hn (by omega) _ i out x (Nat.le_refl _) (by omega) (by omega)
      · cases h
    · cases h
  · unfold seqF at h
    split at h
    · rename_i out x b nl g key
      split at h
      · rename_i p hp
        obtain ⟨hg, hr⟩ := Tr.one h
        cases hr
        simp only [rw_se, Bool.and_eq_true, decide_eq_true_eq] at hg
        obtain ⟨hb, hn, hk, h1⟩ := hg
        have h1 : b.length + out.length ≤ 100000 := h1
        refine ⟨fun x hx => ?_, .tup [], _, rfl, ?_, HWeak.refl _, Nat.le_refl _, .inl rfl⟩
        · simp only [List.mem_cons, List.not_mem_nil, or_false] at hx
          rcases hx with rfl | rfl | rfl <;> rfl
        · have e0 : ∀ p, pcs p b 0 = cut p b := fun p => by simp [pcs]
          rcases cases_pk hp hk with ⟨rfl, rfl, rfl⟩ | ⟨rfl, rfl, rfl⟩
          · rw [tSeqE]
            simp only [rw_se, Int.toNat_zero, e0]
            rw [bt (by simp only [Bool.and_eq_true, decide_eq_true_eq]; exact ⟨hb, hn, hk, h1, by omega, by omega⟩)]
          · rw [tSeqB]
            simp only [rw_se, Int.toNat_zero, e0]
            rw [bt (by simp only [Bool.and_eq_true, decide_eq_true_eq]; exact ⟨hb, hn, hk, h1, by omega, by omega⟩)]
      · cases h
    · cases h

theorem o6 : OOk (Ol6 Ar.real) := (o5.add pieces_ok).add seq_ok

end Go.Proofs.YtaefpopjlmhmoaaDoor.V.L

/- Chapter 04, lines: the functions do what they tell: lines, fields, what is bare, what is the same, the calls at the head. -/
namespace Go.Proofs.YtaefpopjlmhmoaaDoor.V.L
open Go
set_option linter.unusedVariables false
set_option linter.unusedSimpArgs false

theorem rfs7 {A : Ar} {O : OT} : RfsOk (CxG A O noL noY k7 false) Tryd.f17 := by
  intro q hq key rd h1 h2
  have e : rfOf (bodyOf Tryd.f17) = [(.tmp 6, rd7.ps, rd7.assign, rd7.body)] := by kernel_rfl
  rw [e, List.mem_singleton] at hq
  subst hq
  have e2 : rounds 7 = some rd7 := by kernel_rfl
  have h1 : some 7 = some key := h1
  cases h1
  rw [e2] at h2
  cases h2
  exact ⟨rfl, rfl, rfl⟩
theorem rfs9 {A : Ar} {O : OT} : RfsOk (CxG A O noL noY k9 false) Tryd.f19 := by
  intro q hq key rd h1 h2
  have e : rfOf (bodyOf Tryd.f19) = [(.tmp 5, rd9.ps, rd9.assign, rd9.body)] := by kernel_rfl
  rw [e, List.mem_singleton] at hq
  subst hq
  have e2 : rounds 9 = some rd9 := by kernel_rfl
  have h1 : some 9 = some key := h1
  cases h1
  rw [e2] at h2
  cases h2
  exact ⟨rfl, rfl, rfl⟩

theorem len_zero {α : Type} (x : List α) : ((x.length : Int) == 0) = x.isEmpty := by
  cases x with
  | nil => rfl
  | cons y x =>
    simp only [List.length_cons, List.isEmpty_cons, beq_eq_false_iff_ne]
    omega

theorem split_core (b : List Int) (nl : Option Bool) (hb : bytesB b = true) (hn : nlO nl b = true) (hl : b.length ≤ 50000) : ∃ H', bodyX (CxG Ar.real (Ol6 Ar.real) noL noY k7 false) 100 Tryd.f17 [u8s b nl false] [] = some (sss (splitL b) (some false) false, H') := by
  have hne : (cut isEnd b).length ≠ 0 := fun e => cut_ne isEnd b (List.eq_nil_of_length_eq_zero e)
  have hlen := cut_len isEnd b
  have hemp : (cut isEnd b).isEmpty = false := by
    cases h : cut isEnd b with
    | nil => exact absurd h (cut_ne isEnd b)
    | cons => rfl
  have w : Ar.real.wrap .i64 (((cut isEnd b).length : Int) - 1) = (((cut isEnd b).length - 1 : Nat) : Int) := by rw [rw_wrap, wi64 (by omega) (by omega)]; omega
  rw [tSplit]
  simp only [rw_se, tk, List.nil_append, w, Int.toNat_natCast, hemp, Bool.and_false, len_zero]
  rw [bt (by simp only [Bool.and_eq_true, decide_eq_true_eq]; exact ⟨hb, hn, rfl, by omega⟩), bt (by rw [decide_eq_true_eq]; omega)]
  unfold splitL dropE
  show ∃ H', (bif ((cut isEnd b).getD ((cut isEnd b).length - 1) []).isEmpty then _ else _) = _
  cases he : ((cut isEnd b).getD ((cut isEnd b).length - 1) []).isEmpty with
  | true =>
    rw [bt rfl, bt rfl, bt (by rw [decide_eq_true_eq]; omega)]
    exact ⟨_, rfl⟩
  | false =>
    rw [bf rfl, bf rfl]
    exact ⟨_, rfl⟩

theorem split_ok : OrcOk Tryd.prog 17 (.pure (splitF Ar.real)) := by
  refine pureOk (CxG.ok o6 noL YOk.none k7 false) mixed 17 Tryd.f17 (by kernel_rfl) (by kernel_rfl) (by kernel_rfl) 100 0 (by kernel_rfl) (fun i h => by omega) (fun args r h => ?_) rfs7
  unfold splitF at h
  split at h
  · rename_i b nl
    obtain ⟨hg, rfl⟩ := Tr.one h
    simp only [Ok, rw_se, Bool.and_eq_true, decide_eq_true_eq] at hg
    obtain ⟨hb, hn, hl⟩ := hg
    obtain ⟨H', hH⟩ := split_core b nl hb hn hl
    exact ⟨rfl, rfl, H', hH⟩
  · cases h

theorem fields_core (b : List Int) (nl : Option Bool) (hb : bytesB b = true) (hn : nlO nl b = true) (hl : b.length ≤ 50000) : ∃ H', bodyX (CxG Ar.real (Ol6 Ar.real) noL noY k9 false) 100 Tryd.f19 [u8s b nl false] [] = some (sss (fieldsL b) (some (fieldsL b).isEmpty) false, H') := by
  rw [tFields]
  simp only [rw_se, tk, List.nil_append, Bool.true_and]
  rw [bt (by simp only [Bool.and_eq_true, decide_eq_true_eq]; exact ⟨hb, hn, rfl, by omega⟩)]
  exact ⟨_, rfl⟩

theorem fields_ok : OrcOk Tryd.prog 19 (.pure (fieldsF Ar.real)) := by
  refine pureOk (CxG.ok o6 noL YOk.none k9 false) mixed 19 Tryd.f19 (by kernel_rfl) (by kernel_rfl) (by kernel_rfl) 100 0 (by kernel_rfl) (fun i h => by omega) (fun args r h => ?_) rfs9
  unfold fieldsF at h
  split at h
  · rename_i b nl
    obtain ⟨hg, rfl⟩ := Tr.one h
    simp only [Ok, rw_se, Bool.and_eq_true, decide_eq_true_eq] at hg
    obtain ⟨hb, hn, hl⟩ := hg
    obtain ⟨H', hH⟩ := fields_core b nl hb hn hl
    exact ⟨rfl, rfl, H', hH⟩
  · cases h

theorem o7 : OOk (Ol7 Ar.real) := (o6.add split_ok).add fields_ok

theorem full_mem {l : List (List Int)} {q : List Int} (h : q ∈ full l) : q ∈ l ∧ q ≠ [] := by
  unfold full at h
  rw [List.mem_filter] at h
  refine ⟨h.1, ?_⟩
  rintro rfl
  simp at h

theorem bare_core (b : List Int) (nl : Option Bool) (hb : bytesB b = true) (hn : nlO nl b = true) (hl : b.length ≤ 50000) : bodyX (Cx Ar.real (Ol7 Ar.real) noL) 100 Tryd.f18 [u8s b nl false] [] = some (boolx (bareB b), []) := by
  rw [tBare, bt (by simp only [Ok, rw_se, Bool.and_eq_true, decide_eq_true_eq]; exact ⟨hb, hn, hl⟩)]
  simp only [rw_se, len_zero, Int.toNat_zero]
  unfold bareB
  cases hf : fieldsL b with
  | nil => rfl
  | cons q qs =>
    have hq := (full_mem (l := cut isBl b) (q := q) (by show q ∈ fieldsL b; rw [hf]; simp)).2
    have hql : 0 < q.length := List.length_pos_iff.2 hq
    rw [bt (c := (q :: qs).isEmpty == false) rfl, bt (by rw [decide_eq_true_eq]; simp only [List.length_cons]; omega)]
    simp only [List.getD_cons_zero, List.isEmpty_cons, Bool.false_or]
    rw [bt (by rw [decide_eq_true_eq]; omega)]

theorem bare_ok : OrcOk Tryd.prog 18 (.pure (bareF Ar.real)) := by
  refine pureOk (Cx.ok o7 noL) mixed 18 Tryd.f18 (by kernel_rfl) (by kernel_rfl) (by kernel_rfl) 100 0 (by kernel_rfl) (fun i h => by omega) fun args r h => ?_
  unfold bareF at h
  split at h
  · rename_i b nl
    obtain ⟨hg, rfl⟩ := Tr.one h
    simp only [Ok, rw_se, Bool.and_eq_true, decide_eq_true_eq] at hg
    obtain ⟨hb, hn, hl⟩ := hg
    exact ⟨rfl, rfl, [], bare_core b nl hb hn hl⟩
  · cases h

theorem bytesBB_at {l : List (List Int)} (h : bytesBB l = true) (i : Nat) : bytesB (l.getD i []) = true := by
  rw [List.getD_eq_getElem?_getD]
  cases e : l[i]? with
  | none => rfl
  | some q => exact List.all_eq_true.1 h q (List.mem_of_getElem? e)

theorem drop_cons' {α : Type} (d : α) {b : List α} {i : Nat} (h : i < b.length) : b.drop i = b.getD i d :: b.drop (i + 1) := by
  rw [List.drop_eq_getElem_cons h, List.getD_eq_getElem?_getD, List.getElem?_eq_getElem h]
  rfl

theorem o8 : OOk (Ol8 Ar.real) := (o7.add bare_ok)

end Go.Proofs.YtaefpopjlmhmoaaDoor.V.L

/- Chapter 04, lines: the statements' sense, as plain lists. -/
namespace Go.Proofs.YtaefpopjlmhmoaaDoor.V.L
open Go
set_option linter.unusedVariables false
set_option linter.unusedSimpArgs false

def sumL : List (List Int) → Nat
  | [] => 0
  | q :: l => q.length + 1 + sumL l
theorem sumL_append : ∀ (a b : List (List Int)), sumL (a ++ b) = sumL a + sumL b
  | [], b => by simp [sumL]
  | q :: a, b => by simp [sumL, sumL_append a b]; omega
theorem cut_sum (p : Int → Bool) : ∀ b, sumL (cut p b) = b.length + 1
  | [] => rfl
  | x :: l => by
    have ih := cut_sum p l
    simp only [cut]
    cases p x
    · simp only [cond_false]
      split
      · rename_i e
        exact absurd e (cut_ne p l)
      · rename_i q qs e
        rw [e] at ih
        simp only [sumL, List.length_cons] at ih ⊢
        omega
    · simp only [cond_true, sumL, List.length_nil, List.length_cons]
      omega

theorem dropE_cat (l : List (List Int)) (q : List Int) : dropE (l ++ [q]) = bif q.isEmpty then l else l ++ [q] := by
  unfold dropE
  have e1 : (l ++ [q]).length - 1 = l.length := by simp
  rw [e1]
  have e2 : (l ++ [q]).getD l.length [] = q := by simp [List.getD_eq_getElem?_getD]
  rw [e2]
  cases q.isEmpty
  · rfl
  · simp

theorem cut_last (p : Int → Bool) (b : List Int) : ∃ l q, cut p b = l ++ [q] := by
  have h := cut_ne p b
  exact ⟨(cut p b).dropLast, (cut p b).getLast h, (List.dropLast_concat_getLast h).symm⟩

theorem split_sum (b : List Int) : sumL (splitL b) = b.length ∨ sumL (splitL b) = b.length + 1 := by
  obtain ⟨l, q, e⟩ := cut_last isEnd b
  have hs := cut_sum isEnd b
  unfold splitL
  rw [e] at hs ⊢
  rw [sumL_append] at hs
  simp only [sumL] at hs
  rw [dropE_cat]
  cases q with
  | nil =>
    simp only [List.isEmpty_nil, cond_true, List.length_nil] at hs ⊢
    omega
  | cons x q =>
    simp only [List.isEmpty_cons, cond_false, sumL_append, sumL]
    omega

theorem dropE_mem {l : List (List Int)} {q : List Int} (h : q ∈ dropE l) : q ∈ l := by
  unfold dropE at h
  cases hc : (l.getD (l.length - 1) []).isEmpty <;> rw [hc] at h
  · exact h
  · exact List.mem_of_mem_take h

theorem split_mem {b q : List Int} (h : q ∈ splitL b) : ∀ x ∈ q, x ∈ b ∧ isEnd x = false := fun x hx => cut_mem isEnd b q (dropE_mem h) x hx
theorem fields_mem {b q : List Int} (h : q ∈ fieldsL b) : q ≠ [] ∧ ∀ x ∈ q, x ∈ b ∧ isBl x = false := by
  unfold fieldsL full at h
  rw [List.mem_filter] at h
  refine ⟨by rintro rfl; simp at h, fun x hx => cut_mem isBl b q h.1 x hx⟩

theorem cut_app (p : Int → Bool) (c : Int) (hc : p c = true) (r : List Int) : ∀ q : List Int, (∀ x ∈ q, p x = false) → cut p (q ++ c :: r) = q :: cut p r
  | [], _ => by simp [cut, hc]
  | x :: q, h => by
    have ih := cut_app p c hc r q (fun y hy => h y (by simp [hy]))
    simp only [List.cons_append, cut, h x (by simp), cond_false, ih]

/-- Lines, each with its end behind. -/
def joinE : List (List Int) → List Int
  | [] => []
  | q :: l => q ++ 10 :: joinE l
theorem cut_joinE : ∀ l : List (List Int), (∀ q ∈ l, ∀ x ∈ q, isEnd x = false) → cut isEnd (joinE l) = l ++ [[]]
  | [], _ => rfl
  | q :: l, h => by
    rw [joinE, cut_app isEnd 10 rfl _ q (h q (by simp)), cut_joinE l (fun p hp => h p (by simp [hp]))]
    rfl
theorem split_joinE {l : List (List Int)} (h : ∀ q ∈ l, ∀ x ∈ q, isEnd x = false) : splitL (joinE l) = l := by
  unfold splitL
  rw [cut_joinE l h, dropE_cat]
  rfl

/-- How many blanks stand ahead of a field. -/
def tabN (bl : List Int) (i : Nat) : Nat := if i < bl.length then (bl.getD i 0 % 3).toNat else 0
/-- Fields with blanks ahead, and one behind. -/
def joinF (bl : List Int) : Nat → List (List Int) → List Int
  | _, [] => []
  | i, q :: l => List.replicate (tabN bl i) 9 ++ (q ++ 32 :: joinF bl (i + 1) l)
theorem full_tabs (r : List Int) : ∀ n : Nat, full (cut isBl (List.replicate n 9 ++ r)) = full (cut isBl r)
  | 0 => rfl
  | n + 1 => by
    rw [List.replicate_succ, List.cons_append]
    have : cut isBl (9 :: (List.replicate n 9 ++ r)) = [] :: cut isBl (List.replicate n 9 ++ r) := by simp [cut, isBl]
    rw [this]
    exact full_tabs r n
theorem fields_joinF (bl : List Int) : ∀ (l : List (List Int)) (i : Nat), (∀ q ∈ l, q ≠ [] ∧ ∀ x ∈ q, isBl x = false) → fieldsL (joinF bl i l) = l
  | [], i, _ => rfl
  | q :: l, i, h => by
    have ih := fields_joinF bl l (i + 1) (fun p hp => h p (by simp [hp]))
    unfold fieldsL at ih ⊢
    rw [joinF, full_tabs, cut_app isBl 32 rfl _ q (h q (by simp)).2]
    have hq := (h q (by simp)).1
    have : full (q :: cut isBl (joinF bl (i + 1) l)) = q :: full (cut isBl (joinF bl (i + 1) l)) := by
      unfold full
      rw [List.filter_cons_of_pos]
      cases q with
      | nil => exact absurd rfl hq
      | cons => rfl
    rw [this, ih]

/-- The one blank for the other. -/
def sw (c : Int) : Int := bif c == 9 || c == 32 then 41 - c else c
theorem isBl_sw (c : Int) : isBl (sw c) = isBl c := by
  unfold sw isBl
  cases h1 : c == 9
  · cases h2 : c == 32
    · simp [h1, h2]
    · have : c = 32 := by simpa using h2
      subst this
      rfl
  · have : c = 9 := by simpa using h1
    subst this
    rfl
theorem sw_not {c : Int} (h : isBl c = false) : sw c = c := by
  unfold isBl at h
  unfold sw
  rw [Bool.or_comm, h]
  rfl
theorem cut_sw : ∀ b : List Int, cut isBl (b.map sw) = cut isBl b
  | [] => rfl
  | x :: l => by
    simp only [List.map_cons, cut, isBl_sw, cut_sw l]
    cases h : isBl x
    · rw [sw_not h]
    · rfl
theorem fields_sw (b : List Int) : fieldsL (b.map sw) = fieldsL b := by
  unfold fieldsL
  rw [cut_sw]
theorem bare_sw (b : List Int) : bareB (b.map sw) = bareB b := by
  unfold bareB
  rw [fields_sw]

theorem split_len (b : List Int) : (splitL b).length ≤ b.length + 1 := by
  have := cut_len isEnd b
  unfold splitL dropE
  cases ((cut isEnd b).getD ((cut isEnd b).length - 1) []).isEmpty
  · exact this
  · simp only [cond_true, List.length_take]
    omega
theorem fields_len (b : List Int) : (fieldsL b).length ≤ b.length + 1 := by
  have := cut_len isBl b
  have h2 : (fieldsL b).length ≤ (cut isBl b).length := List.length_filter_le _ _
  omega
theorem piece_len (p : Int → Bool) : ∀ (b : List Int) (q : List Int), q ∈ cut p b → q.length ≤ b.length
  | [], q, h => by
    simp [cut] at h
    subst h
    simp
  | x :: l, q, h => by
    simp only [cut] at h
    cases hp : p x <;> rw [hp] at h
    · simp only [cond_false] at h
      split at h
      · rename_i e
        exact absurd e (cut_ne p l)
      · rename_i q0 qs e
        rcases List.mem_cons.1 h with rfl | h
        · have := piece_len p l q0 (by rw [e]; simp)
          simp only [List.length_cons]
          omega
        · have := piece_len p l q (by rw [e]; simp [h])
          simp only [List.length_cons]
          omega
    · simp only [cond_true] at h
      rcases List.mem_cons.1 h with rfl | h
      · simp
      · have := piece_len p l q h
        simp only [List.length_cons]
        omega

end Go.Proofs.YtaefpopjlmhmoaaDoor.V.L

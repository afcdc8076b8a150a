/-
  The evaluator itself: what each operation comes to, over typed pure data, and what a piece of code comes to. Definitions alone.
  It speaks of whatever program; no condition.
-/
import Derived.Test.YtgickaihlebgmaaV1
import Derived.Laws.BytesArg
namespace Go.Proofs.Ytgickaihlebgmaa.V
open Go
set_option linter.unusedVariables false

/-- What is told of a type: its kind, its zero value, its bytes, and those of an element. -/
structure TyE where
  t : Ty
  z : t.den
  bytes : Nat
  eb : Nat

/-- Variables that have an address: their kinds, and what they hold. -/
abbrev Hp := List (Ty × X)

/-- How a piece of code is left. -/
inductive Ex where
  | normal
  | exit (id : Nat)
  | goto (l : Nat)
  | ret

/-- What comes of tests: nothing that is told; something; the one or the other. -/
inductive Tr (α : Type) where
  | no
  | give (a : α)
  | test (c : Bool) (a b : Tr α)

def Tr.run {α R : Type} : Tr α → (α → Option R) → Option R
  | .no, _ => none
  | .give a, k => k a
  | .test c a b, k => bif c then a.run k else b.run k

theorem Tr.run_some {α R : Type} {k : α → Option R} {r : R} : ∀ {t : Tr α}, t.run k = some r → ∃ x, t.run some = some x ∧ k x = some r
  | .no, h => by cases h
  | .give a, h => ⟨a, rfl, h⟩
  | .test c a b, h => by
    cases c
    · exact Tr.run_some (t := b) h
    · exact Tr.run_some (t := a) h

/-- What a function comes to: of its arguments alone, or of the variables too. -/
inductive Orc where
  | pure (F : List X → Tr X)
  | eff (F : List X → Hp → Tr (X × Hp))

/-- The reckoning that a tree leaves alone. -/
structure Ar where
  wrap : IntKind → Int → Int
  band : Nat → Int → Int → Int
  bor : Nat → Int → Int → Int
  bxor : Nat → Int → Int → Int
  bclr : Nat → Int → Int → Int
  p2 : Int → Nat → Int
  seq : ByteArray → ByteArray → Bool
  slt : ByteArray → ByteArray → Bool
  /-- What stands behind this is left as it is. -/
  se : {α : Type} → α → α

def Ar.real : Ar where
  wrap k n := k.wrap n
  band n a b := (BitVec.ofInt n a &&& BitVec.ofInt n b).toNat
  bor n a b := (BitVec.ofInt n a ||| BitVec.ofInt n b).toNat
  bxor n a b := (BitVec.ofInt n a ^^^ BitVec.ofInt n b).toNat
  bclr n a b := (BitVec.ofInt n a &&& ~~~ BitVec.ofInt n b).toNat
  p2 b n := 2 ^ (min (Int.toNat b) n)
  seq a b := a.toList == b.toList
  slt a b := Op.bytesLess a.toList b.toList
  se x := x

structure Ctx where
  A : Ar
  tys : List (Option TyE)
  O : Nat → Option Orc
  L : Nat → Option (Nat × List Nat × (List X → Hp → Tr (Ex × List X × Hp)))

structure St where
  tm : List X
  H : Hp

def X.unown : X → X
  | .sl e xs nl _ => .sl e xs nl false
  | x => x

def Ctx.ty (C : Ctx) (i : Nat) : Option TyE := C.tys.getD i none

def mkX : (t : Ty) → t.den → X
  | .slice e, xs => .sl e xs none false
  | t, x => .d t x

def compAt : (c : Ty) → c.den → Nat → Option (Σ t : Ty, t.den)
  | .prod a _, x, 0 => some ⟨a, x.1⟩
  | .prod _ b, x, j + 1 => compAt b x.2 j
  | _, _, _ => none

def castTo (t t' : Ty) (x : t.den) : Option t'.den := if h : t = t' then some (h ▸ x) else none

mutual
def toD : (t : Ty) → X → Option t.den
  | t, .d t' x => castTo t' t x
  | .slice e, .sl e' xs _ _ => castTo (.slice e') (.slice e) xs
  | .slice _, .nils => some []
  | .struct c, .agg xs => toDs c xs
  | _, _ => none
def toDs : (c : Ty) → List X → Option c.den
  | .unit, [] => some ()
  | .prod a b, x :: xs => match toD a x with
    | some u => match toDs b xs with
      | some v => some (u, v)
      | none => none
    | none => none
  | _, _ => none
end

/-- A chain's parts. -/
def explode : (c : Ty) → c.den → List X
  | .prod a b, x => mkX a x.1 :: explode b x.2
  | _, _ => []

/-- A new variable's content. -/
def zeroX : (t : Ty) → t.den → X
  | .slice e, _ => .sl e [] (some true) true
  | .struct c, x => .agg (zeroXs c x)
  | t, x => .d t x
  where zeroXs : (c : Ty) → c.den → List X
  | .prod a b, x => zeroX a x.1 :: zeroXs b x.2
  | _, _ => []

def getP : List Nat → X → Option X
  | [], x => some x
  | j :: p, .agg xs => match xs[j]? with
    | some x => getP p x
    | none => none
  | j :: p, .d (.struct c) x => match compAt c x j with
    | some y => getP p (mkX y.1 y.2)
    | none => none
  | j :: p, .d (.arr _ e) l => getP p (mkX e (List.getD l j e.zero))
  | _ :: _, _ => none

def setP : List Nat → X → X → Option X
  | [], _, y => some y
  | j :: p, .agg xs, y => match xs[j]? with
    | some x => match setP p x y with
      | some x' => some (.agg (xs.set j x'))
      | none => none
    | none => none
  | j :: p, .d (.struct c) x, y => match (explode c x)[j]? with
    | some u => match setP p u y with
      | some u' => some (.agg ((explode c x).set j u'))
      | none => none
    | none => none
  | j :: p, .d (.arr n e) l, y => match setP p (mkX e (List.getD l j e.zero)) y with
    | some u => match toD e u with
      | some v => some (.d (.arr n e) (List.set l j v))
      | none => none
    | none => none
  | _ :: _, _, _ => none

mutual
/-- May this be laid into a variable of this kind? -/
def fitO : X → Ty → Bool
  | .d t' _, t => decide (t' = t)
  | .agg xs, t => match t with
    | .struct c => fitOs xs c
    | _ => false
  | .sl e _ _ _, t => decide (t = .slice e)
  | .fn _ _ _, t => decide (t = .any)
  | .ptr _ _, t => decide (t = .any)
  | _, _ => false
def fitOs : List X → Ty → Bool
  | [], t => decide (t = .unit)
  | x :: xs, t => match t with
    | .prod a b => fitO x a && fitOs xs b
    | _ => false
end

/-- A variable's content, as it is read. -/
def outX (t : Ty) : X → Option X
  | .agg xs => match toD t (.agg xs) with
    | some v => some (mkX t v)
    | none => none
  | x => some x

/-- A constant. -/
def constX : Value → X
  | .int k n => .d (.int k) n
  | .bool b => .d .bool b
  | .string s => .d .str s
  | .slice none 0 0 => .nils
  | .agg _ => .dead
  | .tuple _ => .dead
  | v => .d .any v

/-- nil, where a slice of a kind is asked for. -/
def typed (C : Ctx) (i : Nat) : X → X
  | .nils => match C.ty i with
    | some ⟨.slice e, _, _, _⟩ => .sl e [] (some true) true
    | _ => .dead
  | x => x

def St.val (st : St) : Operand → X
  | .tmp t => st.tm.getD t .dead
  | .const v => constX v
  | .func f => .fn f [] []
  | .global _ => .dead

abbrev strOf (xs : List Int) : ByteArray := strOfNums xs
def bytesOf (s : ByteArray) : List Int := s.data.toList.map fun b => (b.toNat : Int)

/-- What a test, an addition .. of two plain values comes to. -/
def binK {R : Type} (A : Ar) (op : BinOp) (x y : X) (k : X → Option R) : Option R :=
  match x, y with
  | .d (.int ka) a, .d (.int kb) b =>
    match op with
    | .shl => bif decide (0 ≤ b) then k (.d (.int ka) (A.wrap ka (a * A.p2 b ka.bits))) else none
    | .shr => bif decide (0 ≤ b) then k (.d (.int ka) (Int.fdiv a (A.p2 b ka.bits))) else none
    | _ => if ka = kb then
        match op with
        | .add => k (.d (.int ka) (A.wrap ka (a + b)))
        | .sub => k (.d (.int ka) (A.wrap ka (a - b)))
        | .mul => k (.d (.int ka) (A.wrap ka (a * b)))
        | .quo => bif decide (b = 0) then none else k (.d (.int ka) (A.wrap ka (Int.tdiv a b)))
        | .rem => bif decide (b = 0) then none else k (.d (.int ka) (Int.tmod a b))
        | .and => k (.d (.int ka) (A.wrap ka (A.band ka.bits a b)))
        | .or => k (.d (.int ka) (A.wrap ka (A.bor ka.bits a b)))
        | .xor => k (.d (.int ka) (A.wrap ka (A.bxor ka.bits a b)))
        | .andNot => k (.d (.int ka) (A.wrap ka (A.bclr ka.bits a b)))
        | .eql => k (.d .bool (a == b))
        | .neq => k (.d .bool (a != b))
        | .lss => k (.d .bool (decide (a < b)))
        | .leq => k (.d .bool (decide (a ≤ b)))
        | .gtr => k (.d .bool (decide (a > b)))
        | .geq => k (.d .bool (decide (a ≥ b)))
        | _ => none
      else none
  | .d .str a, .d .str b =>
    match op with
    | .add => bif decide (a.size + b.size ≤ 9223372036854775807) then k (.d .str (a ++ b)) else none
    | .eql => k (.d .bool (A.seq a b))
    | .neq => k (.d .bool (!(A.seq a b)))
    | .lss => k (.d .bool (A.slt a b))
    | .leq => k (.d .bool (A.slt a b || A.seq a b))
    | .gtr => k (.d .bool (!(A.slt a b || A.seq a b)))
    | .geq => k (.d .bool (!A.slt a b))
    | _ => none
  | .d .bool a, .d .bool b =>
    match op with
    | .eql => k (.d .bool (a == b))
    | .neq => k (.d .bool (!(a == b)))
    | _ => none
  | .sl _ _ (some nl) _, .nils =>
    match op with
    | .eql => k (.d .bool nl)
    | .neq => k (.d .bool (!nl))
    | _ => none
  | _, _ => none

/-- May a test of this form be asked of this type? -/
def binTy (C : Ctx) (op : BinOp) (ty : Nat) (x y : X) : Bool :=
  match x, y with
  | .d .bool _, .d .bool _ => match C.ty ty with | some ⟨.bool, _, _, _⟩ => true | _ => false
  | .sl .., .nils => match C.ty ty with | some ⟨.slice _, _, _, _⟩ => true | _ => false
  | _, _ => true

def unK (A : Ar) (op : UnOp) (x : X) : Option X :=
  match op, x with
  | .neg, .d (.int k) n => some (.d (.int k) (A.wrap k (0 - n)))
  | .xor, .d (.int k) n => some (.d (.int k) (A.wrap k (A.bxor k.bits (if k.signed then -1 else k.max) n)))
  | .not, .d .bool b => some (.d .bool (!b))
  | _, _ => none

/-- A literal's elements, place by place. -/
def collectD (e : Ty) : Nat → List Nat → List X → Option (List e.den)
  | _, [], [] => some []
  | n, i :: is, x :: xs => if i = n then match toD e x with
      | some v => match collectD e (n + 1) is xs with
        | some l => some (v :: l)
        | none => none
      | none => none
    else none
  | _, _, _ => none

/-- A struct's parts put, a row's. -/
def setD : (c : Ty) → c.den → Nat → X → Option c.den
  | .prod a _, x, 0, v => match toD a v with
    | some u => some (u, x.2)
    | none => none
  | .prod _ b, x, j + 1, v => match setD b x.2 j v with
    | some u => some (x.1, u)
    | none => none
  | _, _, _, _ => none
def buildD (c : Ty) : c.den → List Nat → List X → Option c.den
  | x, [], [] => some x
  | x, j :: js, v :: vs => match setD c x j v with
    | some y => buildD c y js vs
    | none => none
  | _, _, _ => none
def buildA (n : Nat) (e : Ty) : List e.den → List Nat → List X → Option (List e.den)
  | l, [], [] => some l
  | l, j :: js, v :: vs => if j < n then match toD e v with
      | some u => buildA n e (l.set j u) js vs
      | none => none
    else none
  | _, _, _ => none

/-- Does it lead somewhere? -/
def isRef : X → Bool
  | .ptr _ _ | .fn _ _ _ => true
  | _ => false

def indexOf : X → Option Int
  | .d (.int _) i => some i
  | _ => none

/-- An operation's result: 'v'; which operands' rooms it took over; the variables behind it. 'tr': the result's room is asked for. -/
def coreK {R : Type} (C : Ctx) (tr : Bool) (o : Oper) (vals : List X) (H : Hp) (k : X → List Bool → Hp → Option R) : Option R :=
  match o.op, vals with
  | .move _, [x] => if tr then k (typed C o.type x) [true] H else k (typed C o.type x).unown [] H
  | .assign _, [x] => k (typed C o.type x) [true] H
  | .pick _ _ _, [c, a, b] => match c with
    | .d .bool c => bif c then k (typed C o.type a).unown [] H else k (typed C o.type b).unown [] H
    | _ => none
  | .alloc T, [] => match C.ty T with
    | some e => k (.ptr H.length []) [] (H ++ [(e.t, zeroX e.t e.z)])
    | none => none
  | .box T _, [x] => match C.ty T with
    | some e => if fitO (typed C T x) e.t then k (.ptr H.length []) [true] (H ++ [(e.t, typed C T x)]) else none
    | none => none
  | .buildSlice T n parts, vals => match C.ty T with
    | some ⟨.slice e, _, _, _⟩ =>
      if n * e.size ≤ 16777216 then
        match collectD e 0 (parts.toList.map (·.1)) vals with
        | some l => if l.length = n then k (.sl e l (some false) true) [] H else none
        | none => if e = .any ∧ parts.toList.map (·.1) = List.range n ∧ vals.all isRef = true then k (.lst (vals.map X.unown)) [] H else none
      else none
    | _ => none
  | .build T parts, vals => match C.ty T with
    | some ⟨.struct c, z, _, _⟩ => match buildD c z (parts.toList.map (·.1)) vals with
      | some x => k (.d (.struct c) x) [] H
      | none => none
    | some ⟨.arr n e, z, _, _⟩ => match buildA n e z (parts.toList.map (·.1)) vals with
      | some x => k (.d (.arr n e) x) [] H
      | none => none
    | _ => none
  | .load T _, [a] => match C.ty T, a with
    | some e, .cp t x => match castTo t e.t x with
      | some v => k (mkX e.t v) [] H
      | none => none
    | some e, .cx x => if e.t = .any then k x.unown [] H else none
    | some e, .ptr id p => match H[id]? with
      | some (t, c) => match typeAt t p, getP p c with
        | some t', some y => if t' = e.t then
            match outX e.t y with
            | some z => match tr, y with
              | true, .sl e1 xs nl own => match setP p c (.sl e1 xs nl false) with
                | some c' => k (.sl e1 xs nl own) [] (H.set id (t, c'))
                | none => none
              | _, _ => k z.unown [] H
            | none => none
          else none
        | _, _ => none
      | none => none
    | _, _ => none
  | .store T _ _, [a, x] => match C.ty T, a with
    | some e, .ptr id p => match H[id]? with
      | some (t, c) => match typeAt t p, setP p c (typed C T x) with
        | some t', some c' => if t' = e.t ∧ fitO (typed C T x) t' = true then k .undef [false, true] (H.set id (t, c')) else none
        | _, _ => none
      | none => none
    | _, _ => none
  | .nilCheck _, [x] => match x with
    | .ptr id p => k (.ptr id p) [] H
    | .cp t v => k (.cp t v) [] H
    | .fn f a b => k (.fn f a b) [] H
    | _ => none
  | .binOp op ty _ _ _, [x, y] => if binTy C op ty x y then binK C.A op x y fun v => k v [] H else none
  | .unOp op _ _, [x] => match unK C.A op x with
    | some v => k v [] H
    | none => none
  | .convert s t _, [x] => match C.ty s, C.ty t, x with
    | some ⟨.int _, _, _, _⟩, some ⟨.int kt, _, _, _⟩, .d (.int _) n => k (.d (.int kt) (C.A.wrap kt n)) [] H
    | some ⟨.slice (.int .u8), _, _, _⟩, some ⟨.str, _, _, _⟩, .sl (.int .u8) xs _ _ => k (.d .str (strOf xs)) [] H
    | some ⟨.str, _, _, _⟩, some ⟨.slice (.int .u8), _, _, _⟩, .d .str s => k (.sl (.int .u8) (bytesOf s) (some false) true) [] H
    | some ⟨.str, _, _, _⟩, some ⟨.str, _, _, _⟩, .d .str s => k (.d .str s) [] H
    | some ⟨.slice (.int .u8), _, _, _⟩, some ⟨.slice (.int .u8), _, _, _⟩, .sl (.int .u8) (y :: ys) (some false) true => if s = t then k (.sl (.int .u8) (y :: ys) (some false) true) [true] H else none
    | _, _, _ => none
  | .makeFunc (.func f) first _, vals => k (.fn f ((vals.take first.size).map X.unown) ((vals.drop first.size).map X.unown)) [] H
  | .slice T _ lo hi mx, x :: bs => match C.ty T, x with
    | some ⟨.slice e0, _, _, _⟩, .sl e xs nl _ => if e0 = e then
      match lo.isSome, hi.isSome, mx.isSome, bs with
      | false, false, false, [] => k (.sl e xs nl false) [] H
      | true, false, false, [.d (.int _) l] => bif decide (0 ≤ l ∧ l ≤ (xs.length : Int)) then k (.sl e (xs.drop (Int.toNat l)) nl false) [] H else none
      | false, true, false, [.d (.int _) h] => bif decide (0 ≤ h ∧ h ≤ (xs.length : Int)) then k (.sl e (xs.take (Int.toNat h)) nl false) [] H else none
      | true, true, false, [.d (.int _) l, .d (.int _) h] => bif decide (0 ≤ h ∧ h ≤ (xs.length : Int)) then bif decide (0 ≤ l ∧ l ≤ h) then k (.sl e ((xs.take (Int.toNat h)).drop (Int.toNat l)) nl false) [] H else none else none
      | false, true, true, [.d (.int _) h, .d (.int _) m] => bif decide (0 ≤ h ∧ h ≤ m) then bif decide (m ≤ (xs.length : Int)) then k (.sl e (xs.take (Int.toNat h)) nl false) [] H else none else none
      | true, true, true, [.d (.int _) l, .d (.int _) h, .d (.int _) m] => bif decide (0 ≤ l ∧ l ≤ h) then bif decide (h ≤ m ∧ m ≤ (xs.length : Int)) then k (.sl e ((xs.take (Int.toNat h)).drop (Int.toNat l)) nl false) [] H else none else none
      | _, _, _, _ => none
      else none
    | some ⟨.slice .any, _, _, _⟩, .lst l =>
      match lo.isSome, hi.isSome, mx.isSome, bs with
      | false, true, false, [.d (.int _) h] => bif decide (0 ≤ h ∧ h ≤ (l.length : Int)) then k (.lst (l.take (Int.toNat h))) [] H else none
      | _, _, _, _ => none
    | some ⟨.str, _, _, _⟩, .d .str s =>
      match lo.isSome, hi.isSome, mx.isSome, bs with
      | true, false, false, [.d (.int _) l] => bif decide (0 ≤ l ∧ l ≤ (s.size : Int)) then k (.d .str (s.extract (Int.toNat l) s.size)) [] H else none
      | false, true, false, [.d (.int _) h] => bif decide (0 ≤ h ∧ h ≤ (s.size : Int)) then k (.d .str (s.extract 0 (Int.toNat h))) [] H else none
      | true, true, false, [.d (.int _) l, .d (.int _) h] => bif decide (0 ≤ h ∧ h ≤ (s.size : Int)) then bif decide (0 ≤ l ∧ l ≤ h) then k (.d .str (s.extract (Int.toNat l) (Int.toNat h))) [] H else none else none
      | _, _, _, _ => none
    | _, _ => none
  | .fieldAddr S _ j, [x] => match C.ty S, x with
    | some ⟨.struct c, _, _, _⟩, .cp (.struct c') v => if c = c' then
        match compAt c' v j with
        | some y => if y.1.size = 0 then none else k (.cp y.1 y.2) [] H
        | none => none
      else none
    | some ⟨.struct c, _, _, _⟩, .ptr id p => match H[id]? with
      | some (t, _) => match typeAt t p, chainAt c j with
        | some (.struct c'), some (_, u) => if c' = c ∧ u.size ≠ 0 then k (.ptr id (p ++ [j])) [] H else none
        | _, _ => none
      | none => none
    | _, _ => none
  | .field S _ j, [x] => match C.ty S, x with
    | some ⟨.struct c, _, _, _⟩, .d (.struct c') v => if c = c' then
        match compAt c' v j with
        | some y => k (mkX y.1 y.2) [] H
        | none => none
      else none
    | _, _ => none
  | .indexAddr T _ _, [x, i] => match C.ty T, x, indexOf i with
    | some ⟨.slice e, _, _, _⟩, .sl e' xs _ _, some i => if e = e' then bif decide (0 ≤ i ∧ i < (xs.length : Int)) then k (.cp e' (xs.getD i.toNat e'.zero)) [] H else none else none
    | some ⟨.slice .any, _, _, _⟩, .lst l, some i => bif decide (0 ≤ i ∧ i < (l.length : Int)) then k (.cx (l.getD i.toNat .dead)) [] H else none
    | some ⟨.arr n e, _, _, _⟩, .cp (.arr n' e') l, some i => if n = n' ∧ e = e' then bif decide (0 ≤ i ∧ i < (n' : Int)) then k (.cp e' (List.getD l i.toNat e'.zero)) [] H else none else none
    | some ⟨.arr n e, _, _, _⟩, .ptr id p, some i => match H[id]? with
      | some (t, _) => match typeAt t p with
        | some (.arr n' e') => if n = n' ∧ e = e' then bif decide (0 ≤ i ∧ i < (n' : Int)) then k (.ptr id (p ++ [i.toNat])) [] H else none else none
        | _ => none
      | none => none
    | _, _, _ => none
  | .index T _ _, [x, i] => match C.ty T, x, indexOf i with
    | some ⟨.arr n e, _, _, _⟩, .d (.arr n' e') l, some i => if n = n' ∧ e = e' then bif decide (0 ≤ i ∧ i < (n' : Int)) then k (mkX e' (List.getD l i.toNat e'.zero)) [] H else none else none
    | some ⟨.str, _, _, _⟩, .d .str s, some i => bif decide (0 ≤ i ∧ i < (s.size : Int)) then k (.d (.int .u8) ((bytesOf s).getD i.toNat 0)) [] H else none
    | _, _, _ => none
  | .extract _ j, [x] => match x with
    | .tup xs => match xs[j]? with
      | some y => k y.unown [] H
      | none => none
    | _ => none
  | .call c, vals => match c.callee with
    | .builtin .len => match c.argTypes.toList.map C.ty, vals with
      | [some ⟨.slice _, _, _, _⟩], [.sl _ xs _ _] => k (.d (.int .i64) (xs.length : Int)) [] H
      | [some ⟨.slice .any, _, _, _⟩], [.lst l] => k (.d (.int .i64) (l.length : Int)) [] H
      | [some ⟨.str, _, _, _⟩], [.d .str s] => k (.d (.int .i64) (s.size : Int)) [] H
      | [some ⟨.arr n _, _, _, _⟩], [_] => k (.d (.int .i64) (n : Int)) [] H
      | _, _ => none
    | .builtin .append => match c.argTypes.toList, vals with
      | [ts, tx], [s, x] => match C.ty ts, C.ty tx, typed C ts s, typed C tx x with
        | some ⟨.slice e, _, _, eb⟩, some ⟨.slice _, _, _, _⟩, .sl e1 xs nl true, .sl e2 ys _ _ => if e = e1 ∧ 0 < eb then
            match castTo (.slice e2) (.slice e1) ys with
            | some zs => bif decide ((xs.length + List.length zs) * eb ≤ 140737488355328) then k (.sl e1 (xs ++ zs) (nl.map (· && List.isEmpty zs)) true) [true, false] H else none
            | none => none
          else none
        | some ⟨.slice (.int .u8), _, _, eb⟩, some ⟨.str, _, _, _⟩, .sl (.int .u8) xs nl true, .d .str str =>
          if 0 < eb then bif decide ((xs.length + (bytesOf str).length) * eb ≤ 140737488355328) then k (.sl (.int .u8) (xs ++ bytesOf str) (nl.map (· && (bytesOf str).isEmpty)) true) [true, false] H else none else none
        | _, _, _, _ => none
      | _, _ => none
    | .builtin .min => match vals with
      | [.d (.int ka) a, .d (.int kb) b] => if ka = kb then k (.d (.int ka) (if b < a then b else a)) [] H else none
      | _ => none
    | .builtin .max => match vals with
      | [.d (.int ka) a, .d (.int kb) b] => if ka = kb then k (.d (.int ka) (if b > a then b else a)) [] H else none
      | _ => none
    | .value _ => match vals with
      | .fn f first cap :: args => if c.argTypes.size = args.length then match C.O f with
        | some (.pure F) => (F (first ++ (List.zipWith (typed C) c.argTypes.toList args).map X.unown ++ cap)).run fun r => k r [] H
        | some (.eff F) => (F (first ++ (List.zipWith (typed C) c.argTypes.toList args).map X.unown ++ cap) H).run fun r => k r.1 [] r.2
        | none => none
        else none
      | _ => none
    | _ => none
  | _, _ => none

/-- The places that an operation reads as operands. -/
def tmpsOf (o : Oper) : List Nat := o.op.operands.toList.filterMap fun | .tmp t => some t | _ => none

def St.put (st : St) (dst : Option Nat) (v : X) : St :=
  match dst with
  | some d => { st with tm := st.tm.set d v }
  | none => st

/-- What took over an operand's room leaves it without. -/
def unownAll : List Operand → List Bool → List X → List X
  | .tmp t :: xs, true :: bs, tm => unownAll xs bs (tm.set t (tm.getD t .dead).unown)
  | _ :: xs, _ :: bs, tm => unownAll xs bs tm
  | _, _, tm => tm

def opK {R : Type} (C : Ctx) (tr : Bool) (o : Oper) (st : St) (k : St → Option R) : Option R :=
  coreK C tr o (o.op.operands.toList.map st.val) st.H fun v cons H =>
    k (St.put { tm := unownAll o.op.operands.toList cons st.tm, H := H } o.dst v)

/-- Is the operation's result an append's first argument in this region? -/
def asked (ops : List Oper) (o : Oper) : Bool :=
  match o.dst with
  | none => false
  | some d => match o.op with
    | .move _ | .load _ _ => ops.any fun p => match p.op with
      | .call c => match c.callee, c.args.toList with
        | .builtin .append, .tmp t :: _ => t == d
        | _, _ => false
      | _ => false
    | _ => false

/-- A region's operations in the text's order. A guard that hangs on a number that is not known parts the way; on each way it is known. -/
def opsK {R : Type} (C : Ctx) (all : List Oper) : List Oper → St → (St → Option R) → Option R
  | [], st, k => k st
  | o :: r, st, k =>
    match o.guard with
    | none => opK C (asked all o) o st fun st' => opsK C all r st' k
    | some (j, want) => match (all[j]?).bind (·.dst) with
      | none => none
      | some g => match st.tm.getD g .dead with
        | .undef => opsK C all r (st.put o.dst .undef) k
        | .d .bool b => bif b == want then opK C (asked all o) o { st with tm := st.tm.set g (.d .bool want) } fun st' => opsK C all r st' k
            else opsK C all r (St.put { st with tm := st.tm.set g (.d .bool !want) } o.dst .undef) k
        | _ => none

/-- Does the operation look at variables that have an address? Does it turn them? -/
def readsH (C : Ctx) (o : Oper) : Bool :=
  match o.op with
  | .load .. | .store .. | .alloc _ | .box .. | .fieldAddr .. | .indexAddr .. => true
  | .call c => match c.callee with
    | .value (.func f) => match C.O f with
      | some (.pure _) => false
      | _ => true
    | .value _ => true
    | _ => false
  | _ => false
def writesH (C : Ctx) (all : List Oper) (o : Oper) : Bool :=
  match o.op with
  | .load .. => asked all o
  | .store .. | .alloc _ | .box .. => true
  | .call c => match c.callee with
    | .value (.func f) => match C.O f with
      | some (.pure _) => false
      | _ => true
    | .value _ => true
    | _ => false
  | _ => false

/-- The operands whose room may be taken over. -/
def takes (all : List Oper) (o : Oper) : List Nat :=
  match o.op with
  | .assign _ | .box _ _ => tmpsOf o
  | .store _ _ (.tmp t) => [t]
  | .move _ => if asked all o then tmpsOf o else []
  | .convert s t (.tmp x) => if s = t then [x] else []
  | .call c => match c.callee, c.args.toList with
    | .builtin .append, .tmp t :: _ => [t]
    | _, _ => []
  | _ => []

def namesOf (all : List Oper) (o : Oper) : List Nat :=
  tmpsOf o ++ (match o.guard with
    | some (j, _) => ((all[j]?).bind (·.dst)).toList
    | none => [])

def turnsOf (all : List Oper) (o : Oper) : List Nat := o.dst.toList ++ takes all o

/-- Two operations that may be done in either order. -/
def apartB (C : Ctx) (all : List Oper) (x y : Oper) : Bool :=
  (turnsOf all x).all (fun t => !(namesOf all y).contains t && !(turnsOf all y).contains t) && (turnsOf all y).all (fun t => !(namesOf all x).contains t) &&
  !(writesH C all x && (readsH C y || writesH C all y)) && !(writesH C all y && readsH C x)

/-- Of each operation: those that stand ahead of it in every order. -/
def addNew (l s : List Nat) : List Nat := l.foldr (fun x s => bif s.contains x then s else x :: s) s
def aheadOf (all : List Oper) : List (List Nat) :=
  all.foldl (fun acc o => acc ++ [(o.after.toList.filter fun e => Region.binds .any e).foldl (fun s e => bif s.contains e.on then s else e.on :: addNew (acc.getD e.on []) s) []]) []

/-- Does a region that draws its order come to the same in each? -/
def drawOk (C : Ctx) (all : List Oper) : Bool :=
  let ah := aheadOf all
  (List.range all.length).all fun j => match all[j]? with
    | none => false
    | some y => (y.after.toList.all fun e => !Region.binds .any e || decide (e.on < j)) && (List.range j).all fun i => match all[i]? with
      | none => false
      | some x => (ah.getD j []).contains i || apartB C all x y

/-- The places that live on: the others hold nothing. -/
def keepOnly (n : Nat) (ks : List Nat) (xs : List X) : List X := (List.range n).map fun j => match ks.idxOf? j with
  | some i => xs.getD i .dead
  | none => .dead

/-- A loop's number: that of the first region in it. -/
def firstRegion : Code → Option Nat
  | .region id _ _ => some id
  | .seq a b => match firstRegion a with
    | some i => some i
    | none => firstRegion b
  | .block _ c | .loop c | .scope c => firstRegion c
  | _ => none

/-- What a piece of code comes to. The number bounds how deep its text lies. -/
def codeK {R : Type} (C : Ctx) : Nat → Code → St → (Ex → St → Option R) → Option R
  | 0, _, _, _ => none
  | n + 1, c, st, k =>
    match c with
    | .skip => k .normal st
    | .label _ => k .normal st
    | .region _ ops draw => bif draw && !drawOk C ops.toList then none else opsK C ops.toList ops.toList st (k .normal)
    | .seq a b => codeK C n a st fun e st' => match e with
      | .normal => codeK C n b st' k
      | e => k e st'
    | .cond c a b => match c with
      | .tmp t => match st.tm.getD t .dead with
        | .d .bool v => bif v then codeK C n a { st with tm := st.tm.set t (.d .bool true) } k else codeK C n b { st with tm := st.tm.set t (.d .bool false) } k
        | _ => none
      | .const (.bool v) => if v then codeK C n a st k else codeK C n b st k
      | _ => none
    | .block id c => codeK C n c st fun e st' => match e with
      | .exit i => if i = id then k .normal st' else k (.exit i) st'
      | e => k e st'
    | .loop body => match firstRegion body with
      | none => none
      | some key => match C.L key with
        | none => none
        | some (N, ks, F) => if st.tm.length = N then (F (ks.map fun t => st.tm.getD t .dead) st.H).run fun r => k r.1 { tm := keepOnly N ks r.2.1, H := r.2.2 }
          else none
    | .exit id => k (.exit id) st
    | .scope c => codeK C n c st fun e st' => match e with
      | .goto l => match findLabel c l with
        | some rest => codeK C n rest st' fun e st'' => match e with
          | .goto _ => none
          | e => k e st''
        | none => k (.goto l) st'
      | e => k e st'
    | .goto l => k (.goto l) st
    | .ret => k .ret st
    | _ => none

/-- A function's result, its body being done. -/
def resultX (C : Ctx) (st : St) : ResultVar → Option X
  | .tmp t => some (st.tm.getD t .dead)
  | .cell a T => match C.ty T, st.tm.getD a .dead with
    | some e, .ptr id p => match st.H[id]? with
      | some (t, c) => match typeAt t p, getP p c with
        | some t', some y => if t' = e.t then outX e.t y else none
        | _, _ => none
      | none => none
    | _, _ => none

def resultsX (C : Ctx) (fn : Func) (st : St) : Option X :=
  match fn.results.toList with
  | [r] => resultX C st r
  | rs => match rs.mapM (resultX C st) with
    | some xs => some (.tup (xs.map X.unown))
    | none => none

/-- A function's body, at arguments, and variables: its result, and what the variables hold. -/
def bodyX (C : Ctx) (fuel : Nat) (fn : Func) (args : List X) (H : Hp) : Option (X × Hp) :=
  match fn.body with
  | none => none
  | some c => codeK C fuel c { tm := args ++ List.replicate (fn.ntmps - args.length) .undef, H := H } fun e st => match e with
    | .normal | .ret => match resultsX C fn st with
      | some x => some (x, st.H)
      | none => none
    | _ => none

end Go.Proofs.Ytgickaihlebgmaa.V

/-
  An evaluator of the program's code: the evaluator itself; that it tells what is so: the ground, variables, operations, the ghost's steps.
  It speaks of whatever program; no condition.
-/
import Derived.Test.YtnbfiifkaddehaaTB
import Derived.Laws.BytesArg
import Derived.Laws.AppendOwn
import Derived.Laws.Append
import Derived.RangeFuncLeaves
import Derived.RangeFuncNested
import Derived.OrdersIn

/- The evaluator itself: what each operation comes to, over typed pure data, and what a piece of code comes to. Definitions alone. -/
namespace Go.Proofs.Ytnbfiifkaddehaa.V
open Go
set_option linter.unusedVariables false

/-- What is told of a type: its kind, its zero value, its bytes, and those of an element. -/
structure TyE where
  t : Ty
  z : t.den
  bytes : Nat
  eb : Nat

/-- Variables that have an address: their kinds, and what they hold. -/
abbrev Hp := List (Ty × X)

/-- What comes of tests: nothing that is told; something; the one or the other. -/
inductive Tr (α : Type) where
  | no
  | give (a : α)
  | test (c : Bool) (a b : Tr α)

def Tr.run {α R : Type} : Tr α → (α → Option R) → Option R
  | .no, _ => none
  | .give a, k => k a
  | .test c a b, k => bif c then a.run k else b.run k

theorem Tr.run_some {α R : Type} {k : α → Option R} {r : R} : ∀ {t : Tr α}, t.run k = some r → ∃ x, t.run some = some x ∧ k x = some r
  | .no, h => by cases h
  | .give a, h => ⟨a, rfl, h⟩
  | .test c a b, h => by
    cases c
    · exact Tr.run_some (t := b) h
    · exact Tr.run_some (t := a) h

/-- What a function comes to: of its arguments alone, or of the variables too; of its arguments alone, the first one's room being handed on to it; of its arguments alone, without a body (the model's own). -/
inductive Orc where
  | pure (F : List X → Tr X)
  | eff (F : List X → Hp → Tr (X × Hp))
  | own (F : List X → Tr X)
  | ext (F : List X → Tr X)

/-- The reckoning that a tree leaves alone. -/
structure Ar where
  wrap : IntKind → Int → Int
  band : Nat → Int → Int → Int
  bor : Nat → Int → Int → Int
  bxor : Nat → Int → Int → Int
  bclr : Nat → Int → Int → Int
  p2 : Int → Nat → Int
  seq : ByteArray → ByteArray → Bool
  slt : ByteArray → ByteArray → Bool
  /-- What stands behind this is left as it is. -/
  se : {α : Type} → α → α

def Ar.real : Ar where
  wrap k n := k.wrap n
  band n a b := (BitVec.ofInt n a &&& BitVec.ofInt n b).toNat
  bor n a b := (BitVec.ofInt n a ||| BitVec.ofInt n b).toNat
  bxor n a b := (BitVec.ofInt n a ^^^ BitVec.ofInt n b).toNat
  bclr n a b := (BitVec.ofInt n a &&& ~~~ BitVec.ofInt n b).toNat
  p2 b n := 2 ^ (min (Int.toNat b) n)
  seq a b := a.toList == b.toList
  slt a b := Op.bytesLess a.toList b.toList
  se x := x

structure Ctx where
  A : Ar
  tys : List (Option TyE)
  O : Nat → Option Orc
  L : Nat → Option (Nat × List Nat × (List X → Hp → Tr (Ex × List X × Hp)))
  /-- What a round of a range over a function comes to: the record's place, what it holds, the arguments, the variables. -/
  Y : Nat → Option (Nat → List X → List X → Hp → Tr (Bool × Hp)) := fun _ => none
  /-- A range's number among the program's, by its first region. -/
  K : Nat → Option Nat := fun _ => none
  /-- Does the code stand in a round? -/
  ins : Bool := false
  /-- What is done to an operation's first place ahead of it, by the place that it writes: nothing; an empty slice's room is held to be known nowhere else (1); a slice that is known nowhere else becomes a variable (2); a part of a variable is settled for ever (3); a slice that is known nowhere else is settled (4). -/
  M : Nat → Nat := fun _ => 0
  /-- Of a slice's type: an element's zero value. -/
  Z : Nat → Option (Σ t : Ty, t.den) := fun _ => none
  /-- What a region comes to, where that is told: how many places, those that live, what they and the variables hold behind it. -/
  J : Nat → Option (Nat × List Nat × (List X → Hp → Tr (List X × Hp))) := fun _ => none
  /-- May two values of this type be compared? -/
  E : Nat → Bool := fun _ => false
  /-- Of a map's type: its keys' kind, its values', and their zero. -/
  Mp : Nat → Option (Σ k : Ty, Σ v : Ty, v.den) := fun _ => none
  /-- By the place that it writes: the operation leads to no variable. -/
  far : Nat → Bool := fun _ => false

structure St where
  tm : List X
  H : Hp

def X.unown : X → X
  | .sl e xs nl _ => .sl e xs nl false
  | .ps _ _ => .dead
  | .pd _ _ => .dead
  | x => x

def Ctx.ty (C : Ctx) (i : Nat) : Option TyE := C.tys.getD i none

/-- Are two data the same? (Of kinds without slices.) -/
def eqD : (t : Ty) → t.den → t.den → Bool
  | .int _, x, y => (x : Int) == (y : Int)
  | .bool, x, y => (x : Bool) == (y : Bool)
  | .str, x, y => (x : ByteArray).toList == (y : ByteArray).toList
  | .arr _ e, x, y => eqL (eqD e) x y
  | .struct c, x, y => eqD c x y
  | .unit, _, _ => true
  | .prod a b, x, y => eqD a x.1 y.1 && eqD b x.2 y.2
  | _, _, _ => false
  where eqL {α : Type} (f : α → α → Bool) : List α → List α → Bool
  | [], [] => true
  | x :: l, y :: m => f x y && eqL f l m
  | _, _ => false

/-- What a map has at a key; the map with it there. -/
def look (k : Ty) {β : Type} (l : List (k.den × β)) (x : k.den) : Option β := (l.find? fun p => eqD k x p.1).map (·.2)
def putM (k : Ty) {β : Type} : List (k.den × β) → k.den → β → List (k.den × β)
  | [], x, v => [(x, v)]
  | p :: l, x, v => bif eqD k x p.1 then (x, v) :: l else p :: putM k l x v

def mkX : (t : Ty) → t.den → X
  | .slice e, xs => .sl e xs none false
  | t, x => .d t x

def compAt : (c : Ty) → c.den → Nat → Option (Σ t : Ty, t.den)
  | .prod a _, x, 0 => some ⟨a, x.1⟩
  | .prod _ b, x, j + 1 => compAt b x.2 j
  | _, _, _ => none

def castTo (t t' : Ty) (x : t.den) : Option t'.den := if h : t = t' then some (h ▸ x) else none

mutual
def toD : (t : Ty) → X → Option t.den
  | t, .d t' x => castTo t' t x
  | .slice e, .sl e' xs _ _ => castTo (.slice e') (.slice e) xs
  | .slice _, .nils => some []
  | .struct c, .agg xs => toDs c xs
  | _, _ => none
def toDs : (c : Ty) → List X → Option c.den
  | .unit, [] => some ()
  | .prod a b, x :: xs => match toD a x with
    | some u => match toDs b xs with
      | some v => some (u, v)
      | none => none
    | none => none
  | _, _ => none
end

/-- A chain's parts. -/
def explode : (c : Ty) → c.den → List X
  | .prod a b, x => mkX a x.1 :: explode b x.2
  | _, _ => []

/-- A new variable's content. -/
def zeroX : (t : Ty) → t.den → X
  | .slice e, _ => .sl e [] (some true) true
  | .struct c, x => .agg (zeroXs c x)
  | t, x => .d t x
  where zeroXs : (c : Ty) → c.den → List X
  | .prod a b, x => zeroX a x.1 :: zeroXs b x.2
  | _, _ => []

def getP : List Nat → X → Option X
  | [], x => some x
  | j :: p, .agg xs => match xs[j]? with
    | some x => getP p x
    | none => none
  | j :: p, .d (.struct c) x => match compAt c x j with
    | some y => getP p (mkX y.1 y.2)
    | none => none
  | j :: p, .d (.arr _ e) l => getP p (mkX e (List.getD l j e.zero))
  | _ :: _, _ => none

def setP : List Nat → X → X → Option X
  | [], .dead, _ => none
  | [], _, y => some y
  | j :: p, .agg xs, y => match xs[j]? with
    | some x => match setP p x y with
      | some x' => some (.agg (xs.set j x'))
      | none => none
    | none => none
  | j :: p, .d (.struct c) x, y => match (explode c x)[j]? with
    | some u => match setP p u y with
      | some u' => some (.agg ((explode c x).set j u'))
      | none => none
    | none => none
  | j :: p, .d (.arr n e) l, y => match setP p (mkX e (List.getD l j e.zero)) y with
    | some u => match toD e u with
      | some v => some (.d (.arr n e) (List.set l j v))
      | none => none
    | none => none
  | _ :: _, _, _ => none

mutual
/-- May this be laid into a variable of this kind? -/
def fitO : X → Ty → Bool
  | .d t' _, t => decide (t' = t)
  | .agg xs, t => match t with
    | .struct c => fitOs xs c
    | _ => false
  | .sl e _ _ _, t => decide (t = .slice e)
  | .fn _ _ _, t => decide (t = .any)
  | .ptr _ _, t => decide (t = .any)
  | .yld _, t => decide (t = .any)
  | _, _ => false
def fitOs : List X → Ty → Bool
  | [], t => decide (t = .unit)
  | x :: xs, t => match t with
    | .prod a b => fitO x a && fitOs xs b
    | _ => false
end

/-- A variable's content, as it is read. -/
def outX (t : Ty) : X → Option X
  | .agg xs => match toD t (.agg xs) with
    | some v => some (mkX t v)
    | none => none
  | .dead => none
  | .od _ _ _ => none
  | x => some x

/-- A constant. -/
def constX : Value → X
  | .int k n => .d (.int k) n
  | .bool b => .d .bool b
  | .string s => .d .str s
  | .slice none 0 0 => .nils
  | .agg _ => .dead
  | .tuple _ => .dead
  | v => .d .any v

/-- nil, where a slice of a kind is asked for. -/
def typed (C : Ctx) (i : Nat) : X → X
  | .nils => match C.ty i with
    | some ⟨.slice e, _, _, _⟩ => .sl e [] (some true) true
    | _ => .dead
  | .d .any .nilIface => match C.ty i with
    | some ⟨.err, _, _, _⟩ => .d .err true
    | _ => .d .any .nilIface
  | x => x

/-- Where a table lies. -/
def globX (i : Nat) : X := match tabs i with
  | some ⟨t, x⟩ => .cp t x
  | none => .dead

def St.val (st : St) : Operand → X
  | .tmp t => st.tm.getD t .dead
  | .const v => constX v
  | .func f => .fn f [] []
  | .global i => globX i

abbrev strOf (xs : List Int) : ByteArray := strOfNums xs
def bytesOf (s : ByteArray) : List Int := s.data.toList.map fun b => (b.toNat : Int)

/-- What a test, an addition .. of two plain values comes to. -/
def binK {R : Type} (A : Ar) (op : BinOp) (x y : X) (k : X → Option R) : Option R :=
  match x, y with
  | .d (.int ka) a, .d (.int kb) b =>
    match op with
    | .shl => bif decide (0 ≤ b) then k (.d (.int ka) (A.wrap ka (a * A.p2 b ka.bits))) else none
    | .shr => bif decide (0 ≤ b) then k (.d (.int ka) (Int.fdiv a (A.p2 b ka.bits))) else none
    | _ => if ka = kb then
        match op with
        | .add => k (.d (.int ka) (A.wrap ka (a + b)))
        | .sub => k (.d (.int ka) (A.wrap ka (a - b)))
        | .mul => k (.d (.int ka) (A.wrap ka (a * b)))
        | .quo => bif decide (b = 0) then none else k (.d (.int ka) (A.wrap ka (Int.tdiv a b)))
        | .rem => bif decide (b = 0) then none else k (.d (.int ka) (Int.tmod a b))
        | .and => k (.d (.int ka) (A.wrap ka (A.band ka.bits a b)))
        | .or => k (.d (.int ka) (A.wrap ka (A.bor ka.bits a b)))
        | .xor => k (.d (.int ka) (A.wrap ka (A.bxor ka.bits a b)))
        | .andNot => k (.d (.int ka) (A.wrap ka (A.bclr ka.bits a b)))
        | .eql => k (.d .bool (a == b))
        | .neq => k (.d .bool (a != b))
        | .lss => k (.d .bool (decide (a < b)))
        | .leq => k (.d .bool (decide (a ≤ b)))
        | .gtr => k (.d .bool (decide (a > b)))
        | .geq => k (.d .bool (decide (a ≥ b)))
        | _ => none
      else none
  | .d .str a, .d .str b =>
    match op with
    | .add => bif decide (a.size + b.size ≤ 9223372036854775807) then k (.d .str (a ++ b)) else none
    | .eql => k (.d .bool (A.seq a b))
    | .neq => k (.d .bool (!(A.seq a b)))
    | .lss => k (.d .bool (A.slt a b))
    | .leq => k (.d .bool (A.slt a b || A.seq a b))
    | .gtr => k (.d .bool (!(A.slt a b || A.seq a b)))
    | .geq => k (.d .bool (!A.slt a b))
    | _ => none
  | .d .bool a, .d .bool b =>
    match op with
    | .eql => k (.d .bool (a == b))
    | .neq => k (.d .bool (!(a == b)))
    | _ => none
  | .sl _ _ (some nl) _, .nils =>
    match op with
    | .eql => k (.d .bool nl)
    | .neq => k (.d .bool (!nl))
    | _ => none
  | .mref _ _ _ _ _, .nils =>
    match op with
    | .eql => k (.d .bool false)
    | .neq => k (.d .bool true)
    | _ => none
  | .d .err b, .d .any .nilIface =>
    match op with
    | .eql => k (.d .bool b)
    | .neq => k (.d .bool (!b))
    | _ => none
  | .d (.struct c) a, .d (.struct c') b =>
    match castTo c' c b with
    | some b => match op with
      | .eql => k (.d .bool (A.se (eqD c a b)))
      | .neq => k (.d .bool (!(A.se (eqD c a b))))
      | _ => none
    | none => none
  | _, _ => none

/-- May a test of this form be asked of this type? -/
def binTy (C : Ctx) (op : BinOp) (ty : Nat) (yo : Operand) (x y : X) : Bool :=
  match x, y with
  | .d .bool _, .d .bool _ => match C.ty ty with | some ⟨.bool, _, _, _⟩ => true | _ => false
  | .sl .., .nils => match C.ty ty with | some ⟨.slice _, _, _, _⟩ => true | _ => false
  | .mref .., .nils => match C.ty ty with | some ⟨.slice _, _, _, _⟩ => true | _ => false
  | .d .err _, .d .any _ => match C.ty ty, yo with | some ⟨.err, _, _, _⟩, .const _ => true | _, _ => false
  | .d (.struct c) _, .d (.struct _) _ => C.E ty && match C.ty ty with | some ⟨.struct c', _, _, _⟩ => decide (c' = c) | _ => false
  | _, _ => true

def unK (A : Ar) (op : UnOp) (x : X) : Option X :=
  match op, x with
  | .neg, .d (.int k) n => some (.d (.int k) (A.wrap k (0 - n)))
  | .xor, .d (.int k) n => some (.d (.int k) (A.wrap k (A.bxor k.bits (if k.signed then -1 else k.max) n)))
  | .not, .d .bool b => some (.d .bool (!b))
  | _, _ => none

/-- A literal's elements, place by place. -/
def collectD (e : Ty) : Nat → List Nat → List X → Option (List e.den)
  | _, [], [] => some []
  | n, i :: is, x :: xs => if i = n then match toD e x with
      | some v => match collectD e (n + 1) is xs with
        | some l => some (v :: l)
        | none => none
      | none => none
    else none
  | _, _, _ => none

/-- A struct's parts put, a row's. -/
def setD : (c : Ty) → c.den → Nat → X → Option c.den
  | .prod a _, x, 0, v => match toD a v with
    | some u => some (u, x.2)
    | none => none
  | .prod _ b, x, j + 1, v => match setD b x.2 j v with
    | some u => some (x.1, u)
    | none => none
  | _, _, _, _ => none
def buildD (c : Ty) : c.den → List Nat → List X → Option c.den
  | x, [], [] => some x
  | x, j :: js, v :: vs => match setD c x j v with
    | some y => buildD c y js vs
    | none => none
  | _, _, _ => none
def buildA (n : Nat) (e : Ty) : List e.den → List Nat → List X → Option (List e.den)
  | l, [], [] => some l
  | l, j :: js, v :: vs => if j < n then match toD e v with
      | some u => buildA n e (l.set j u) js vs
      | none => none
    else none
  | _, _, _ => none

/-- What is laid into a variable of it; may it be laid? -/
def layX : X → X
  | .zw a b => .agg [.d .bool b, .sl a [] (some true) true]
  | x => x
def fitS : X → Ty → Bool
  | .zw a _, t => decide (t = stT a)
  | x, t => fitO x t

/-- Does it lead somewhere? -/
def isRef : X → Bool
  | .ptr _ _ | .fn _ _ _ => true
  | _ => false

def indexOf : X → Option Int
  | .d (.int _) i => some i
  | _ => none

/-- A walk over a string's signs: where it stands; the sign there, and how many bytes it has. -/
def iterX (s : ByteArray) (p : Int) : X := .tup [.d .str s, .d (.int .i64) p]
def runeAt (s : ByteArray) (p : Int) : Int := ((Utf8.decode s p.toNat).1 : Nat)
def widthAt (s : ByteArray) (p : Int) : Int := ((Utf8.decode s p.toNat).2 : Nat)

/-- An operation's result: 'v'; which operands' rooms it took over; the variables behind it. 'tr': the result's room is asked for. -/
def coreK {R : Type} (C : Ctx) (tr : Bool) (o : Oper) (vals : List X) (H : Hp) (k : X → List Bool → Hp → Option R) : Option R :=
  match o.op, vals with
  | .move _, [x] => if tr then k (typed C o.type x) [true] H else k (typed C o.type x).unown [] H
  | .assign _, [x] => k (typed C o.type x) [true] H
  | .pick _ _ _, [c, a, b] => match c with
    | .d .bool c => bif c then k (typed C o.type a).unown [] H else k (typed C o.type b).unown [] H
    | _ => none
  | .alloc T, [] => match C.ty T with
    | some e => k (.ptr H.length []) [] (H ++ [(e.t, zeroX e.t e.z)])
    | none => none
  | .box T _, [x] => match C.ty T with
    | some e => if fitO (typed C T x) e.t then k (.ptr H.length []) [true] (H ++ [(e.t, typed C T x)]) else none
    | none => none
  | .buildSlice T n parts, vals => match C.ty T with
    | some ⟨.slice e, _, _, _⟩ =>
      if n * e.size ≤ 16777216 then
        match vals with
        | [.zv a] => if e = stT a ∧ n = 1 ∧ parts.toList.map (·.1) = [0] then k (.zs a) [] H else none
        | _ => match collectD e 0 (parts.toList.map (·.1)) vals with
        | some l => if l.length = n then k (.sl e l (some false) true) [] H else none
        | none => if e = .any ∧ parts.toList.map (·.1) = List.range n ∧ vals.all isRef = true then k (.lst (vals.map X.unown)) [] H else none
      else none
    | _ => none
  | .build T parts, vals => match C.ty T with
    | some ⟨.struct c, z, _, _⟩ => match buildD c z (parts.toList.map (·.1)) vals with
      | some x => k (.d (.struct c) x) [] H
      | none => none
    | some ⟨.arr n e, z, _, _⟩ => match buildA n e z (parts.toList.map (·.1)) vals with
      | some x => k (.d (.arr n e) x) [] H
      | none => none
    | _ => none
  | .load T _, [a] => match C.ty T, a with
    | some e, .cp t x => match castTo t e.t x with
      | some v => k (mkX e.t v) [] H
      | none => none
    | some e, .cx x => if e.t = .any then k x.unown [] H else none
    | some e, .ptr id p => match H[id]? with
      | some (t, .od a xs hole) => match p with
        | [i, 0] => if e.t = .bool then k (.d .bool (List.getD xs i (false, [], ())).1) [] H else none
        | [i, 1] => if e.t = .slice a then
            match tr, hole with
            | true, none => k (.sl a (List.getD xs i (false, [], ())).2.1 none true) [] (H.set id (t, .od a xs (some i)))
            | true, some _ => none
            | false, _ => k (.sl a (List.getD xs i (false, [], ())).2.1 none false) [] H
          else none
        | _ => none
      | some (t, c) => match typeAt t p, getP p c with
        | some t', some y => if t' = e.t then
            match outX e.t y with
            | some z => match tr, y with
              | true, .sl e1 xs nl own => match setP p c (.sl e1 xs nl false) with
                | some c' => k (.sl e1 xs nl own) [] (H.set id (t, c'))
                | none => none
              | _, _ => k z.unown [] H
            | none => none
          else none
        | _, _ => none
      | none => none
    | _, _ => none
  | .store T _ _, [a, x] => match C.ty T, a with
    | some e, .ptr id p => match H[id]? with
      | some (t, .od a xs hole) => match p with
        | [i, 0] => match typed C T x with
          | .d .bool b => if e.t = .bool then k .undef [false, true] (H.set id (t, .od a (List.set xs i (b, (List.getD xs i (false, [], ())).2)) hole)) else none
          | _ => none
        | [i, 1] => match typed C T x, hole with
          | .sl a' ys _ true, some j => if e.t = .slice a then
              match castTo (.slice a') (.slice a) ys with
              | some zs => bif decide (i = j) then k .undef [false, true] (H.set id (t, .od a (List.set xs i ((List.getD xs i (false, [], ())).1, zs, ())) none)) else none
              | none => none
            else none
          | _, _ => none
        | _ => none
      | some (t, c) => match typeAt t p, setP p c (layX (typed C T x)) with
        | some t', some c' => if t' = e.t ∧ fitS (typed C T x) t' = true then k .undef [false, true] (H.set id (t, c')) else none
        | _, _ => none
      | none => none
    | _, _ => none
  | .nilCheck _, [x] => match x with
    | .ptr id p => k (.ptr id p) [] H
    | .cp t v => k (.cp t v) [] H
    | .fn f a b => k (.fn f a b) [] H
    | _ => none
  | .binOp op ty _ yo _, [x, y] => if binTy C op ty yo x y then binK C.A op x y fun v => k v [] H else none
  | .unOp op _ _, [x] => match unK C.A op x with
    | some v => k v [] H
    | none => none
  | .convert s t _, [x] => match C.ty s, C.ty t, x with
    | some ⟨.int _, _, _, _⟩, some ⟨.int kt, _, _, _⟩, .d (.int _) n => k (.d (.int kt) (C.A.wrap kt n)) [] H
    | some ⟨.slice (.int .u8), _, _, _⟩, some ⟨.str, _, _, _⟩, .sl (.int .u8) xs _ _ => k (.d .str (strOf xs)) [] H
    | some ⟨.str, _, _, _⟩, some ⟨.slice (.int .u8), _, _, _⟩, .d .str s => k (.sl (.int .u8) (bytesOf s) (some false) true) [] H
    | some ⟨.str, _, _, _⟩, some ⟨.str, _, _, _⟩, .d .str s => k (.d .str s) [] H
    | some ⟨.slice (.int .u8), _, _, _⟩, some ⟨.slice (.int .u8), _, _, _⟩, .sl (.int .u8) (y :: ys) (some false) true => if s = t then k (.sl (.int .u8) (y :: ys) (some false) true) [true] H else none
    | _, _, _ => none
  | .makeFunc (.func f) first _, vals => k (.fn f ((vals.take first.size).map X.unown) ((vals.drop first.size).map X.unown)) [] H
  | .makeSlice T _ _, [x, y] => match C.ty T, x, y with
    | some ⟨.slice e, _, _, eb⟩, .d (.int _) l, .d (.int _) c => if l = 0 then bif decide (0 ≤ c ∧ c * eb ≤ 140737488355328 ∧ c ≤ 9223372036854775807) then k (.sl e [] (some false) true) [] H else none else none
    | _, _, _ => none
  | .slice T _ lo hi mx, x :: bs => match C.ty T, x with
    | some ⟨.slice e0, _, _, _⟩, .mref e id p off len => if e0 = e then
      match lo.isSome, hi.isSome, mx.isSome, bs with
      | false, false, false, [] => k (.mref e id p off len) [] H
      | true, false, false, [.d (.int _) l] => bif decide (0 ≤ l ∧ l ≤ (len : Int)) then k (.mref e id p (off + Int.toNat l) (len - Int.toNat l)) [] H else none
      | false, true, false, [.d (.int _) h] => bif decide (0 ≤ h ∧ h ≤ (len : Int)) then k (.mref e id p off (Int.toNat h)) [] H else none
      | _, _, _, _ => none
      else none
    | some ⟨.arr n e0, _, _, _⟩, .ptr id p => match H[id]? with
      | some (t, _) => match typeAt t p with
        | some (.arr n' e) => if n = n' ∧ e0 = e then
          match lo.isSome, hi.isSome, mx.isSome, bs with
          | false, false, false, [] => k (.mref e id p 0 n) [] H
          | false, true, false, [.d (.int _) h] => bif decide (0 ≤ h ∧ h ≤ (n : Int)) then k (.mref e id p 0 (Int.toNat h)) [] H else none
          | _, _, _, _ => none
          else none
        | _ => none
      | none => none
    | some ⟨.slice e0, _, _, _⟩, .sl e xs nl _ => if e0 = e then
      match lo.isSome, hi.isSome, mx.isSome, bs with
      | false, false, false, [] => k (.sl e xs nl false) [] H
      | true, false, false, [.d (.int _) l] => bif decide (0 ≤ l ∧ l ≤ (xs.length : Int)) then k (.sl e (xs.drop (Int.toNat l)) nl false) [] H else none
      | false, true, false, [.d (.int _) h] => bif decide (0 ≤ h ∧ h ≤ (xs.length : Int)) then k (.sl e (xs.take (Int.toNat h)) nl false) [] H else none
      | true, true, false, [.d (.int _) l, .d (.int _) h] => bif decide (0 ≤ h ∧ h ≤ (xs.length : Int)) then bif decide (0 ≤ l ∧ l ≤ h) then k (.sl e ((xs.take (Int.toNat h)).drop (Int.toNat l)) nl false) [] H else none else none
      | false, true, true, [.d (.int _) h, .d (.int _) m] => bif decide (0 ≤ h ∧ h ≤ m) then bif decide (m ≤ (xs.length : Int)) then k (.sl e (xs.take (Int.toNat h)) nl false) [] H else none else none
      | true, true, true, [.d (.int _) l, .d (.int _) h, .d (.int _) m] => bif decide (0 ≤ l ∧ l ≤ h) then bif decide (h ≤ m ∧ m ≤ (xs.length : Int)) then k (.sl e ((xs.take (Int.toNat h)).drop (Int.toNat l)) nl false) [] H else none else none
      | _, _, _, _ => none
      else none
    | some ⟨.slice .any, _, _, _⟩, .lst l =>
      match lo.isSome, hi.isSome, mx.isSome, bs with
      | false, true, false, [.d (.int _) h] => bif decide (0 ≤ h ∧ h ≤ (l.length : Int)) then k (.lst (l.take (Int.toNat h))) [] H else none
      | _, _, _, _ => none
    | some ⟨.str, _, _, _⟩, .d .str s =>
      match lo.isSome, hi.isSome, mx.isSome, bs with
      | true, false, false, [.d (.int _) l] => bif decide (0 ≤ l ∧ l ≤ (s.size : Int)) then k (.d .str (s.extract (Int.toNat l) s.size)) [] H else none
      | false, true, false, [.d (.int _) h] => bif decide (0 ≤ h ∧ h ≤ (s.size : Int)) then k (.d .str (s.extract 0 (Int.toNat h))) [] H else none
      | true, true, false, [.d (.int _) l, .d (.int _) h] => bif decide (0 ≤ h ∧ h ≤ (s.size : Int)) then bif decide (0 ≤ l ∧ l ≤ h) then k (.d .str (s.extract (Int.toNat l) (Int.toNat h))) [] H else none else none
      | _, _, _, _ => none
    | _, _ => none
  | .fieldAddr S _ j, [x] => match C.ty S, x with
    | some ⟨.struct c, _, _, _⟩, .cp (.struct c') v => if c = c' then
        match compAt c' v j with
        | some y => if y.1.size = 0 then none else k (.cp y.1 y.2) [] H
        | none => none
      else none
    | some ⟨.struct c, _, _, _⟩, .ptr id p => match H[id]? with
      | some (t, _) => match typeAt t p, chainAt c j with
        | some (.struct c'), some (_, u) => if c' = c ∧ u.size ≠ 0 then k (.ptr id (p ++ [j])) [] H else none
        | _, _ => none
      | none => none
    | _, _ => none
  | .field S _ j, [x] => match C.ty S, x with
    | some ⟨.struct c, _, _, _⟩, .d (.struct c') v => if c = c' then
        match compAt c' v j with
        | some y => k (mkX y.1 y.2) [] H
        | none => none
      else none
    | _, _ => none
  | .indexAddr T _ _, [x, i] => match C.ty T, x, indexOf i with
    | some ⟨.slice e, _, _, _⟩, .sl e' xs _ _, some i => if e = e' then bif decide (0 ≤ i ∧ i < (xs.length : Int)) then k (.cp e' (xs.getD i.toNat e'.zero)) [] H else none else none
    | some ⟨.slice .any, _, _, _⟩, .lst l, some i => bif decide (0 ≤ i ∧ i < (l.length : Int)) then k (.cx (l.getD i.toNat .dead)) [] H else none
    | some ⟨.slice e, _, _, _⟩, .orf a id len, some i => if e = stT a then bif decide (0 ≤ i ∧ i < (len : Int)) then k (.ptr id [i.toNat]) [] H else none else none
    | some ⟨.slice e, _, _, _⟩, .mref e' id p off len, some i => if e = e' then bif decide (0 ≤ i ∧ i < (len : Int)) then k (.ptr id (p ++ [off + i.toNat])) [] H else none else none
    | some ⟨.arr n e, _, _, _⟩, .cp (.arr n' e') l, some i => if n = n' ∧ e = e' then bif decide (0 ≤ i ∧ i < (n' : Int)) then k (.cp e' (List.getD l i.toNat e'.zero)) [] H else none else none
    | some ⟨.arr n e, _, _, _⟩, .ptr id p, some i => match H[id]? with
      | some (t, _) => match typeAt t p with
        | some (.arr n' e') => if n = n' ∧ e = e' then bif decide (0 ≤ i ∧ i < (n' : Int)) then k (.ptr id (p ++ [i.toNat])) [] H else none else none
        | _ => none
      | none => none
    | _, _, _ => none
  | .index T _ _, [x, i] => match C.ty T, x, indexOf i with
    | some ⟨.arr n e, _, _, _⟩, .d (.arr n' e') l, some i => if n = n' ∧ e = e' then bif decide (0 ≤ i ∧ i < (n' : Int)) then k (mkX e' (List.getD l i.toNat e'.zero)) [] H else none else none
    | some ⟨.str, _, _, _⟩, .d .str s, some i => bif decide (0 ≤ i ∧ i < (s.size : Int)) then k (.d (.int .u8) ((bytesOf s).getD i.toNat 0)) [] H else none
    | _, _, _ => none
  | .range T _, [x] => match C.ty T, x with
    | some ⟨.str, _, _, _⟩, .d .str s => k (.ptr H.length []) [] (H ++ [(.unit, iterX s 0)])
    | _, _ => none
  | .next _ str, [x] => if str = true then match x with
    | .ptr id [] => match H[id]? with
      | some (.unit, .tup [.d .str s, .d (.int .i64) p]) => bif decide (p < (s.size : Int)) then k (.tup [.d .bool true, .d (.int .i64) p, .d (.int .i32) (runeAt s p)]) [] (H.set id (.unit, iterX s (p + widthAt s p)))
          else k (.tup [.d .bool false]) [] H
      | _ => none
    | _ => none
    else none
  | .extract _ j, [x] => match x with
    | .tup xs => match xs[j]? with
      | some y => k y.unown [] H
      | none => none
    | _ => none
  | .makeMap T _, [] => match C.Mp T with
    | some ⟨kt, vt, _⟩ => k (.mp H.length) [] (H ++ [(.unit, .asc kt vt [])])
    | none => none
  | .lookup T _ _ ok, [m, x] => match C.Mp T, m with
    | some ⟨kt, vt, z⟩, .mp id => match H[id]? with
      | some (.unit, .asc k1 v1 l) => match toD kt x, castTo (.slice (.prod k1 v1)) (.slice (.prod kt vt)) l with
        | some y, some l => if ok = true then k (.tup [mkX vt (C.A.se ((look kt l y).getD z)), .d .bool (C.A.se (look kt l y).isSome)]) [] H else k (mkX vt (C.A.se ((look kt l y).getD z))) [] H
        | _, _ => none
      | _ => none
    | _, _ => none
  | .mapUpdate T _ _ _, [m, x, v] => match C.Mp T, m with
    | some ⟨kt, vt, _⟩, .mp id => match H[id]? with
      | some (.unit, .asc k1 v1 l) => match toD kt x, toD vt v, castTo (.slice (.prod k1 v1)) (.slice (.prod kt vt)) l with
        | some y, some u, some l => k .undef [] (H.set id (.unit, .asc kt vt (C.A.se (putM kt l y u))))
        | _, _, _ => none
      | _ => none
    | _, _ => none
  | .call c, vals => match c.callee with
    | .builtin .len => match c.argTypes.toList.map C.ty, vals with
      | [some ⟨.slice _, _, _, _⟩], [.sl _ xs _ _] => k (.d (.int .i64) (xs.length : Int)) [] H
      | [some ⟨.slice _, _, _, _⟩], [.mref _ _ _ _ len] => k (.d (.int .i64) (len : Int)) [] H
      | [some ⟨.slice _, _, _, _⟩], [.orf _ _ len] => k (.d (.int .i64) (len : Int)) [] H
      | [some ⟨.slice .any, _, _, _⟩], [.lst l] => k (.d (.int .i64) (l.length : Int)) [] H
      | [some ⟨.str, _, _, _⟩], [.d .str s] => k (.d (.int .i64) (s.size : Int)) [] H
      | [some ⟨.arr n _, _, _, _⟩], [_] => k (.d (.int .i64) (n : Int)) [] H
      | _, _ => none
    | .builtin .append => match c.argTypes.toList, vals with
      | [ts, tx], [s, x] => match C.ty ts, C.ty tx, typed C ts s, typed C tx x with
        | some ⟨.slice e, _, _, eb⟩, some ⟨.slice _, _, _, _⟩, .sl e1 xs nl true, .sl e2 ys _ _ => if e = e1 ∧ 0 < eb then
            match castTo (.slice e2) (.slice e1) ys with
            | some zs => bif decide ((xs.length + List.length zs) * eb ≤ 140737488355328) then k (.sl e1 (xs ++ zs) (nl.map (· && List.isEmpty zs)) true) [true, false] H else none
            | none => none
          else none
        | some ⟨.slice (.int .u8), _, _, eb⟩, some ⟨.str, _, _, _⟩, .sl (.int .u8) xs nl true, .d .str str =>
          if 0 < eb then bif decide ((xs.length + (bytesOf str).length) * eb ≤ 140737488355328) then k (.sl (.int .u8) (xs ++ bytesOf str) (nl.map (· && (bytesOf str).isEmpty)) true) [true, false] H else none else none
        | some ⟨.slice e, _, _, eb⟩, some ⟨.slice _, _, _, _⟩, .ps e1 xs, .sl e2 ys _ _ => if e = e1 ∧ 0 < eb then
            match castTo (.slice e2) (.slice e1) ys with
            | some zs => bif decide ((xs.length + List.length zs) * eb ≤ 140737488355328) then k (.ps e1 (xs ++ zs)) [true, false] H else none
            | none => none
          else none
        | some ⟨.slice e, _, _, eb⟩, some ⟨.slice _, _, _, _⟩, .pd a xs, .zs _ => if e = stT a ∧ 0 < eb then
            bif decide ((xs.length + 1) * eb ≤ 140737488355328) then k (.pd a (xs ++ [(false, [], ())])) [true, false] H else none
          else none
        | _, _, _, _ => none
      | _, _ => none
    | .builtin .clear => match c.argTypes.toList, vals with
      | [T], [.mref e id p off len] => match C.Z T, H[id]? with
        | some z, some (t, c0) => match getP p c0 with
          | some (.d (.arr n e2) l) => if z.1 = e ∧ e = e2 then match castTo z.1 e2 z.2 with
            | some z2 => match setP p c0 (.d (.arr n e2) (List.take off l ++ List.replicate len z2 ++ List.drop (off + len) l)) with
              | some c' => k (.tup []) [] (H.set id (t, c'))
              | none => none
            | none => none
            else none
          | _ => none
        | _, _ => none
      | _, _ => none
    | .builtin .min => match vals with
      | [.d (.int ka) a, .d (.int kb) b] => if ka = kb then k (.d (.int ka) (if b < a then b else a)) [] H else none
      | _ => none
    | .builtin .max => match vals with
      | [.d (.int ka) a, .d (.int kb) b] => if ka = kb then k (.d (.int ka) (if b > a then b else a)) [] H else none
      | _ => none
    | .value _ => match vals with
      | .fn f first cap :: args => if c.argTypes.size = args.length then match C.O f with
        | some (.pure F) => (F (first ++ (List.zipWith (typed C) c.argTypes.toList args).map X.unown ++ cap)).run fun r => k r [] H
        | some (.eff F) => (F (first ++ (List.zipWith (typed C) c.argTypes.toList args).map X.unown ++ cap) H).run fun r => k r.1 [] r.2
        | some (.own F) => match first, c.argTypes.toList, args with
          | [], t :: ts, a :: az => match typed C t a with
            | .sl e xs nl true => (F (.sl e xs nl true :: ((List.zipWith (typed C) ts az).map X.unown ++ cap))).run fun r => k r [false, true] H
            | .ps e xs => (F (.ps e xs :: ((List.zipWith (typed C) ts az).map X.unown ++ cap))).run fun r => k r [false, true] H
            | _ => none
          | _, _, _ => none
        | some (.ext F) => (F (first ++ (List.zipWith (typed C) c.argTypes.toList args).map X.unown ++ cap)).run fun r => k r.unown [] H
        | none => none
        else none
      | .yld id :: args => if c.argTypes.size = args.length then match H[id]? with
        | some (.unit, .rnd key tms) => match C.Y key with
          | some F => (F id tms ((List.zipWith (typed C) c.argTypes.toList args).map X.unown) H).run fun r => k (.d .bool r.1) [] r.2
          | none => none
        | _ => none
        else none
      | _ => none
    | _ => none
  | _, _ => none

/-- The places that an operation reads as operands. -/
def tmpsOf (o : Oper) : List Nat := o.op.operands.toList.filterMap fun | .tmp t => some t | _ => none

def St.put (st : St) (dst : Option Nat) (v : X) : St :=
  match dst with
  | some d => { st with tm := st.tm.set d v }
  | none => st

/-- What took over an operand's room leaves it without. -/
def unownAll : List Operand → List Bool → List X → List X
  | .tmp t :: xs, true :: bs, tm => unownAll xs bs (tm.set t (tm.getD t .dead).unown)
  | _ :: xs, _ :: bs, tm => unownAll xs bs tm
  | _, _, tm => tm

/-- Does it lead to a variable? -/
def leadsX : List X → Bool
  | .ptr _ _ :: _ | .mref _ _ _ _ _ :: _ | .orf _ _ _ :: _ | .mp _ :: _ => true
  | _ => false
/-- Is it told that the operation leads to none? -/
def farOf (C : Ctx) (o : Oper) : Bool := match o.dst with
  | some d => C.far d && (match o.op with | .load .. | .indexAddr .. | .fieldAddr .. => true | _ => false)
  | none => false

def opC {R : Type} (C : Ctx) (tr : Bool) (o : Oper) (st : St) (k : St → Option R) : Option R :=
  if (farOf C o && leadsX (o.op.operands.toList.map st.val)) = true then none else
  coreK C tr o (o.op.operands.toList.map st.val) st.H fun v cons H =>
    k (St.put { tm := unownAll o.op.operands.toList cons st.tm, H := H } o.dst v)

/-- A chain is one down to its end. -/
def chain : Ty → Bool
  | .unit => true
  | .prod _ b => chain b
  | _ => false

/-- A kind in which each struct is a chain. -/
def good : Ty → Bool
  | .slice e => good e
  | .arr _ e => good e
  | .struct c => chain c && good c
  | .prod a b => good a && good b
  | _ => true

/-- What is done to a place ahead of an operation. -/
def preX {R : Type} (n p : Nat) (st : St) (k : St → Option R) : Option R :=
  match n, st.tm.getD p .dead with
  | 1, .sl e [] _ true => k { st with tm := st.tm.set p (.ps e []) }
  | 2, .ps e xs => bif List.isEmpty xs then k { st with tm := st.tm.set p (.sl e [] none false) }
      else if good e then k { tm := st.tm.set p (.mref e st.H.length [] 0 (List.length xs)), H := st.H ++ [(.arr (List.length xs) e, .d (.arr (List.length xs) e) xs)] } else none
  | 4, .ps e xs => k { st with tm := st.tm.set p (.sl e xs none true) }
  | 2, .pd a xs => bif List.isEmpty xs then none
      else if good (stT a) then k { tm := st.tm.set p (.orf a st.H.length (List.length xs)), H := st.H ++ [(.arr (List.length xs) (stT a), .od a xs none), (.bool, .dead)] } else none
  | 7, .orf a id len => match st.H[id]? with
    | some (t, .od a2 xs none) => if a = a2 then k { tm := st.tm.set p (.pd a2 xs), H := st.H.set id (t, .dead) } else none
    | _ => none
  | 4, .pd a xs => k { st with tm := st.tm.set p (.sl (stT a) xs none true) }
  | 3, .mref e id [] off len => match st.H[id]? with
    | some (t, .d (.arr n e2) l) => if e = e2 then k { tm := st.tm.set p (.sl e2 (List.take len (List.drop off l)) (some false) false), H := st.H.set id (t, .dead) } else none
    | _ => none
  | _, _ => k st

/-- Which is it? -/
def hintOf (C : Ctx) (o : Oper) : Nat := match o.dst with
  | some d => C.M d
  | none => 0
def preK {R : Type} (C : Ctx) (o : Oper) (st : St) (k : St → Option R) : Option R :=
  match hintOf C o, o.op.operands.toList with
  | 0, _ => k st
  | n + 100, _ => preX (n % 100) (n / 100) st k
  | n, .tmp p :: _ => preX n p st k
  | _, _ => k st

/-- What is made in another form than 'coreK' tells: a new element of rows with slices of their own (9); a row of zeros that is known nowhere else (10); one such element in a row (11); a new element with its mark (12). -/
def newK {R : Type} (C : Ctx) (n : Nat) (o : Oper) (vals : List X) (k : X → Option R) : Option R :=
  match n, o.op, vals with
  | 9, .build T _, [] => match C.ty T with
    | some ⟨.struct (.prod .bool (.prod (.slice a) .unit)), z, _, _⟩ => bif z.1 then none else k (.zv a)
    | _ => none
  | 10, .makeSlice T _ _, [x, y] => match C.ty T, C.Z T, x, y with
    | some ⟨.slice e, _, _, eb⟩, some z, .d (.int .i64) l, .d (.int .i64) c => match castTo (.slice z.1) (.slice e) [z.2] with
      | some (z :: _) => bif decide (0 ≤ l ∧ l = c ∧ c * eb ≤ 140737488355328 ∧ c ≤ 9223372036854775807) then k (.ps e (List.replicate (Int.toNat l) z)) else none
      | _ => none
    | _, _, _, _ => none
  | 12, .build T parts, [.d .bool b] => match C.ty T with
    | some ⟨.struct (.prod .bool (.prod (.slice a) .unit)), z, _, _⟩ => if parts.toList.map (·.1) = [0] then k (.zw a b) else none
    | _ => none
  | 11, .buildSlice T n parts, [.zv a] => match C.ty T with
    | some ⟨.slice e, _, _, _⟩ => if e = stT a ∧ n = 1 ∧ parts.toList.map (·.1) = [0] then k (.pd a [(false, [], ())]) else none
    | _ => none
  | _, _, _ => none

def opK {R : Type} (C : Ctx) (tr : Bool) (o : Oper) (st : St) (k : St → Option R) : Option R :=
  match hintOf C o with
  | 9 => newK C 9 o (o.op.operands.toList.map st.val) fun v => k (st.put o.dst v)
  | 10 => newK C 10 o (o.op.operands.toList.map st.val) fun v => k (st.put o.dst v)
  | 11 => newK C 11 o (o.op.operands.toList.map st.val) fun v => k (st.put o.dst v)
  | 12 => newK C 12 o (o.op.operands.toList.map st.val) fun v => k (st.put o.dst v)
  | _ => preK C o st fun st => opC C tr o st k

/-- Is the operation's result an append's first argument in this region, or another function's that asks for its room? -/
def asked (C : Ctx) (ops : List Oper) (o : Oper) : Bool :=
  match o.dst with
  | none => false
  | some d => match o.op with
    | .move _ | .load _ _ => ops.any fun p => match p.op with
      | .call c => match c.callee, c.args.toList with
        | .builtin .append, .tmp t :: _ => t == d
        | .value (.func f), .tmp t :: _ => match C.O f with
          | some (.own _) => t == d
          | _ => false
        | _, _ => false
      | _ => false
    | _ => false

/-- A region's operations in the text's order. A guard that hangs on a number that is not known parts the way; on each way it is known. -/
def opsK {R : Type} (C : Ctx) (all : List Oper) : List Oper → St → (St → Option R) → Option R
  | [], st, k => k st
  | o :: r, st, k =>
    match o.guard with
    | none => opK C (asked C all o) o st fun st' => opsK C all r st' k
    | some (j, want) => match (all[j]?).bind (·.dst) with
      | none => none
      | some g => match st.tm.getD g .dead with
        | .undef => opsK C all r (st.put o.dst .undef) k
        | .d .bool b => bif b == want then opK C (asked C all o) o { st with tm := st.tm.set g (.d .bool want) } fun st' => opsK C all r st' k
            else opsK C all r (St.put { st with tm := st.tm.set g (.d .bool !want) } o.dst .undef) k
        | _ => none

/-- Does the operation look at variables that have an address? Does it turn them? -/
def readsH0 (C : Ctx) (o : Oper) : Bool :=
  match o.op with
  | .load .. | .store .. | .alloc _ | .box .. | .fieldAddr .. | .indexAddr .. | .range .. | .next .. | .slice .. | .makeMap .. | .lookup .. | .mapUpdate .. => true
  | .call c => match c.callee with
    | .value (.func f) => match C.O f with
      | some (.pure _) => false
      | some (.ext _) => false
      | _ => true
    | .value _ => true
    | .builtin .clear => true
    | _ => false
  | _ => false
def readsH (C : Ctx) (o : Oper) : Bool := !(farOf C o) && readsH0 C o
def writesH (C : Ctx) (all : List Oper) (o : Oper) : Bool :=
  match o.op with
  | .load .. => asked C all o
  | .store .. | .alloc _ | .box .. | .range .. | .next .. | .makeMap .. | .mapUpdate .. => true
  | .call c => match c.callee with
    | .value (.func f) => match C.O f with
      | some (.pure _) => false
      | some (.ext _) => false
      | _ => true
    | .value _ => true
    | .builtin .clear => true
    | _ => false
  | _ => false

/-- The operands whose room may be taken over. -/
def takes (C : Ctx) (all : List Oper) (o : Oper) : List Nat :=
  match o.op with
  | .assign _ | .box _ _ => tmpsOf o
  | .store _ _ (.tmp t) => [t]
  | .move _ => if asked C all o then tmpsOf o else []
  | .convert s t (.tmp x) => if s = t then [x] else []
  | .call c => match c.callee, c.args.toList with
    | .builtin .append, .tmp t :: _ => [t]
    | .value (.func f), .tmp t :: _ => match C.O f with
      | some (.own _) => [t]
      | _ => []
    | .value (.tmp _), .tmp t :: _ => [t]
    | _, _ => []
  | _ => []

def namesOf (all : List Oper) (o : Oper) : List Nat :=
  tmpsOf o ++ (match o.guard with
    | some (j, _) => ((all[j]?).bind (·.dst)).toList
    | none => [])

def turnsOf (C : Ctx) (all : List Oper) (o : Oper) : List Nat := o.dst.toList ++ takes C all o

/-- Two operations that may be done in either order. -/
def apartB (C : Ctx) (all : List Oper) (x y : Oper) : Bool :=
  hintOf C x == 0 && hintOf C y == 0 &&
  (turnsOf C all x).all (fun t => !(namesOf all y).contains t && !(turnsOf C all y).contains t) && (turnsOf C all y).all (fun t => !(namesOf all x).contains t) &&
  !(writesH C all x && (readsH C y || writesH C all y)) && !(writesH C all y && readsH C x)

/-- Of each operation: those that stand ahead of it in every order. -/
def addNew (l s : List Nat) : List Nat := l.foldr (fun x s => bif s.contains x then s else x :: s) s
def aheadOf (all : List Oper) : List (List Nat) :=
  all.foldl (fun acc o => acc ++ [(o.after.toList.filter fun e => Region.binds .any e).foldl (fun s e => bif s.contains e.on then s else e.on :: addNew (acc.getD e.on []) s) []]) []

/-- Does a region that draws its order come to the same in each? -/
def drawOk (C : Ctx) (all : List Oper) : Bool :=
  let ah := aheadOf all
  (List.range all.length).all fun j => match all[j]? with
    | none => false
    | some y => (y.after.toList.all fun e => !Region.binds .any e || decide (e.on < j)) && (List.range j).all fun i => match all[i]? with
      | none => false
      | some x => (ah.getD j []).contains i || apartB C all x y

/-- The places that live on: the others hold nothing. -/
def keepOnly (n : Nat) (ks : List Nat) (xs : List X) : List X := (List.range n).map fun j => match ks.idxOf? j with
  | some i => xs.getD i .dead
  | none => .dead

/-- A loop's number: that of the first region in it. -/
def firstRegion : Code → Option Nat
  | .region id _ _ => some id
  | .seq a b => match firstRegion a with
    | some i => some i
    | none => firstRegion b
  | .block _ c | .loop c | .scope c => firstRegion c
  | _ => none

/-- What a piece of code comes to. The number bounds how deep its text lies. -/
noncomputable def codeK {R : Type} (C : Ctx) : Nat → Code → St → (Ex → St → Option R) → Option R
  | 0, _, _, _ => none
  | n + 1, c, st, k =>
    match c with
    | .skip => k .normal st
    | .label _ => k .normal st
    | .region id ops draw => match C.J id with
      | none => bif draw && !drawOk C ops.toList then none else opsK C ops.toList ops.toList st (k .normal)
      | some (N, ks, F) => if st.tm.length = N then (F (ks.map fun t => st.tm.getD t .dead) st.H).run fun r => k .normal { tm := keepOnly N ks r.1, H := r.2 } else none
    | .seq a b => codeK C n a st fun e st' => match e with
      | .normal => codeK C n b st' k
      | e => k e st'
    | .cond c a b => match c with
      | .tmp t => match st.tm.getD t .dead with
        | .d .bool v => bif v then codeK C n a { st with tm := st.tm.set t (.d .bool true) } k else codeK C n b { st with tm := st.tm.set t (.d .bool false) } k
        | _ => none
      | .const (.bool v) => if v then codeK C n a st k else codeK C n b st k
      | _ => none
    | .block id c => codeK C n c st fun e st' => match e with
      | .exit i => if i = id then k .normal st' else k (.exit i) st'
      | e => k e st'
    | .loop body => match firstRegion body with
      | none => none
      | some key => match C.L key with
        | none => none
        | some (N, ks, F) => if st.tm.length = N then (F (ks.map fun t => st.tm.getD t .dead) st.H).run fun r => k r.1 { tm := keepOnly N ks r.2.1, H := r.2.2 }
          else none
    | .exit id => k (.exit id) st
    | .scope c => codeK C n c st fun e st' => match e with
      | .goto l => match findLabel c l with
        | some rest => codeK C n rest st' fun e st'' => match e with
          | .goto _ => none
          | e => k e st''
        | none => k (.goto l) st'
      | e => k e st'
    | .goto l => k (.goto l) st
    | .ret => k .ret st
    | .rangeFunc g _ assign body => if C.ins = true then none else match (firstRegion (.seq assign body)).bind C.K with
      | none => none
      | some key => match rounds key, st.val g with
        | some rd, .fn f first cap => match C.O f with
          | some (.eff F) => if st.tm.length = rd.n then
              (F (first ++ .yld st.H.length :: cap) (st.H ++ [(.unit, .rnd key (rd.ks.map fun t => (st.tm.getD t .dead).unown))])).run fun r => match r.2[st.H.length]? with
                | some (.unit, .rnd _ _) => k .normal { st with H := r.2.set st.H.length (.unit, .dead) }
                | some (.unit, .fin _ e) => k e { st with H := r.2.set st.H.length (.unit, .dead) }
                | _ => none
            else none
          | _ => none
        | _, _ => none
    | _ => none

/-- The places of a round's frame. -/
def roundTm (rd : Rd) (tms args : List X) : List X := (rd.ps.toList.zip (args.map X.unown)).foldl (fun l p => l.set p.1 p.2) ((keepOnly rd.n rd.ks tms).map X.unown)

/-- A round: its code, at what the record holds, and at the arguments; whether it goes on, and what the variables hold. -/
noncomputable def roundX (C : Ctx) (fuel key : Nat) (id : Nat) (tms args : List X) (H : Hp) : Option (Bool × Hp) :=
  match rounds key with
  | none => none
  | some rd => if args.length = rd.ps.size then
      codeK C fuel rd.assign { tm := roundTm rd tms args, H := H } fun e st => match e with
        | .normal => match st.H[id]? with
          | some (.unit, .rnd key1 tms1) => codeK C fuel rd.body { tm := st.tm, H := st.H.set id (.unit, .bsy key1 tms1) } fun e st => match st.H[id]? with
            | some (.unit, .bsy key2 tms2) => match e with
              | .normal => some (true, st.H.set id (.unit, .rnd key2 tms2))
              | e => some (false, st.H.set id (.unit, .fin key2 e))
            | _ => none
          | _ => none
        | _ => none
    else none

/-- A function's result, its body being done. -/
def resultX (C : Ctx) (st : St) : ResultVar → Option X
  | .tmp t => some (st.tm.getD t .dead)
  | .cell a T => match C.ty T, st.tm.getD a .dead with
    | some e, .ptr id p => match st.H[id]? with
      | some (t, c) => match typeAt t p, getP p c with
        | some t', some y => if t' = e.t then outX e.t y else none
        | _, _ => none
      | none => none
    | _, _ => none

def resultsX (C : Ctx) (fn : Func) (st : St) : Option X :=
  match fn.results.toList with
  | [r] => resultX C st r
  | rs => match rs.mapM (resultX C st) with
    | some xs => some (.tup (xs.map X.unown))
    | none => none

/-- A function's body, at arguments, and variables: its result, and what the variables hold. -/
noncomputable def bodyX (C : Ctx) (fuel : Nat) (fn : Func) (args : List X) (H : Hp) : Option (X × Hp) :=
  match fn.body with
  | none => none
  | some c => codeK C fuel c { tm := args ++ List.replicate (fn.ntmps - args.length) .undef, H := H } fun e st => match e with
    | .normal | .ret => match resultsX C fn st with
      | some x => some (x, st.H)
      | none => none
    | _ => none

end Go.Proofs.Ytnbfiifkaddehaa.V

/- What the evaluator tells is so: the ground: what is known of the types, of the variables that have an address, of the ghost's steps. -/
namespace Go.Proofs.Ytnbfiifkaddehaa.V
open Go
set_option linter.unusedVariables false

/-! ### Types -/
def szB (P : Program) (n : Nat) (i : Nat) : Bool := match P.info? i with
  | some inf => inf.size == n && (match inf.zero with | some z => z.cells.size == n | none => false)
  | none => false

mutual
def tyB (P : Program) : Ty → Nat → Bool
  | .int k, i => szB P 1 i && (match P.underlying i with | some (.int k') => k' == k | _ => false)
  | .bool, i => szB P 1 i && (match P.underlying i with | some .bool => true | _ => false)
  | .str, i => szB P 1 i && (match P.underlying i with | some .string => true | _ => false)
  | .any, i => szB P 1 i && (match P.underlying i with | some (.struct _) => false | some (.array _ _) => false | some _ => true | none => false)
  | .err, i => szB P 1 i && (match P.underlying i with | some (.interface _) => true | _ => false)
  | .slice e, i => szB P 1 i && (match P.underlying i with | some (.slice ei) => tyB P e ei && decide (0 < e.size) | _ => false)
  | .arr n e, i => szB P (n * e.size) i && (match P.underlying i with | some (.array n' ei) => n' == n && tyB P e ei | _ => false)
  | .struct c, i => szB P c.size i && (match P.underlying i with | some (.struct fs) => chB P c fs.toList 0 | _ => false)
  | .unit, _ => false
  | .prod _ _, _ => false
def chB (P : Program) : Ty → List Field → Nat → Bool
  | .unit, fs, _ => fs.isEmpty
  | .prod a b, fs, off => match fs with
    | f :: rest => f.offset == off && tyB P a f.type && chB P b rest (off + a.size)
    | [] => false
  | _, _, _ => false
end

theorem szB_iff {P : Program} {n i : Nat} (h : szB P n i = true) : ∃ inf z, P.info? i = some inf ∧ inf.size = n ∧ inf.zero = some z ∧ z.cells.size = n := by
  unfold szB at h
  split at h
  · rename_i inf hi
    simp only [Bool.and_eq_true, beq_iff_eq] at h
    obtain ⟨h1, h2⟩ := h
    split at h2
    · rename_i z hz
      exact ⟨inf, z, hi, h1, hz, by simpa using h2⟩
    · cases h2
  · cases h

theorem tyB_sz {P : Program} : ∀ {t : Ty} {i : Nat}, tyB P t i = true → szB P t.size i = true
  | .int _, _, h | .bool, _, h | .str, _, h | .any, _, h | .err, _, h | .slice _, _, h | .arr _ _, _, h | .struct _, _, h => by
    simp only [tyB, Bool.and_eq_true] at h
    exact h.1

theorem tyB_info {P : Program} {t : Ty} {i : Nat} (h : tyB P t i = true) : ∃ inf z, P.info? i = some inf ∧ inf.size = t.size ∧ inf.zero = some z ∧ z.cells.size = t.size := szB_iff (tyB_sz h)

theorem tyB_int {P : Program} {k : IntKind} {i : Nat} (h : tyB P (.int k) i = true) : P.underlying i = some (.int k) := by
  simp only [tyB, Bool.and_eq_true] at h
  obtain ⟨_, h⟩ := h
  split at h
  · rename_i k' hk; rw [hk]; simp at h; rw [h]
  · cases h
theorem tyB_bool {P : Program} {i : Nat} (h : tyB P .bool i = true) : P.underlying i = some .bool := by
  simp only [tyB, Bool.and_eq_true] at h
  obtain ⟨_, h⟩ := h
  split at h
  · assumption
  · cases h
theorem tyB_str {P : Program} {i : Nat} (h : tyB P .str i = true) : P.underlying i = some .string := by
  simp only [tyB, Bool.and_eq_true] at h
  obtain ⟨_, h⟩ := h
  split at h
  · assumption
  · cases h
theorem tyB_err {P : Program} {i : Nat} (h : tyB P .err i = true) : ∃ ms, P.underlying i = some (.interface ms) := by
  simp only [tyB, Bool.and_eq_true] at h
  obtain ⟨_, h⟩ := h
  split at h
  · exact ⟨_, by assumption⟩
  · cases h
theorem tyB_slice {P : Program} {e : Ty} {i : Nat} (h : tyB P (.slice e) i = true) : ∃ ei, P.underlying i = some (.slice ei) ∧ tyB P e ei = true ∧ 0 < e.size := by
  simp only [tyB, Bool.and_eq_true] at h
  obtain ⟨_, h⟩ := h
  split at h
  · rename_i ei he
    simp only [Bool.and_eq_true, decide_eq_true_eq] at h
    exact ⟨ei, he, h⟩
  · cases h
theorem tyB_arr {P : Program} {n : Nat} {e : Ty} {i : Nat} (h : tyB P (.arr n e) i = true) : ∃ ei, P.underlying i = some (.array n ei) ∧ tyB P e ei = true := by
  simp only [tyB, Bool.and_eq_true] at h
  obtain ⟨_, h⟩ := h
  split at h
  · rename_i n' ei he
    simp only [Bool.and_eq_true, beq_iff_eq] at h
    obtain ⟨rfl, h⟩ := h
    exact ⟨ei, he, h⟩
  · cases h
theorem tyB_struct {P : Program} {c : Ty} {i : Nat} (h : tyB P (.struct c) i = true) : ∃ fs, P.underlying i = some (.struct fs) ∧ chB P c fs.toList 0 = true := by
  simp only [tyB, Bool.and_eq_true] at h
  obtain ⟨_, h⟩ := h
  split at h
  · rename_i fs he; exact ⟨fs, he, h⟩
  · cases h

theorem cellsOf_ty {P : Program} {t : Ty} {i : Nat} (h : tyB P t i = true) : P.cellsOf i = t.size := by
  obtain ⟨inf, z, h1, h2, _⟩ := tyB_info h
  simp [Program.cellsOf, h1, h2]

/-- Field j of a struct. -/
theorem chB_at {P : Program} : ∀ {c : Ty} {fs : List Field} {off : Nat}, chB P c fs off = true → ∀ {j : Nat} {o : Nat} {t : Ty}, chainAt c j = some (o, t) → ∃ f, fs[j]? = some f ∧ f.offset = off + o ∧ tyB P t f.type = true
  | .prod a b, [], off, h, _, _, _, _ => by simp [chB] at h
  | .prod a b, f :: rest, off, h, 0, o, t, e => by
    simp only [chB, Bool.and_eq_true, beq_iff_eq] at h
    simp only [chainAt, Option.some.injEq, Prod.mk.injEq] at e
    obtain ⟨rfl, rfl⟩ := e
    exact ⟨f, rfl, by simpa using h.1.1, h.1.2⟩
  | .prod a b, f :: rest, off, h, j + 1, o, t, e => by
    simp only [chB, Bool.and_eq_true, beq_iff_eq] at h
    simp only [chainAt, Option.map_eq_some_iff] at e
    obtain ⟨⟨o', t'⟩, e1, e2⟩ := e
    simp only [Prod.mk.injEq] at e2
    obtain ⟨rfl, rfl⟩ := e2
    obtain ⟨f', h1, h2, h3⟩ := chB_at h.2 e1
    exact ⟨f', by simpa using h1, by rw [h2]; omega, h3⟩
  | .unit, _, _, _, _, _, _, e => by simp [chainAt] at e
  | .int _, _, _, h, _, _, _, _ => by simp [chB] at h
  | .bool, _, _, h, _, _, _, _ => by simp [chB] at h
  | .str, _, _, h, _, _, _, _ => by simp [chB] at h
  | .any, _, _, h, _, _, _, _ => by simp [chB] at h
  | .err, _, _, h, _, _, _, _ => by simp [chB] at h
  | .slice _, _, _, h, _, _, _, _ => by simp [chB] at h
  | .arr _ _, _, _, h, _, _, _, _ => by simp [chB] at h
  | .struct _, _, _, h, _, _, _, _ => by simp [chB] at h

/-- The zero value of a kind, as a value. -/
def zcells : (t : Ty) → t.den → List Value
  | .int k, x => [.int k x]
  | .bool, x => [.bool x]
  | .str, x => [.string x]
  | .any, x => [x]
  | .err, _ => [.nilIface]
  | .slice _, _ => [.slice none 0 0]
  | .arr _ e, l => (List.map (zcells e) l).flatten
  | .struct c, x => zcells c x
  | .unit, _ => []
  | .prod a b, x => zcells a x.1 ++ zcells b x.2

def zval (t : Ty) (x : t.den) : Value := if t.isAgg then .agg (zcells t x).toArray else (zcells t x).headD undef

/-- Zero values: nil slices alone, arrays of the right length. -/
def zB : (t : Ty) → t.den → Bool
  | .slice _, l => List.isEmpty l
  | .arr n e, l => List.length l == n && List.all l (zB e)
  | .struct c, x => zB c x
  | .prod a b, x => zB a x.1 && zB b x.2
  | .any, x => Value.oneCell' x
  | .err, b => b
  | _, _ => true

/-- A type's row fits the program. -/
def TyE.ok (P : Program) (e : TyE) (i : Nat) : Prop :=
  tyB P e.t i = true ∧ ((P.info? i).map fun inf => (inf.zero, inf.bytes)) = some (some (zval e.t e.z), e.bytes) ∧ zB e.t e.z = true ∧
    (match P.underlying i with | some (.slice ei) => (P.info? ei).map (·.bytes) = some e.eb | _ => True)

def TysOk (P : Program) (tys : List (Option TyE)) : Prop := ∀ (i : Nat) (e : TyE), tys[i]? = some (some e) → e.ok P i

theorem Ctx.ty_ok {P : Program} {C : Ctx} (h : TysOk P C.tys) {i : Nat} {e : TyE} (he : C.ty i = some e) : e.ok P i := by
  refine h i e ?_
  unfold Ctx.ty at he
  rw [List.getD_eq_getElem?_getD] at he
  cases hx : C.tys[i]? with
  | none => rw [hx] at he; cases he
  | some x => rw [hx] at he; simp at he; rw [he]

theorem zcells_rep {w : World} {g : Ghost} : ∀ (t : Ty) (x : t.den), zB t x = true → RepC w g t x (zcells t x)
  | .int _, _, _ => rfl
  | .bool, _, _ => rfl
  | .str, _, _ => rfl
  | .any, _, h => ⟨rfl, h⟩
  | .err, b, h => ⟨_, rfl, fun _ => rfl, fun e => by rw [e] at h; cases h⟩
  | .slice e, l, h => by
    have hl : l = [] := by simpa [zB] using h
    subst hl
    exact ⟨none, 0, rfl, Nat.le_refl _, fun i hi => absurd hi (by simp)⟩
  | .arr n e, l, h => by
    simp only [zB, Bool.and_eq_true, beq_iff_eq] at h
    refine ⟨h.1, ?_⟩
    have h2 := h.2
    clear h
    show Parts (RepC w g e) l (List.map (zcells e) l).flatten
    revert h2
    induction l with
    | nil => intro _; rfl
    | cons y l ih =>
      intro h2
      rw [List.all_cons, Bool.and_eq_true] at h2
      exact ⟨_, _, rfl, zcells_rep e y h2.1, ih h2.2⟩
  | .struct c, x, h => zcells_rep c x h
  | .unit, _, _ => rfl
  | .prod a b, x, h => by
    simp only [zB, Bool.and_eq_true] at h
    exact ⟨_, _, rfl, zcells_rep a x.1 h.1, zcells_rep b x.2 h.2⟩

/-! ### Values and their cells -/
theorem IsVal.cells {t : Ty} {cs : List Value} {v : Value} (h : IsVal t cs v) (h1 : t.isAgg = false → v.oneCell' = true) : v.cells.toList = cs := by
  unfold IsVal at h
  split at h
  · subst h; simp [Value.cells]
  · rename_i ha
    subst h
    have := h1 (by simpa using ha)
    cases v <;> simp_all [Value.cells, Value.oneCell']

/-- Cells are no wholes. -/
def Plain (cs : List Value) : Prop := ∀ v ∈ cs, v.oneCell' = true

theorem Parts.plain {α : Type} {R : α → List Value → Prop} (hR : ∀ x cs, R x cs → Plain cs) : ∀ (xs : List α) (cs : List Value), Parts R xs cs → Plain cs
  | [], cs, h => by have h' : cs = [] := h; subst h'; intro v hv; cases hv
  | x :: xs, cs, h => by
    obtain ⟨c1, c2, rfl, h1, h2⟩ := h
    intro v hv
    rcases List.mem_append.1 hv with hv | hv
    · exact hR _ _ h1 v hv
    · exact Parts.plain hR xs c2 h2 v hv

theorem Plain.one {v : Value} (h : v.oneCell' = true) : Plain [v] := by
  intro u hu
  simp at hu
  rw [hu]; exact h

theorem RepC.plain {w : World} {g : Ghost} : ∀ (t : Ty) (x : t.den) (cs : List Value), RepC w g t x cs → Plain cs
  | .int _, _, _, h => by cases h; exact .one rfl
  | .bool, _, _, h => by cases h; exact .one rfl
  | .str, _, _, h => by cases h; exact .one rfl
  | .any, _, _, h => by cases h.1; exact .one h.2
  | .err, b, _, h => by
    obtain ⟨v, rfl, h1, h2⟩ := h
    cases b
    · obtain ⟨t, p, rfl⟩ := h2 rfl; exact .one rfl
    · rw [h1 rfl]; exact .one rfl
  | .slice _, _, _, h => by obtain ⟨_, _, rfl, _⟩ := h; exact .one rfl
  | .arr n e, xs, cs, h => Parts.plain (RepC.plain e) xs cs h.2
  | .struct c, x, cs, h => RepC.plain c x cs h
  | .unit, _, _, h => by cases h; intro v hv; cases hv
  | .prod a b, x, cs, h => by
    obtain ⟨c1, c2, rfl, h1, h2⟩ := h
    intro v hv
    rcases List.mem_append.1 hv with hv | hv
    · exact RepC.plain a _ _ h1 v hv
    · exact RepC.plain b _ _ h2 v hv

theorem IsVal.cells' {w : World} {g : Ghost} {t : Ty} {x : t.den} {cs : List Value} {v : Value} (h : IsVal t cs v) (hr : RepC w g t x cs) : v.cells.toList = cs :=
  h.cells fun ha => by
    unfold IsVal at h
    rw [if_neg (by simp [ha])] at h
    exact RepC.plain t x cs hr v (by simp [h])

/-- The one value of a kind that these cells make. -/
def valOf (t : Ty) (cs : List Value) : Value := if t.isAgg then .agg cs.toArray else cs.headD undef

theorem isVal_valOf {w : World} {g : Ghost} {t : Ty} {x : t.den} {cs : List Value} (hr : RepC w g t x cs) : IsVal t cs (valOf t cs) := by
  unfold IsVal valOf
  split
  · rfl
  · rename_i ha
    have hl := RepC.length t x cs hr
    have h1 : t.size = 1 := by cases t <;> simp_all [Ty.isAgg, Ty.size]
    match cs, hl with
    | [v], _ => rfl
    | [], hl => simp [h1] at hl
    | _ :: _ :: _, hl => simp [h1] at hl

end Go.Proofs.Ytnbfiifkaddehaa.V

/- What the evaluator tells is so: variables that have an address; what a frame holds; what an operation owes. -/
namespace Go.Proofs.Ytnbfiifkaddehaa.V
open Go
set_option linter.unusedVariables false

mutual
/-- What a variable, or a part of one, holds, as cells. -/
def RepO (g : Ghost) (w : World) (dh id : Nat) : X → Ty → Nat → List Value → Prop
  | .d t' x, t, _, cs => t' = t ∧ RepC w g t' x cs
  | .agg xs, t, off, cs => match t with
    | .struct c => RepOs g w dh id xs c off cs
    | _ => False
  | .sl e xs nl own, t, off, cs => t = .slice e ∧ ∃ v, cs = [v] ∧ RepX g w dh (.cell dh id off) (.sl e xs nl own) v
  | .fn f a b, t, _, cs => t = .any ∧ ∃ v, cs = [v] ∧ RepX g w dh .no (.fn f a b) v
  | .ptr i p, t, _, cs => t = .any ∧ ∃ v, cs = [v] ∧ RepX g w dh .no (.ptr i p) v
  | .yld i, t, _, cs => t = .any ∧ ∃ v, cs = [v] ∧ RepX g w dh .no (.yld i) v
  | _, _, _, _ => False
def RepOs (g : Ghost) (w : World) (dh id : Nat) : List X → Ty → Nat → List Value → Prop
  | [], t, _, cs => t = .unit ∧ cs = []
  | x :: xs, t, off, cs => match t with
    | .prod a b => ∃ c1 c2, cs = c1 ++ c2 ∧ RepO g w dh id x a off c1 ∧ RepOs g w dh id xs b (off + a.size) c2
    | _ => False
end

mutual
theorem RepO.ext {g w g' w'} {d dh id : Nat} {K : Key → Prop} (h : Ext g w g' w' d K) (hd : dh ≤ d) (hno : ¬ K .no) :
    ∀ (x : X) (t : Ty) (off : Nat) (cs : List Value), (∀ o', off ≤ o' → o' < off + t.size → ¬ K (.cell dh id o')) → RepO g w dh id x t off cs → RepO g' w' dh id x t off cs
  | .d t' x, t, off, cs, hc, r => by
    simp only [RepO] at r ⊢
    exact ⟨r.1, RepC.ext h t' x cs r.2⟩
  | .agg xs, t, off, cs, hc, r => by
    cases t <;> simp only [RepO] at r ⊢
    exact RepOs.ext h hd hno xs _ off cs hc r
  | .sl e xs nl own, t, off, cs, hc, r => by
    simp only [RepO] at r ⊢
    obtain ⟨r1, v, r2, r3⟩ := r
    subst r1
    exact ⟨rfl, v, r2, RepX.ext h hd hno (hc off (Nat.le_refl _) (by simp [Ty.size])) _ v r3⟩
  | .fn f a b, t, off, cs, hc, r => by
    simp only [RepO] at r ⊢
    obtain ⟨r1, v, r2, r3⟩ := r
    exact ⟨r1, v, r2, RepX.ext h hd hno hno _ v r3⟩
  | .ptr i p, t, off, cs, hc, r => by
    simp only [RepO] at r ⊢
    obtain ⟨r1, v, r2, r3⟩ := r
    exact ⟨r1, v, r2, RepX.ext h hd hno hno _ v r3⟩
  | .yld i, t, off, cs, hc, r => by
    simp only [RepO] at r ⊢
    obtain ⟨r1, v, r2, r3⟩ := r
    exact ⟨r1, v, r2, RepX.ext h hd hno hno _ v r3⟩
  | .rnd _ _, _, _, _, _, r => by simp [RepO] at r
  | .bsy _ _, _, _, _, _, r => by simp [RepO] at r
  | .fin _ _, _, _, _, _, r => by simp [RepO] at r
  | .dead, _, _, _, _, r => by simp [RepO] at r
  | .undef, _, _, _, _, r => by simp [RepO] at r
  | .nils, _, _, _, _, r => by simp [RepO] at r
  | .cp _ _, _, _, _, _, r => by simp [RepO] at r
  | .tup _, _, _, _, _, r => by simp [RepO] at r
  | .lst _, _, _, _, _, r => by simp [RepO] at r
  | .cx _, _, _, _, _, r => by simp [RepO] at r
  | .mref _ _ _ _ _, _, _, _, _, r => by simp [RepO] at r
  | .ps _ _, _, _, _, _, r => by simp [RepO] at r
theorem RepOs.ext {g w g' w'} {d dh id : Nat} {K : Key → Prop} (h : Ext g w g' w' d K) (hd : dh ≤ d) (hno : ¬ K .no) :
    ∀ (xs : List X) (t : Ty) (off : Nat) (cs : List Value), (∀ o', off ≤ o' → o' < off + t.size → ¬ K (.cell dh id o')) → RepOs g w dh id xs t off cs → RepOs g' w' dh id xs t off cs
  | [], t, off, cs, _, r => by simpa only [RepOs] using r
  | x :: xs, t, off, cs, hc, r => by
    cases t <;> simp only [RepOs] at r ⊢
    obtain ⟨c1, c2, r1, r2, r3⟩ := r
    exact ⟨c1, c2, r1, RepO.ext h hd hno x _ off c1 (fun o' l1 l2 => hc o' l1 (by simp only [Ty.size]; omega)) r2, RepOs.ext h hd hno xs _ _ c2 (fun o' l1 l2 => hc o' (by omega) (by simp only [Ty.size]; omega)) r3⟩
end

mutual
theorem RepO.length {g w} {dh id : Nat} : ∀ (x : X) (t : Ty) (off : Nat) (cs : List Value), RepO g w dh id x t off cs → cs.length = t.size
  | .d t' x, t, off, cs, r => by
    simp only [RepO] at r
    obtain ⟨rfl, r⟩ := r
    exact RepC.length _ x cs r
  | .agg xs, t, off, cs, r => by
    cases t <;> simp only [RepO] at r
    have := RepOs.length xs _ off cs r
    exact this
  | .sl e xs nl own, t, off, cs, r => by
    simp only [RepO] at r
    obtain ⟨rfl, v, rfl, _⟩ := r
    rfl
  | .fn f a b, t, off, cs, r => by
    simp only [RepO] at r
    obtain ⟨rfl, v, rfl, _⟩ := r
    rfl
  | .ptr i p, t, off, cs, r => by
    simp only [RepO] at r
    obtain ⟨rfl, v, rfl, _⟩ := r
    rfl
  | .yld i, t, off, cs, r => by
    simp only [RepO] at r
    obtain ⟨rfl, v, rfl, _⟩ := r
    rfl
  | .rnd _ _, _, _, _, r => by simp [RepO] at r
  | .bsy _ _, _, _, _, r => by simp [RepO] at r
  | .fin _ _, _, _, _, r => by simp [RepO] at r
  | .dead, _, _, _, r => by simp [RepO] at r
  | .undef, _, _, _, r => by simp [RepO] at r
  | .nils, _, _, _, r => by simp [RepO] at r
  | .cp _ _, _, _, _, r => by simp [RepO] at r
  | .tup _, _, _, _, r => by simp [RepO] at r
  | .lst _, _, _, _, r => by simp [RepO] at r
  | .cx _, _, _, _, r => by simp [RepO] at r
  | .mref _ _ _ _ _, _, _, _, r => by simp [RepO] at r
  | .ps _ _, _, _, _, r => by simp [RepO] at r
theorem RepOs.length {g w} {dh id : Nat} : ∀ (xs : List X) (t : Ty) (off : Nat) (cs : List Value), RepOs g w dh id xs t off cs → cs.length = t.size
  | [], t, off, cs, r => by
    simp only [RepOs] at r
    obtain ⟨rfl, rfl⟩ := r
    rfl
  | x :: xs, t, off, cs, r => by
    cases t <;> simp only [RepOs] at r
    obtain ⟨c1, c2, rfl, r2, r3⟩ := r
    have h1 := RepO.length x _ off c1 r2
    have h2 := RepOs.length xs _ _ c2 r3
    simp [Ty.size, h1, h2]
end

theorem RepX.onecell_sl {g w} {dh : Nat} {κ : Key} {e : Ty} {xs nl own v} (h : RepX g w dh κ (.sl e xs nl own) v) : v.oneCell' = true := by
  simp only [RepX] at h
  obtain ⟨a, c, rfl, _⟩ := h
  rfl

mutual
theorem RepO.plain {g w} {dh id : Nat} : ∀ (x : X) (t : Ty) (off : Nat) (cs : List Value), RepO g w dh id x t off cs → Plain cs
  | .d t' x, t, off, cs, r => by
    simp only [RepO] at r
    obtain ⟨rfl, r⟩ := r
    exact RepC.plain _ x cs r
  | .agg xs, t, off, cs, r => by
    cases t <;> simp only [RepO] at r
    exact RepOs.plain xs _ off cs r
  | .sl e xs nl own, t, off, cs, r => by
    simp only [RepO] at r
    obtain ⟨rfl, v, rfl, h⟩ := r
    exact .one h.onecell_sl
  | .fn f a b, t, off, cs, r => by
    simp only [RepO] at r
    obtain ⟨rfl, v, rfl, h⟩ := r
    simp only [RepX] at h
    obtain ⟨_, _, rfl, _⟩ := h
    exact .one rfl
  | .ptr i p, t, off, cs, r => by
    simp only [RepO] at r
    obtain ⟨rfl, v, rfl, h⟩ := r
    simp only [RepX] at h
    obtain ⟨_, _, _, _, rfl⟩ := h
    exact .one rfl
  | .yld i, t, off, cs, r => by
    simp only [RepO] at r
    obtain ⟨rfl, v, rfl, h⟩ := r
    simp only [RepX] at h
    obtain ⟨_, rfl⟩ := h
    exact .one rfl
  | .rnd _ _, _, _, _, r => by simp [RepO] at r
  | .bsy _ _, _, _, _, r => by simp [RepO] at r
  | .fin _ _, _, _, _, r => by simp [RepO] at r
  | .dead, _, _, _, r => by simp [RepO] at r
  | .undef, _, _, _, r => by simp [RepO] at r
  | .nils, _, _, _, r => by simp [RepO] at r
  | .cp _ _, _, _, _, r => by simp [RepO] at r
  | .tup _, _, _, _, r => by simp [RepO] at r
  | .lst _, _, _, _, r => by simp [RepO] at r
  | .cx _, _, _, _, r => by simp [RepO] at r
  | .mref _ _ _ _ _, _, _, _, r => by simp [RepO] at r
  | .ps _ _, _, _, _, r => by simp [RepO] at r
theorem RepOs.plain {g w} {dh id : Nat} : ∀ (xs : List X) (t : Ty) (off : Nat) (cs : List Value), RepOs g w dh id xs t off cs → Plain cs
  | [], t, off, cs, r => by
    simp only [RepOs] at r
    obtain ⟨rfl, rfl⟩ := r
    intro v hv; cases hv
  | x :: xs, t, off, cs, r => by
    cases t <;> simp only [RepOs] at r
    obtain ⟨c1, c2, rfl, r2, r3⟩ := r
    intro v hv
    rcases List.mem_append.1 hv with hv | hv
    · exact RepO.plain x _ off c1 r2 v hv
    · exact RepOs.plain xs _ _ c2 r3 v hv
end

/-- Data, as a variable's content. -/
theorem RepO.mkX {g w} {dh id : Nat} {t : Ty} {x : t.den} {off : Nat} {cs : List Value} (h : RepC w g t x cs) : RepO g w dh id (mkX t x) t off cs := by
  cases t
  case slice e =>
    obtain ⟨a, c, rfl, h2, h3⟩ := h
    simp only [V.mkX, RepO]
    refine ⟨trivial, _, rfl, ?_⟩
    simp only [RepX]
    exact ⟨a, c, rfl, h2, h3, (fun b hb => by cases hb), (fun hb => by cases hb)⟩
  all_goals (simp only [V.mkX, RepO]; exact ⟨trivial, h⟩)

theorem RepOs.of_chain {g w} {dh id : Nat} : ∀ (c : Ty) (x : c.den) (off : Nat) (cs : List Value), chain c = true → RepC w g c x cs → RepOs g w dh id (explode c x) c off cs
  | .unit, _, _, _, _, h => by
    simp only [explode, RepOs]
    exact ⟨trivial, h⟩
  | .prod a b, x, off, cs, hc, h => by
    obtain ⟨c1, c2, rfl, h1, h2⟩ := h
    simp only [V.explode, RepOs]
    exact ⟨c1, c2, rfl, RepO.mkX h1, RepOs.of_chain b x.2 _ c2 hc h2⟩
  | .int _, _, _, _, hc, _ | .bool, _, _, _, hc, _ | .str, _, _, _, hc, _ | .any, _, _, _, hc, _ | .err, _, _, _, hc, _ | .slice _, _, _, _, hc, _ | .arr _ _, _, _, _, hc, _ | .struct _, _, _, _, hc, _ => by cases hc

theorem chB_chain {P : Program} : ∀ (c : Ty) (fs : List Field) (off : Nat), chB P c fs off = true → chain c = true
  | .unit, _, _, _ => rfl
  | .prod a b, [], _, h => by simp [chB] at h
  | .prod a b, f :: fs, off, h => by
    simp only [chB, Bool.and_eq_true] at h
    exact chB_chain b fs _ h.2
  | .int _, _, _, h | .bool, _, _, h | .str, _, _, h | .any, _, _, h | .err, _, _, h | .slice _, _, _, h | .arr _ _, _, _, h | .struct _, _, _, h => by simp [chB] at h

/-- A part of a chain of data. -/
theorem RepC.comp {g w} : ∀ (c : Ty) (x : c.den) (cs : List Value) (j : Nat) (y : Σ t : Ty, t.den), RepC w g c x cs → compAt c x j = some y →
    ∃ o pre mid post, chainAt c j = some (o, y.1) ∧ cs = pre ++ mid ++ post ∧ pre.length = o ∧ RepC w g y.1 y.2 mid
  | .prod a b, x, cs, 0, y, h, e => by
    obtain ⟨c1, c2, rfl, h1, h2⟩ := h
    simp only [compAt, Option.some.injEq] at e
    subst e
    exact ⟨0, [], c1, c2, rfl, rfl, rfl, h1⟩
  | .prod a b, x, cs, j + 1, y, h, e => by
    obtain ⟨c1, c2, rfl, h1, h2⟩ := h
    simp only [compAt] at e
    obtain ⟨o, pre, mid, post, e1, rfl, e3, e4⟩ := RepC.comp b x.2 c2 j y h2 e
    refine ⟨a.size + o, c1 ++ pre, mid, post, by simp [chainAt, e1], by simp, ?_, e4⟩
    simp [RepC.length a _ _ h1, e3]
  | .unit, _, _, _, _, _, e | .int _, _, _, _, _, _, e | .bool, _, _, _, _, _, e | .str, _, _, _, _, _, e | .any, _, _, _, _, _, e | .err, _, _, _, _, _, e | .slice _, _, _, _, _, _, e | .arr _ _, _, _, _, _, _, e | .struct _, _, _, _, _, _, e => by
    simp [compAt] at e

theorem Parts.at {α : Type} {R : α → List Value → Prop} {s : Nat} (hR : ∀ x cs, R x cs → cs.length = s) : ∀ (xs : List α) (cs : List Value) (j : Nat) (hj : j < xs.length), Parts R xs cs →
    ∃ pre mid post, cs = pre ++ mid ++ post ∧ pre.length = j * s ∧ R xs[j] mid ∧ ∀ y m, R y m → Parts R (xs.set j y) (pre ++ m ++ post)
  | x :: xs, cs, 0, _, h => by
    obtain ⟨c1, c2, rfl, h1, h2⟩ := h
    exact ⟨[], c1, c2, rfl, by simp, h1, fun y m hy => ⟨m, c2, rfl, hy, h2⟩⟩
  | x :: xs, cs, j + 1, hj, h => by
    obtain ⟨c1, c2, rfl, h1, h2⟩ := h
    obtain ⟨pre, mid, post, rfl, e2, e3, e4⟩ := Parts.at hR xs c2 j (by simpa using hj) h2
    refine ⟨c1 ++ pre, mid, post, by simp, ?_, e3, fun y m hy => ⟨c1, pre ++ m ++ post, by simp, h1, e4 y m hy⟩⟩
    simp [hR _ _ h1, e2, Nat.add_mul, Nat.add_comm]

theorem chainAt_le : ∀ (c : Ty) (j o : Nat) (t : Ty), chainAt c j = some (o, t) → o + t.size ≤ c.size
  | .prod a b, 0, o, t, e => by
    simp only [chainAt, Option.some.injEq, Prod.mk.injEq] at e
    obtain ⟨rfl, rfl⟩ := e
    simp only [Ty.size]; omega
  | .prod a b, j + 1, o, t, e => by
    simp only [chainAt, Option.map_eq_some_iff] at e
    obtain ⟨⟨o', t'⟩, e1, e2⟩ := e
    simp only [Prod.mk.injEq] at e2
    obtain ⟨rfl, rfl⟩ := e2
    have := chainAt_le b j o' t' e1
    simp only [Ty.size]; omega
  | .unit, _, _, _, e | .int _, _, _, _, e | .bool, _, _, _, e | .str, _, _, _, e | .any, _, _, _, e | .err, _, _, _, e | .slice _, _, _, _, e | .arr _ _, _, _, _, e | .struct _, _, _, _, e => by
    simp [chainAt] at e

theorem RepOs.at {g w g' w'} {d dh id : Nat} {K : Key → Prop} (he : Ext g w g' w' d K) (hd : dh ≤ d) (hno : ¬ K .no) : ∀ (xs : List X) (c : Ty) (off : Nat) (cs : List Value) (j o : Nat) (t : Ty) (x : X), RepOs g w dh id xs c off cs → chainAt c j = some (o, t) → xs[j]? = some x →
    ∃ pre mid post, cs = pre ++ mid ++ post ∧ pre.length = o ∧ RepO g w dh id x t (off + o) mid ∧ ∀ y m, (∀ o', off ≤ o' → o' < off + c.size → K (.cell dh id o') → off + o ≤ o' ∧ o' < off + o + t.size) → RepO g' w' dh id y t (off + o) m → RepOs g' w' dh id (xs.set j y) c off (pre ++ m ++ post)
  | [], _, _, _, _, _, _, _, _, _, e => by simp at e
  | x :: xs, c, off, cs, 0, o, t, y, h, e, ex => by
    cases c <;> simp only [RepOs] at h
    obtain ⟨c1, c2, rfl, h1, h2⟩ := h
    simp only [chainAt, Option.some.injEq, Prod.mk.injEq] at e
    obtain ⟨rfl, rfl⟩ := e
    simp at ex
    subst ex
    exact ⟨[], c1, c2, rfl, rfl, h1, fun y m hK hy => by
      simp only [List.set_cons_zero, RepOs]
      refine ⟨m, c2, rfl, hy, RepOs.ext he hd hno xs _ _ c2 (fun o' l1 l2 k => ?_) h2⟩
      have := (hK o' (by omega) (by simp only [Ty.size]; omega) k).2
      omega⟩
  | x :: xs, c, off, cs, j + 1, o, t, y, h, e, ex => by
    cases c <;> simp only [RepOs] at h
    rename_i a b
    obtain ⟨c1, c2, rfl, h1, h2⟩ := h
    simp only [chainAt, Option.map_eq_some_iff] at e
    obtain ⟨⟨o', t'⟩, e1, e2⟩ := e
    simp only [Prod.mk.injEq] at e2
    obtain ⟨rfl, rfl⟩ := e2
    obtain ⟨pre, mid, post, rfl, f2, f3, f4⟩ := RepOs.at he hd hno xs b _ c2 j o' t' y h2 e1 (by simpa using ex)
    rw [Nat.add_assoc] at f3
    refine ⟨c1 ++ pre, mid, post, by simp, by simp [RepO.length x a off c1 h1, f2], f3, fun y m hK hy => ?_⟩
    simp only [List.set_cons_succ, RepOs]
    refine ⟨c1, pre ++ m ++ post, by simp, RepO.ext he hd hno x a off c1 (fun o1 l1 l2 k => ?_) h1, f4 y m (fun o1 l1 l2 k => by have := hK o1 (by omega) (by simp only [Ty.size]; omega) k; omega) (by rw [Nat.add_assoc]; exact hy)⟩
    have := (hK o1 l1 (by simp only [Ty.size]; omega) k).1
    omega

end Go.Proofs.Ytnbfiifkaddehaa.V

/- What the evaluator tells is so: parts of variables read and written; the heap as a whole; a frame; what an operation owes. -/
namespace Go.Proofs.Ytnbfiifkaddehaa.V
open Go
set_option linter.unusedVariables false

theorem RepO.get {g w} {dh id : Nat} : ∀ (p : List Nat) (c : X) (t : Ty) (off o : Nat) (cs : List Value) (t' : Ty) (y : X), RepO g w dh id c t off cs → pathAt t p = some (o, t') → getP p c = some y →
    ∃ pre mid post, cs = pre ++ mid ++ post ∧ pre.length = o ∧ RepO g w dh id y t' (off + o) mid
  | [], c, t, off, o, cs, t', y, h, e, ey => by
    simp only [pathAt, Option.some.injEq, Prod.mk.injEq] at e
    obtain ⟨rfl, rfl⟩ := e
    simp only [getP, Option.some.injEq] at ey
    subst ey
    exact ⟨[], cs, [], by simp, rfl, h⟩
  | j :: p, c, t, off, o, cs, t', y, h, e, ey => by
    simp only [pathAt] at e
    split at e
    · rename_i o1 t1 e1
      simp only [Option.map_eq_some_iff] at e
      obtain ⟨⟨o2, t2⟩, e2, e3⟩ := e
      simp only [Prod.mk.injEq] at e3
      obtain ⟨rfl, rfl⟩ := e3
      have fin : ∀ u pre mid post, cs = pre ++ mid ++ post → pre.length = o1 → RepO g w dh id u t1 (off + o1) mid → getP p u = some y →
          ∃ pre mid post, cs = pre ++ mid ++ post ∧ pre.length = o1 + o2 ∧ RepO g w dh id y t2 (off + (o1 + o2)) mid := by
        intro u pre mid post ec ep hu eu
        obtain ⟨pre', mid', post', rfl, f2, f3⟩ := RepO.get p u t1 (off + o1) o2 mid t2 y hu e2 eu
        exact ⟨pre ++ pre', mid', post' ++ post, by simp [ec], by simp [ep, f2], by rw [← Nat.add_assoc]; exact f3⟩
      cases c
      case agg xs =>
        simp only [getP] at ey
        split at ey
        · rename_i x ex
          cases t <;> simp only [RepO] at h
          simp only [stepAt] at e1
          obtain ⟨pre, mid, post, f1, f2, f3, _⟩ := RepOs.at (Ext.refl g w dh (fun _ => False)) (Nat.le_refl _) (fun e => e) xs _ off cs j o1 t1 x h e1 ex
          exact fin x pre mid post f1 f2 f3 ey
        · cases ey
      case d t0 x =>
        simp only [RepO] at h
        obtain ⟨rfl, h⟩ := h
        cases t0 <;> simp only [getP] at ey <;> try (cases ey; done)
        case struct c0 =>
          split at ey
          · rename_i z ez
            simp only [stepAt] at e1
            obtain ⟨oz, pre, mid, post, f1, f2, f3, f4⟩ := RepC.comp c0 x cs j z h ez
            rw [e1] at f1
            simp only [Option.some.injEq, Prod.mk.injEq] at f1
            obtain ⟨rfl, rfl⟩ := f1
            exact fin (V.mkX z.1 z.2) pre mid post f2 f3 (RepO.mkX f4) ey
          · cases ey
        case arr n e0 =>
          obtain ⟨h1, h2⟩ := h
          simp only [stepAt] at e1
          split at e1
          · rename_i hj
            simp only [Option.some.injEq, Prod.mk.injEq] at e1
            obtain ⟨rfl, rfl⟩ := e1
            have hj' : j < List.length x := by omega
            obtain ⟨pre, mid, post, f1, f2, f3, _⟩ := Parts.at (RepC.length (w := w) (g := g) e0) x cs j hj' h2
            refine fin (V.mkX e0 (List.getD x j e0.zero)) pre mid post f1 f2 (RepO.mkX ?_) ey
            rw [List.getD_eq_getElem?_getD, List.getElem?_eq_getElem hj']
            exact f3
          · cases e1
      all_goals (simp only [getP] at ey; try (cases ey; done))
    · cases e

theorem castTo_some {t t' : Ty} {x : t.den} {y : t'.den} (h : castTo t t' x = some y) : ∃ e : t = t', e ▸ x = y := by
  unfold castTo at h
  split at h
  · rename_i e; exact ⟨e, by simpa using h⟩
  · cases h

mutual
theorem RepO.toD {g w} {dh id : Nat} : ∀ (x : X) (t : Ty) (off : Nat) (cs : List Value) (y : t.den), RepO g w dh id x t off cs → toD t x = some y → RepC w g t y cs
  | .d t' x, t, off, cs, y, h, e => by
    simp only [RepO] at h
    obtain ⟨rfl, h⟩ := h
    have e' : castTo t' t' x = some y := by
      cases t' <;> simpa only [V.toD] using e
    obtain ⟨e1, rfl⟩ := castTo_some e'
    exact h
  | .agg xs, t, off, cs, y, h, e => by
    cases t <;> simp only [RepO] at h
    rename_i c0
    simp only [V.toD] at e
    exact RepOs.toDs xs c0 off cs y h e
  | .sl e0 xs nl own, t, off, cs, y, h, e => by
    simp only [RepO] at h
    obtain ⟨rfl, v, rfl, h⟩ := h
    simp only [V.toD] at e
    obtain ⟨e1, rfl⟩ := castTo_some e
    simp only [RepX] at h
    obtain ⟨a, c, rfl, h2, h3, _⟩ := h
    exact ⟨a, c, rfl, h2, h3⟩
  | .fn _ _ _, t, off, cs, y, h, e => by
    simp only [RepO] at h
    obtain ⟨rfl, _⟩ := h
    simp [V.toD] at e
  | .ptr _ _, t, off, cs, y, h, e => by
    simp only [RepO] at h
    obtain ⟨rfl, _⟩ := h
    simp [V.toD] at e
  | .yld _, t, off, cs, y, h, e => by
    simp only [RepO] at h
    obtain ⟨rfl, _⟩ := h
    simp [V.toD] at e
  | .rnd _ _, _, _, _, _, r, _ => by simp [RepO] at r
  | .bsy _ _, _, _, _, _, r, _ => by simp [RepO] at r
  | .fin _ _, _, _, _, _, r, _ => by simp [RepO] at r
  | .dead, _, _, _, _, r, _ => by simp [RepO] at r
  | .undef, _, _, _, _, r, _ => by simp [RepO] at r
  | .nils, _, _, _, _, r, _ => by simp [RepO] at r
  | .cp _ _, _, _, _, _, r, _ => by simp [RepO] at r
  | .tup _, _, _, _, _, r, _ => by simp [RepO] at r
  | .lst _, _, _, _, _, r, _ => by simp [RepO] at r
  | .cx _, _, _, _, _, r, _ => by simp [RepO] at r
  | .mref _ _ _ _ _, _, _, _, _, r, _ => by simp [RepO] at r
  | .ps _ _, _, _, _, _, r, _ => by simp [RepO] at r
theorem RepOs.toDs {g w} {dh id : Nat} : ∀ (xs : List X) (t : Ty) (off : Nat) (cs : List Value) (y : t.den), RepOs g w dh id xs t off cs → toDs t xs = some y → RepC w g t y cs
  | [], t, off, cs, y, h, e => by
    simp only [RepOs] at h
    obtain ⟨rfl, rfl⟩ := h
    rfl
  | x :: xs, t, off, cs, y, h, e => by
    cases t <;> simp only [RepOs] at h
    obtain ⟨c1, c2, rfl, h1, h2⟩ := h
    simp only [V.toDs] at e
    split at e
    · rename_i u eu
      split at e
      · rename_i v ev
        simp only [Option.some.injEq] at e
        subst e
        exact ⟨c1, c2, rfl, RepO.toD x _ off c1 u h1 eu, RepOs.toDs xs _ _ c2 v h2 ev⟩
      · cases e
    · cases e
end

theorem goodPath : ∀ (p : List Nat) (t : Ty) (o : Nat) (t' : Ty), good t = true → pathAt t p = some (o, t') → good t' = true
  | [], t, o, t', hg, e => by
    simp only [pathAt, Option.some.injEq, Prod.mk.injEq] at e
    obtain ⟨_, rfl⟩ := e
    exact hg
  | j :: p, t, o, t', hg, e => by
    simp only [pathAt] at e
    split at e
    · rename_i o1 t1 e1
      simp only [Option.map_eq_some_iff] at e
      obtain ⟨⟨o2, t2⟩, e2, e3⟩ := e
      simp only [Prod.mk.injEq] at e3
      obtain ⟨_, rfl⟩ := e3
      refine goodPath p t1 o2 t2 ?_ e2
      cases t <;> simp only [stepAt] at e1 <;> try (cases e1; done)
      case struct c =>
        simp only [good, Bool.and_eq_true] at hg
        have : ∀ (c : Ty) (j o : Nat) (t1 : Ty), good c = true → chainAt c j = some (o, t1) → good t1 = true := by
          intro c
          induction c with
          | prod a b _ ihb =>
            intro j o t1 hg e
            simp only [good, Bool.and_eq_true] at hg
            cases j with
            | zero => simp only [chainAt, Option.some.injEq, Prod.mk.injEq] at e; obtain ⟨_, rfl⟩ := e; exact hg.1
            | succ j =>
              simp only [chainAt, Option.map_eq_some_iff] at e
              obtain ⟨⟨o', t''⟩, e1, e2⟩ := e
              simp only [Prod.mk.injEq] at e2
              obtain ⟨_, rfl⟩ := e2
              exact ihb j o' _ hg.2 e1
          | _ => intro j o t1 _ e; simp [chainAt] at e
        exact this c j o1 t1 hg.2 e1
      case arr n e0 =>
        split at e1
        · simp only [Option.some.injEq, Prod.mk.injEq] at e1
          obtain ⟨_, rfl⟩ := e1
          exact hg
        · cases e1
    · cases e

theorem pathAt_le : ∀ (p : List Nat) (t : Ty) (o : Nat) (t' : Ty), pathAt t p = some (o, t') → o + t'.size ≤ t.size
  | [], t, o, t', e => by
    simp only [pathAt, Option.some.injEq, Prod.mk.injEq] at e
    obtain ⟨rfl, rfl⟩ := e
    omega
  | j :: p, t, o, t', e => by
    simp only [pathAt] at e
    split at e
    · rename_i o1 t1 e1
      simp only [Option.map_eq_some_iff] at e
      obtain ⟨⟨o2, t2⟩, e2, e3⟩ := e
      simp only [Prod.mk.injEq] at e3
      obtain ⟨rfl, rfl⟩ := e3
      have h2 := pathAt_le p t1 o2 t2 e2
      have h1 : o1 + t1.size ≤ t.size := by
        cases t <;> simp only [stepAt] at e1 <;> try (cases e1; done)
        case struct c => exact chainAt_le c j o1 t1 e1
        case arr n e0 =>
          split at e1
          · simp only [Option.some.injEq, Prod.mk.injEq] at e1
            obtain ⟨rfl, rfl⟩ := e1
            rename_i hj
            have := Nat.mul_le_mul_right e0.size (show j + 1 ≤ n by omega)
            simp only [Ty.size]
            rw [Nat.add_mul] at this
            omega
          · cases e1
      omega
    · cases e

theorem RepO.set {g w g' w'} {d dh id : Nat} {K : Key → Prop} (he : Ext g w g' w' d K) (hd : dh ≤ d) (hno : ¬ K .no) :
    ∀ (p : List Nat) (c : X) (t : Ty) (off o : Nat) (cs : List Value) (t' : Ty) (y c' : X) (m : List Value), good t = true → RepO g w dh id c t off cs → pathAt t p = some (o, t') → setP p c y = some c' →
    (∀ o', off ≤ o' → o' < off + t.size → K (.cell dh id o') → off + o ≤ o' ∧ o' < off + o + t'.size) →
    RepO g' w' dh id y t' (off + o) m → ∃ pre mid post, cs = pre ++ mid ++ post ∧ pre.length = o ∧ mid.length = t'.size ∧ RepO g' w' dh id c' t off (pre ++ m ++ post)
  | [], c, t, off, o, cs, t', y, c', m, hg, h, e, ey, hK, hy => by
    simp only [pathAt, Option.some.injEq, Prod.mk.injEq] at e
    obtain ⟨rfl, rfl⟩ := e
    have ey2 : y = c' := by
      cases c <;> simp only [setP, Option.some.injEq] at ey <;> first | exact ey | cases ey
    subst ey2
    exact ⟨[], cs, [], by simp, rfl, RepO.length c t off cs h, by simpa using hy⟩
  | j :: p, c, t, off, o, cs, t', y, c', m, hg, h, e, ey, hK, hy => by
    have hgs : ∀ o1 t1, pathAt t [j] = some (o1, t1) → good t1 = true := fun o1 t1 e1 => goodPath [j] t o1 t1 hg e1
    simp only [pathAt] at e
    split at e
    · rename_i o1 t1 e1
      have hg1 : good t1 = true := hgs o1 t1 (by simp [pathAt, e1])
      have hle1 : o1 + t1.size ≤ t.size := pathAt_le [j] t o1 t1 (by simp [pathAt, e1])
      simp only [Option.map_eq_some_iff] at e
      obtain ⟨⟨o2, t2⟩, e2, e3⟩ := e
      simp only [Prod.mk.injEq] at e3
      obtain ⟨rfl, rfl⟩ := e3
      have hle2 := pathAt_le p t1 o2 t2 e2
      rw [← Nat.add_assoc] at hy
      have hK1 : ∀ o', off + o1 ≤ o' → o' < off + o1 + t1.size → K (.cell dh id o') → off + o1 + o2 ≤ o' ∧ o' < off + o1 + o2 + t2.size := fun o' l1 l2 k => by
        have := hK o' (by omega) (by omega) k
        omega
      have hK2 : ∀ o', off ≤ o' → o' < off + t.size → K (.cell dh id o') → off + o1 ≤ o' ∧ o' < off + o1 + t1.size := fun o' l1 l2 k => by
        have := hK o' l1 l2 k
        omega
      cases c
      case agg xs =>
        simp only [setP] at ey
        split at ey
        · rename_i x ex
          split at ey
          · rename_i x' ex'
            simp only [Option.some.injEq] at ey
            subst ey
            cases t <;> simp only [RepO] at h
            simp only [stepAt] at e1
            obtain ⟨pre, mid, post, rfl, f2, f3, f4⟩ := RepOs.at he hd hno xs _ off cs j o1 t1 x h e1 ex
            obtain ⟨pre', mid', post', rfl, k2, k3, k4⟩ := RepO.set he hd hno p x t1 (off + o1) o2 mid t2 y x' m hg1 f3 e2 ex' hK1 hy
            refine ⟨pre ++ pre', mid', post' ++ post, by simp, by simp [f2, k2], k3, ?_⟩
            simp only [RepO]
            have := f4 x' _ hK2 k4
            simpa using this
          · cases ey
        · cases ey
      case d t0 x =>
        simp only [RepO] at h
        obtain ⟨rfl, h⟩ := h
        cases t0 <;> simp only [setP] at ey <;> try (cases ey; done)
        case struct c0 =>
          split at ey
          · rename_i u eu
            split at ey
            · rename_i u' eu'
              simp only [Option.some.injEq] at ey
              subst ey
              simp only [stepAt] at e1
              simp only [good, Bool.and_eq_true] at hg
              have h' := RepOs.of_chain (dh := dh) (id := id) c0 x off cs hg.1 h
              obtain ⟨pre, mid, post, rfl, f2, f3, f4⟩ := RepOs.at he hd hno _ _ off cs j o1 t1 u h' e1 eu
              obtain ⟨pre', mid', post', rfl, k2, k3, k4⟩ := RepO.set he hd hno p u t1 (off + o1) o2 mid t2 y u' m hg1 f3 e2 eu' hK1 hy
              refine ⟨pre ++ pre', mid', post' ++ post, by simp, by simp [f2, k2], k3, ?_⟩
              simp only [RepO]
              have := f4 u' _ hK2 k4
              simpa using this
            · cases ey
          · cases ey
        case arr n e0 =>
          split at ey
          · rename_i u eu
            split at ey
            · rename_i v ev
              simp only [Option.some.injEq] at ey
              subst ey
              obtain ⟨h1, h2⟩ := h
              simp only [stepAt] at e1
              split at e1
              · rename_i hj
                simp only [Option.some.injEq, Prod.mk.injEq] at e1
                obtain ⟨rfl, rfl⟩ := e1
                have hj' : j < List.length x := by omega
                obtain ⟨pre, mid, post, rfl, f2, f3, f4⟩ := Parts.at (RepC.length (w := w) (g := g) e0) x cs j hj' h2
                have hx : RepO g w dh id (V.mkX e0 (List.getD x j e0.zero)) e0 (off + j * e0.size) mid := RepO.mkX (by
                  rw [List.getD_eq_getElem?_getD, List.getElem?_eq_getElem hj']
                  exact f3)
                have h2' := Parts.imp (RepC.ext he e0) x _ h2
                obtain ⟨pre0, mid0, post0, g1, g2, g3, g4⟩ := Parts.at (RepC.length (w := w') (g := g') e0) x _ j hj' h2'
                have hml := RepC.length e0 _ _ f3
                have hml0 := RepC.length e0 _ _ g3
                have g1' : pre ++ (mid ++ post) = pre0 ++ (mid0 ++ post0) := by simpa [List.append_assoc] using g1
                obtain ⟨q1, q2⟩ := List.append_inj g1' (by rw [f2, g2])
                obtain ⟨q3, q4⟩ := List.append_inj q2 (by rw [hml, hml0])
                subst q1; subst q4
                obtain ⟨pre', mid', post', rfl, k2, k3, k4⟩ := RepO.set he hd hno p _ e0 (off + j * e0.size) o2 mid t2 y u m hg1 hx e2 eu hK1 hy
                refine ⟨pre ++ pre', mid', post' ++ post, by simp, by simp [f2, k2], k3, ?_⟩
                simp only [RepO]
                refine ⟨trivial, by simp [h1], ?_⟩
                have := g4 v _ (RepO.toD u e0 _ _ v k4 ev)
                simpa using this
              · cases e1
            · cases ey
          · cases ey
      all_goals (simp only [setP] at ey; try (cases ey; done))
    · cases e

def Ex.code : Ex → Code
  | .normal => .skip
  | .exit id => .exit id
  | .goto l => .goto l
  | .ret => .ret

/-- A range's record holds this code. -/
def RndAt (key : Nat) (L : Loop) (rd : Rd) : Prop := rounds key = some rd ∧ L.params = rd.ps ∧ L.assign = rd.assign ∧ L.body = rd.body

/-- What its places hold, as far as a round reads them. -/
def RndT (g : Ghost) (w : World) (dh : Nat) (rd : Rd) (tms : List X) (tmps : Array Value) : Prop :=
  tmps.size = rd.n ∧ ∀ i t, rd.ks[i]? = some t → RepX g w dh .no (tms.getD i .dead) (tmps.getD t undef)

/-- A map's entries, as data. -/
def EsR (g : Ghost) (w : World) (k v : Ty) : List (k.den × v.den) → List MapEntry → Prop
  | [], es => es = []
  | p :: l, es => ∃ e r, es = e :: r ∧ (∃ cs, RepC w g k p.1 cs ∧ e.key = valOf k cs) ∧ (∃ cs, RepC w g v p.2 cs ∧ e.val = valOf v cs) ∧ EsR g w k v l r
theorem EsR.ext {g w g' w'} {d : Nat} {K : Key → Prop} (h : Ext g w g' w' d K) {k v : Ty} : ∀ {l : List (k.den × v.den)} {es : List MapEntry}, EsR g w k v l es → EsR g' w' k v l es
  | [], _, r => r
  | _ :: l, _, ⟨e, r, h1, ⟨c1, h2, h3⟩, ⟨c2, h4, h5⟩, h6⟩ => ⟨e, r, h1, ⟨c1, RepC.ext h _ _ _ h2, h3⟩, ⟨c2, RepC.ext h _ _ _ h4, h5⟩, EsR.ext h h6⟩

/-- Blocks that are no rows of cells: a walk over a string; a range's record. -/
def OtherO (g : Ghost) (w : World) (dh : Nat) : X → Obj → Prop
  | .dead, _ => True
  | .rnd key tms, o => ∃ L rd, o = .loop L ∧ RndAt key L rd ∧ L.state = .ready ∧ L.pending = none ∧ RndT g w dh rd tms L.tmps
  | .bsy key tms, o => ∃ L rd, o = .loop L ∧ RndAt key L rd ∧ L.state = .busy ∧ L.pending = none ∧ RndT g w dh rd tms L.tmps
  | .fin _ e, o => ∃ L, o = .loop L ∧ L.state = .done ∧ L.pending = some e.code
  | .asc k v l, o => ∃ es clock, o = .map es clock ∧ EsR g w k v l es.toList
  | c, o => ∃ s, ∃ n : Nat, c = iterX s n ∧ o = .stringIter s n

theorem OtherO.iter {g : Ghost} {w : World} {dh : Nat} {s : ByteArray} {p : Int} {o : Obj} (h : OtherO g w dh (iterX s p) o) : ∃ n : Nat, p = n ∧ o = .stringIter s n := by
  obtain ⟨s', n, h1, h2⟩ := h
  simp only [iterX, X.tup.injEq, List.cons.injEq, X.d.injEq, and_true, true_and, heq_eq_eq] at h1
  obtain ⟨rfl, rfl⟩ := h1
  exact ⟨n, rfl, h2⟩

theorem RndT.ext {g w g' w'} {d dh : Nat} {K : Key → Prop} (h : Ext g w g' w' d K) (hd : dh ≤ d) (hno : ¬ K .no) {rd : Rd} {tms : List X} {tmps : Array Value} (r : RndT g w dh rd tms tmps) : RndT g' w' dh rd tms tmps :=
  ⟨r.1, fun i t e => RepX.ext h hd hno hno _ _ (r.2 i t e)⟩

theorem OtherO.ext {g w g' w'} {d dh : Nat} {K : Key → Prop} (h : Ext g w g' w' d K) (hd : dh ≤ d) (hno : ¬ K .no) : ∀ {c : X} {o : Obj}, OtherO g w dh c o → OtherO g' w' dh c o
  | .rnd key tms, o, r => by
    obtain ⟨L, rd, h1, h2, h3, h4, h5⟩ := r
    exact ⟨L, rd, h1, h2, h3, h4, h5.ext h hd hno⟩
  | .bsy key tms, o, r => by
    obtain ⟨L, rd, h1, h2, h3, h4, h5⟩ := r
    exact ⟨L, rd, h1, h2, h3, h4, h5.ext h hd hno⟩
  | .fin _ _, _, r => r
  | .asc k v l, o, r => by
    obtain ⟨es, clock, h1, h2⟩ := r
    exact ⟨es, clock, h1, h2.ext h⟩
  | .dead, _, r => r
  | .pd _ _, _, r | .orf _ _ _, _, r | .od _ _ _, _, r | .zv _, _, r | .zs _, _, r | .zw _ _, _, r | .mp _, _, r
  | .undef, _, r | .nils, _, r | .d _ _, _, r | .sl _ _ _ _, _, r | .cp _ _, _, r | .ptr _ _, _, r | .fn _ _ _, _, r | .tup _, _, r | .agg _, _, r | .lst _, _, r | .cx _, _, r | .mref _ _ _ _ _, _, r | .ps _ _, _, r | .yld _, _, r => r

/-- What a variable holds, or another block. -/
def HAt (g : Ghost) (w : World) (dh id : Nat) (t : Ty) (c : X) : Prop :=
  (∃ arr ty fr, w.heap[g.μ dh id]? = some (.cells arr ty fr) ∧ (fr.1 = fr.2 ∨ arr.size ≤ fr.1) ∧ RepO g w dh id c t 0 (arr.toList.take t.size)) ∨
    (t = .unit ∧ ∃ o, w.heap[g.μ dh id]? = some o ∧ OtherO g w dh c o) ∨
    ∃ a xs hole, c = .od a xs hole ∧ t = .arr xs.length (stT a) ∧ id + 1 < g.N dh ∧ xs.length ≤ g.μ dh (id + 1) ∧ ∃ arr ty fr h, w.heap[g.μ dh id]? = some (.cells arr ty fr) ∧ fr.1 = fr.2 ∧ arr.size = g.μ dh (id + 1) * 2 ∧
      OdR g w (.cell dh id 0) a xs hole h (fun k => arr[k]?)

theorem tyB_unit {P : Program} {t : Ty} {i : Nat} (h : tyB P t i = true) : t ≠ .unit := by
  rintro rfl
  simp [tyB] at h
theorem typeAt_unit : ∀ {p : List Nat} {t : Ty}, typeAt .unit p = some t → t = .unit
  | [], _, h => by simpa [typeAt] using h.symm
  | _ :: _, _, h => by simp [typeAt, kidAt] at h
theorem HAt.cells {g w} {dh id : Nat} {t : Ty} {c : X} (h : HAt g w dh id t c) {p : List Nat} {t' : Ty} (hp : typeAt t p = some t') (hne : t' ≠ .unit) (hod : ∀ a xs hole, c ≠ .od a xs hole) :
    ∃ arr ty fr, w.heap[g.μ dh id]? = some (.cells arr ty fr) ∧ (fr.1 = fr.2 ∨ arr.size ≤ fr.1) ∧ RepO g w dh id c t 0 (arr.toList.take t.size) := by
  rcases h with h | ⟨rfl, _⟩ | ⟨a, xs, hole, e, _⟩
  · exact h
  · exact absurd (typeAt_unit hp) hne
  · exact absurd e (hod a xs hole)
theorem HAt.rows {g w} {dh id : Nat} {t : Ty} {a : Ty} {xs : List (Bool × List a.den × Unit)} {hole : Option Nat} (h : HAt g w dh id t (.od a xs hole)) : t = .arr xs.length (stT a) ∧ id + 1 < g.N dh ∧ xs.length ≤ g.μ dh (id + 1) ∧
    ∃ arr ty fr h, w.heap[g.μ dh id]? = some (.cells arr ty fr) ∧ fr.1 = fr.2 ∧ arr.size = g.μ dh (id + 1) * 2 ∧ OdR g w (.cell dh id 0) a xs hole h (fun k => arr[k]?) := by
  rcases h with ⟨_, _, _, _, _, h⟩ | ⟨_, o, _, h⟩ | ⟨a', xs', hole', e, h⟩
  · simp [RepO] at h
  · obtain ⟨s, n, e, _⟩ := h
    simp [iterX] at e
  · cases e
    exact h
theorem HAt.some {g w} {dh id : Nat} {t : Ty} {c : X} (h : HAt g w dh id t c) : ∃ o, w.heap[g.μ dh id]? = Option.some o := by
  rcases h with ⟨arr, ty, fr, h, _⟩ | ⟨_, o, h, _⟩ | ⟨_, _, _, _, _, _, _, arr, ty, fr, _, h, _⟩
  · exact ⟨_, h⟩
  · exact ⟨_, h⟩
  · exact ⟨_, h⟩
theorem HAt.lt {g w} {dh id : Nat} {t : Ty} {c : X} (h : HAt g w dh id t c) : g.μ dh id < w.heap.size := by
  obtain ⟨o, h⟩ := h.some
  exact (Array.getElem?_eq_some_iff.1 h).1
/-- The same block, told of another world. -/
theorem HAt.to {g w g' w'} {d dh id : Nat} {K : Key → Prop} {t : Ty} {c : X} (h : HAt g w dh id t c) (he : Ext g w g' w' d K) (hd : dh ≤ d) (hno : ¬ K .no) (hK : ∀ off, ¬ K (.cell dh id off)) (hμ : g'.μ dh id = g.μ dh id)
    (hb : w'.heap[g.μ dh id]? = w.heap[g.μ dh id]?) : HAt g' w' dh id t c := by
  rcases h with ⟨arr, ty, fr, r5, rf, r6⟩ | ⟨rfl, o, r5, r6⟩ | ⟨a, xs, hole, r1, r2, r3, r4, arr, ty, fr, hh, r5, r6, r7, r8⟩
  · exact .inl ⟨arr, ty, fr, by rw [hμ, hb]; exact r5, rf, RepO.ext he hd hno c t 0 _ (fun off _ _ => hK off) r6⟩
  · exact .inr (.inl ⟨rfl, o, by rw [hμ, hb]; exact r5, r6.ext he hd hno⟩)
  · obtain ⟨l1, l2, l3⟩ := he.mu dh hd (id + 1) r3
    exact .inr (.inr ⟨a, xs, hole, r1, r2, l1, by rw [l2]; exact r4, arr, ty, fr, hh, by rw [hμ, hb]; exact r5, r6, by rw [l2]; exact r7, r8.ext he (hK 0)⟩)

/-- A variable is told of no more, or it is as is told. -/
def HLive (g : Ghost) (w : World) (dh id : Nat) (t : Ty) (c : X) : Prop :=
  (t ≠ .unit ∧ c = .dead) ∨ (g.own (g.μ dh id) = some (.obj dh id) ∧ g.U (g.μ dh id) = 0 ∧ HAt g w dh id t c)

theorem HLive.at {g w} {dh id : Nat} {t : Ty} {c : X} (h : HLive g w dh id t c) (hc : c ≠ .dead) : g.own (g.μ dh id) = some (.obj dh id) ∧ g.U (g.μ dh id) = 0 ∧ HAt g w dh id t c := by
  rcases h with ⟨_, rfl⟩ | h
  · exact absurd rfl hc
  · exact h

theorem HLive.unit {g w} {dh id : Nat} {c : X} (h : HLive g w dh id .unit c) : g.own (g.μ dh id) = some (.obj dh id) ∧ g.U (g.μ dh id) = 0 ∧ HAt g w dh id .unit c := by
  rcases h with ⟨h, _⟩ | h
  · exact absurd rfl h
  · exact h

/-- The same of another world, in which nobody has written there. -/
theorem HLive.to {g w g' w'} {d dh id : Nat} {K : Key → Prop} {t : Ty} {c : X} (h : HLive g w dh id t c) (he : Ext g w g' w' d K) (hd : dh ≤ d) (hno : ¬ K .no) (hK : ∀ off, ¬ K (.cell dh id off)) (hO : ¬ K (.obj dh id)) (hμ : g'.μ dh id = g.μ dh id) :
    HLive g' w' dh id t c := by
  rcases h with h | ⟨r3, r4, r5⟩
  · exact .inl h
  · obtain ⟨l1, l2, l3⟩ := he.keep _ r5.lt (fun κ e' => by rw [r3] at e'; cases e'; exact hO)
    exact .inr ⟨by rw [hμ]; exact l2.trans r3, by rw [hμ]; exact l3.trans r4, r5.to he hd hno hK hμ l1⟩

/-- What the variables that have an address hold. -/
def HRep (g : Ghost) (w : World) (dh : Nat) (H : Hp) : Prop :=
  H.length = g.N dh ∧ ∀ id t c, H[id]? = some (t, c) → g.oty dh id = t ∧ good t = true ∧ HLive g w dh id t c

theorem HRep.ext {g w g' w'} {d dh : Nat} {H : Hp} {K : Key → Prop} (h : Ext g w g' w' d K) (hd : dh ≤ d) (hno : ¬ K .no) (hK : ∀ κ, κ.heap dh → ¬ K κ) (hN : g'.N dh = g.N dh) (r : HRep g w dh H) : HRep g' w' dh H := by
  refine ⟨r.1.trans hN.symm, fun id t c e => ?_⟩
  obtain ⟨r1, r2, r3⟩ := r.2 id t c e
  have hid : id < g.N dh := by
    rw [← r.1]
    exact (List.getElem?_eq_some_iff.1 e).1
  obtain ⟨k1, k2, k3⟩ := h.mu dh hd id hid
  exact ⟨k3.trans r1, r2, r3.to h hd hno (fun off => hK _ rfl) (hK _ rfl) k2⟩

/-- Of a ghost the settled parts alone. -/
def mini (U : Nat → Nat) : Ghost := ⟨U, fun _ => some .no, fun _ => 0, fun _ _ => 0, fun _ _ => .unit⟩

theorem mini_ext {g w g' w'} {d : Nat} {K : Key → Prop} (he : Ext g w g' w' d K) : Ext (mini g.U) w (mini g'.U) w' 0 (fun _ => True) :=
  ⟨he.os, he.tape, he.output, he.size, fun _ _ h => absurd trivial (h .no rfl), he.cells, fun _ _ _ h => absurd h (by simp [mini]), fun _ _ => rfl⟩

theorem mini_out (g : Ghost) (w : World) : Ext (mini g.U) w g w 0 (fun _ => True) :=
  ⟨rfl, rfl, rfl, Nat.le_refl _, fun _ _ h => absurd trivial (h .no rfl), fun _ _ h => ⟨rfl, h⟩, fun _ _ _ h => absurd h (by simp [mini]), fun h hn => absurd trivial (hn (.obj h 0) rfl)⟩

/-- The tables lie where they lay. -/
def Tabs (g : Ghost) (w : World) : Prop := ∀ i t x, tabs i = some ⟨t, x⟩ →
  g.own i = none ∧ ∃ arr ty fr, w.heap[i]? = some (.cells arr ty fr) ∧ RepC w (mini g.U) t x arr.toList ∧ ∀ j, j < arr.size → j < g.U i

theorem Tabs.ext {g w g' w'} {d : Nat} {K : Key → Prop} (he : Ext g w g' w' d K) (h : Tabs g w) : Tabs g' w' := fun i t x e => by
  obtain ⟨h0, arr, ty, fr, h1, h2, h3⟩ := h i t x e
  obtain ⟨k1, k2, k3⟩ := he.keep i (Array.getElem?_eq_some_iff.1 h1).1 (fun κ e' => by rw [h0] at e'; cases e')
  exact ⟨k2.trans h0, arr, ty, fr, k1.trans h1, RepC.ext (mini_ext he) t x _ h2, fun j hj => by rw [k3]; exact h3 j hj⟩

/-- Of blocks that are not yet there nothing is told; the tables lie where they lay. -/
def WF (g : Ghost) (w : World) : Prop := (∀ b, w.heap.size ≤ b → g.own b = none ∧ g.U b = 0) ∧ Tabs g w

theorem glob_rep {g w} (h : WF g w) (dh : Nat) (κ : Key) (i : Nat) : RepX g w dh κ (globX i) (.pointer (some ⟨i, 0, none⟩)) := by
  unfold globX
  split
  · rename_i t x e
    obtain ⟨_, arr, ty, fr, h0, h1, h2⟩ := h.2 i t x e
    simp only [RepX]
    refine ⟨_, arr.toList, rfl, rfl, RepC.ext (mini_out g w) t x _ h1, fun j hj => ?_⟩
    have hj' : j < arr.size := by simpa using hj
    rw [Nat.zero_add]
    exact ⟨by simp [World.cell?, h0, hj'], h2 j hj'⟩
  · simp [RepX]

theorem RepX.unown {g w g' w'} {d dh : Nat} {K : Key → Prop} (h : Ext g w g' w' d K) (hd : dh ≤ d) (hno : ¬ K .no) {κ κ' : Key} : ∀ (x : X) (v : Value), RepX g w dh κ x v → RepX g' w' dh κ' x.unown v
  | .dead, v, r => by simp [X.unown, RepX]
  | .undef, v, r => by simpa only [X.unown, RepX] using r
  | .nils, v, r => by simpa only [X.unown, RepX] using r
  | .d t x, v, r => by
    simp only [X.unown, RepX] at r ⊢
    obtain ⟨cs, h1, h2⟩ := r
    exact ⟨cs, RepC.ext h t x cs h1, h2⟩
  | .sl e xs nl own, v, r => by
    simp only [X.unown, RepX] at r ⊢
    obtain ⟨a, c, h1, h2, h3, h4, h5⟩ := r
    exact ⟨a, c, h1, h2, h3.ext h (RepC.ext h e), h4, fun ho => by cases ho⟩
  | .cp t x, v, r => by
    have := RepX.ext (dh := dh) h hd hno (κ := .no) hno (.cp t x) v (by simp only [RepX] at r ⊢; exact r)
    simp only [X.unown, RepX] at this ⊢
    exact this
  | .ptr id path, v, r => by
    have := RepX.ext (dh := dh) h hd hno (κ := .no) hno (.ptr id path) v (by simp only [RepX] at r ⊢; exact r)
    simp only [X.unown, RepX] at this ⊢
    exact this
  | .fn f first captured, v, r => by
    have := RepX.ext (dh := dh) h hd hno (κ := .no) hno (.fn f first captured) v (by simp only [RepX] at r ⊢; exact r)
    simp only [X.unown, RepX] at this ⊢
    exact this
  | .tup xs, v, r => by
    have := RepX.ext (dh := dh) h hd hno (κ := .no) hno (.tup xs) v (by simp only [RepX] at r ⊢; exact r)
    simp only [X.unown, RepX] at this ⊢
    exact this
  | .lst l, v, r => by
    have := RepX.ext (dh := dh) h hd hno (κ := .no) hno (.lst l) v (by simp only [RepX] at r ⊢; exact r)
    simp only [X.unown, RepX] at this ⊢
    exact this
  | .cx x, v, r => by
    have := RepX.ext (dh := dh) h hd hno (κ := .no) hno (.cx x) v (by simp only [RepX] at r ⊢; exact r)
    simp only [X.unown, RepX] at this ⊢
    exact this
  | .ps e xs, v, r => by simp [X.unown, RepX]
  | .mref e id p off len, v, r => by
    have := RepX.ext (dh := dh) h hd hno (κ := .no) hno (.mref e id p off len) v (by simp only [RepX] at r ⊢; exact r)
    simp only [X.unown, RepX] at this ⊢
    exact this
  | .yld id, v, r => by
    have := RepX.ext (dh := dh) h hd hno (κ := .no) hno (.yld id) v (by simp only [RepX] at r ⊢; exact r)
    simp only [X.unown, RepX] at this ⊢
    exact this
  | .rnd _ _, v, r => by simp [RepX] at r
  | .bsy _ _, v, r => by simp [RepX] at r
  | .fin _ _, v, r => by simp [RepX] at r
  | .agg _, v, r => by simp [RepX] at r
  | .pd a xs, v, r => by simp [X.unown, RepX]
  | .orf a id len, v, r => by
    have := RepX.ext (dh := dh) h hd hno (κ := .no) hno (.orf a id len) v (by simp only [RepX] at r ⊢; exact r)
    simp only [X.unown, RepX] at this ⊢
    exact this
  | .zv a, v, r => by
    have := RepX.ext (dh := dh) h hd hno (κ := .no) hno (.zv a) v (by simp only [RepX] at r ⊢; exact r)
    simp only [X.unown, RepX] at this ⊢
    exact this
  | .zw a b, v, r => by
    have := RepX.ext (dh := dh) h hd hno (κ := .no) hno (.zw a b) v (by simp only [RepX] at r ⊢; exact r)
    simp only [X.unown, RepX] at this ⊢
    exact this
  | .zs a, v, r => by
    have := RepX.ext (dh := dh) h hd hno (κ := .no) hno (.zs a) v (by simp only [RepX] at r ⊢; exact r)
    simp only [X.unown, RepX] at this ⊢
    exact this
  | .mp id, v, r => by
    have := RepX.ext (dh := dh) h hd hno (κ := .no) hno (.mp id) v (by simp only [RepX] at r ⊢; exact r)
    simp only [X.unown, RepX] at this ⊢
    exact this
  | .od _ _ _, v, r => by simp [RepX] at r
  | .asc _ _ _, v, r => by simp [RepX] at r

/-- The same in one world. -/
theorem RepX.unown' {g w} {dh : Nat} {κ κ' : Key} {x : X} {v : Value} (r : RepX g w dh κ x v) : RepX g w dh κ' x.unown v :=
  RepX.unown (Ext.refl g w dh (fun _ => False)) (Nat.le_refl _) (fun h => h) x v r

/-- What a frame is to do when it is left: to come to the marks of its ranges over functions; nothing was laid there. -/
def Marks (g : Ghost) (w : World) (d : Nat) : List Deferred → Prop
  | [] => True
  | x :: l => (∃ D, x = { target := .collected D, args := #[] } ∧ w.heap[D]? = some (.deferred (some [])) ∧ g.own D = some (.mark d) ∧ g.U D = 0 ∧ ∀ y ∈ l, y.target ≠ .collected D) ∧ Marks g w d l

theorem Marks.ext {g w g' w'} {d d' : Nat} {K : Key → Prop} (h : Ext g w g' w' d' K) (hK : ¬ K (.mark d)) : ∀ {l : List Deferred}, Marks g w d l → Marks g' w' d l
  | [], _ => trivial
  | x :: l, r => by
    obtain ⟨⟨D, h1, h2, h3, h4, h5⟩, r⟩ := r
    obtain ⟨k1, k2, k3⟩ := h.keep D (Array.getElem?_eq_some_iff.1 h2).1 (fun κ e => by rw [h3] at e; cases e; exact hK)
    exact ⟨⟨D, h1, k1.trans h2, k2.trans h3, k3.trans h4, h5⟩, Marks.ext h hK r⟩

/-- A frame as the evaluator tells it. -/
structure Fr (g : Ghost) (w : World) (d dh : Nat) (st : St) (a : Act) : Prop where
  len : st.tm.length = a.tmps.size
  rep : ∀ t x, st.tm[t]? = some x → RepX g w dh (.tmp d t) x (a.tmps.getD t undef)
  heap : HRep g w dh st.H
  wf : WF g w
  le : dh ≤ d
  mks : Marks g w d a.defers

end Go.Proofs.Ytnbfiifkaddehaa.V

/- What the evaluator tells is so: what an operation owes; the steps of the ghost. -/
namespace Go.Proofs.Ytnbfiifkaddehaa.V
open Go
set_option linter.unusedVariables false

/-- Whose blocks the operation's result may be. -/
def kd (o : Oper) (d : Nat) : Key := match o.dst with
  | some t => .tmp d t
  | none => .tmp (d + 1) 0

def takenBy : List Operand → List Bool → List Nat
  | .tmp t :: xs, true :: bs => t :: takenBy xs bs
  | _ :: xs, _ :: bs => takenBy xs bs
  | _, _ => []

/-- Whose blocks an operation may write. -/
def Kop (o : Oper) (d dh : Nat) (cons : List Bool) (κ : Key) : Prop :=
  (∃ t, κ = .tmp d t ∧ (o.dst = some t ∨ t ∈ takenBy o.op.operands.toList cons)) ∨ κ.heap dh ∨ κ.deep (d + 1)

theorem Kop.no {o : Oper} {d dh : Nat} {cons : List Bool} : ¬ Kop o d dh cons .no := by
  rintro (⟨t, h, _⟩ | h | h)
  · cases h
  · exact h
  · exact h

/-- Any machine at all; in a round, or not. -/
def rdF (ro : Option Nat) : Fence := { fn := fun _ => True, depth := none, alive := false, round := ro }

theorem Kop.mark {o : Oper} {d dh : Nat} {cons : List Bool} : ¬ Kop o d dh cons (.mark d) := by
  rintro (⟨t, h, _⟩ | h | h)
  · cases h
  · exact h
  · simp only [Key.deep] at h; omega

def OpWp (P : Program) (g : Ghost) (w : World) (d dh : Nat) (o : Oper) (a : Act) (v : X) (cons : List Bool) (H' : Hp) : Prop :=
  ∀ (next : Act → World → Prop) (Q : Exit → Act → World → Prop),
    (∀ val w' g', RepX g' w' dh (kd o d) v val → Ext g w g' w' d (Kop o d dh cons) → HRep g' w' dh H' → WF g' w' → next (a.put o.dst val) w') → ∀ rd, o.wpIn (rdF rd) 0 P a w next Q

theorem semAt_of {P : Program} {o : Oper} {a : Act} {w w' : World} {x : Next} {ro : Option Nat} (h : (execOp a.eval o).run P w = .ok x w') (hx : ∀ d, x ≠ .defer d := by intro d e; cases e) : o.semAt ro a.eval = execOp a.eval o := by
  refine Oper.semAt_eq ro a.eval o fun c hc => ?_
  obtain ⟨dst, op, ty, pos, af, gd⟩ := o
  subst hc
  have e : execOp a.eval ⟨dst, .defer c, ty, pos, af, gd⟩ = (do pure (.defer (← resolve a.eval c ty))) := rfl
  rw [e, Sem.run_bind] at h
  cases hr : (resolve a.eval c ty).run P w with
  | ok d w1 =>
    rw [hr] at h
    simp only [Result.andThen_ok, Sem.run_pure] at h
    cases h
    exact hx _ rfl
  | halt v w1 =>
    rw [hr] at h
    simp only [Result.andThen] at h
    cases h

theorem wp_value {P : Program} {o : Oper} {a : Act} {w w' : World} {val : Value} {next : Act → World → Prop} {Q : Exit → Act → World → Prop}
    (h : (execOp a.eval o).run P w = .ok (.value val) w') (hn : next (a.put o.dst val) w') (rd : Option Nat) : o.wpIn (rdF rd) 0 P a w next Q := by
  refine ⟨fun _ _ => trivial, ?_⟩
  rw [semAt_of h, h]
  exact hn

theorem wp_skip' {P : Program} {o : Oper} {a : Act} {w w' : World} {next : Act → World → Prop} {Q : Exit → Act → World → Prop}
    (h : (execOp a.eval o).run P w = .ok .skip w') (hn : next (a.put o.dst undef) w') (rd : Option Nat) : o.wpIn (rdF rd) 0 P a w next Q := by
  refine ⟨fun _ _ => trivial, ?_⟩
  rw [semAt_of h, h]
  exact hn

/-! ### unown -/
theorem X.unown_unown (x : X) : x.unown.unown = x.unown := by cases x <;> rfl

theorem length_unownAll : ∀ (ops : List Operand) (cons : List Bool) (tm : List X), (unownAll ops cons tm).length = tm.length
  | [], _, _ => by cases ‹List Bool› <;> rfl
  | x :: xs, [], tm => by cases x <;> rfl
  | .tmp t :: xs, true :: bs, tm => by simp [unownAll, length_unownAll xs bs]
  | .tmp t :: xs, false :: bs, tm => by simp [unownAll, length_unownAll xs bs]
  | .const _ :: xs, b :: bs, tm => by simp [unownAll, length_unownAll xs bs]
  | .global _ :: xs, b :: bs, tm => by simp [unownAll, length_unownAll xs bs]
  | .func _ :: xs, b :: bs, tm => by simp [unownAll, length_unownAll xs bs]

theorem getElem?_unownAll : ∀ (ops : List Operand) (cons : List Bool) (tm : List X) (t : Nat), (unownAll ops cons tm)[t]? = if t ∈ takenBy ops cons then (tm[t]?).map X.unown else tm[t]?
  | [], _, _, _ => by cases ‹List Bool› <;> simp [unownAll, takenBy]
  | x :: xs, [], tm, t => by cases x <;> simp [unownAll, takenBy]
  | .tmp u :: xs, true :: bs, tm, t => by
    simp only [unownAll, takenBy, getElem?_unownAll xs bs, List.mem_cons]
    by_cases h : u = t
    · subst h
      simp only [true_or, if_true, List.getD_eq_getElem?_getD]
      by_cases hl : u < tm.length
      · simp [hl, X.unown_unown]
      · simp [List.getElem?_eq_none (Nat.le_of_not_lt hl), List.set_eq_of_length_le (Nat.le_of_not_lt hl)]
    · rw [List.getElem?_set_ne h]
      have h' : ¬ t = u := fun e => h e.symm
      simp [h']
  | .tmp u :: xs, false :: bs, tm, t => getElem?_unownAll xs bs tm t
  | .const _ :: xs, b :: bs, tm, t => getElem?_unownAll xs bs tm t
  | .global _ :: xs, b :: bs, tm, t => getElem?_unownAll xs bs tm t
  | .func _ :: xs, b :: bs, tm, t => getElem?_unownAll xs bs tm t

theorem Act.put_getD_same {a : Act} {d : Nat} {v : Value} (h : d < a.tmps.size) : (a.put (some d) v).tmps.getD d undef = v := by
  simp [Act.put, Array.getD, h]
theorem Act.put_getD_ne {a : Act} {d t : Nat} {v : Value} (h : d ≠ t) : (a.put (some d) v).tmps.getD t undef = a.tmps.getD t undef := by
  simp [Act.put, Array.getElem?_setIfInBounds_ne h]

/-- Behind an operation. -/
theorem Fr.put {g w g' w'} {d dh : Nat} {st : St} {a : Act} {o : Oper} {v : X} {val : Value} {cons : List Bool} {H' : Hp} (h : Fr g w d dh st a)
    (hv : RepX g' w' dh (kd o d) v val) (he : Ext g w g' w' d (Kop o d dh cons)) (hH : HRep g' w' dh H') (hw : WF g' w') :
    Fr g' w' d dh (St.put { tm := unownAll o.op.operands.toList cons st.tm, H := H' } o.dst v) (a.put o.dst val) := by
  have hold : ∀ t x, (unownAll o.op.operands.toList cons st.tm)[t]? = some x → o.dst ≠ some t → RepX g' w' dh (.tmp d t) x (a.tmps.getD t undef) := by
    intro t x hx hd
    rw [getElem?_unownAll] at hx
    split at hx
    · rw [Option.map_eq_some_iff] at hx
      obtain ⟨y, hy, rfl⟩ := hx
      exact RepX.unown he h.le Kop.no y _ (h.rep t y hy)
    · rename_i hnt
      refine RepX.ext he h.le Kop.no ?_ x _ (h.rep t x hx)
      rintro (⟨t', e, hk⟩ | hk | hk)
      · cases e
        rcases hk with hk | hk
        · exact hd hk
        · exact hnt hk
      · exact hk
      · exact absurd hk (Nat.not_succ_le_self d)
  cases hd : o.dst with
  | none =>
    refine ⟨?_, fun t x hx => ?_, by simpa [St.put, hd] using hH, hw, h.le, h.mks.ext he Kop.mark⟩
    · simp only [St.put, Act.put]; rw [length_unownAll]; exact h.len
    · simp only [St.put, Act.put] at hx ⊢
      exact hold t x hx (by rw [hd]; simp)
  | some e =>
    have hk : kd o d = .tmp d e := by simp [kd, hd]
    rw [hk] at hv
    refine ⟨?_, fun t x hx => ?_, by simpa [St.put] using hH, hw, h.le, h.mks.ext he Kop.mark⟩
    · simp only [St.put, Act.put, List.length_set, Array.size_setIfInBounds]; rw [length_unownAll]; exact h.len
    · simp only [St.put] at hx
      by_cases hte : e = t
      · subst hte
        have hlt : e < (unownAll o.op.operands.toList cons st.tm).length := by
          have := (List.getElem?_eq_some_iff.1 hx).1
          simpa using this
        have hx' : x = v := by
          rw [List.getElem?_set_self hlt] at hx
          exact (Option.some.inj hx).symm
        subst hx'
        have hsz : e < a.tmps.size := by rw [length_unownAll, h.len] at hlt; exact hlt
        rw [Act.put_getD_same hsz]
        exact hv
      · rw [List.getElem?_set_ne hte] at hx
        rw [Act.put_getD_ne hte]
        exact hold t x hx (by rw [hd]; simpa using hte)

/-! ### Operands -/
def keyOf (d : Nat) : Operand → Key
  | .tmp t => .tmp d t
  | _ => .no

theorem constX_rep (g : Ghost) (w : World) (dh : Nat) (κ : Key) (v : Value) : RepX g w dh κ (constX v) v := by
  unfold constX
  split
  · simp only [RepX]; exact ⟨_, rfl, rfl⟩
  · simp only [RepX]; exact ⟨_, rfl, rfl⟩
  · simp only [RepX]; exact ⟨_, rfl, rfl⟩
  · simp only [RepX]
  · simp only [RepX]
  · simp only [RepX]
  · rename_i h1 h2 h3 h4 h5 h6
    simp only [RepX]
    refine ⟨_, ⟨rfl, ?_⟩, rfl⟩
    cases v <;> first | rfl | exact absurd rfl (h5 _) | exact absurd rfl (h6 _)

theorem Fr.val {g w} {d dh : Nat} {st : St} {a : Act} (h : Fr g w d dh st a) (x : Operand) : RepX g w dh (keyOf d x) (st.val x) (a.eval x) := by
  cases x with
  | tmp t =>
    simp only [St.val, keyOf, Act.eval, List.getD_eq_getElem?_getD]
    cases ht : st.tm[t]? with
    | none => simp [RepX]
    | some y =>
      have := h.rep t y ht
      simpa using this
  | const v => exact constX_rep g w dh _ v
  | global n => exact glob_rep h.wf dh _ n
  | func f =>
    simp only [St.val, RepX, Act.eval]
    exact ⟨[], [], rfl, by simp [RepXs], by simp [RepXs]⟩

theorem typed_rep {C : Ctx} {g w} {dh : Nat} {κ : Key} {i : Nat} {x : X} {v : Value} (h : RepX g w dh κ x v) : RepX g w dh κ (typed C i x) v := by
  unfold typed
  split
  · simp only [RepX] at h
    subst h
    split
    · simp only [RepX]
      exact ⟨none, 0, rfl, Nat.le_refl _, (fun i hi => absurd hi (by simp)), (fun b hb => by simpa using hb), (fun _ => .inl rfl)⟩
    · simp only [RepX]
  · split
    · simp only [RepX] at h ⊢
      obtain ⟨cs, ⟨rfl, _⟩, h2⟩ := h
      have hv : v = .nilIface := by simpa [IsVal, Ty.isAgg, eq_comm] using h2
      subst hv
      exact ⟨_, ⟨_, rfl, fun _ => rfl, fun e => by cases e⟩, by simp [IsVal, Ty.isAgg]⟩
    · exact h
  · exact h

/-! ### The ghost's steps -/
def Ghost.rekey (g : Ghost) (κ κ' : Key) : Ghost := { g with own := fun b => if g.own b = some κ then some κ' else g.own b }

theorem Ghost.rekey_ext {g : Ghost} {w : World} {d : Nat} {κ κ' : Key} : Ext g w (g.rekey κ κ') w d (fun x => x = κ) :=
  ⟨rfl, rfl, rfl, Nat.le_refl _, fun b _ ho => ⟨rfl, by
    simp only [Ghost.rekey]
    rw [if_neg (fun e => ho κ e rfl)], rfl⟩, fun _ _ h => ⟨rfl, h⟩, fun _ _ _ h => ⟨h, rfl, rfl⟩, fun _ _ => rfl⟩

theorem WF.rekey {g : Ghost} {w : World} {κ κ' : Key} (h : WF g w) : WF (g.rekey κ κ') w := ⟨fun b hb => by
  obtain ⟨h1, h2⟩ := h.1 b hb
  simp only [Ghost.rekey, h1]
  exact ⟨by simp, h2⟩, Tabs.ext (Ghost.rekey_ext (d := 0)) h.2⟩

theorem Own.rekey {g w} {κ κ' : Key} {e : Ty} {a : Option Addr} {n c : Nat} (h : Own g w κ e a n c) : Own (g.rekey κ κ') w κ' e a n c := by
  rcases h with h | ⟨b, arr, ty, fr, e1, e2, e3, e4, e5, e6⟩
  · exact .inl h
  · exact .inr ⟨b, arr, ty, fr, e1, e2, e3, e4, e5, by simp [Ghost.rekey, e6]⟩
theorem OdR.rekey {g w} {κ κ' : Key} {a : Ty} {xs : List (Bool × List a.den × Unit)} {hole : Option Nat} {hd : Nat → Option Addr × Nat} {cell : Nat → Option Value} (h : OdR g w κ a xs hole hd cell) : OdR (g.rekey κ κ') w κ' a xs hole hd cell := by
  refine ⟨fun i hi => ?_, h.2⟩
  obtain ⟨h1, h2, h3, h4, h5⟩ := h.1 i hi
  have he := Ghost.rekey_ext (g := g) (w := w) (d := 0) (κ := κ) (κ' := κ')
  exact ⟨h1, h2, h3, h4.ext he (RepC.ext he a), fun hh => (h5 hh).rekey⟩
theorem OdP.rekey {g w} {κ κ' : Key} {a : Ty} {xs : List (Bool × List a.den × Unit)} {A : Option Addr} {c : Nat} (h : OdP g w κ a xs A c) : OdP (g.rekey κ κ') w κ' a xs A c := by
  rcases h with h | ⟨b, arr, ty, fr, hd, e1, e2, e3, e4, e5, e6, e7, e8⟩
  · exact .inl h
  · exact .inr ⟨b, arr, ty, fr, hd, e1, e2, e3, e4, e5, by simp [Ghost.rekey, e6], e7.rekey, e8⟩

theorem RepX.rekey {g w} {d dh : Nat} {κ κ' : Key} (hd : dh ≤ d) (hκ : κ ≠ .no) : ∀ (x : X) (v : Value), RepX g w dh κ x v → RepX (g.rekey κ κ') w dh κ' x v
  | .sl e xs nl own, v, r => by
    simp only [RepX] at r ⊢
    obtain ⟨a, c, h1, h2, h3, h4, h5⟩ := r
    have he := Ghost.rekey_ext (g := g) (w := w) (d := d) (κ := κ) (κ' := κ')
    refine ⟨a, c, h1, h2, h3.ext he (RepC.ext he e), h4, fun ho => ?_⟩
    rcases h5 ho with h | ⟨b, arr, ty, fr, e1, e2, e3, e4, e5, e6⟩
    · exact .inl h
    · exact .inr ⟨b, arr, ty, fr, e1, e2, e3, e4, e5, by simp [Ghost.rekey, e6]⟩
  | .dead, v, r => by simp [RepX]
  | .undef, v, r => by simpa only [RepX] using r
  | .nils, v, r => by simpa only [RepX] using r
  | .d t x, v, r => by
    have := RepX.unown (dh := dh) (Ghost.rekey_ext (g := g) (w := w) (d := d) (κ := κ) (κ' := κ')) hd (fun e => hκ e.symm) (κ' := κ') _ _ r
    exact this
  | .cp t x, v, r => by
    have := RepX.unown (dh := dh) (Ghost.rekey_ext (g := g) (w := w) (d := d) (κ := κ) (κ' := κ')) hd (fun e => hκ e.symm) (κ' := κ') _ _ r
    exact this
  | .ptr i p, v, r => by
    have := RepX.unown (dh := dh) (Ghost.rekey_ext (g := g) (w := w) (d := d) (κ := κ) (κ' := κ')) hd (fun e => hκ e.symm) (κ' := κ') _ _ r
    exact this
  | .fn f b c, v, r => by
    have := RepX.unown (dh := dh) (Ghost.rekey_ext (g := g) (w := w) (d := d) (κ := κ) (κ' := κ')) hd (fun e => hκ e.symm) (κ' := κ') _ _ r
    exact this
  | .tup xs, v, r => by
    have := RepX.unown (dh := dh) (Ghost.rekey_ext (g := g) (w := w) (d := d) (κ := κ) (κ' := κ')) hd (fun e => hκ e.symm) (κ' := κ') _ _ r
    exact this
  | .lst l, v, r => by
    have := RepX.unown (dh := dh) (Ghost.rekey_ext (g := g) (w := w) (d := d) (κ := κ) (κ' := κ')) hd (fun e => hκ e.symm) (κ' := κ') _ _ r
    exact this
  | .cx x, v, r => by
    have := RepX.unown (dh := dh) (Ghost.rekey_ext (g := g) (w := w) (d := d) (κ := κ) (κ' := κ')) hd (fun e => hκ e.symm) (κ' := κ') _ _ r
    exact this
  | .ps e xs, v, r => by
    simp only [RepX] at r ⊢
    obtain ⟨a, c, h1, h2, h3⟩ := r
    have he := Ghost.rekey_ext (g := g) (w := w) (d := d) (κ := κ) (κ' := κ')
    refine ⟨a, c, h1, h2, ?_⟩
    rcases h3 with h | ⟨b, arr, ty, fr, cs, rest, e1, e2, e3, e4, e5, e6, e7, e8⟩
    · exact .inl h
    · exact .inr ⟨b, arr, ty, fr, cs, rest, e1, e2, e3, e4, e5, by simp [Ghost.rekey, e6], e7, e8.imp (RepC.ext he e)⟩
  | .mref e id p off len, v, r => by
    have := RepX.unown (dh := dh) (Ghost.rekey_ext (g := g) (w := w) (d := d) (κ := κ) (κ' := κ')) hd (fun e => hκ e.symm) (κ' := κ') _ _ r
    exact this
  | .yld id, v, r => by
    have := RepX.unown (dh := dh) (Ghost.rekey_ext (g := g) (w := w) (d := d) (κ := κ) (κ' := κ')) hd (fun e => hκ e.symm) (κ' := κ') _ _ r
    exact this
  | .rnd _ _, v, r => by simp [RepX] at r
  | .bsy _ _, v, r => by simp [RepX] at r
  | .fin _ _, v, r => by simp [RepX] at r
  | .agg xs, v, r => by simp [RepX] at r
  | .pd a xs, v, r => by
    simp only [RepX] at r ⊢
    obtain ⟨A, c, h1, h2, h3⟩ := r
    exact ⟨A, c, h1, h2, OdP.rekey h3⟩
  | .orf a id len, v, r => by
    have := RepX.unown (dh := dh) (Ghost.rekey_ext (g := g) (w := w) (d := d) (κ := κ) (κ' := κ')) hd (fun e => hκ e.symm) (κ' := κ') _ _ r
    exact this
  | .zv a, v, r => by
    have := RepX.unown (dh := dh) (Ghost.rekey_ext (g := g) (w := w) (d := d) (κ := κ) (κ' := κ')) hd (fun e => hκ e.symm) (κ' := κ') _ _ r
    exact this
  | .zw a b, v, r => by
    have := RepX.unown (dh := dh) (Ghost.rekey_ext (g := g) (w := w) (d := d) (κ := κ) (κ' := κ')) hd (fun e => hκ e.symm) (κ' := κ') _ _ r
    exact this
  | .zs a, v, r => by
    have := RepX.unown (dh := dh) (Ghost.rekey_ext (g := g) (w := w) (d := d) (κ := κ) (κ' := κ')) hd (fun e => hκ e.symm) (κ' := κ') _ _ r
    exact this
  | .mp id, v, r => by
    have := RepX.unown (dh := dh) (Ghost.rekey_ext (g := g) (w := w) (d := d) (κ := κ) (κ' := κ')) hd (fun e => hκ e.symm) (κ' := κ') _ _ r
    exact this
  | .od _ _ _, v, r => by simp [RepX] at r
  | .asc _ _ _, v, r => by simp [RepX] at r

theorem Ghost.rekey_heap {g w} {d dh : Nat} {H : Hp} {κ κ' : Key} (hd : dh ≤ d) (hκ : κ ≠ .no) (hh : ¬ κ.heap dh) (h : HRep g w dh H) : HRep (g.rekey κ κ') w dh H :=
  HRep.ext (Ghost.rekey_ext (d := d)) hd (fun e => hκ e.symm) (fun x hx e => hh (e ▸ hx)) rfl h

/-- An operation that turns nothing. -/
theorem OpWp.same {P : Program} {g w} {d dh : Nat} {st : St} {o : Oper} {a : Act} {v : X} {val : Value} (h : Fr g w d dh st a)
    (hr : (execOp a.eval o).run P w = .ok (.value val) w) (hv : RepX g w dh (kd o d) v val) : OpWp P g w d dh o a v [] st.H :=
  fun _ _ hn => wp_value hr (hn val w g hv (Ext.refl _ _ _ _) h.heap h.wf)

/-- An operation that hands on an operand, with its room. -/
theorem OpWp.take {P : Program} {g w} {d dh : Nat} {C : Ctx} {i : Nat} {st : St} {o : Oper} {a : Act} {x : Operand} (h : Fr g w d dh st a)
    (hr : (execOp a.eval o).run P w = .ok (.value (a.eval x)) w) (ho : o.op.operands.toList = [x]) : OpWp P g w d dh o a (typed C i (st.val x)) [true] st.H := by
  intro next Q hn
  have hx := typed_rep (C := C) (i := i) (h.val x)
  cases x with
  | tmp t =>
    refine wp_value hr (hn _ w (g.rekey (.tmp d t) (kd o d)) ?_ ?_ ?_ h.wf.rekey)
    · exact RepX.rekey h.le (by simp) _ _ hx
    · refine Ghost.rekey_ext.mono (Nat.le_refl _) ?_
      rintro κ rfl
      exact .inl ⟨t, rfl, .inr (by simp [ho, takenBy])⟩
    · exact Ghost.rekey_heap h.le (by simp) (by simp [Key.heap]) h.heap
  | const v =>
    refine wp_value hr (hn _ w g ?_ (Ext.refl _ _ _ _) h.heap h.wf)
    exact typed_rep (constX_rep g w dh _ v)
  | global n =>
    refine wp_value hr (hn _ w g ?_ (Ext.refl _ _ _ _) h.heap h.wf)
    exact typed_rep (glob_rep h.wf dh _ n)
  | func f =>
    refine wp_value hr (hn _ w g ?_ (Ext.refl _ _ _ _) h.heap h.wf)
    simp only [St.val, typed, RepX, Act.eval]
    exact ⟨[], [], rfl, by simp [RepXs], by simp [RepXs]⟩

end Go.Proofs.Ytnbfiifkaddehaa.V

/-
  An evaluator of the program's code over typed pure data, proved sound once against the kit's own logic: this text has the kinds of data, how they lie in memory, and what a step of the world keeps.
  It speaks of whatever program; no condition.
-/
import Derived.Orders
import Derived.Scope
import Derived.Below
namespace Go.Proofs.Ytnbfiifkaddehaa.V
open Go
set_option linter.unusedVariables false

/-- The kinds of pure data. A struct's fields are a chain of 'prod', ended by 'unit'. -/
inductive Ty where
  | int (k : IntKind)
  | bool
  | str
  | any
  | err
  | slice (e : Ty)
  | arr (n : Nat) (e : Ty)
  | struct (c : Ty)
  | unit
  | prod (a b : Ty)
  deriving DecidableEq

/-- What a kind's data are. -/
@[reducible] def Ty.den : Ty → Type
  | .int _ => Int
  | .bool => Bool
  | .str => ByteArray
  | .any => Value
  | .err => Bool
  | .slice e => List e.den
  | .arr _ e => List e.den
  | .struct c => c.den
  | .unit => Unit
  | .prod a b => a.den × b.den

/-- How many cells. -/
def Ty.size : Ty → Nat
  | .int _ | .bool | .str | .any | .err | .slice _ => 1
  | .arr n e => n * e.size
  | .struct c => c.size
  | .unit => 0
  | .prod a b => a.size + b.size

def Ty.isAgg : Ty → Bool
  | .arr _ _ | .struct _ | .unit | .prod _ _ => true
  | _ => false

/-- Some data of a kind: the zero value. -/
def Ty.zero : (t : Ty) → t.den
  | .int _ => (0 : Int)
  | .bool => false
  | .str => ByteArray.empty
  | .any => Value.nilFunc
  | .err => true
  | .slice _ => []
  | .arr n e => List.replicate n e.zero
  | .struct c => c.zero
  | .unit => ()
  | .prod a b => (a.zero, b.zero)

/-- Which block may still be written, and by whom. -/
inductive Key where
  | tmp (d t : Nat)
  | obj (d id : Nat)
  | cell (d id off : Nat)
  | mark (d : Nat)
  | no
  deriving DecidableEq

/-- How deep the call lies whose key it is. -/
def Key.deep : Key → Nat → Prop
  | .tmp d _, n | .obj d _, n | .cell d _ _, n | .mark d, n => n ≤ d
  | .no, _ => False

/-- A key of the variables of depth 'h'. -/
def Key.heap : Key → Nat → Prop
  | .obj d _, h | .cell d _ _, h => d = h
  | _, _ => False

/-- What the proof tells of the memory, beside the world: of each block how far its cells are settled for ever; who may write behind that; where the variables lie that have an address. -/
structure Ghost where
  U : Nat → Nat
  own : Nat → Option Key
  N : Nat → Nat
  μ : Nat → Nat → Nat
  oty : Nat → Nat → Ty

/-- A slice's cells: settled, and as 'R' tells each element's. -/
def Run (w : World) (g : Ghost) {α : Type} (R : α → List Value → Prop) (size : Nat) (xs : List α) (a : Option Addr) : Prop :=
  ∀ i (h : i < xs.length), ∃ A cs, a = some A ∧ A.spot = none ∧ cs.length = size ∧ R (xs[i]) cs ∧
    ∀ j (hj : j < cs.length), w.cell? ⟨A.block, A.off + (i * size + j), none⟩ = some cs[j] ∧ A.off + (i * size + j) < g.U A.block

/-- A list of cells that is, part by part, what 'R' tells. -/
def Parts {α : Type} (R : α → List Value → Prop) : List α → List Value → Prop
  | [], cs => cs = []
  | x :: xs, cs => ∃ c1 c2, cs = c1 ++ c2 ∧ R x c1 ∧ Parts R xs c2

/-- The cells that hold data of a kind. -/
def RepC (w : World) (g : Ghost) : (t : Ty) → t.den → List Value → Prop
  | .int k, x, cs => cs = [.int k x]
  | .bool, x, cs => cs = [.bool x]
  | .str, x, cs => cs = [.string x]
  | .any, x, cs => cs = [x] ∧ Value.oneCell' x = true
  | .err, b, cs => ∃ v, cs = [v] ∧ (b = true → v = .nilIface) ∧ (b = false → ∃ t p, v = .iface t p)
  | .slice e, xs, cs => ∃ a c, cs = [.slice a (List.length xs) c] ∧ List.length xs ≤ c ∧ Run w g (RepC w g e) e.size xs a
  | .arr n e, xs, cs => List.length xs = n ∧ Parts (RepC w g e) xs cs
  | .struct c, x, cs => RepC w g c x cs
  | .unit, _, cs => cs = []
  | .prod a b, x, cs => ∃ c1 c2, cs = c1 ++ c2 ∧ RepC w g a x.1 c1 ∧ RepC w g b x.2 c2

theorem Parts.length {α : Type} {R : α → List Value → Prop} {s : Nat} (hR : ∀ x cs, R x cs → cs.length = s) : ∀ (xs : List α) (cs : List Value), Parts R xs cs → cs.length = xs.length * s
  | [], cs, h => by have h' : cs = [] := h; subst h'; simp
  | x :: xs, cs, h => by
    obtain ⟨c1, c2, rfl, h1, h2⟩ := h
    have := hR _ _ h1
    have := Parts.length hR xs c2 h2
    simp [*, Nat.add_mul, Nat.add_comm]

theorem RepC.length {w : World} {g : Ghost} : ∀ (t : Ty) (x : t.den) (cs : List Value), RepC w g t x cs → cs.length = t.size
  | .int _, _, _, h => by cases h; rfl
  | .bool, _, _, h => by cases h; rfl
  | .str, _, _, h => by cases h; rfl
  | .any, _, _, h => by cases h.1; rfl
  | .err, _, _, h => by obtain ⟨_, rfl, _⟩ := h; rfl
  | .slice _, _, _, h => by obtain ⟨_, _, rfl, _⟩ := h; rfl
  | .arr n e, xs, cs, h => by
    obtain ⟨h1, h2⟩ := h
    have := Parts.length (RepC.length (w := w) (g := g) e) xs cs h2
    rw [this, h1]; rfl
  | .struct c, x, cs, h => RepC.length c x cs h
  | .unit, _, _, h => by cases h; rfl
  | .prod a b, x, cs, h => by
    obtain ⟨c1, c2, rfl, h1, h2⟩ := h
    have := RepC.length a _ _ h1
    have := RepC.length b _ _ h2
    simp [Ty.size, *]

/-- What a step of the world keeps. 'K': whose blocks may have been written; 'd': of which depths the variables stay. -/
structure Ext (g : Ghost) (w : World) (g' : Ghost) (w' : World) (d : Nat) (K : Key → Prop) : Prop where
  os : w'.os = w.os
  tape : w'.tape = w.tape
  output : w'.output = w.output
  size : w.heap.size ≤ w'.heap.size
  keep : ∀ b, b < w.heap.size → (∀ κ, g.own b = some κ → ¬ K κ) → w'.heap[b]? = w.heap[b]? ∧ g'.own b = g.own b ∧ g'.U b = g.U b
  cells : ∀ b off, off < g.U b → w'.cell? ⟨b, off, none⟩ = w.cell? ⟨b, off, none⟩ ∧ off < g'.U b
  mu : ∀ h, h ≤ d → ∀ id, id < g.N h → id < g'.N h ∧ g'.μ h id = g.μ h id ∧ g'.oty h id = g.oty h id
  num : ∀ h, (∀ κ, κ.heap h → ¬ K κ) → g'.N h = g.N h

theorem Ext.refl (g : Ghost) (w : World) (d : Nat) (K : Key → Prop) : Ext g w g w d K :=
  ⟨rfl, rfl, rfl, Nat.le_refl _, fun _ _ _ => ⟨rfl, rfl, rfl⟩, fun _ _ h => ⟨rfl, h⟩, fun _ _ _ h => ⟨h, rfl, rfl⟩, fun _ _ => rfl⟩

theorem Ext.trans {g w g1 w1 g2 w2} {d : Nat} {K : Key → Prop} (h : Ext g w g1 w1 d K) (k : Ext g1 w1 g2 w2 d K) : Ext g w g2 w2 d K where
  os := k.os.trans h.os
  tape := k.tape.trans h.tape
  output := k.output.trans h.output
  size := Nat.le_trans h.size k.size
  keep b hb ho := by
    obtain ⟨h1, h2, h3⟩ := h.keep b hb ho
    obtain ⟨k1, k2, k3⟩ := k.keep b (Nat.lt_of_lt_of_le hb h.size) (fun κ e => ho κ (h2 ▸ e))
    exact ⟨k1.trans h1, k2.trans h2, k3.trans h3⟩
  cells b off ho := by
    obtain ⟨h1, h2⟩ := h.cells b off ho
    obtain ⟨k1, k2⟩ := k.cells b off h2
    exact ⟨k1.trans h1, k2⟩
  mu n hn id hid := by
    obtain ⟨h1, h2, h3⟩ := h.mu n hn id hid
    obtain ⟨k1, k2, k3⟩ := k.mu n hn id h1
    exact ⟨k1, k2.trans h2, k3.trans h3⟩
  num n hn := (k.num n hn).trans (h.num n hn)

theorem Ext.mono {g w g' w'} {d d' : Nat} {K K' : Key → Prop} (h : Ext g w g' w' d K) (hd : d' ≤ d) (hK : ∀ κ, K κ → K' κ) : Ext g w g' w' d' K' :=
  { h with
    keep := fun b hb ho => h.keep b hb fun κ e k => ho κ e (hK κ k)
    mu := fun n hn => h.mu n (Nat.le_trans hn hd)
    num := fun n hn => h.num n fun κ hκ k => hn κ hκ (hK κ k) }

theorem Run.ext {g w g' w'} {d : Nat} {K : Key → Prop} (h : Ext g w g' w' d K) {α : Type} {R R' : α → List Value → Prop} (hR : ∀ x cs, R x cs → R' x cs) {size : Nat} {xs : List α} {a : Option Addr}
    (hr : Run w g R size xs a) : Run w' g' R' size xs a := by
  intro i hi
  obtain ⟨A, cs, ha, hs, hl, hx, hc⟩ := hr i hi
  refine ⟨A, cs, ha, hs, hl, hR _ _ hx, fun j hj => ?_⟩
  obtain ⟨h1, h2⟩ := hc j hj
  obtain ⟨k1, k2⟩ := h.cells _ _ h2
  exact ⟨k1.trans h1, k2⟩

theorem Parts.imp {α : Type} {R R' : α → List Value → Prop} (hR : ∀ x cs, R x cs → R' x cs) : ∀ (xs : List α) (cs : List Value), Parts R xs cs → Parts R' xs cs
  | [], _, h => h
  | _ :: xs, _, ⟨c1, c2, e, h1, h2⟩ => ⟨c1, c2, e, hR _ _ h1, Parts.imp hR xs c2 h2⟩

theorem RepC.ext {g w g' w'} {d : Nat} {K : Key → Prop} (h : Ext g w g' w' d K) : ∀ (t : Ty) (x : t.den) (cs : List Value), RepC w g t x cs → RepC w' g' t x cs
  | .int _, _, _, r => r
  | .bool, _, _, r => r
  | .str, _, _, r => r
  | .any, _, _, r => r
  | .err, _, _, r => r
  | .slice e, _, _, ⟨a, c, e1, e2, r⟩ => ⟨a, c, e1, e2, r.ext h (RepC.ext h e)⟩
  | .arr _ e, _, _, ⟨e1, r⟩ => ⟨e1, r.imp (RepC.ext h e)⟩
  | .struct c, x, cs, r => RepC.ext h c x cs r
  | .unit, _, _, r => r
  | .prod a b, _, _, ⟨c1, c2, e, r1, r2⟩ => ⟨c1, c2, e, RepC.ext h a _ _ r1, RepC.ext h b _ _ r2⟩

/-- How a piece of code is left. -/
inductive Ex where
  | normal
  | exit (id : Nat)
  | goto (l : Nat)
  | ret

/-- What a place of a frame holds: nothing that is told; data; a slice of which more is known (whether it is nil; whether its room may be written by who has it); a slice that is known nowhere else, in a block of its own, of which nothing is settled; where settled data lie; where a variable lies, and which part of it; a function; several; a slice of things that lead somewhere; where one of those lies; a part of a row of cells that is a variable; the function that a round of a range is asked by. The last three stand in the heap alone: a range's record, ready, in a round, left. -/
inductive X where
  | dead
  | undef
  | nils
  | d (t : Ty) (x : t.den)
  | sl (e : Ty) (xs : List e.den) (nl : Option Bool) (own : Bool)
  | ps (e : Ty) (xs : List e.den)
  | cp (t : Ty) (x : t.den)
  | ptr (id : Nat) (path : List Nat)
  | fn (f : Nat) (first captured : List X)
  | tup (xs : List X)
  | agg (xs : List X)
  | lst (l : List X)
  | cx (x : X)
  | mref (e : Ty) (id : Nat) (path : List Nat) (off len : Nat)
  | yld (id : Nat)
  | rnd (key : Nat) (tms : List X)
  | bsy (key : Nat) (tms : List X)
  | fin (key : Nat) (e : Ex)
  | pd (a : Ty) (xs : List (Bool × List a.den × Unit))
  | orf (a : Ty) (id len : Nat)
  | od (a : Ty) (xs : List (Bool × List a.den × Unit)) (hole : Option Nat)
  | zv (a : Ty)
  | zs (a : Ty)
  | zw (a : Ty) (b : Bool)
  | mp (id : Nat)
  | asc (k v : Ty) (l : List (k.den × v.den))

/-- What a row's elements are of which each has a slice that is its own: a mark, and that slice. -/
abbrev stT (a : Ty) : Ty := .struct (.prod .bool (.prod (.slice a) .unit))

/-- A part of a variable: how far from its begin, and of which kind. -/
def chainAt : Ty → Nat → Option (Nat × Ty)
  | .prod a _, 0 => some (0, a)
  | .prod a b, j + 1 => (chainAt b j).map fun p => (a.size + p.1, p.2)
  | _, _ => none
def stepAt : Ty → Nat → Option (Nat × Ty)
  | .struct c, j => chainAt c j
  | .arr n e, j => if j < n then some (j * e.size, e) else none
  | _, _ => none
def pathAt : Ty → List Nat → Option (Nat × Ty)
  | t, [] => some (0, t)
  | t, j :: p => match stepAt t j with
    | some (o, t') => (pathAt t' p).map fun q => (o + q.1, q.2)
    | none => none

/-- The kind of a part, as far as the text tells: an array's elements are alike. -/
def kidAt : Ty → Nat → Option Ty
  | .struct c, j => match chainAt c j with
    | some q => some q.2
    | none => none
  | .arr _ e, _ => some e
  | _, _ => none
def typeAt : Ty → List Nat → Option Ty
  | t, [] => some t
  | t, j :: p => match kidAt t j with
    | some t' => typeAt t' p
    | none => none
theorem typeAt_of : ∀ (p : List Nat) (t : Ty) (o : Nat) (t1 : Ty), pathAt t p = some (o, t1) → typeAt t p = some t1
  | [], t, o, t1, h => by
    simp only [pathAt, Option.some.injEq, Prod.mk.injEq] at h
    rw [typeAt, h.2]
  | j :: p, t, o, t1, h => by
    rw [pathAt] at h
    split at h
    · rename_i o' t' hs
      simp only [Option.map_eq_some_iff] at h
      obtain ⟨⟨q1, q2⟩, hq, he⟩ := h
      simp only [Prod.mk.injEq] at he
      obtain ⟨_, rfl⟩ := he
      have ih := typeAt_of p t' q1 q2 hq
      have hk : kidAt t j = some t' := by
        cases t <;> simp only [stepAt] at hs
        case arr n e =>
          split at hs
          · simp only [Option.some.injEq, Prod.mk.injEq] at hs
            simp [kidAt, hs.2]
          · cases hs
        case struct c => simp only [kidAt, hs]
        all_goals cases hs
      rw [typeAt, hk]
      exact ih
    · cases h
theorem typeAt_eq {p : List Nat} {t t1 t' : Ty} {o : Nat} (h : pathAt t p = some (o, t1)) (e : typeAt t p = some t') : t1 = t' := by
  rw [typeAt_of p t o t1 h] at e
  simpa using e

/-- A whole value. -/
def IsVal (t : Ty) (cs : List Value) (v : Value) : Prop := if t.isAgg then v = .agg cs.toArray else cs = [v]

/-- No cell of it is frozen; a mark behind the last one is there of bytes alone. -/
def FrOk (fr : Nat × Nat) (e : Ty) (n : Nat) : Prop := fr.1 = fr.2 ∨ (e = .int .u8 ∧ n ≤ fr.1)
theorem FrOk.open {fr : Nat × Nat} {e : Ty} {n : Nat} (h : FrOk fr e n) : fr.1 = fr.2 ∨ n ≤ fr.1 := h.imp (fun h => h) (fun h => h.2)

/-- Its room may be written: there is no block, or it is the key's own. -/
def Own (g : Ghost) (w : World) (κ : Key) (e : Ty) (a : Option Addr) (n c : Nat) : Prop :=
  c = 0 ∨ ∃ b arr ty fr, a = some ⟨b, 0, none⟩ ∧ w.heap[b]? = some (.cells arr ty fr) ∧ arr.size = c * e.size ∧ FrOk fr e arr.size ∧ g.U b = n * e.size ∧ g.own b = some κ

/-- It is known nowhere else: there is no block, or it is the key's own, and nothing of it is settled. -/
def Pris (g : Ghost) (w : World) (κ : Key) {α : Type} (R : α → List Value → Prop) (e : Ty) (xs : List α) (a : Option Addr) (c : Nat) : Prop :=
  (c = 0 ∧ xs = []) ∨ ∃ b arr ty fr cs rest, a = some ⟨b, 0, none⟩ ∧ w.heap[b]? = some (.cells arr ty fr) ∧ arr.size = c * e.size ∧ FrOk fr e arr.size ∧ g.U b = 0 ∧ g.own b = some κ ∧
    arr.toList = cs ++ rest ∧ Parts R xs cs

/-- Rows whose slices are their own: each one's room is the key's, and no two have the same; but for one that is lent. -/
def OdR (g : Ghost) (w : World) (κ : Key) (a : Ty) (xs : List (Bool × List a.den × Unit)) (hole : Option Nat) (h : Nat → Option Addr × Nat) (cell : Nat → Option Value) : Prop :=
  (∀ i (hi : i < xs.length), cell (2 * i) = some (.bool (xs[i]).1) ∧ cell (2 * i + 1) = some (.slice (h i).1 (xs[i]).2.1.length (h i).2) ∧ (xs[i]).2.1.length ≤ (h i).2 ∧ Run w g (RepC w g a) a.size (xs[i]).2.1 (h i).1 ∧
    (hole ≠ some i → Own g w κ a (h i).1 (xs[i]).2.1.length (h i).2)) ∧
  ∀ i j, i < xs.length → j < xs.length → i ≠ j → hole ≠ some i → hole ≠ some j → (h i).2 ≠ 0 → (h j).2 ≠ 0 → (h i).1 ≠ (h j).1

/-- Such rows in a block that is the key's own too. -/
def OdP (g : Ghost) (w : World) (κ : Key) (a : Ty) (xs : List (Bool × List a.den × Unit)) (A : Option Addr) (c : Nat) : Prop :=
  (c = 0 ∧ xs = []) ∨ ∃ b arr ty fr h, A = some ⟨b, 0, none⟩ ∧ w.heap[b]? = some (.cells arr ty fr) ∧ arr.size = c * 2 ∧ fr.1 = fr.2 ∧ g.U b = 0 ∧ g.own b = some κ ∧ OdR g w κ a xs none h (fun k => arr[k]?) ∧
    ∀ i, i < xs.length → (h i).2 ≠ 0 → (h i).1 ≠ some ⟨b, 0, none⟩

/-- A new element's cells. -/
def zstC : List Value := [.bool false, .slice none 0 0]
def zwC (b : Bool) : List Value := [.bool b, .slice none 0 0]

mutual
/-- What a place of a frame holds, as a value. -/
def RepX (g : Ghost) (w : World) (dh : Nat) (κ : Key) : X → Value → Prop
  | .dead, _ => True
  | .undef, v => v = undef
  | .nils, v => v = .slice none 0 0
  | .d t x, v => ∃ cs, RepC w g t x cs ∧ IsVal t cs v
  | .sl e xs nl own, v => ∃ a c, v = .slice a xs.length c ∧ xs.length ≤ c ∧ Run w g (RepC w g e) e.size xs a ∧ (∀ b, nl = some b → a.isNone = b) ∧ (own = true → Own g w κ e a xs.length c)
  | .ps e xs, v => ∃ a c, v = .slice a xs.length c ∧ xs.length ≤ c ∧ Pris g w κ (RepC w g e) e xs a c
  | .cp t x, v => ∃ A cs, v = .pointer (some A) ∧ A.spot = none ∧ RepC w g t x cs ∧ ∀ j (hj : j < cs.length), w.cell? ⟨A.block, A.off + j, none⟩ = some cs[j] ∧ A.off + j < g.U A.block
  | .ptr id path, v => id < g.N dh ∧ ∃ off t, pathAt (g.oty dh id) path = some (off, t) ∧ v = .pointer (some ⟨g.μ dh id, off, none⟩)
  | .fn f first captured, v => ∃ vs us, v = .func (.func f) vs.toArray us.toArray ∧ RepXs g w dh first vs ∧ RepXs g w dh captured us
  | .tup xs, v => ∃ vs, v = .tuple vs.toArray ∧ RepXs g w dh xs vs
  | .agg _, _ => False
  | .lst l, v => ∃ a us c, v = .slice a us.length c ∧ us.length ≤ c ∧ RepXs g w dh l us ∧ ∀ i (h : i < us.length), ∃ A, a = some A ∧ A.spot = none ∧ w.cell? ⟨A.block, A.off + i, none⟩ = some us[i] ∧ A.off + i < g.U A.block
  | .cx x, v => ∃ A u, v = .pointer (some A) ∧ A.spot = none ∧ RepX g w dh .no x u ∧ w.cell? ⟨A.block, A.off, none⟩ = some u ∧ A.off < g.U A.block
  | .mref e id path off len, v => id < g.N dh ∧ ∃ n o a c, pathAt (g.oty dh id) path = some (o, .arr n e) ∧ off + len ≤ n ∧ len ≤ c ∧ v = .slice (some a) len c ∧ (0 < len → a = ⟨g.μ dh id, o + off * e.size, none⟩)
  | .yld id, v => id < g.N dh ∧ v = .func (.yield (g.μ dh id)) #[] #[]
  | .rnd _ _, _ => False
  | .bsy _ _, _ => False
  | .fin _ _, _ => False
  | .pd a xs, v => ∃ A c, v = .slice A xs.length c ∧ xs.length ≤ c ∧ OdP g w κ a xs A c
  | .orf a id len, v => id + 1 < g.N dh ∧ g.oty dh id = .arr len (stT a) ∧ len ≤ g.μ dh (id + 1) ∧ v = .slice (some ⟨g.μ dh id, 0, none⟩) len (g.μ dh (id + 1))
  | .od _ _ _, _ => False
  | .zv _, v => v = .agg zstC.toArray
  | .zs _, v => ∃ A c, v = .slice A 1 c ∧ 1 ≤ c ∧ Run w g (fun (_ : Unit) cs => cs = zstC) 2 [()] A
  | .zw _ b, v => v = .agg (zwC b).toArray
  | .mp id, v => id < g.N dh ∧ v = .map (some (g.μ dh id))
  | .asc _ _ _, _ => False
def RepXs (g : Ghost) (w : World) (dh : Nat) : List X → List Value → Prop
  | [], vs => vs = []
  | x :: xs, vs => ∃ v us, vs = v :: us ∧ RepX g w dh .no x v ∧ RepXs g w dh xs us
end

theorem Own.ext {g w g' w'} {d : Nat} {K : Key → Prop} (h : Ext g w g' w' d K) {κ : Key} (hκ : ¬ K κ) {e : Ty} {a : Option Addr} {n c : Nat} (ho : Own g w κ e a n c) : Own g' w' κ e a n c := by
  rcases ho with ho | ⟨b, arr, ty, fr, e1, e2, e3, e4, e5, e6⟩
  · exact .inl ho
  · have hb : b < w.heap.size := (Array.getElem?_eq_some_iff.1 e2).1
    obtain ⟨k1, k2, k3⟩ := h.keep b hb (fun κ' e => by rw [e6] at e; cases e; exact hκ)
    exact .inr ⟨b, arr, ty, fr, e1, k1.trans e2, e3, e4, k3.trans e5, k2.trans e6⟩

theorem Pris.ext {g w g' w'} {d : Nat} {K : Key → Prop} (h : Ext g w g' w' d K) {κ : Key} (hκ : ¬ K κ) {α : Type} {R R' : α → List Value → Prop} (hR : ∀ x cs, R x cs → R' x cs) {e : Ty} {xs : List α} {a : Option Addr} {c : Nat}
    (ho : Pris g w κ R e xs a c) : Pris g' w' κ R' e xs a c := by
  rcases ho with ho | ⟨b, arr, ty, fr, cs, rest, e1, e2, e3, e4, e5, e6, e7, e8⟩
  · exact .inl ho
  · have hb : b < w.heap.size := (Array.getElem?_eq_some_iff.1 e2).1
    obtain ⟨k1, k2, k3⟩ := h.keep b hb (fun κ' e => by rw [e6] at e; cases e; exact hκ)
    exact .inr ⟨b, arr, ty, fr, cs, rest, e1, k1.trans e2, e3, e4, k3.trans e5, k2.trans e6, e7, e8.imp hR⟩

theorem OdR.ext {g w g' w'} {d : Nat} {K : Key → Prop} (h : Ext g w g' w' d K) {κ : Key} (hκ : ¬ K κ) {a : Ty} {xs : List (Bool × List a.den × Unit)} {hole : Option Nat} {hd : Nat → Option Addr × Nat} {cell : Nat → Option Value}
    (ho : OdR g w κ a xs hole hd cell) : OdR g' w' κ a xs hole hd cell := by
  refine ⟨fun i hi => ?_, ho.2⟩
  obtain ⟨h1, h2, h3, h4, h5⟩ := ho.1 i hi
  exact ⟨h1, h2, h3, h4.ext h (RepC.ext h a), fun hh => (h5 hh).ext h hκ⟩

theorem OdP.ext {g w g' w'} {d : Nat} {K : Key → Prop} (h : Ext g w g' w' d K) {κ : Key} (hκ : ¬ K κ) {a : Ty} {xs : List (Bool × List a.den × Unit)} {A : Option Addr} {c : Nat} (ho : OdP g w κ a xs A c) : OdP g' w' κ a xs A c := by
  rcases ho with ho | ⟨b, arr, ty, fr, hd, e1, e2, e3, e4, e5, e6, e7, e8⟩
  · exact .inl ho
  · have hb : b < w.heap.size := (Array.getElem?_eq_some_iff.1 e2).1
    obtain ⟨k1, k2, k3⟩ := h.keep b hb (fun κ' e => by rw [e6] at e; cases e; exact hκ)
    exact .inr ⟨b, arr, ty, fr, hd, e1, k1.trans e2, e3, e4, k3.trans e5, k2.trans e6, e7.ext h hκ, e8⟩

mutual
theorem RepX.ext {g w g' w'} {d dh : Nat} {K : Key → Prop} (h : Ext g w g' w' d K) (hd : dh ≤ d) (hno : ¬ K .no) {κ : Key} (hκ : ¬ K κ) : ∀ (x : X) (v : Value), RepX g w dh κ x v → RepX g' w' dh κ x v
  | .dead, _, _ => by simp [RepX]
  | .undef, v, r => by simpa only [RepX] using r
  | .nils, v, r => by simpa only [RepX] using r
  | .d t x, v, r => by
    simp only [RepX] at r ⊢
    obtain ⟨cs, h1, h2⟩ := r
    exact ⟨cs, RepC.ext h t x cs h1, h2⟩
  | .sl e xs nl own, v, r => by
    simp only [RepX] at r ⊢
    obtain ⟨a, c, h1, h2, h3, h4, h5⟩ := r
    exact ⟨a, c, h1, h2, h3.ext h (RepC.ext h e), h4, fun ho => (h5 ho).ext h hκ⟩
  | .ps e xs, v, r => by
    simp only [RepX] at r ⊢
    obtain ⟨a, c, h1, h2, h3⟩ := r
    exact ⟨a, c, h1, h2, h3.ext h hκ (RepC.ext h e)⟩
  | .cp t x, v, r => by
    simp only [RepX] at r ⊢
    obtain ⟨A, cs, h1, h2, h3, h4⟩ := r
    refine ⟨A, cs, h1, h2, RepC.ext h t x cs h3, fun j hj => ?_⟩
    obtain ⟨k1, k2⟩ := h4 j hj
    obtain ⟨l1, l2⟩ := h.cells _ _ k2
    exact ⟨l1.trans k1, l2⟩
  | .ptr id path, v, r => by
    simp only [RepX] at r ⊢
    obtain ⟨h1, off, t, h2, h3⟩ := r
    obtain ⟨k1, k2, k3⟩ := h.mu dh hd id h1
    exact ⟨k1, off, t, by rw [k3]; exact h2, by rw [k2]; exact h3⟩
  | .fn f first captured, v, r => by
    simp only [RepX] at r ⊢
    obtain ⟨vs, us, h1, h2, h3⟩ := r
    exact ⟨vs, us, h1, RepXs.ext h hd hno first vs h2, RepXs.ext h hd hno captured us h3⟩
  | .tup xs, v, r => by
    simp only [RepX] at r ⊢
    obtain ⟨vs, h1, h2⟩ := r
    exact ⟨vs, h1, RepXs.ext h hd hno xs vs h2⟩
  | .agg _, v, r => by simp [RepX] at r
  | .lst l, v, r => by
    simp only [RepX] at r ⊢
    obtain ⟨a, us, c, h1, h2, h3, h4⟩ := r
    refine ⟨a, us, c, h1, h2, RepXs.ext h hd hno l us h3, fun i hi => ?_⟩
    obtain ⟨A, k1, k2, k3, k4⟩ := h4 i hi
    obtain ⟨l1, l2⟩ := h.cells _ _ k4
    exact ⟨A, k1, k2, l1.trans k3, l2⟩
  | .cx x, v, r => by
    simp only [RepX] at r ⊢
    obtain ⟨A, u, h1, h2, h3, h4, h5⟩ := r
    obtain ⟨l1, l2⟩ := h.cells _ _ h5
    exact ⟨A, u, h1, h2, RepX.ext h hd hno hno x u h3, l1.trans h4, l2⟩
  | .mref e id path off len, v, r => by
    simp only [RepX] at r ⊢
    obtain ⟨h1, n, o, a, c, h2, h3, h4, h5, h6⟩ := r
    obtain ⟨k1, k2, k3⟩ := h.mu dh hd id h1
    exact ⟨k1, n, o, a, c, by rw [k3]; exact h2, h3, h4, h5, by rw [k2]; exact h6⟩
  | .yld id, v, r => by
    simp only [RepX] at r ⊢
    obtain ⟨h1, h2⟩ := r
    obtain ⟨k1, k2, k3⟩ := h.mu dh hd id h1
    exact ⟨k1, by rw [k2]; exact h2⟩
  | .rnd _ _, v, r => by simp [RepX] at r
  | .bsy _ _, v, r => by simp [RepX] at r
  | .fin _ _, v, r => by simp [RepX] at r
  | .pd a xs, v, r => by
    simp only [RepX] at r ⊢
    obtain ⟨A, c, h1, h2, h3⟩ := r
    exact ⟨A, c, h1, h2, h3.ext h hκ⟩
  | .orf a id len, v, r => by
    simp only [RepX] at r ⊢
    obtain ⟨h1, h2, h3, h4⟩ := r
    obtain ⟨k1, k2, k3⟩ := h.mu dh hd id (Nat.lt_of_succ_lt h1)
    obtain ⟨l1, l2, l3⟩ := h.mu dh hd (id + 1) h1
    exact ⟨l1, k3.trans h2, by rw [l2]; exact h3, by rw [k2, l2]; exact h4⟩
  | .od _ _ _, v, r => by simp [RepX] at r
  | .zv a, v, r => by simpa only [RepX] using r
  | .zw a b, v, r => by simpa only [RepX] using r
  | .zs a, v, r => by
    simp only [RepX] at r ⊢
    obtain ⟨A, c, h1, h2, h3⟩ := r
    exact ⟨A, c, h1, h2, h3.ext h (fun _ _ r => r)⟩
  | .mp id, v, r => by
    simp only [RepX] at r ⊢
    obtain ⟨h1, h2⟩ := r
    obtain ⟨k1, k2, k3⟩ := h.mu dh hd id h1
    exact ⟨k1, by rw [k2]; exact h2⟩
  | .asc _ _ _, v, r => by simp [RepX] at r
theorem RepXs.ext {g w g' w'} {d dh : Nat} {K : Key → Prop} (h : Ext g w g' w' d K) (hd : dh ≤ d) (hno : ¬ K .no) : ∀ (xs : List X) (vs : List Value), RepXs g w dh xs vs → RepXs g' w' dh xs vs
  | [], _, r => by simpa [RepXs] using r
  | x :: xs, vs, r => by
    simp only [RepXs] at r ⊢
    obtain ⟨v, us, h1, h2, h3⟩ := r
    exact ⟨v, us, h1, RepX.ext h hd hno hno x v h2, RepXs.ext h hd hno xs us h3⟩
end

/-- A range over a function in the program's text: what a round is handed, its code; how many places the frame has, and which of them the round reads. -/
structure Rd where
  ps : Array Tmp
  assign : Code
  body : Code
  n : Nat
  ks : List Nat

/-- All ranges over functions in a piece of code. -/
def rfOf : Code → List (Operand × Array Tmp × Code × Code)
  | .rangeFunc f ps a b => [(f, ps, a, b)]
  | .seq a b => rfOf a ++ rfOf b
  | .cond _ a b => rfOf a ++ rfOf b
  | .block _ c => rfOf c
  | .loop c => rfOf c
  | .scope c => rfOf c
  | _ => []

def bodyOf (fn : Func) : Code := fn.body.getD .skip
/-- A function's i-th range over a function. -/
def rdOf (fn : Func) (i : Nat) (ks : List Nat) : Option Rd := ((rfOf (bodyOf fn))[i]?).map fun q => ⟨q.2.1, q.2.2.1, q.2.2.2, fn.ntmps, ks⟩

end Go.Proofs.Ytnbfiifkaddehaa.V

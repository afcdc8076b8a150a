/-
  No cell of these rows narrows 'for every input' (looked for: loops, veiled, ifaces, maps, wideKeys, modest, calm, conditions, laid).
  DERIVED. THE GIVEN ROWS OF THIS SEAT. 4 by the template 'for every input the law returns true; each argument reads behind the call as it read before'; 0 by the template 'total and deterministic' (their statements: YtnbfiifkaddehaaTotals.lean).
  GIVEN WITH THE SEED: the statements are not yours to turn. If you find one false, say at which input.
  Laid BY PROGRAM, IN A SANDBOX (cutbox-rows.mjs): the forced cells as the released guide's own fill.sh prints them over the translation 06de866f6284786f… (all of the seat's roots in one cut). By AI agents, Wed Nov 11 2026. No macro, syntax, notation, axiom, sorry.
-/
import Derived.Test.YtnbfiifkaddehaaChecked
import GoSem.Claim
import GoSem.ClaimJoined
import GoSem.ClaimMapViews
import Derived.JoinedTies
import Derived.KernelRfl
namespace Go.Proofs.Ytnbfiifkaddehaa
/- THE CELL 'sum', in the pinned program and in every row, IS THE sha256 OF THE DUMP (.gsa) THAT YtnbfiifkaddehaaProg.lean LOADS. Nothing in Lean hashes anything: it is a label: what it is worth is what the hold of that sum in a sandbox is worth. -/
noncomputable def Try.pinned : Pinned := { name := "ytnbfiifkaddehaa", sum := "06de866f6284786fb5ce21a596bd2cd88211f72e0cf8d114d80d50f6f792e465", checked := Try.checked }
namespace Rows
def none {H : Type} : Left H := { results := [], args := [] }

/-- 'spellwrightlaw10.TrieTells': WHATEVER THE INPUT: true; the input reads as it did. -/
def trieTellsSpec : ChangeSpec := { name := "trieTells", fn := fun _ => fun
  | [d1, d2, d3, d4] => { results := [.lit (.bool true)], args := [d1, d2, d3, d4] }
  | _ => none }
def trieTellsRow : OpenClaim := { program := "ytnbfiifkaddehaa", sum := "06de866f6284786fb5ce21a596bd2cd88211f72e0cf8d114d80d50f6f792e465", func := "spellwright/spellwrightlaw10.TrieTells", spec := "trieTells", unfollowed := true, recurses := true, plainKeys := false, apart := false }
def TrieTellsSaid : Prop := trieTellsRow.holds Try.pinned (OpenSpec.ofChange trieTellsSpec)

/-- ITS FALSE NEIGHBOUR: 'it returns false'. Refute it at one input. -/
def trieTellsWrong : ChangeSpec := { name := "trieTells", fn := fun _ => fun
  | [d1, d2, d3, d4] => { results := [.lit (.bool false)], args := [d1, d2, d3, d4] }
  | _ => none }
def TrieTellsWrongFalsely : Prop := trieTellsRow.holds Try.pinned (OpenSpec.ofChange trieTellsWrong)

/-- 'spellwrightlaw10.TrieHas': WHATEVER THE INPUT: true; the input reads as it did. -/
def trieHasSpec : ChangeSpec := { name := "trieHas", fn := fun _ => fun
  | [d1, d2] => { results := [.lit (.bool true)], args := [d1, d2] }
  | _ => none }
def trieHasRow : OpenClaim := { program := "ytnbfiifkaddehaa", sum := "06de866f6284786fb5ce21a596bd2cd88211f72e0cf8d114d80d50f6f792e465", func := "spellwright/spellwrightlaw10.TrieHas", spec := "trieHas", unfollowed := true, recurses := true, plainKeys := false, apart := false }
def TrieHasSaid : Prop := trieHasRow.holds Try.pinned (OpenSpec.ofChange trieHasSpec)

/-- ITS FALSE NEIGHBOUR: 'it returns false'. Refute it at one input. -/
def trieHasWrong : ChangeSpec := { name := "trieHas", fn := fun _ => fun
  | [d1, d2] => { results := [.lit (.bool false)], args := [d1, d2] }
  | _ => none }
def TrieHasWrongFalsely : Prop := trieHasRow.holds Try.pinned (OpenSpec.ofChange trieHasWrong)

/-- 'spellwrightlaw10.TrieApart': WHATEVER THE INPUT: true; the input reads as it did. -/
def trieApartSpec : ChangeSpec := { name := "trieApart", fn := fun _ => fun
  | [d] => { results := [.lit (.bool true)], args := [d] }
  | _ => none }
def trieApartRow : OpenClaim := { program := "ytnbfiifkaddehaa", sum := "06de866f6284786fb5ce21a596bd2cd88211f72e0cf8d114d80d50f6f792e465", func := "spellwright/spellwrightlaw10.TrieApart", spec := "trieApart", unfollowed := true, recurses := true, plainKeys := false, apart := false }
def TrieApartSaid : Prop := trieApartRow.holds Try.pinned (OpenSpec.ofChange trieApartSpec)

/-- ITS FALSE NEIGHBOUR: 'it returns false'. Refute it at one input. -/
def trieApartWrong : ChangeSpec := { name := "trieApart", fn := fun _ => fun
  | [d] => { results := [.lit (.bool false)], args := [d] }
  | _ => none }
def TrieApartWrongFalsely : Prop := trieApartRow.holds Try.pinned (OpenSpec.ofChange trieApartWrong)

/-- 'spellwrightlaw10.TrieMore': WHATEVER THE INPUT: true; the input reads as it did. -/
def trieMoreSpec : ChangeSpec := { name := "trieMore", fn := fun _ => fun
  | [d1, d2] => { results := [.lit (.bool true)], args := [d1, d2] }
  | _ => none }
def trieMoreRow : OpenClaim := { program := "ytnbfiifkaddehaa", sum := "06de866f6284786fb5ce21a596bd2cd88211f72e0cf8d114d80d50f6f792e465", func := "spellwright/spellwrightlaw10.TrieMore", spec := "trieMore", unfollowed := true, recurses := true, plainKeys := false, apart := false }
def TrieMoreSaid : Prop := trieMoreRow.holds Try.pinned (OpenSpec.ofChange trieMoreSpec)

/-- ITS FALSE NEIGHBOUR: 'it returns false'. Refute it at one input. -/
def trieMoreWrong : ChangeSpec := { name := "trieMore", fn := fun _ => fun
  | [d1, d2] => { results := [.lit (.bool false)], args := [d1, d2] }
  | _ => none }
def TrieMoreWrongFalsely : Prop := trieMoreRow.holds Try.pinned (OpenSpec.ofChange trieMoreWrong)

/- THE SECOND FORM. 'bulk': how many values and letters a reading holds, each counted each time it is reached (what is shared counts as often as it is met; a slice's spare places count too). A statement '..UptoSaid' is the law's where the arguments, and the package variables that the reading takes, are together of bulk at most 1048576: NARROWER than '..Said'. Prove '..Said' where nothing that the law and all that it calls make is longer than what came in: it says more and counts as full. Else prove '..UptoSaid'. A law counts once. -/
mutual
def uptoBulk {H : Type} : DataW H → Nat
  | .lit (.string bytes) => bytes.length + 1
  | .lit _ => 1
  | .nil => 1
  | .ptr d => uptoBulk d + 1
  | .slice elems spare => uptoBulkAll elems + uptoBulkAll spare + 1
  | .agg parts => uptoBulkAll parts + 1
  | .iface _ d => uptoBulk d + 1
  | .map entries => uptoBulkEntries entries + 1
  | .held _ => 1
def uptoBulkAll {H : Type} : List (DataW H) → Nat
  | [] => 0
  | d :: r => uptoBulk d + uptoBulkAll r
def uptoBulkEntries {H : Type} : List (Lit × DataW H) → Nat
  | [] => 0
  | x :: r => uptoBulkEntry x + uptoBulkEntries r
def uptoBulkEntry {H : Type} : Lit × DataW H → Nat
  | (.string bytes, d) => bytes.length + uptoBulk d + 1
  | (_, d) => uptoBulk d + 1
 end
def uptoSmall : (H : Type) → List (DataW H) → Bool := fun _ ds => decide (uptoBulkAll ds ≤ 1048576)
def OpenSpec.upto (s : _root_.Go.ChangeSpec) : _root_.Go.OpenSpec := { _root_.Go.OpenSpec.ofChange s with cond := some uptoSmall }

/-- 'spellwrightlaw10.TrieTells', WHERE WHAT IT READS IS OF BULK AT MOST 1048576: true; the input reads as it did. -/
def trieTellsUptoRow : OpenClaim := { program := "ytnbfiifkaddehaa", sum := "06de866f6284786fb5ce21a596bd2cd88211f72e0cf8d114d80d50f6f792e465", func := "spellwright/spellwrightlaw10.TrieTells", spec := "trieTells", unfollowed := true, recurses := true, plainKeys := false, apart := false, narrowed := true }
def TrieTellsUptoSaid : Prop := trieTellsUptoRow.holds Try.pinned (OpenSpec.upto trieTellsSpec)

/-- 'spellwrightlaw10.TrieHas', WHERE WHAT IT READS IS OF BULK AT MOST 1048576: true; the input reads as it did. -/
def trieHasUptoRow : OpenClaim := { program := "ytnbfiifkaddehaa", sum := "06de866f6284786fb5ce21a596bd2cd88211f72e0cf8d114d80d50f6f792e465", func := "spellwright/spellwrightlaw10.TrieHas", spec := "trieHas", unfollowed := true, recurses := true, plainKeys := false, apart := false, narrowed := true }
def TrieHasUptoSaid : Prop := trieHasUptoRow.holds Try.pinned (OpenSpec.upto trieHasSpec)

/-- 'spellwrightlaw10.TrieApart', WHERE WHAT IT READS IS OF BULK AT MOST 1048576: true; the input reads as it did. -/
def trieApartUptoRow : OpenClaim := { program := "ytnbfiifkaddehaa", sum := "06de866f6284786fb5ce21a596bd2cd88211f72e0cf8d114d80d50f6f792e465", func := "spellwright/spellwrightlaw10.TrieApart", spec := "trieApart", unfollowed := true, recurses := true, plainKeys := false, apart := false, narrowed := true }
def TrieApartUptoSaid : Prop := trieApartUptoRow.holds Try.pinned (OpenSpec.upto trieApartSpec)

/-- 'spellwrightlaw10.TrieMore', WHERE WHAT IT READS IS OF BULK AT MOST 1048576: true; the input reads as it did. -/
def trieMoreUptoRow : OpenClaim := { program := "ytnbfiifkaddehaa", sum := "06de866f6284786fb5ce21a596bd2cd88211f72e0cf8d114d80d50f6f792e465", func := "spellwright/spellwrightlaw10.TrieMore", spec := "trieMore", unfollowed := true, recurses := true, plainKeys := false, apart := false, narrowed := true }
def TrieMoreUptoSaid : Prop := trieMoreUptoRow.holds Try.pinned (OpenSpec.upto trieMoreSpec)

end Rows
end Go.Proofs.Ytnbfiifkaddehaa

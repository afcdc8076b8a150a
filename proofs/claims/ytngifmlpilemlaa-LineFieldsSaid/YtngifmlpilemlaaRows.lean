/-
  No cell of these rows narrows 'for every input' (looked for: loops, veiled, ifaces, maps, wideKeys, modest, calm, conditions, laid).
  DERIVED. THE GIVEN ROWS OF THIS SEAT. 3 by the template 'for every input the law returns true; each argument reads behind the call as it read before'; 0 by the template 'total and deterministic' (their statements: YtngifmlpilemlaaTotals.lean).
  GIVEN WITH THE SEED: the statements are not yours to turn. If you find one false, say at which input.
  Laid BY PROGRAM, IN A SANDBOX (cutbox-rows.mjs): the forced cells as the released guide's own fill.sh prints them over the translation 6caa0d582ea91fe3… (all of the seat's roots in one cut). By AI agents, Wed Nov 11 2026. No macro, syntax, notation, axiom, sorry.
-/
import Derived.Test.YtngifmlpilemlaaChecked
import GoSem.Claim
import GoSem.ClaimJoined
import GoSem.ClaimMapViews
import Derived.JoinedTies
import Derived.KernelRfl
namespace Go.Proofs.Ytngifmlpilemlaa
/- THE CELL 'sum', in the pinned program and in every row, IS THE sha256 OF THE DUMP (.gsa) THAT YtngifmlpilemlaaProg.lean LOADS. Nothing in Lean hashes anything: it is a label: what it is worth is what the hold of that sum in a sandbox is worth. -/
noncomputable def Try.pinned : Pinned := { name := "ytngifmlpilemlaa", sum := "6caa0d582ea91fe3c01fc1b9d676f2213c93211f03b30c3cf8a6ecece2309c42", checked := Try.checked }
namespace Rows
def none {H : Type} : Left H := { results := [], args := [] }

/-- 'spellwrightlaw04.LineBack': WHATEVER THE INPUT: true; the input reads as it did. -/
def lineBackSpec : ChangeSpec := { name := "lineBack", fn := fun _ => fun
  | [d1, d2] => { results := [.lit (.bool true)], args := [d1, d2] }
  | _ => none }
def lineBackRow : OpenClaim := { program := "ytngifmlpilemlaa", sum := "6caa0d582ea91fe3c01fc1b9d676f2213c93211f03b30c3cf8a6ecece2309c42", func := "spellwright/spellwrightlaw04.LineBack", spec := "lineBack", inPlace := ["internal/bytealg.IndexByte"], unfollowed := true, recurses := true, apart := false }
def LineBackSaid : Prop := lineBackRow.holds Try.pinned (OpenSpec.ofChange lineBackSpec)

/-- ITS FALSE NEIGHBOUR: 'it returns false'. Refute it at one input. -/
def lineBackWrong : ChangeSpec := { name := "lineBack", fn := fun _ => fun
  | [d1, d2] => { results := [.lit (.bool false)], args := [d1, d2] }
  | _ => none }
def LineBackWrongFalsely : Prop := lineBackRow.holds Try.pinned (OpenSpec.ofChange lineBackWrong)

/-- 'spellwrightlaw04.LineFields': WHATEVER THE INPUT: true; the input reads as it did. -/
def lineFieldsSpec : ChangeSpec := { name := "lineFields", fn := fun _ => fun
  | [d1, d2] => { results := [.lit (.bool true)], args := [d1, d2] }
  | _ => none }
def lineFieldsRow : OpenClaim := { program := "ytngifmlpilemlaa", sum := "6caa0d582ea91fe3c01fc1b9d676f2213c93211f03b30c3cf8a6ecece2309c42", func := "spellwright/spellwrightlaw04.LineFields", spec := "lineFields", inPlace := ["internal/bytealg.IndexByte"], unfollowed := true, recurses := true, apart := false }
def LineFieldsSaid : Prop := lineFieldsRow.holds Try.pinned (OpenSpec.ofChange lineFieldsSpec)

/-- ITS FALSE NEIGHBOUR: 'it returns false'. Refute it at one input. -/
def lineFieldsWrong : ChangeSpec := { name := "lineFields", fn := fun _ => fun
  | [d1, d2] => { results := [.lit (.bool false)], args := [d1, d2] }
  | _ => none }
def LineFieldsWrongFalsely : Prop := lineFieldsRow.holds Try.pinned (OpenSpec.ofChange lineFieldsWrong)

/-- 'spellwrightlaw04.LineBlanks': WHATEVER THE INPUT: true; the input reads as it did. -/
def lineBlanksSpec : ChangeSpec := { name := "lineBlanks", fn := fun _ => fun
  | [d] => { results := [.lit (.bool true)], args := [d] }
  | _ => none }
def lineBlanksRow : OpenClaim := { program := "ytngifmlpilemlaa", sum := "6caa0d582ea91fe3c01fc1b9d676f2213c93211f03b30c3cf8a6ecece2309c42", func := "spellwright/spellwrightlaw04.LineBlanks", spec := "lineBlanks", inPlace := ["internal/bytealg.IndexByte"], unfollowed := true, recurses := true, apart := false }
def LineBlanksSaid : Prop := lineBlanksRow.holds Try.pinned (OpenSpec.ofChange lineBlanksSpec)

/-- ITS FALSE NEIGHBOUR: 'it returns false'. Refute it at one input. -/
def lineBlanksWrong : ChangeSpec := { name := "lineBlanks", fn := fun _ => fun
  | [d] => { results := [.lit (.bool false)], args := [d] }
  | _ => none }
def LineBlanksWrongFalsely : Prop := lineBlanksRow.holds Try.pinned (OpenSpec.ofChange lineBlanksWrong)

/- THE SECOND FORM. 'bulk': how many values and letters a reading holds, each counted each time it is reached (what is shared counts as often as it is met; a slice's spare places count too). A statement '..UptoSaid' is the law's where the arguments, and the package variables that the reading takes, are together of bulk at most 1048576: NARROWER than '..Said'. Prove '..Said' where nothing that the law and all that it calls make is longer than what came in: it says more and counts as full. Else prove '..UptoSaid'. A law counts once. -/
mutual
def uptoBulk {H : Type} : DataW H → Nat
  | .lit (.string bytes) => bytes.length + 1
  | .lit _ => 1
  | .nil => 1
  | .ptr d => uptoBulk d + 1
  | .slice elems spare => uptoBulkAll elems + uptoBulkAll spare + 1
  | .agg parts => uptoBulkAll parts + 1
  | .iface _ d => uptoBulk d + 1
  | .map entries => uptoBulkEntries entries + 1
  | .held _ => 1
def uptoBulkAll {H : Type} : List (DataW H) → Nat
  | [] => 0
  | d :: r => uptoBulk d + uptoBulkAll r
def uptoBulkEntries {H : Type} : List (Lit × DataW H) → Nat
  | [] => 0
  | x :: r => uptoBulkEntry x + uptoBulkEntries r
def uptoBulkEntry {H : Type} : Lit × DataW H → Nat
  | (.string bytes, d) => bytes.length + uptoBulk d + 1
  | (_, d) => uptoBulk d + 1
 end
def uptoSmall : (H : Type) → List (DataW H) → Bool := fun _ ds => decide (uptoBulkAll ds ≤ 1048576)
def OpenSpec.upto (s : _root_.Go.ChangeSpec) : _root_.Go.OpenSpec := { _root_.Go.OpenSpec.ofChange s with cond := some uptoSmall }

/-- 'spellwrightlaw04.LineBack', WHERE WHAT IT READS IS OF BULK AT MOST 1048576: true; the input reads as it did. -/
def lineBackUptoRow : OpenClaim := { program := "ytngifmlpilemlaa", sum := "6caa0d582ea91fe3c01fc1b9d676f2213c93211f03b30c3cf8a6ecece2309c42", func := "spellwright/spellwrightlaw04.LineBack", spec := "lineBack", inPlace := ["internal/bytealg.IndexByte"], unfollowed := true, recurses := true, apart := false, narrowed := true }
def LineBackUptoSaid : Prop := lineBackUptoRow.holds Try.pinned (OpenSpec.upto lineBackSpec)

/-- 'spellwrightlaw04.LineFields', WHERE WHAT IT READS IS OF BULK AT MOST 1048576: true; the input reads as it did. -/
def lineFieldsUptoRow : OpenClaim := { program := "ytngifmlpilemlaa", sum := "6caa0d582ea91fe3c01fc1b9d676f2213c93211f03b30c3cf8a6ecece2309c42", func := "spellwright/spellwrightlaw04.LineFields", spec := "lineFields", inPlace := ["internal/bytealg.IndexByte"], unfollowed := true, recurses := true, apart := false, narrowed := true }
def LineFieldsUptoSaid : Prop := lineFieldsUptoRow.holds Try.pinned (OpenSpec.upto lineFieldsSpec)

/-- 'spellwrightlaw04.LineBlanks', WHERE WHAT IT READS IS OF BULK AT MOST 1048576: true; the input reads as it did. -/
def lineBlanksUptoRow : OpenClaim := { program := "ytngifmlpilemlaa", sum := "6caa0d582ea91fe3c01fc1b9d676f2213c93211f03b30c3cf8a6ecece2309c42", func := "spellwright/spellwrightlaw04.LineBlanks", spec := "lineBlanks", inPlace := ["internal/bytealg.IndexByte"], unfollowed := true, recurses := true, apart := false, narrowed := true }
def LineBlanksUptoSaid : Prop := lineBlanksUptoRow.holds Try.pinned (OpenSpec.upto lineBlanksSpec)

end Rows
end Go.Proofs.Ytngifmlpilemlaa

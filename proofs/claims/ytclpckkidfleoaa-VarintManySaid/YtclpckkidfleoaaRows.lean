/-
  No cell of these rows narrows 'for every input' (looked for: loops, veiled, ifaces, maps, wideKeys, modest, calm, conditions, laid).
  DERIVED. THE GIVEN ROWS OF THIS SEAT. 4 by the template 'for every input the law returns true; each argument reads behind the call as it read before'; 0 by the template 'total and deterministic' (their statements: YtclpckkidfleoaaTotals.lean).
  GIVEN WITH THE SEED: the statements are not yours to turn. If you find one false, say at which input.
  Laid BY PROGRAM, IN A SANDBOX (cutbox-rows.mjs): the forced cells as the released guide's own fill.sh prints them over the translation 4229eef906bb51ef… (all of the seat's roots in one cut). By AI agents, Wed Nov 11 2026. No macro, syntax, notation, axiom, sorry.
-/
import Derived.Test.YtclpckkidfleoaaChecked
import GoSem.Claim
import GoSem.ClaimJoined
import GoSem.ClaimMapViews
import Derived.JoinedTies
import Derived.KernelRfl
namespace Go.Proofs.Ytclpckkidfleoaa
/- THE CELL 'sum', in the pinned program and in every row, IS THE sha256 OF THE DUMP (.gsa) THAT YtclpckkidfleoaaProg.lean LOADS. Nothing in Lean hashes anything: it is a label: what it is worth is what the hold of that sum in a sandbox is worth. -/
noncomputable def Try.pinned : Pinned := { name := "ytclpckkidfleoaa", sum := "4229eef906bb51efa061246fb8cf0fe0dbfbaf0c21b8ef7c07a9f46864bbf44c", checked := Try.checked }
namespace Rows
def none {H : Type} : Left H := { results := [], args := [] }

/-- 'spellwrightlaw13.VarintTells': WHATEVER THE INPUT: true; the input reads as it did. -/
def varintTellsSpec : ChangeSpec := { name := "varintTells", fn := fun _ => fun
  | [d1, d2] => { results := [.lit (.bool true)], args := [d1, d2] }
  | _ => none }
def varintTellsRow : OpenClaim := { program := "ytclpckkidfleoaa", sum := "4229eef906bb51efa061246fb8cf0fe0dbfbaf0c21b8ef7c07a9f46864bbf44c", func := "spellwright/spellwrightlaw13.VarintTells", spec := "varintTells", recurses := true, apart := false }
def VarintTellsSaid : Prop := varintTellsRow.holds Try.pinned (OpenSpec.ofChange varintTellsSpec)

/-- ITS FALSE NEIGHBOUR: 'it returns false'. Refute it at one input. -/
def varintTellsWrong : ChangeSpec := { name := "varintTells", fn := fun _ => fun
  | [d1, d2] => { results := [.lit (.bool false)], args := [d1, d2] }
  | _ => none }
def VarintTellsWrongFalsely : Prop := varintTellsRow.holds Try.pinned (OpenSpec.ofChange varintTellsWrong)

/-- 'spellwrightlaw13.VarintBack': WHATEVER THE INPUT: true; the input reads as it did. -/
def varintBackSpec : ChangeSpec := { name := "varintBack", fn := fun _ => fun
  | [d1, d2, d3] => { results := [.lit (.bool true)], args := [d1, d2, d3] }
  | _ => none }
def varintBackRow : OpenClaim := { program := "ytclpckkidfleoaa", sum := "4229eef906bb51efa061246fb8cf0fe0dbfbaf0c21b8ef7c07a9f46864bbf44c", func := "spellwright/spellwrightlaw13.VarintBack", spec := "varintBack", apart := false }
def VarintBackSaid : Prop := varintBackRow.holds Try.pinned (OpenSpec.ofChange varintBackSpec)

/-- ITS FALSE NEIGHBOUR: 'it returns false'. Refute it at one input. -/
def varintBackWrong : ChangeSpec := { name := "varintBack", fn := fun _ => fun
  | [d1, d2, d3] => { results := [.lit (.bool false)], args := [d1, d2, d3] }
  | _ => none }
def VarintBackWrongFalsely : Prop := varintBackRow.holds Try.pinned (OpenSpec.ofChange varintBackWrong)

/-- 'spellwrightlaw13.VarintSizes': WHATEVER THE INPUT: true; the input reads as it did. -/
def varintSizesSpec : ChangeSpec := { name := "varintSizes", fn := fun _ => fun
  | [d1, d2] => { results := [.lit (.bool true)], args := [d1, d2] }
  | _ => none }
def varintSizesRow : OpenClaim := { program := "ytclpckkidfleoaa", sum := "4229eef906bb51efa061246fb8cf0fe0dbfbaf0c21b8ef7c07a9f46864bbf44c", func := "spellwright/spellwrightlaw13.VarintSizes", spec := "varintSizes", apart := false }
def VarintSizesSaid : Prop := varintSizesRow.holds Try.pinned (OpenSpec.ofChange varintSizesSpec)

/-- ITS FALSE NEIGHBOUR: 'it returns false'. Refute it at one input. -/
def varintSizesWrong : ChangeSpec := { name := "varintSizes", fn := fun _ => fun
  | [d1, d2] => { results := [.lit (.bool false)], args := [d1, d2] }
  | _ => none }
def VarintSizesWrongFalsely : Prop := varintSizesRow.holds Try.pinned (OpenSpec.ofChange varintSizesWrong)

/-- 'spellwrightlaw13.VarintMany': WHATEVER THE INPUT: true; the input reads as it did. -/
def varintManySpec : ChangeSpec := { name := "varintMany", fn := fun _ => fun
  | [d1, d2] => { results := [.lit (.bool true)], args := [d1, d2] }
  | _ => none }
def varintManyRow : OpenClaim := { program := "ytclpckkidfleoaa", sum := "4229eef906bb51efa061246fb8cf0fe0dbfbaf0c21b8ef7c07a9f46864bbf44c", func := "spellwright/spellwrightlaw13.VarintMany", spec := "varintMany", apart := false }
def VarintManySaid : Prop := varintManyRow.holds Try.pinned (OpenSpec.ofChange varintManySpec)

/-- ITS FALSE NEIGHBOUR: 'it returns false'. Refute it at one input. -/
def varintManyWrong : ChangeSpec := { name := "varintMany", fn := fun _ => fun
  | [d1, d2] => { results := [.lit (.bool false)], args := [d1, d2] }
  | _ => none }
def VarintManyWrongFalsely : Prop := varintManyRow.holds Try.pinned (OpenSpec.ofChange varintManyWrong)

/- THE SECOND FORM. 'bulk': how many values and letters a reading holds, each counted each time it is reached (what is shared counts as often as it is met; a slice's spare places count too). A statement '..UptoSaid' is the law's where the arguments, and the package variables that the reading takes, are together of bulk at most 1048576: NARROWER than '..Said'. Prove '..Said' where nothing that the law and all that it calls make is longer than what came in: it says more and counts as full. Else prove '..UptoSaid'. A law counts once. -/
mutual
def uptoBulk {H : Type} : DataW H → Nat
  | .lit (.string bytes) => bytes.length + 1
  | .lit _ => 1
  | .nil => 1
  | .ptr d => uptoBulk d + 1
  | .slice elems spare => uptoBulkAll elems + uptoBulkAll spare + 1
  | .agg parts => uptoBulkAll parts + 1
  | .iface _ d => uptoBulk d + 1
  | .map entries => uptoBulkEntries entries + 1
  | .held _ => 1
def uptoBulkAll {H : Type} : List (DataW H) → Nat
  | [] => 0
  | d :: r => uptoBulk d + uptoBulkAll r
def uptoBulkEntries {H : Type} : List (Lit × DataW H) → Nat
  | [] => 0
  | x :: r => uptoBulkEntry x + uptoBulkEntries r
def uptoBulkEntry {H : Type} : Lit × DataW H → Nat
  | (.string bytes, d) => bytes.length + uptoBulk d + 1
  | (_, d) => uptoBulk d + 1
 end
def uptoSmall : (H : Type) → List (DataW H) → Bool := fun _ ds => decide (uptoBulkAll ds ≤ 1048576)
def OpenSpec.upto (s : _root_.Go.ChangeSpec) : _root_.Go.OpenSpec := { _root_.Go.OpenSpec.ofChange s with cond := some uptoSmall }

/-- 'spellwrightlaw13.VarintTells', WHERE WHAT IT READS IS OF BULK AT MOST 1048576: true; the input reads as it did. -/
def varintTellsUptoRow : OpenClaim := { program := "ytclpckkidfleoaa", sum := "4229eef906bb51efa061246fb8cf0fe0dbfbaf0c21b8ef7c07a9f46864bbf44c", func := "spellwright/spellwrightlaw13.VarintTells", spec := "varintTells", recurses := true, apart := false, narrowed := true }
def VarintTellsUptoSaid : Prop := varintTellsUptoRow.holds Try.pinned (OpenSpec.upto varintTellsSpec)

/-- 'spellwrightlaw13.VarintBack', WHERE WHAT IT READS IS OF BULK AT MOST 1048576: true; the input reads as it did. -/
def varintBackUptoRow : OpenClaim := { program := "ytclpckkidfleoaa", sum := "4229eef906bb51efa061246fb8cf0fe0dbfbaf0c21b8ef7c07a9f46864bbf44c", func := "spellwright/spellwrightlaw13.VarintBack", spec := "varintBack", apart := false, narrowed := true }
def VarintBackUptoSaid : Prop := varintBackUptoRow.holds Try.pinned (OpenSpec.upto varintBackSpec)

/-- 'spellwrightlaw13.VarintSizes', WHERE WHAT IT READS IS OF BULK AT MOST 1048576: true; the input reads as it did. -/
def varintSizesUptoRow : OpenClaim := { program := "ytclpckkidfleoaa", sum := "4229eef906bb51efa061246fb8cf0fe0dbfbaf0c21b8ef7c07a9f46864bbf44c", func := "spellwright/spellwrightlaw13.VarintSizes", spec := "varintSizes", apart := false, narrowed := true }
def VarintSizesUptoSaid : Prop := varintSizesUptoRow.holds Try.pinned (OpenSpec.upto varintSizesSpec)

/-- 'spellwrightlaw13.VarintMany', WHERE WHAT IT READS IS OF BULK AT MOST 1048576: true; the input reads as it did. -/
def varintManyUptoRow : OpenClaim := { program := "ytclpckkidfleoaa", sum := "4229eef906bb51efa061246fb8cf0fe0dbfbaf0c21b8ef7c07a9f46864bbf44c", func := "spellwright/spellwrightlaw13.VarintMany", spec := "varintMany", apart := false, narrowed := true }
def VarintManyUptoSaid : Prop := varintManyUptoRow.holds Try.pinned (OpenSpec.upto varintManySpec)

end Rows
end Go.Proofs.Ytclpckkidfleoaa

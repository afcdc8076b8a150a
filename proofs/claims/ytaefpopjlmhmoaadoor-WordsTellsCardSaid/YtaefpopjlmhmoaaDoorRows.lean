/-
  NARROWER THAN 'FOR EVERY INPUT', by the rows' own cells (each row's printed sentence says how): WordsTells: laid · WordsBack: laid · WordsHas: laid · WordsJoins: laid · WordsCuts: laid.
  DERIVED. THE GIVEN ROWS OF THIS SEAT. 5 by the template 'for every input the law returns true; each argument reads behind the call as it read before'; 0 by the template 'total and deterministic' (their statements: YtaefpopjlmhmoaaDoorTotals.lean).
  GIVEN WITH THE SEED: the statements are not yours to turn. If you find one false, say at which input.
  Laid BY PROGRAM, IN A SANDBOX (cutbox-rows.mjs): the forced cells as the released guide's own fill.sh prints them over the translation 6fd80b25530bd5ca… (all of the seat's roots in one cut). By AI agents, Wed Nov 11 2026. No macro, syntax, notation, axiom, sorry.
-/
import Derived.Test.YtaefpopjlmhmoaaDoorChecked
import GoSem.PinnedTables
import GoSem.Claim
import GoSem.ClaimJoined
import GoSem.ClaimMapViews
import Derived.JoinedTies
import Derived.KernelRfl
namespace Go.Proofs.YtaefpopjlmhmoaaDoor
/- THE CELL 'sum', in the pinned program and in every row, IS THE sha256 OF THE DUMP (.gsa) THAT YtaefpopjlmhmoaaDoorProg.lean LOADS. Nothing in Lean hashes anything: it is a label: what it is worth is what the hold of that sum in a sandbox is worth. -/
noncomputable def Tryd.pinned : Pinned := { name := "ytaefpopjlmhmoaadoor", sum := "6fd80b25530bd5cad8f1c78265d9c55a9a06e9d4da182dcb4ef7b0ca840ea8aa", checked := Tryd.checked }
namespace Rows
def none {H : Type} : Left H := { results := [], args := [] }

/- WHAT THE LISTED PACKAGE-LEVEL VARIABLES READ AS WHEN THE CALL BEGINS. Each datum BY PROGRAM (the guide's laid-datum.mjs) off the statement by which the dump's own 'gosem.cut.vars' lays the variable. In a bare row this is a premise. The card (YtaefpopjlmhmoaaDoorCards.lean) ties it to the program's text. -/
def laid_unicode_utf8_acceptRanges {H : Type} : DataW H := .agg [.agg [.lit (.int .u8 128), .lit (.int .u8 191)], .agg [.lit (.int .u8 160), .lit (.int .u8 191)], .agg [.lit (.int .u8 128), .lit (.int .u8 159)], .agg [.lit (.int .u8 144), .lit (.int .u8 191)], .agg [.lit (.int .u8 128), .lit (.int .u8 143)], .agg [.lit (.int .u8 0), .lit (.int .u8 0)], .agg [.lit (.int .u8 0), .lit (.int .u8 0)], .agg [.lit (.int .u8 0), .lit (.int .u8 0)], .agg [.lit (.int .u8 0), .lit (.int .u8 0)], .agg [.lit (.int .u8 0), .lit (.int .u8 0)], .agg [.lit (.int .u8 0), .lit (.int .u8 0)], .agg [.lit (.int .u8 0), .lit (.int .u8 0)], .agg [.lit (.int .u8 0), .lit (.int .u8 0)], .agg [.lit (.int .u8 0), .lit (.int .u8 0)], .agg [.lit (.int .u8 0), .lit (.int .u8 0)], .agg [.lit (.int .u8 0), .lit (.int .u8 0)]]
/-- One of Go's own tables, pinned by name: the form's constant. -/
def laid_unicode_utf8_first : DataW Unit := Go.Pinned.utf8First

/-- 'spellwrightlaw09.WordsTells': WHATEVER THE INPUT: true; the input reads as it did. -/
def wordsTellsSpec : ChangeSpec := { name := "wordsTells", fn := fun _ => fun
  | [d1, d2, d3] => { results := [.lit (.bool true)], args := [d1, d2, d3] }
  | _ => none }
def wordsTellsRow : OpenClaim := { program := "ytaefpopjlmhmoaadoor", sum := "6fd80b25530bd5cad8f1c78265d9c55a9a06e9d4da182dcb4ef7b0ca840ea8aa", func := "spellwright/spellwrightlaw09.WordsTells", spec := "wordsTells", inPlace := ["internal/bytealg.IndexByte", "slices.overlaps[[]int]"], unfollowed := true, recurses := true, named := ["unicode/utf8.first", "unicode/utf8.acceptRanges"], apart := false, laid := [("unicode/utf8.acceptRanges", laid_unicode_utf8_acceptRanges), ("unicode/utf8.first", laid_unicode_utf8_first)] }
def WordsTellsSaid : Prop := wordsTellsRow.holds Tryd.pinned (OpenSpec.ofChange wordsTellsSpec)

/-- ITS FALSE NEIGHBOUR: 'it returns false'. Refute it at one input. -/
def wordsTellsWrong : ChangeSpec := { name := "wordsTells", fn := fun _ => fun
  | [d1, d2, d3] => { results := [.lit (.bool false)], args := [d1, d2, d3] }
  | _ => none }
def WordsTellsWrongFalsely : Prop := wordsTellsRow.holds Tryd.pinned (OpenSpec.ofChange wordsTellsWrong)

/-- 'spellwrightlaw09.WordsBack': WHATEVER THE INPUT: true; the input reads as it did. -/
def wordsBackSpec : ChangeSpec := { name := "wordsBack", fn := fun _ => fun
  | [d1, d2] => { results := [.lit (.bool true)], args := [d1, d2] }
  | _ => none }
def wordsBackRow : OpenClaim := { program := "ytaefpopjlmhmoaadoor", sum := "6fd80b25530bd5cad8f1c78265d9c55a9a06e9d4da182dcb4ef7b0ca840ea8aa", func := "spellwright/spellwrightlaw09.WordsBack", spec := "wordsBack", inPlace := ["internal/bytealg.IndexByte", "slices.overlaps[[]int]"], unfollowed := true, recurses := true, named := ["unicode/utf8.first", "unicode/utf8.acceptRanges"], apart := false, laid := [("unicode/utf8.acceptRanges", laid_unicode_utf8_acceptRanges), ("unicode/utf8.first", laid_unicode_utf8_first)] }
def WordsBackSaid : Prop := wordsBackRow.holds Tryd.pinned (OpenSpec.ofChange wordsBackSpec)

/-- ITS FALSE NEIGHBOUR: 'it returns false'. Refute it at one input. -/
def wordsBackWrong : ChangeSpec := { name := "wordsBack", fn := fun _ => fun
  | [d1, d2] => { results := [.lit (.bool false)], args := [d1, d2] }
  | _ => none }
def WordsBackWrongFalsely : Prop := wordsBackRow.holds Tryd.pinned (OpenSpec.ofChange wordsBackWrong)

/-- 'spellwrightlaw09.WordsHas': WHATEVER THE INPUT: true; the input reads as it did. -/
def wordsHasSpec : ChangeSpec := { name := "wordsHas", fn := fun _ => fun
  | [d] => { results := [.lit (.bool true)], args := [d] }
  | _ => none }
def wordsHasRow : OpenClaim := { program := "ytaefpopjlmhmoaadoor", sum := "6fd80b25530bd5cad8f1c78265d9c55a9a06e9d4da182dcb4ef7b0ca840ea8aa", func := "spellwright/spellwrightlaw09.WordsHas", spec := "wordsHas", inPlace := ["internal/bytealg.IndexByte", "slices.overlaps[[]int]"], unfollowed := true, recurses := true, named := ["unicode/utf8.first", "unicode/utf8.acceptRanges"], apart := false, laid := [("unicode/utf8.acceptRanges", laid_unicode_utf8_acceptRanges), ("unicode/utf8.first", laid_unicode_utf8_first)] }
def WordsHasSaid : Prop := wordsHasRow.holds Tryd.pinned (OpenSpec.ofChange wordsHasSpec)

/-- ITS FALSE NEIGHBOUR: 'it returns false'. Refute it at one input. -/
def wordsHasWrong : ChangeSpec := { name := "wordsHas", fn := fun _ => fun
  | [d] => { results := [.lit (.bool false)], args := [d] }
  | _ => none }
def WordsHasWrongFalsely : Prop := wordsHasRow.holds Tryd.pinned (OpenSpec.ofChange wordsHasWrong)

/-- 'spellwrightlaw09.WordsJoins': WHATEVER THE INPUT: true; the input reads as it did. -/
def wordsJoinsSpec : ChangeSpec := { name := "wordsJoins", fn := fun _ => fun
  | [d1, d2] => { results := [.lit (.bool true)], args := [d1, d2] }
  | _ => none }
def wordsJoinsRow : OpenClaim := { program := "ytaefpopjlmhmoaadoor", sum := "6fd80b25530bd5cad8f1c78265d9c55a9a06e9d4da182dcb4ef7b0ca840ea8aa", func := "spellwright/spellwrightlaw09.WordsJoins", spec := "wordsJoins", inPlace := ["internal/bytealg.IndexByte", "slices.overlaps[[]int]"], unfollowed := true, recurses := true, named := ["unicode/utf8.first", "unicode/utf8.acceptRanges"], apart := false, laid := [("unicode/utf8.acceptRanges", laid_unicode_utf8_acceptRanges), ("unicode/utf8.first", laid_unicode_utf8_first)] }
def WordsJoinsSaid : Prop := wordsJoinsRow.holds Tryd.pinned (OpenSpec.ofChange wordsJoinsSpec)

/-- ITS FALSE NEIGHBOUR: 'it returns false'. Refute it at one input. -/
def wordsJoinsWrong : ChangeSpec := { name := "wordsJoins", fn := fun _ => fun
  | [d1, d2] => { results := [.lit (.bool false)], args := [d1, d2] }
  | _ => none }
def WordsJoinsWrongFalsely : Prop := wordsJoinsRow.holds Tryd.pinned (OpenSpec.ofChange wordsJoinsWrong)

/-- 'spellwrightlaw09.WordsCuts': WHATEVER THE INPUT: true; the input reads as it did. -/
def wordsCutsSpec : ChangeSpec := { name := "wordsCuts", fn := fun _ => fun
  | [d1, d2] => { results := [.lit (.bool true)], args := [d1, d2] }
  | _ => none }
def wordsCutsRow : OpenClaim := { program := "ytaefpopjlmhmoaadoor", sum := "6fd80b25530bd5cad8f1c78265d9c55a9a06e9d4da182dcb4ef7b0ca840ea8aa", func := "spellwright/spellwrightlaw09.WordsCuts", spec := "wordsCuts", inPlace := ["internal/bytealg.IndexByte", "slices.overlaps[[]int]"], unfollowed := true, recurses := true, named := ["unicode/utf8.first", "unicode/utf8.acceptRanges"], apart := false, laid := [("unicode/utf8.acceptRanges", laid_unicode_utf8_acceptRanges), ("unicode/utf8.first", laid_unicode_utf8_first)] }
def WordsCutsSaid : Prop := wordsCutsRow.holds Tryd.pinned (OpenSpec.ofChange wordsCutsSpec)

/-- ITS FALSE NEIGHBOUR: 'it returns false'. Refute it at one input. -/
def wordsCutsWrong : ChangeSpec := { name := "wordsCuts", fn := fun _ => fun
  | [d1, d2] => { results := [.lit (.bool false)], args := [d1, d2] }
  | _ => none }
def WordsCutsWrongFalsely : Prop := wordsCutsRow.holds Tryd.pinned (OpenSpec.ofChange wordsCutsWrong)

/- THE SECOND FORM. 'bulk': how many values and letters a reading holds, each counted each time it is reached (what is shared counts as often as it is met; a slice's spare places count too). A statement '..UptoSaid' is the law's where the arguments, and the package variables that the reading takes, are together of bulk at most 1048576: NARROWER than '..Said'. Prove '..Said' where nothing that the law and all that it calls make is longer than what came in: it says more and counts as full. Else prove '..UptoSaid'. A law counts once. -/
mutual
def uptoBulk {H : Type} : DataW H → Nat
  | .lit (.string bytes) => bytes.length + 1
  | .lit _ => 1
  | .nil => 1
  | .ptr d => uptoBulk d + 1
  | .slice elems spare => uptoBulkAll elems + uptoBulkAll spare + 1
  | .agg parts => uptoBulkAll parts + 1
  | .iface _ d => uptoBulk d + 1
  | .map entries => uptoBulkEntries entries + 1
  | .held _ => 1
def uptoBulkAll {H : Type} : List (DataW H) → Nat
  | [] => 0
  | d :: r => uptoBulk d + uptoBulkAll r
def uptoBulkEntries {H : Type} : List (Lit × DataW H) → Nat
  | [] => 0
  | x :: r => uptoBulkEntry x + uptoBulkEntries r
def uptoBulkEntry {H : Type} : Lit × DataW H → Nat
  | (.string bytes, d) => bytes.length + uptoBulk d + 1
  | (_, d) => uptoBulk d + 1
 end
def uptoSmall : (H : Type) → List (DataW H) → Bool := fun _ ds => decide (uptoBulkAll ds ≤ 1048576)
def OpenSpec.upto (s : _root_.Go.ChangeSpec) : _root_.Go.OpenSpec := { _root_.Go.OpenSpec.ofChange s with cond := some uptoSmall }

/-- 'spellwrightlaw09.WordsTells', WHERE WHAT IT READS IS OF BULK AT MOST 1048576: true; the input reads as it did. -/
def wordsTellsUptoRow : OpenClaim := { program := "ytaefpopjlmhmoaadoor", sum := "6fd80b25530bd5cad8f1c78265d9c55a9a06e9d4da182dcb4ef7b0ca840ea8aa", func := "spellwright/spellwrightlaw09.WordsTells", spec := "wordsTells", inPlace := ["internal/bytealg.IndexByte", "slices.overlaps[[]int]"], unfollowed := true, recurses := true, named := ["unicode/utf8.first", "unicode/utf8.acceptRanges"], apart := false, laid := [("unicode/utf8.acceptRanges", laid_unicode_utf8_acceptRanges), ("unicode/utf8.first", laid_unicode_utf8_first)], narrowed := true }
def WordsTellsUptoSaid : Prop := wordsTellsUptoRow.holds Tryd.pinned (OpenSpec.upto wordsTellsSpec)

/-- 'spellwrightlaw09.WordsBack', WHERE WHAT IT READS IS OF BULK AT MOST 1048576: true; the input reads as it did. -/
def wordsBackUptoRow : OpenClaim := { program := "ytaefpopjlmhmoaadoor", sum := "6fd80b25530bd5cad8f1c78265d9c55a9a06e9d4da182dcb4ef7b0ca840ea8aa", func := "spellwright/spellwrightlaw09.WordsBack", spec := "wordsBack", inPlace := ["internal/bytealg.IndexByte", "slices.overlaps[[]int]"], unfollowed := true, recurses := true, named := ["unicode/utf8.first", "unicode/utf8.acceptRanges"], apart := false, laid := [("unicode/utf8.acceptRanges", laid_unicode_utf8_acceptRanges), ("unicode/utf8.first", laid_unicode_utf8_first)], narrowed := true }
def WordsBackUptoSaid : Prop := wordsBackUptoRow.holds Tryd.pinned (OpenSpec.upto wordsBackSpec)

/-- 'spellwrightlaw09.WordsHas', WHERE WHAT IT READS IS OF BULK AT MOST 1048576: true; the input reads as it did. -/
def wordsHasUptoRow : OpenClaim := { program := "ytaefpopjlmhmoaadoor", sum := "6fd80b25530bd5cad8f1c78265d9c55a9a06e9d4da182dcb4ef7b0ca840ea8aa", func := "spellwright/spellwrightlaw09.WordsHas", spec := "wordsHas", inPlace := ["internal/bytealg.IndexByte", "slices.overlaps[[]int]"], unfollowed := true, recurses := true, named := ["unicode/utf8.first", "unicode/utf8.acceptRanges"], apart := false, laid := [("unicode/utf8.acceptRanges", laid_unicode_utf8_acceptRanges), ("unicode/utf8.first", laid_unicode_utf8_first)], narrowed := true }
def WordsHasUptoSaid : Prop := wordsHasUptoRow.holds Tryd.pinned (OpenSpec.upto wordsHasSpec)

/-- 'spellwrightlaw09.WordsJoins', WHERE WHAT IT READS IS OF BULK AT MOST 1048576: true; the input reads as it did. -/
def wordsJoinsUptoRow : OpenClaim := { program := "ytaefpopjlmhmoaadoor", sum := "6fd80b25530bd5cad8f1c78265d9c55a9a06e9d4da182dcb4ef7b0ca840ea8aa", func := "spellwright/spellwrightlaw09.WordsJoins", spec := "wordsJoins", inPlace := ["internal/bytealg.IndexByte", "slices.overlaps[[]int]"], unfollowed := true, recurses := true, named := ["unicode/utf8.first", "unicode/utf8.acceptRanges"], apart := false, laid := [("unicode/utf8.acceptRanges", laid_unicode_utf8_acceptRanges), ("unicode/utf8.first", laid_unicode_utf8_first)], narrowed := true }
def WordsJoinsUptoSaid : Prop := wordsJoinsUptoRow.holds Tryd.pinned (OpenSpec.upto wordsJoinsSpec)

/-- 'spellwrightlaw09.WordsCuts', WHERE WHAT IT READS IS OF BULK AT MOST 1048576: true; the input reads as it did. -/
def wordsCutsUptoRow : OpenClaim := { program := "ytaefpopjlmhmoaadoor", sum := "6fd80b25530bd5cad8f1c78265d9c55a9a06e9d4da182dcb4ef7b0ca840ea8aa", func := "spellwright/spellwrightlaw09.WordsCuts", spec := "wordsCuts", inPlace := ["internal/bytealg.IndexByte", "slices.overlaps[[]int]"], unfollowed := true, recurses := true, named := ["unicode/utf8.first", "unicode/utf8.acceptRanges"], apart := false, laid := [("unicode/utf8.acceptRanges", laid_unicode_utf8_acceptRanges), ("unicode/utf8.first", laid_unicode_utf8_first)], narrowed := true }
def WordsCutsUptoSaid : Prop := wordsCutsUptoRow.holds Tryd.pinned (OpenSpec.upto wordsCutsSpec)

end Rows
end Go.Proofs.YtaefpopjlmhmoaaDoor

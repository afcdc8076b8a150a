/-
  No cell of these rows narrows 'for every input' (looked for: loops, veiled, ifaces, maps, wideKeys, modest, calm, conditions, laid).
  DERIVED. THE GIVEN ROWS OF THIS SEAT. 6 by the template 'for every input the law returns true; each argument reads behind the call as it read before'; 0 by the template 'total and deterministic' (their statements: YtanbekjefbebaaaTotals.lean).
  GIVEN WITH THE SEED: the statements are not yours to turn. If you find one false, say at which input.
  Laid BY PROGRAM, IN A SANDBOX (cutbox-rows.mjs): the forced cells as the released guide's own fill.sh prints them over the translation b58f58085b4cbe2d… (all of the seat's roots in one cut). By AI agents, Wed Nov 11 2026. No macro, syntax, notation, axiom, sorry.
-/
import Derived.Test.YtanbekjefbebaaaChecked
import GoSem.Claim
import GoSem.ClaimJoined
import GoSem.ClaimMapViews
import Derived.JoinedTies
import Derived.KernelRfl
namespace Go.Proofs.Ytanbekjefbebaaa
/- THE CELL 'sum', in the pinned program and in every row, IS THE sha256 OF THE DUMP (.gsa) THAT YtanbekjefbebaaaProg.lean LOADS. Nothing in Lean hashes anything: it is a label: what it is worth is what the hold of that sum in a sandbox is worth. -/
noncomputable def Try.pinned : Pinned := { name := "ytanbekjefbebaaa", sum := "b58f58085b4cbe2df5426703909e614a2c7fd3e2e1620e25fb81097152c416cf", checked := Try.checked }
namespace Rows
def none {H : Type} : Left H := { results := [], args := [] }

/-- 'spellwrightlaw03.OrderTells': WHATEVER THE INPUT: true; the input reads as it did. -/
def orderTellsSpec : ChangeSpec := { name := "orderTells", fn := fun _ => fun
  | [d1, d2, d3] => { results := [.lit (.bool true)], args := [d1, d2, d3] }
  | _ => none }
def orderTellsRow : OpenClaim := { program := "ytanbekjefbebaaa", sum := "b58f58085b4cbe2df5426703909e614a2c7fd3e2e1620e25fb81097152c416cf", func := "spellwright/spellwrightlaw03.OrderTells", spec := "orderTells", unfollowed := true, recurses := true, apart := false }
def OrderTellsSaid : Prop := orderTellsRow.holds Try.pinned (OpenSpec.ofChange orderTellsSpec)

/-- ITS FALSE NEIGHBOUR: 'it returns false'. Refute it at one input. -/
def orderTellsWrong : ChangeSpec := { name := "orderTells", fn := fun _ => fun
  | [d1, d2, d3] => { results := [.lit (.bool false)], args := [d1, d2, d3] }
  | _ => none }
def OrderTellsWrongFalsely : Prop := orderTellsRow.holds Try.pinned (OpenSpec.ofChange orderTellsWrong)

/-- 'spellwrightlaw03.OrderThree': WHATEVER THE INPUT: true; the input reads as it did. -/
def orderThreeSpec : ChangeSpec := { name := "orderThree", fn := fun _ => fun
  | [d1, d2, d3] => { results := [.lit (.bool true)], args := [d1, d2, d3] }
  | _ => none }
def orderThreeRow : OpenClaim := { program := "ytanbekjefbebaaa", sum := "b58f58085b4cbe2df5426703909e614a2c7fd3e2e1620e25fb81097152c416cf", func := "spellwright/spellwrightlaw03.OrderThree", spec := "orderThree", unfollowed := true, recurses := true, apart := false }
def OrderThreeSaid : Prop := orderThreeRow.holds Try.pinned (OpenSpec.ofChange orderThreeSpec)

/-- ITS FALSE NEIGHBOUR: 'it returns false'. Refute it at one input. -/
def orderThreeWrong : ChangeSpec := { name := "orderThree", fn := fun _ => fun
  | [d1, d2, d3] => { results := [.lit (.bool false)], args := [d1, d2, d3] }
  | _ => none }
def OrderThreeWrongFalsely : Prop := orderThreeRow.holds Try.pinned (OpenSpec.ofChange orderThreeWrong)

/-- 'spellwrightlaw03.OrderSorts': WHATEVER THE INPUT: true; the input reads as it did. -/
def orderSortsSpec : ChangeSpec := { name := "orderSorts", fn := fun _ => fun
  | [d1, d2] => { results := [.lit (.bool true)], args := [d1, d2] }
  | _ => none }
def orderSortsRow : OpenClaim := { program := "ytanbekjefbebaaa", sum := "b58f58085b4cbe2df5426703909e614a2c7fd3e2e1620e25fb81097152c416cf", func := "spellwright/spellwrightlaw03.OrderSorts", spec := "orderSorts", unfollowed := true, recurses := true, apart := false }
def OrderSortsSaid : Prop := orderSortsRow.holds Try.pinned (OpenSpec.ofChange orderSortsSpec)

/-- ITS FALSE NEIGHBOUR: 'it returns false'. Refute it at one input. -/
def orderSortsWrong : ChangeSpec := { name := "orderSorts", fn := fun _ => fun
  | [d1, d2] => { results := [.lit (.bool false)], args := [d1, d2] }
  | _ => none }
def OrderSortsWrongFalsely : Prop := orderSortsRow.holds Try.pinned (OpenSpec.ofChange orderSortsWrong)

/-- 'spellwrightlaw03.OrderBegins': WHATEVER THE INPUT: true; the input reads as it did. -/
def orderBeginsSpec : ChangeSpec := { name := "orderBegins", fn := fun _ => fun
  | [d1, d2, d3] => { results := [.lit (.bool true)], args := [d1, d2, d3] }
  | _ => none }
def orderBeginsRow : OpenClaim := { program := "ytanbekjefbebaaa", sum := "b58f58085b4cbe2df5426703909e614a2c7fd3e2e1620e25fb81097152c416cf", func := "spellwright/spellwrightlaw03.OrderBegins", spec := "orderBegins", unfollowed := true, recurses := true, apart := false }
def OrderBeginsSaid : Prop := orderBeginsRow.holds Try.pinned (OpenSpec.ofChange orderBeginsSpec)

/-- ITS FALSE NEIGHBOUR: 'it returns false'. Refute it at one input. -/
def orderBeginsWrong : ChangeSpec := { name := "orderBegins", fn := fun _ => fun
  | [d1, d2, d3] => { results := [.lit (.bool false)], args := [d1, d2, d3] }
  | _ => none }
def OrderBeginsWrongFalsely : Prop := orderBeginsRow.holds Try.pinned (OpenSpec.ofChange orderBeginsWrong)

/-- 'spellwrightlaw03.OrderCommons': WHATEVER THE INPUT: true; the input reads as it did. -/
def orderCommonsSpec : ChangeSpec := { name := "orderCommons", fn := fun _ => fun
  | [d1, d2, d3] => { results := [.lit (.bool true)], args := [d1, d2, d3] }
  | _ => none }
def orderCommonsRow : OpenClaim := { program := "ytanbekjefbebaaa", sum := "b58f58085b4cbe2df5426703909e614a2c7fd3e2e1620e25fb81097152c416cf", func := "spellwright/spellwrightlaw03.OrderCommons", spec := "orderCommons", unfollowed := true, recurses := true, apart := false }
def OrderCommonsSaid : Prop := orderCommonsRow.holds Try.pinned (OpenSpec.ofChange orderCommonsSpec)

/-- ITS FALSE NEIGHBOUR: 'it returns false'. Refute it at one input. -/
def orderCommonsWrong : ChangeSpec := { name := "orderCommons", fn := fun _ => fun
  | [d1, d2, d3] => { results := [.lit (.bool false)], args := [d1, d2, d3] }
  | _ => none }
def OrderCommonsWrongFalsely : Prop := orderCommonsRow.holds Try.pinned (OpenSpec.ofChange orderCommonsWrong)

/-- 'spellwrightlaw03.OrderPuts': WHATEVER THE INPUT: true; the input reads as it did. -/
def orderPutsSpec : ChangeSpec := { name := "orderPuts", fn := fun _ => fun
  | [d1, d2] => { results := [.lit (.bool true)], args := [d1, d2] }
  | _ => none }
def orderPutsRow : OpenClaim := { program := "ytanbekjefbebaaa", sum := "b58f58085b4cbe2df5426703909e614a2c7fd3e2e1620e25fb81097152c416cf", func := "spellwright/spellwrightlaw03.OrderPuts", spec := "orderPuts", unfollowed := true, recurses := true, apart := false }
def OrderPutsSaid : Prop := orderPutsRow.holds Try.pinned (OpenSpec.ofChange orderPutsSpec)

/-- ITS FALSE NEIGHBOUR: 'it returns false'. Refute it at one input. -/
def orderPutsWrong : ChangeSpec := { name := "orderPuts", fn := fun _ => fun
  | [d1, d2] => { results := [.lit (.bool false)], args := [d1, d2] }
  | _ => none }
def OrderPutsWrongFalsely : Prop := orderPutsRow.holds Try.pinned (OpenSpec.ofChange orderPutsWrong)

/- THE SECOND FORM. 'bulk': how many values and letters a reading holds, each counted each time it is reached (what is shared counts as often as it is met; a slice's spare places count too). A statement '..UptoSaid' is the law's where the arguments, and the package variables that the reading takes, are together of bulk at most 1048576: NARROWER than '..Said'. Prove '..Said' where nothing that the law and all that it calls make is longer than what came in: it says more and counts as full. Else prove '..UptoSaid'. A law counts once. -/
mutual
def uptoBulk {H : Type} : DataW H → Nat
  | .lit (.string bytes) => bytes.length + 1
  | .lit _ => 1
  | .nil => 1
  | .ptr d => uptoBulk d + 1
  | .slice elems spare => uptoBulkAll elems + uptoBulkAll spare + 1
  | .agg parts => uptoBulkAll parts + 1
  | .iface _ d => uptoBulk d + 1
  | .map entries => uptoBulkEntries entries + 1
  | .held _ => 1
def uptoBulkAll {H : Type} : List (DataW H) → Nat
  | [] => 0
  | d :: r => uptoBulk d + uptoBulkAll r
def uptoBulkEntries {H : Type} : List (Lit × DataW H) → Nat
  | [] => 0
  | x :: r => uptoBulkEntry x + uptoBulkEntries r
def uptoBulkEntry {H : Type} : Lit × DataW H → Nat
  | (.string bytes, d) => bytes.length + uptoBulk d + 1
  | (_, d) => uptoBulk d + 1
 end
def uptoSmall : (H : Type) → List (DataW H) → Bool := fun _ ds => decide (uptoBulkAll ds ≤ 1048576)
def OpenSpec.upto (s : _root_.Go.ChangeSpec) : _root_.Go.OpenSpec := { _root_.Go.OpenSpec.ofChange s with cond := some uptoSmall }

/-- 'spellwrightlaw03.OrderTells', WHERE WHAT IT READS IS OF BULK AT MOST 1048576: true; the input reads as it did. -/
def orderTellsUptoRow : OpenClaim := { program := "ytanbekjefbebaaa", sum := "b58f58085b4cbe2df5426703909e614a2c7fd3e2e1620e25fb81097152c416cf", func := "spellwright/spellwrightlaw03.OrderTells", spec := "orderTells", unfollowed := true, recurses := true, apart := false, narrowed := true }
def OrderTellsUptoSaid : Prop := orderTellsUptoRow.holds Try.pinned (OpenSpec.upto orderTellsSpec)

/-- 'spellwrightlaw03.OrderThree', WHERE WHAT IT READS IS OF BULK AT MOST 1048576: true; the input reads as it did. -/
def orderThreeUptoRow : OpenClaim := { program := "ytanbekjefbebaaa", sum := "b58f58085b4cbe2df5426703909e614a2c7fd3e2e1620e25fb81097152c416cf", func := "spellwright/spellwrightlaw03.OrderThree", spec := "orderThree", unfollowed := true, recurses := true, apart := false, narrowed := true }
def OrderThreeUptoSaid : Prop := orderThreeUptoRow.holds Try.pinned (OpenSpec.upto orderThreeSpec)

/-- 'spellwrightlaw03.OrderSorts', WHERE WHAT IT READS IS OF BULK AT MOST 1048576: true; the input reads as it did. -/
def orderSortsUptoRow : OpenClaim := { program := "ytanbekjefbebaaa", sum := "b58f58085b4cbe2df5426703909e614a2c7fd3e2e1620e25fb81097152c416cf", func := "spellwright/spellwrightlaw03.OrderSorts", spec := "orderSorts", unfollowed := true, recurses := true, apart := false, narrowed := true }
def OrderSortsUptoSaid : Prop := orderSortsUptoRow.holds Try.pinned (OpenSpec.upto orderSortsSpec)

/-- 'spellwrightlaw03.OrderBegins', WHERE WHAT IT READS IS OF BULK AT MOST 1048576: true; the input reads as it did. -/
def orderBeginsUptoRow : OpenClaim := { program := "ytanbekjefbebaaa", sum := "b58f58085b4cbe2df5426703909e614a2c7fd3e2e1620e25fb81097152c416cf", func := "spellwright/spellwrightlaw03.OrderBegins", spec := "orderBegins", unfollowed := true, recurses := true, apart := false, narrowed := true }
def OrderBeginsUptoSaid : Prop := orderBeginsUptoRow.holds Try.pinned (OpenSpec.upto orderBeginsSpec)

/-- 'spellwrightlaw03.OrderCommons', WHERE WHAT IT READS IS OF BULK AT MOST 1048576: true; the input reads as it did. -/
def orderCommonsUptoRow : OpenClaim := { program := "ytanbekjefbebaaa", sum := "b58f58085b4cbe2df5426703909e614a2c7fd3e2e1620e25fb81097152c416cf", func := "spellwright/spellwrightlaw03.OrderCommons", spec := "orderCommons", unfollowed := true, recurses := true, apart := false, narrowed := true }
def OrderCommonsUptoSaid : Prop := orderCommonsUptoRow.holds Try.pinned (OpenSpec.upto orderCommonsSpec)

/-- 'spellwrightlaw03.OrderPuts', WHERE WHAT IT READS IS OF BULK AT MOST 1048576: true; the input reads as it did. -/
def orderPutsUptoRow : OpenClaim := { program := "ytanbekjefbebaaa", sum := "b58f58085b4cbe2df5426703909e614a2c7fd3e2e1620e25fb81097152c416cf", func := "spellwright/spellwrightlaw03.OrderPuts", spec := "orderPuts", unfollowed := true, recurses := true, apart := false, narrowed := true }
def OrderPutsUptoSaid : Prop := orderPutsUptoRow.holds Try.pinned (OpenSpec.upto orderPutsSpec)

end Rows
end Go.Proofs.Ytanbekjefbebaaa

/-
  DERIVED. GIVEN WITH THE SEED: THE CARDS: each row of YtlikejlgpfhkfaaDoorRows.lean that lists a variable, with what it lists TIED to the program's text (the seventh form; the later family's looks); each row that meets fmt, with fmt's text TOLD by the authors' own Lean function (tested against real Go, not proved from fmt's source: count such statements apart). THE CARD IS WHAT COUNTS. Prove the row's statement (the work); the ties are given (YtlikejlgpfhkfaaDoorTie.lean); close each card by the builder's one call (the guide's Derived/Test/ToyasCard.lean, 'card_holds'). Laid BY PROGRAM, IN A SANDBOX (cutbox-door.mjs). By AI agents, Wed Nov 11 2026. No macro, syntax, notation, axiom, sorry.
-/
import Derived.Test.YtlikejlgpfhkfaaDoorRows
import GoSem.ClaimSeven
namespace Go.Proofs.YtlikejlgpfhkfaaDoor
namespace Rows

/-- THE TIED CARD OF 'spellwrightlaw05.NumTells'. -/
def numTellsCard : Claim7 := { stood := { row := numTellsRow, standIns := [], harness := (true, "c1ebe91ddc6ee3d87e9fbc9c61254fb040299e599573ff1c66ddee43e6dd632d"), looks := true }, kinds := [], alts := [], laidByText := true, laidKinds := [.data, .data, .data, .sentinel, .sentinel], laidTests := true, laidLooks := .later }
def NumTellsCardSaid : Prop := Claim7.holds Tryd.pinned (.plain (OpenSpec.ofChange numTellsSpec)) numTellsCard

/-- THE TIED CARD OF 'spellwrightlaw05.NumBack'. -/
def numBackCard : Claim7 := { stood := { row := numBackRow, standIns := [], harness := (true, "c1ebe91ddc6ee3d87e9fbc9c61254fb040299e599573ff1c66ddee43e6dd632d"), looks := true }, kinds := [], alts := [], laidByText := true, laidKinds := [.data, .data, .data, .sentinel, .sentinel], laidTests := true, laidLooks := .later }
def NumBackCardSaid : Prop := Claim7.holds Tryd.pinned (.plain (OpenSpec.ofChange numBackSpec)) numBackCard

/-- THE TIED CARD OF 'spellwrightlaw05.NumOrder'. -/
def numOrderCard : Claim7 := { stood := { row := numOrderRow, standIns := [], harness := (true, "c1ebe91ddc6ee3d87e9fbc9c61254fb040299e599573ff1c66ddee43e6dd632d"), looks := true }, kinds := [], alts := [], laidByText := true, laidKinds := [.data, .data, .data, .sentinel, .sentinel], laidTests := true, laidLooks := .later }
def NumOrderCardSaid : Prop := Claim7.holds Tryd.pinned (.plain (OpenSpec.ofChange numOrderSpec)) numOrderCard

/-- THE TIED CARD OF 'spellwrightlaw05.NumWrong'. -/
def numWrongCard : Claim7 := { stood := { row := numWrongRow, standIns := [], harness := (true, "c1ebe91ddc6ee3d87e9fbc9c61254fb040299e599573ff1c66ddee43e6dd632d"), looks := true }, kinds := [], alts := [], laidByText := true, laidKinds := [.data, .data, .data, .sentinel, .sentinel], laidTests := true, laidLooks := .later }
def NumWrongCardSaid : Prop := Claim7.holds Tryd.pinned (.plain (OpenSpec.ofChange numWrongSpec)) numWrongCard

/-- THE TIED CARD OF 'spellwrightlaw05.NumCuts'. -/
def numCutsCard : Claim7 := { stood := { row := numCutsRow, standIns := [], harness := (true, "c1ebe91ddc6ee3d87e9fbc9c61254fb040299e599573ff1c66ddee43e6dd632d"), looks := true }, kinds := [], alts := [], laidByText := true, laidKinds := [.data, .data, .data, .sentinel, .sentinel], laidTests := true, laidLooks := .later }
def NumCutsCardSaid : Prop := Claim7.holds Tryd.pinned (.plain (OpenSpec.ofChange numCutsSpec)) numCutsCard

/-- THE SECOND FORM's CARD OF 'spellwrightlaw05.NumTells'. -/
def numTellsUptoCard : Claim7 := { stood := { row := numTellsUptoRow, standIns := [], harness := (true, "c1ebe91ddc6ee3d87e9fbc9c61254fb040299e599573ff1c66ddee43e6dd632d"), looks := true }, kinds := [], alts := [], laidByText := true, laidKinds := [.data, .data, .data, .sentinel, .sentinel], laidTests := true, laidLooks := .later }
def NumTellsUptoCardSaid : Prop := Claim7.holds Tryd.pinned (.plain (OpenSpec.upto numTellsSpec)) numTellsUptoCard

/-- THE SECOND FORM's CARD OF 'spellwrightlaw05.NumBack'. -/
def numBackUptoCard : Claim7 := { stood := { row := numBackUptoRow, standIns := [], harness := (true, "c1ebe91ddc6ee3d87e9fbc9c61254fb040299e599573ff1c66ddee43e6dd632d"), looks := true }, kinds := [], alts := [], laidByText := true, laidKinds := [.data, .data, .data, .sentinel, .sentinel], laidTests := true, laidLooks := .later }
def NumBackUptoCardSaid : Prop := Claim7.holds Tryd.pinned (.plain (OpenSpec.upto numBackSpec)) numBackUptoCard

/-- THE SECOND FORM's CARD OF 'spellwrightlaw05.NumOrder'. -/
def numOrderUptoCard : Claim7 := { stood := { row := numOrderUptoRow, standIns := [], harness := (true, "c1ebe91ddc6ee3d87e9fbc9c61254fb040299e599573ff1c66ddee43e6dd632d"), looks := true }, kinds := [], alts := [], laidByText := true, laidKinds := [.data, .data, .data, .sentinel, .sentinel], laidTests := true, laidLooks := .later }
def NumOrderUptoCardSaid : Prop := Claim7.holds Tryd.pinned (.plain (OpenSpec.upto numOrderSpec)) numOrderUptoCard

/-- THE SECOND FORM's CARD OF 'spellwrightlaw05.NumWrong'. -/
def numWrongUptoCard : Claim7 := { stood := { row := numWrongUptoRow, standIns := [], harness := (true, "c1ebe91ddc6ee3d87e9fbc9c61254fb040299e599573ff1c66ddee43e6dd632d"), looks := true }, kinds := [], alts := [], laidByText := true, laidKinds := [.data, .data, .data, .sentinel, .sentinel], laidTests := true, laidLooks := .later }
def NumWrongUptoCardSaid : Prop := Claim7.holds Tryd.pinned (.plain (OpenSpec.upto numWrongSpec)) numWrongUptoCard

/-- THE SECOND FORM's CARD OF 'spellwrightlaw05.NumCuts'. -/
def numCutsUptoCard : Claim7 := { stood := { row := numCutsUptoRow, standIns := [], harness := (true, "c1ebe91ddc6ee3d87e9fbc9c61254fb040299e599573ff1c66ddee43e6dd632d"), looks := true }, kinds := [], alts := [], laidByText := true, laidKinds := [.data, .data, .data, .sentinel, .sentinel], laidTests := true, laidLooks := .later }
def NumCutsUptoCardSaid : Prop := Claim7.holds Tryd.pinned (.plain (OpenSpec.upto numCutsSpec)) numCutsUptoCard
end Rows
end Go.Proofs.YtlikejlgpfhkfaaDoor

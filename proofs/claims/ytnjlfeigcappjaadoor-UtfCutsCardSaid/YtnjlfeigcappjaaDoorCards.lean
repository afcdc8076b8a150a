/-
  DERIVED. GIVEN WITH THE SEED: THE CARDS: each row of YtnjlfeigcappjaaDoorRows.lean that lists a variable, with what it lists TIED to the program's text (the seventh form; the later family's looks); each row that meets fmt, with fmt's text TOLD by the authors' own Lean function (tested against real Go, not proved from fmt's source: count such statements apart). THE CARD IS WHAT COUNTS. Prove the row's statement (the work); the ties are given (YtnjlfeigcappjaaDoorTie.lean); close each card by the builder's one call (the guide's Derived/Test/ToyasCard.lean, 'card_holds'). Laid BY PROGRAM, IN A SANDBOX (cutbox-door.mjs). By AI agents, Wed Nov 11 2026. No macro, syntax, notation, axiom, sorry.
-/
import Derived.Test.YtnjlfeigcappjaaDoorRows
import GoSem.ClaimSeven
namespace Go.Proofs.YtnjlfeigcappjaaDoor
namespace Rows

/-- THE TIED CARD OF 'spellwrightlaw01.UtfTells'. -/
def utfTellsCard : Claim7 := { stood := { row := utfTellsRow, standIns := [], harness := (true, "443f9f7837933f47876d097ed6d25451582b2dd27f3de7a9607e1b256886a080"), looks := false }, kinds := [], alts := [], laidByText := true, laidKinds := [.data, .pinned], laidTests := true, laidLooks := .later }
def UtfTellsCardSaid : Prop := Claim7.holds Tryd.pinned (.plain (OpenSpec.ofChange utfTellsSpec)) utfTellsCard

/-- THE TIED CARD OF 'spellwrightlaw01.UtfBack'. -/
def utfBackCard : Claim7 := { stood := { row := utfBackRow, standIns := [], harness := (true, "443f9f7837933f47876d097ed6d25451582b2dd27f3de7a9607e1b256886a080"), looks := false }, kinds := [], alts := [], laidByText := true, laidKinds := [.data, .pinned], laidTests := true, laidLooks := .later }
def UtfBackCardSaid : Prop := Claim7.holds Tryd.pinned (.plain (OpenSpec.ofChange utfBackSpec)) utfBackCard

/-- THE TIED CARD OF 'spellwrightlaw01.UtfOrder'. -/
def utfOrderCard : Claim7 := { stood := { row := utfOrderRow, standIns := [], harness := (true, "443f9f7837933f47876d097ed6d25451582b2dd27f3de7a9607e1b256886a080"), looks := false }, kinds := [], alts := [], laidByText := true, laidKinds := [.data, .pinned], laidTests := true, laidLooks := .later }
def UtfOrderCardSaid : Prop := Claim7.holds Tryd.pinned (.plain (OpenSpec.ofChange utfOrderSpec)) utfOrderCard

/-- THE TIED CARD OF 'spellwrightlaw01.UtfParts'. -/
def utfPartsCard : Claim7 := { stood := { row := utfPartsRow, standIns := [], harness := (true, "443f9f7837933f47876d097ed6d25451582b2dd27f3de7a9607e1b256886a080"), looks := false }, kinds := [], alts := [], laidByText := true, laidKinds := [.data, .pinned], laidTests := true, laidLooks := .later }
def UtfPartsCardSaid : Prop := Claim7.holds Tryd.pinned (.plain (OpenSpec.ofChange utfPartsSpec)) utfPartsCard

/-- THE TIED CARD OF 'spellwrightlaw01.UtfSizes'. -/
def utfSizesCard : Claim7 := { stood := { row := utfSizesRow, standIns := [], harness := (true, "443f9f7837933f47876d097ed6d25451582b2dd27f3de7a9607e1b256886a080"), looks := false }, kinds := [], alts := [], laidByText := true, laidKinds := [.data, .pinned], laidTests := true, laidLooks := .later }
def UtfSizesCardSaid : Prop := Claim7.holds Tryd.pinned (.plain (OpenSpec.ofChange utfSizesSpec)) utfSizesCard

/-- THE TIED CARD OF 'spellwrightlaw01.UtfInside'. -/
def utfInsideCard : Claim7 := { stood := { row := utfInsideRow, standIns := [], harness := (true, "443f9f7837933f47876d097ed6d25451582b2dd27f3de7a9607e1b256886a080"), looks := false }, kinds := [], alts := [], laidByText := true, laidKinds := [.data, .pinned], laidTests := true, laidLooks := .later }
def UtfInsideCardSaid : Prop := Claim7.holds Tryd.pinned (.plain (OpenSpec.ofChange utfInsideSpec)) utfInsideCard

/-- THE TIED CARD OF 'spellwrightlaw01.UtfCuts'. -/
def utfCutsCard : Claim7 := { stood := { row := utfCutsRow, standIns := [], harness := (true, "443f9f7837933f47876d097ed6d25451582b2dd27f3de7a9607e1b256886a080"), looks := false }, kinds := [], alts := [], laidByText := true, laidKinds := [.data, .pinned], laidTests := true, laidLooks := .later }
def UtfCutsCardSaid : Prop := Claim7.holds Tryd.pinned (.plain (OpenSpec.ofChange utfCutsSpec)) utfCutsCard

/-- THE SECOND FORM's CARD OF 'spellwrightlaw01.UtfTells'. -/
def utfTellsUptoCard : Claim7 := { stood := { row := utfTellsUptoRow, standIns := [], harness := (true, "443f9f7837933f47876d097ed6d25451582b2dd27f3de7a9607e1b256886a080"), looks := false }, kinds := [], alts := [], laidByText := true, laidKinds := [.data, .pinned], laidTests := true, laidLooks := .later }
def UtfTellsUptoCardSaid : Prop := Claim7.holds Tryd.pinned (.plain (OpenSpec.upto utfTellsSpec)) utfTellsUptoCard

/-- THE SECOND FORM's CARD OF 'spellwrightlaw01.UtfBack'. -/
def utfBackUptoCard : Claim7 := { stood := { row := utfBackUptoRow, standIns := [], harness := (true, "443f9f7837933f47876d097ed6d25451582b2dd27f3de7a9607e1b256886a080"), looks := false }, kinds := [], alts := [], laidByText := true, laidKinds := [.data, .pinned], laidTests := true, laidLooks := .later }
def UtfBackUptoCardSaid : Prop := Claim7.holds Tryd.pinned (.plain (OpenSpec.upto utfBackSpec)) utfBackUptoCard

/-- THE SECOND FORM's CARD OF 'spellwrightlaw01.UtfOrder'. -/
def utfOrderUptoCard : Claim7 := { stood := { row := utfOrderUptoRow, standIns := [], harness := (true, "443f9f7837933f47876d097ed6d25451582b2dd27f3de7a9607e1b256886a080"), looks := false }, kinds := [], alts := [], laidByText := true, laidKinds := [.data, .pinned], laidTests := true, laidLooks := .later }
def UtfOrderUptoCardSaid : Prop := Claim7.holds Tryd.pinned (.plain (OpenSpec.upto utfOrderSpec)) utfOrderUptoCard

/-- THE SECOND FORM's CARD OF 'spellwrightlaw01.UtfParts'. -/
def utfPartsUptoCard : Claim7 := { stood := { row := utfPartsUptoRow, standIns := [], harness := (true, "443f9f7837933f47876d097ed6d25451582b2dd27f3de7a9607e1b256886a080"), looks := false }, kinds := [], alts := [], laidByText := true, laidKinds := [.data, .pinned], laidTests := true, laidLooks := .later }
def UtfPartsUptoCardSaid : Prop := Claim7.holds Tryd.pinned (.plain (OpenSpec.upto utfPartsSpec)) utfPartsUptoCard

/-- THE SECOND FORM's CARD OF 'spellwrightlaw01.UtfSizes'. -/
def utfSizesUptoCard : Claim7 := { stood := { row := utfSizesUptoRow, standIns := [], harness := (true, "443f9f7837933f47876d097ed6d25451582b2dd27f3de7a9607e1b256886a080"), looks := false }, kinds := [], alts := [], laidByText := true, laidKinds := [.data, .pinned], laidTests := true, laidLooks := .later }
def UtfSizesUptoCardSaid : Prop := Claim7.holds Tryd.pinned (.plain (OpenSpec.upto utfSizesSpec)) utfSizesUptoCard

/-- THE SECOND FORM's CARD OF 'spellwrightlaw01.UtfInside'. -/
def utfInsideUptoCard : Claim7 := { stood := { row := utfInsideUptoRow, standIns := [], harness := (true, "443f9f7837933f47876d097ed6d25451582b2dd27f3de7a9607e1b256886a080"), looks := false }, kinds := [], alts := [], laidByText := true, laidKinds := [.data, .pinned], laidTests := true, laidLooks := .later }
def UtfInsideUptoCardSaid : Prop := Claim7.holds Tryd.pinned (.plain (OpenSpec.upto utfInsideSpec)) utfInsideUptoCard

/-- THE SECOND FORM's CARD OF 'spellwrightlaw01.UtfCuts'. -/
def utfCutsUptoCard : Claim7 := { stood := { row := utfCutsUptoRow, standIns := [], harness := (true, "443f9f7837933f47876d097ed6d25451582b2dd27f3de7a9607e1b256886a080"), looks := false }, kinds := [], alts := [], laidByText := true, laidKinds := [.data, .pinned], laidTests := true, laidLooks := .later }
def UtfCutsUptoCardSaid : Prop := Claim7.holds Tryd.pinned (.plain (OpenSpec.upto utfCutsSpec)) utfCutsUptoCard
end Rows
end Go.Proofs.YtnjlfeigcappjaaDoor

/-
  DERIVED. GIVEN WITH THE SEED: THE CARDS: each row of YtaefpopjlmhmoaaDoorRows.lean that lists a variable, with what it lists TIED to the program's text (the seventh form; the later family's looks); each row that meets fmt, with fmt's text TOLD by the authors' own Lean function (tested against real Go, not proved from fmt's source: count such statements apart). THE CARD IS WHAT COUNTS. Prove the row's statement (the work); the ties are given (YtaefpopjlmhmoaaDoorTie.lean); close each card by the builder's one call (the guide's Derived/Test/ToyasCard.lean, 'card_holds'). Laid BY PROGRAM, IN A SANDBOX (cutbox-door.mjs). By AI agents, Wed Nov 11 2026. No macro, syntax, notation, axiom, sorry.
-/
import Derived.Test.YtaefpopjlmhmoaaDoorRows
import GoSem.ClaimSeven
namespace Go.Proofs.YtaefpopjlmhmoaaDoor
namespace Rows

/-- THE TIED CARD OF 'spellwrightlaw09.WordsTells'. -/
def wordsTellsCard : Claim7 := { stood := { row := wordsTellsRow, standIns := [], harness := (true, "b199aa47b6c097fcac0b44f1c0829f5d02c9a1870e6bdd8684d519ff7a5e49a9"), looks := false }, kinds := [], alts := [], laidByText := true, laidKinds := [.data, .pinned], laidTests := true, laidLooks := .later }
def WordsTellsCardSaid : Prop := Claim7.holds Tryd.pinned (.plain (OpenSpec.ofChange wordsTellsSpec)) wordsTellsCard

/-- THE TIED CARD OF 'spellwrightlaw09.WordsBack'. -/
def wordsBackCard : Claim7 := { stood := { row := wordsBackRow, standIns := [], harness := (true, "b199aa47b6c097fcac0b44f1c0829f5d02c9a1870e6bdd8684d519ff7a5e49a9"), looks := false }, kinds := [], alts := [], laidByText := true, laidKinds := [.data, .pinned], laidTests := true, laidLooks := .later }
def WordsBackCardSaid : Prop := Claim7.holds Tryd.pinned (.plain (OpenSpec.ofChange wordsBackSpec)) wordsBackCard

/-- THE TIED CARD OF 'spellwrightlaw09.WordsHas'. -/
def wordsHasCard : Claim7 := { stood := { row := wordsHasRow, standIns := [], harness := (true, "b199aa47b6c097fcac0b44f1c0829f5d02c9a1870e6bdd8684d519ff7a5e49a9"), looks := false }, kinds := [], alts := [], laidByText := true, laidKinds := [.data, .pinned], laidTests := true, laidLooks := .later }
def WordsHasCardSaid : Prop := Claim7.holds Tryd.pinned (.plain (OpenSpec.ofChange wordsHasSpec)) wordsHasCard

/-- THE TIED CARD OF 'spellwrightlaw09.WordsJoins'. -/
def wordsJoinsCard : Claim7 := { stood := { row := wordsJoinsRow, standIns := [], harness := (true, "b199aa47b6c097fcac0b44f1c0829f5d02c9a1870e6bdd8684d519ff7a5e49a9"), looks := false }, kinds := [], alts := [], laidByText := true, laidKinds := [.data, .pinned], laidTests := true, laidLooks := .later }
def WordsJoinsCardSaid : Prop := Claim7.holds Tryd.pinned (.plain (OpenSpec.ofChange wordsJoinsSpec)) wordsJoinsCard

/-- THE TIED CARD OF 'spellwrightlaw09.WordsCuts'. -/
def wordsCutsCard : Claim7 := { stood := { row := wordsCutsRow, standIns := [], harness := (true, "b199aa47b6c097fcac0b44f1c0829f5d02c9a1870e6bdd8684d519ff7a5e49a9"), looks := false }, kinds := [], alts := [], laidByText := true, laidKinds := [.data, .pinned], laidTests := true, laidLooks := .later }
def WordsCutsCardSaid : Prop := Claim7.holds Tryd.pinned (.plain (OpenSpec.ofChange wordsCutsSpec)) wordsCutsCard

/-- THE SECOND FORM's CARD OF 'spellwrightlaw09.WordsTells'. -/
def wordsTellsUptoCard : Claim7 := { stood := { row := wordsTellsUptoRow, standIns := [], harness := (true, "b199aa47b6c097fcac0b44f1c0829f5d02c9a1870e6bdd8684d519ff7a5e49a9"), looks := false }, kinds := [], alts := [], laidByText := true, laidKinds := [.data, .pinned], laidTests := true, laidLooks := .later }
def WordsTellsUptoCardSaid : Prop := Claim7.holds Tryd.pinned (.plain (OpenSpec.upto wordsTellsSpec)) wordsTellsUptoCard

/-- THE SECOND FORM's CARD OF 'spellwrightlaw09.WordsBack'. -/
def wordsBackUptoCard : Claim7 := { stood := { row := wordsBackUptoRow, standIns := [], harness := (true, "b199aa47b6c097fcac0b44f1c0829f5d02c9a1870e6bdd8684d519ff7a5e49a9"), looks := false }, kinds := [], alts := [], laidByText := true, laidKinds := [.data, .pinned], laidTests := true, laidLooks := .later }
def WordsBackUptoCardSaid : Prop := Claim7.holds Tryd.pinned (.plain (OpenSpec.upto wordsBackSpec)) wordsBackUptoCard

/-- THE SECOND FORM's CARD OF 'spellwrightlaw09.WordsHas'. -/
def wordsHasUptoCard : Claim7 := { stood := { row := wordsHasUptoRow, standIns := [], harness := (true, "b199aa47b6c097fcac0b44f1c0829f5d02c9a1870e6bdd8684d519ff7a5e49a9"), looks := false }, kinds := [], alts := [], laidByText := true, laidKinds := [.data, .pinned], laidTests := true, laidLooks := .later }
def WordsHasUptoCardSaid : Prop := Claim7.holds Tryd.pinned (.plain (OpenSpec.upto wordsHasSpec)) wordsHasUptoCard

/-- THE SECOND FORM's CARD OF 'spellwrightlaw09.WordsJoins'. -/
def wordsJoinsUptoCard : Claim7 := { stood := { row := wordsJoinsUptoRow, standIns := [], harness := (true, "b199aa47b6c097fcac0b44f1c0829f5d02c9a1870e6bdd8684d519ff7a5e49a9"), looks := false }, kinds := [], alts := [], laidByText := true, laidKinds := [.data, .pinned], laidTests := true, laidLooks := .later }
def WordsJoinsUptoCardSaid : Prop := Claim7.holds Tryd.pinned (.plain (OpenSpec.upto wordsJoinsSpec)) wordsJoinsUptoCard

/-- THE SECOND FORM's CARD OF 'spellwrightlaw09.WordsCuts'. -/
def wordsCutsUptoCard : Claim7 := { stood := { row := wordsCutsUptoRow, standIns := [], harness := (true, "b199aa47b6c097fcac0b44f1c0829f5d02c9a1870e6bdd8684d519ff7a5e49a9"), looks := false }, kinds := [], alts := [], laidByText := true, laidKinds := [.data, .pinned], laidTests := true, laidLooks := .later }
def WordsCutsUptoCardSaid : Prop := Claim7.holds Tryd.pinned (.plain (OpenSpec.upto wordsCutsSpec)) wordsCutsUptoCard
end Rows
end Go.Proofs.YtaefpopjlmhmoaaDoor

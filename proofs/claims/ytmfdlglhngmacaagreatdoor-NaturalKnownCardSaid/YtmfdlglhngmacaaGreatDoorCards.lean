/-
  DERIVED. GIVEN WITH THE SEED: THE CARDS: each row of YtmfdlglhngmacaaGreatDoorRows.lean that lists a variable, with what it lists TIED to the program's text (the seventh form; the later family's looks); each row that meets fmt, with fmt's text TOLD by the authors' own Lean function (tested against real Go, not proved from fmt's source: count such statements apart). THE CARD IS WHAT COUNTS. Prove the row's statement (the work); the ties are given (YtmfdlglhngmacaaGreatDoorTie.lean); close each card by the builder's one call (the guide's Derived/Test/ToyasCard.lean, 'card_holds'). Laid BY PROGRAM, IN A SANDBOX (cutbox-door.mjs). By AI agents, Wed Nov 11 2026. No macro, syntax, notation, axiom, sorry.
-/
import Derived.Test.YtmfdlglhngmacaaGreatDoorRows
import GoSem.ClaimSeven
namespace Go.Proofs.YtmfdlglhngmacaaGreatDoor
namespace Rows

/-- THE TIED CARD OF 'thunklaw10.NaturalTerms'. -/
def naturalTermsCard : Claim7 := { stood := { row := naturalTermsRow, standIns := [], harness := (true, "3da4c160d97a7c4ab2323d69753ed077bd726e9de55bac15ab9e51916df506f2"), looks := true }, kinds := [], alts := [], laidByText := true, laidKinds := [.data, .data, .data], laidTests := true, laidLooks := .later }
def NaturalTermsCardSaid : Prop := Claim7.holds Tryz.pinned (.plain (OpenSpec.ofChange naturalTermsSpec)) naturalTermsCard

/-- THE TIED CARD OF 'thunklaw10.NaturalTexts'. -/
def naturalTextsCard : Claim7 := { stood := { row := naturalTextsRow, standIns := [], harness := (true, "3da4c160d97a7c4ab2323d69753ed077bd726e9de55bac15ab9e51916df506f2"), looks := true }, kinds := [], alts := [], laidByText := true, laidKinds := [.data, .data, .data], laidTests := true, laidLooks := .later }
def NaturalTextsCardSaid : Prop := Claim7.holds Tryz.pinned (.plain (OpenSpec.ofChange naturalTextsSpec)) naturalTextsCard

/-- THE TIED CARD OF 'thunklaw10.NaturalKnown'. -/
def naturalKnownCard : Claim7 := { stood := { row := naturalKnownRow, standIns := [], harness := (true, "3da4c160d97a7c4ab2323d69753ed077bd726e9de55bac15ab9e51916df506f2"), looks := true }, kinds := [], alts := [], laidByText := true, laidKinds := [.data, .data, .data], laidTests := true, laidLooks := .later }
def NaturalKnownCardSaid : Prop := Claim7.holds Tryz.pinned (.plain (OpenSpec.ofChange naturalKnownSpec)) naturalKnownCard

/-- THE TIED CARD OF 'thunklaw10.NaturalPairs'. -/
def naturalPairsCard : Claim7 := { stood := { row := naturalPairsRow, standIns := [], harness := (true, "3da4c160d97a7c4ab2323d69753ed077bd726e9de55bac15ab9e51916df506f2"), looks := true }, kinds := [], alts := [], laidByText := true, laidKinds := [.data, .data, .data], laidTests := true, laidLooks := .later }
def NaturalPairsCardSaid : Prop := Claim7.holds Tryz.pinned (.plain (OpenSpec.ofChange naturalPairsSpec)) naturalPairsCard

/-- THE SECOND FORM's CARD OF 'thunklaw10.NaturalTerms'. -/
def naturalTermsUptoCard : Claim7 := { stood := { row := naturalTermsUptoRow, standIns := [], harness := (true, "3da4c160d97a7c4ab2323d69753ed077bd726e9de55bac15ab9e51916df506f2"), looks := true }, kinds := [], alts := [], laidByText := true, laidKinds := [.data, .data, .data], laidTests := true, laidLooks := .later }
def NaturalTermsUptoCardSaid : Prop := Claim7.holds Tryz.pinned (.plain (OpenSpec.upto naturalTermsSpec)) naturalTermsUptoCard

/-- THE SECOND FORM's CARD OF 'thunklaw10.NaturalTexts'. -/
def naturalTextsUptoCard : Claim7 := { stood := { row := naturalTextsUptoRow, standIns := [], harness := (true, "3da4c160d97a7c4ab2323d69753ed077bd726e9de55bac15ab9e51916df506f2"), looks := true }, kinds := [], alts := [], laidByText := true, laidKinds := [.data, .data, .data], laidTests := true, laidLooks := .later }
def NaturalTextsUptoCardSaid : Prop := Claim7.holds Tryz.pinned (.plain (OpenSpec.upto naturalTextsSpec)) naturalTextsUptoCard

/-- THE SECOND FORM's CARD OF 'thunklaw10.NaturalKnown'. -/
def naturalKnownUptoCard : Claim7 := { stood := { row := naturalKnownUptoRow, standIns := [], harness := (true, "3da4c160d97a7c4ab2323d69753ed077bd726e9de55bac15ab9e51916df506f2"), looks := true }, kinds := [], alts := [], laidByText := true, laidKinds := [.data, .data, .data], laidTests := true, laidLooks := .later }
def NaturalKnownUptoCardSaid : Prop := Claim7.holds Tryz.pinned (.plain (OpenSpec.upto naturalKnownSpec)) naturalKnownUptoCard

/-- THE SECOND FORM's CARD OF 'thunklaw10.NaturalPairs'. -/
def naturalPairsUptoCard : Claim7 := { stood := { row := naturalPairsUptoRow, standIns := [], harness := (true, "3da4c160d97a7c4ab2323d69753ed077bd726e9de55bac15ab9e51916df506f2"), looks := true }, kinds := [], alts := [], laidByText := true, laidKinds := [.data, .data, .data], laidTests := true, laidLooks := .later }
def NaturalPairsUptoCardSaid : Prop := Claim7.holds Tryz.pinned (.plain (OpenSpec.upto naturalPairsSpec)) naturalPairsUptoCard
end Rows
end Go.Proofs.YtmfdlglhngmacaaGreatDoor

/-
  DERIVED. GIVEN WITH THE SEED: THE CARDS: each row of YtlncgbcclmhicaaDoorRows.lean that lists a variable, with what it lists TIED to the program's text (the seventh form; the later family's looks); each row that meets fmt, with fmt's text TOLD by the authors' own Lean function (tested against real Go, not proved from fmt's source: count such statements apart). THE CARD IS WHAT COUNTS. Prove the row's statement (the work); the ties are given (YtlncgbcclmhicaaDoorTie.lean); close each card by the builder's one call (the guide's Derived/Test/ToyasCard.lean, 'card_holds'). Laid BY PROGRAM, IN A SANDBOX (cutbox-door.mjs). By AI agents, Wed Nov 11 2026. No macro, syntax, notation, axiom, sorry.
-/
import Derived.Test.YtlncgbcclmhicaaDoorRows
import GoSem.ClaimSeven
namespace Go.Proofs.YtlncgbcclmhicaaDoor
namespace Rows

/-- THE TIED CARD OF 'thunklaw7.NormAll'. -/
def normAllCard : Claim7 := { stood := { row := normAllRow, standIns := [], harness := (true, "05371768a2b689a778b004fff7a7d4b6c1552bdb147ddd328a44f6f4ba8b0971"), looks := false }, kinds := [], alts := [], laidByText := true, laidKinds := [.data, .data, .data], laidTests := true, laidLooks := .later }
def NormAllCardSaid : Prop := Claim7.holds Tryd.pinned (.plain (OpenSpec.ofChange normAllSpec)) normAllCard

/-- THE TIED CARD OF 'thunklaw7.NormIs'. -/
def normIsCard : Claim7 := { stood := { row := normIsRow, standIns := [], harness := (true, "05371768a2b689a778b004fff7a7d4b6c1552bdb147ddd328a44f6f4ba8b0971"), looks := false }, kinds := [], alts := [], laidByText := true, laidKinds := [.data, .data, .data], laidTests := true, laidLooks := .later }
def NormIsCardSaid : Prop := Claim7.holds Tryd.pinned (.plain (OpenSpec.ofChange normIsSpec)) normIsCard

/-- THE TIED CARD OF 'thunklaw7.NormStays'. -/
def normStaysCard : Claim7 := { stood := { row := normStaysRow, standIns := [], harness := (true, "05371768a2b689a778b004fff7a7d4b6c1552bdb147ddd328a44f6f4ba8b0971"), looks := false }, kinds := [], alts := [], laidByText := true, laidKinds := [.data, .data, .data], laidTests := true, laidLooks := .later }
def NormStaysCardSaid : Prop := Claim7.holds Tryd.pinned (.plain (OpenSpec.ofChange normStaysSpec)) normStaysCard

/-- THE TIED CARD OF 'thunklaw7.NormCounts'. -/
def normCountsCard : Claim7 := { stood := { row := normCountsRow, standIns := [], harness := (true, "05371768a2b689a778b004fff7a7d4b6c1552bdb147ddd328a44f6f4ba8b0971"), looks := false }, kinds := [], alts := [], laidByText := true, laidKinds := [.data, .data, .data], laidTests := true, laidLooks := .later }
def NormCountsCardSaid : Prop := Claim7.holds Tryd.pinned (.plain (OpenSpec.ofChange normCountsSpec)) normCountsCard

/-- THE TIED CARD OF 'thunklaw7.NormKnown'. -/
def normKnownCard : Claim7 := { stood := { row := normKnownRow, standIns := [], harness := (true, "05371768a2b689a778b004fff7a7d4b6c1552bdb147ddd328a44f6f4ba8b0971"), looks := false }, kinds := [], alts := [], laidByText := true, laidKinds := [.data, .data, .data], laidTests := true, laidLooks := .later }
def NormKnownCardSaid : Prop := Claim7.holds Tryd.pinned (.plain (OpenSpec.ofChange normKnownSpec)) normKnownCard

/-- THE TIED CARD OF 'thunklaw7.NormInside'. -/
def normInsideCard : Claim7 := { stood := { row := normInsideRow, standIns := [], harness := (true, "05371768a2b689a778b004fff7a7d4b6c1552bdb147ddd328a44f6f4ba8b0971"), looks := false }, kinds := [], alts := [], laidByText := true, laidKinds := [.data, .data, .data], laidTests := true, laidLooks := .later }
def NormInsideCardSaid : Prop := Claim7.holds Tryd.pinned (.plain (OpenSpec.ofChange normInsideSpec)) normInsideCard

/-- THE TIED CARD OF 'thunklaw7.NormArgs'. -/
def normArgsCard : Claim7 := { stood := { row := normArgsRow, standIns := [], harness := (true, "05371768a2b689a778b004fff7a7d4b6c1552bdb147ddd328a44f6f4ba8b0971"), looks := false }, kinds := [], alts := [], laidByText := true, laidKinds := [.data, .data, .data], laidTests := true, laidLooks := .later }
def NormArgsCardSaid : Prop := Claim7.holds Tryd.pinned (.plain (OpenSpec.ofChange normArgsSpec)) normArgsCard

/-- THE SECOND FORM's CARD OF 'thunklaw7.NormAll'. -/
def normAllUptoCard : Claim7 := { stood := { row := normAllUptoRow, standIns := [], harness := (true, "05371768a2b689a778b004fff7a7d4b6c1552bdb147ddd328a44f6f4ba8b0971"), looks := false }, kinds := [], alts := [], laidByText := true, laidKinds := [.data, .data, .data], laidTests := true, laidLooks := .later }
def NormAllUptoCardSaid : Prop := Claim7.holds Tryd.pinned (.plain (OpenSpec.upto normAllSpec)) normAllUptoCard

/-- THE SECOND FORM's CARD OF 'thunklaw7.NormIs'. -/
def normIsUptoCard : Claim7 := { stood := { row := normIsUptoRow, standIns := [], harness := (true, "05371768a2b689a778b004fff7a7d4b6c1552bdb147ddd328a44f6f4ba8b0971"), looks := false }, kinds := [], alts := [], laidByText := true, laidKinds := [.data, .data, .data], laidTests := true, laidLooks := .later }
def NormIsUptoCardSaid : Prop := Claim7.holds Tryd.pinned (.plain (OpenSpec.upto normIsSpec)) normIsUptoCard

/-- THE SECOND FORM's CARD OF 'thunklaw7.NormStays'. -/
def normStaysUptoCard : Claim7 := { stood := { row := normStaysUptoRow, standIns := [], harness := (true, "05371768a2b689a778b004fff7a7d4b6c1552bdb147ddd328a44f6f4ba8b0971"), looks := false }, kinds := [], alts := [], laidByText := true, laidKinds := [.data, .data, .data], laidTests := true, laidLooks := .later }
def NormStaysUptoCardSaid : Prop := Claim7.holds Tryd.pinned (.plain (OpenSpec.upto normStaysSpec)) normStaysUptoCard

/-- THE SECOND FORM's CARD OF 'thunklaw7.NormCounts'. -/
def normCountsUptoCard : Claim7 := { stood := { row := normCountsUptoRow, standIns := [], harness := (true, "05371768a2b689a778b004fff7a7d4b6c1552bdb147ddd328a44f6f4ba8b0971"), looks := false }, kinds := [], alts := [], laidByText := true, laidKinds := [.data, .data, .data], laidTests := true, laidLooks := .later }
def NormCountsUptoCardSaid : Prop := Claim7.holds Tryd.pinned (.plain (OpenSpec.upto normCountsSpec)) normCountsUptoCard

/-- THE SECOND FORM's CARD OF 'thunklaw7.NormKnown'. -/
def normKnownUptoCard : Claim7 := { stood := { row := normKnownUptoRow, standIns := [], harness := (true, "05371768a2b689a778b004fff7a7d4b6c1552bdb147ddd328a44f6f4ba8b0971"), looks := false }, kinds := [], alts := [], laidByText := true, laidKinds := [.data, .data, .data], laidTests := true, laidLooks := .later }
def NormKnownUptoCardSaid : Prop := Claim7.holds Tryd.pinned (.plain (OpenSpec.upto normKnownSpec)) normKnownUptoCard

/-- THE SECOND FORM's CARD OF 'thunklaw7.NormInside'. -/
def normInsideUptoCard : Claim7 := { stood := { row := normInsideUptoRow, standIns := [], harness := (true, "05371768a2b689a778b004fff7a7d4b6c1552bdb147ddd328a44f6f4ba8b0971"), looks := false }, kinds := [], alts := [], laidByText := true, laidKinds := [.data, .data, .data], laidTests := true, laidLooks := .later }
def NormInsideUptoCardSaid : Prop := Claim7.holds Tryd.pinned (.plain (OpenSpec.upto normInsideSpec)) normInsideUptoCard

/-- THE SECOND FORM's CARD OF 'thunklaw7.NormArgs'. -/
def normArgsUptoCard : Claim7 := { stood := { row := normArgsUptoRow, standIns := [], harness := (true, "05371768a2b689a778b004fff7a7d4b6c1552bdb147ddd328a44f6f4ba8b0971"), looks := false }, kinds := [], alts := [], laidByText := true, laidKinds := [.data, .data, .data], laidTests := true, laidLooks := .later }
def NormArgsUptoCardSaid : Prop := Claim7.holds Tryd.pinned (.plain (OpenSpec.upto normArgsSpec)) normArgsUptoCard
end Rows
end Go.Proofs.YtlncgbcclmhicaaDoor

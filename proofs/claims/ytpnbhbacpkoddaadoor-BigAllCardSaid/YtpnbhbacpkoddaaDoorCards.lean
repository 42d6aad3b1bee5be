/-
  DERIVED. GIVEN WITH THE SEED: THE CARDS: each row of YtpnbhbacpkoddaaDoorRows.lean that lists a variable, with what it lists TIED to the program's text (the seventh form; the later family's looks); each row that meets fmt, with fmt's text TOLD by the authors' own Lean function (tested against real Go, not proved from fmt's source: count such statements apart). THE CARD IS WHAT COUNTS. Prove the row's statement (the work); the ties are given (YtpnbhbacpkoddaaDoorTie.lean); close each card by the builder's one call (the guide's Derived/Test/ToyasCard.lean, 'card_holds'). Laid BY PROGRAM, IN A SANDBOX (cutbox-door.mjs). By AI agents, Wed Nov 11 2026. No macro, syntax, notation, axiom, sorry.
-/
import Derived.Test.YtpnbhbacpkoddaaDoorRows
import GoSem.ClaimSeven
namespace Go.Proofs.YtpnbhbacpkoddaaDoor
namespace Rows

/-- THE TIED CARD OF 'thunklaw1.BigRight'. -/
def bigRightCard : Claim7 := { stood := { row := bigRightRow, standIns := [], harness := (true, "3f6c65230efcc366f875a5b532b9a48e131542a205115071931acd097d8d462f"), looks := false }, kinds := [], alts := [], laidByText := true, laidKinds := [.data, .data, .data], laidTests := true, laidLooks := .later }
def BigRightCardSaid : Prop := Claim7.holds Tryd.pinned (.plain (OpenSpec.ofChange bigRightSpec)) bigRightCard

/-- THE TIED CARD OF 'thunklaw1.BigOrder'. -/
def bigOrderCard : Claim7 := { stood := { row := bigOrderRow, standIns := [], harness := (true, "3f6c65230efcc366f875a5b532b9a48e131542a205115071931acd097d8d462f"), looks := false }, kinds := [], alts := [], laidByText := true, laidKinds := [.data, .data, .data], laidTests := true, laidLooks := .later }
def BigOrderCardSaid : Prop := Claim7.holds Tryd.pinned (.plain (OpenSpec.ofChange bigOrderSpec)) bigOrderCard

/-- THE TIED CARD OF 'thunklaw1.BigSigns'. -/
def bigSignsCard : Claim7 := { stood := { row := bigSignsRow, standIns := [], harness := (true, "3f6c65230efcc366f875a5b532b9a48e131542a205115071931acd097d8d462f"), looks := false }, kinds := [], alts := [], laidByText := true, laidKinds := [.data, .data, .data], laidTests := true, laidLooks := .later }
def BigSignsCardSaid : Prop := Claim7.holds Tryd.pinned (.plain (OpenSpec.ofChange bigSignsSpec)) bigSignsCard

/-- THE TIED CARD OF 'thunklaw1.BigRules'. -/
def bigRulesCard : Claim7 := { stood := { row := bigRulesRow, standIns := [], harness := (true, "3f6c65230efcc366f875a5b532b9a48e131542a205115071931acd097d8d462f"), looks := false }, kinds := [], alts := [], laidByText := true, laidKinds := [.data, .data, .data], laidTests := true, laidLooks := .later }
def BigRulesCardSaid : Prop := Claim7.holds Tryd.pinned (.plain (OpenSpec.ofChange bigRulesSpec)) bigRulesCard

/-- THE TIED CARD OF 'thunklaw1.BigEnds'. -/
def bigEndsCard : Claim7 := { stood := { row := bigEndsRow, standIns := [], harness := (true, "3f6c65230efcc366f875a5b532b9a48e131542a205115071931acd097d8d462f"), looks := false }, kinds := [], alts := [], laidByText := true, laidKinds := [.data, .data, .data], laidTests := true, laidLooks := .later }
def BigEndsCardSaid : Prop := Claim7.holds Tryd.pinned (.plain (OpenSpec.ofChange bigEndsSpec)) bigEndsCard

/-- THE TIED CARD OF 'thunklaw1.BigQuo'. -/
def bigQuoCard : Claim7 := { stood := { row := bigQuoRow, standIns := [], harness := (true, "3f6c65230efcc366f875a5b532b9a48e131542a205115071931acd097d8d462f"), looks := false }, kinds := [], alts := [], laidByText := true, laidKinds := [.data, .data, .data], laidTests := true, laidLooks := .later }
def BigQuoCardSaid : Prop := Claim7.holds Tryd.pinned (.plain (OpenSpec.ofChange bigQuoSpec)) bigQuoCard

/-- THE TIED CARD OF 'thunklaw1.BigPowers'. -/
def bigPowersCard : Claim7 := { stood := { row := bigPowersRow, standIns := [], harness := (true, "3f6c65230efcc366f875a5b532b9a48e131542a205115071931acd097d8d462f"), looks := false }, kinds := [], alts := [], laidByText := true, laidKinds := [.data, .data, .data], laidTests := true, laidLooks := .later }
def BigPowersCardSaid : Prop := Claim7.holds Tryd.pinned (.plain (OpenSpec.ofChange bigPowersSpec)) bigPowersCard

/-- THE TIED CARD OF 'thunklaw1.BigTens'. -/
def bigTensCard : Claim7 := { stood := { row := bigTensRow, standIns := [], harness := (true, "3f6c65230efcc366f875a5b532b9a48e131542a205115071931acd097d8d462f"), looks := false }, kinds := [], alts := [], laidByText := true, laidKinds := [.data, .data, .data], laidTests := true, laidLooks := .later }
def BigTensCardSaid : Prop := Claim7.holds Tryd.pinned (.plain (OpenSpec.ofChange bigTensSpec)) bigTensCard

/-- THE TIED CARD OF 'thunklaw1.BigAll'. -/
def bigAllCard : Claim7 := { stood := { row := bigAllRow, standIns := [], harness := (true, "3f6c65230efcc366f875a5b532b9a48e131542a205115071931acd097d8d462f"), looks := false }, kinds := [], alts := [], laidByText := true, laidKinds := [.data, .data, .data], laidTests := true, laidLooks := .later }
def BigAllCardSaid : Prop := Claim7.holds Tryd.pinned (.plain (OpenSpec.ofChange bigAllSpec)) bigAllCard

/-- THE TIED CARD OF 'thunklaw1.BigSmall'. -/
def bigSmallCard : Claim7 := { stood := { row := bigSmallRow, standIns := [], harness := (true, "3f6c65230efcc366f875a5b532b9a48e131542a205115071931acd097d8d462f"), looks := false }, kinds := [], alts := [], laidByText := true, laidKinds := [.data, .data, .data], laidTests := true, laidLooks := .later }
def BigSmallCardSaid : Prop := Claim7.holds Tryd.pinned (.plain (OpenSpec.ofChange bigSmallSpec)) bigSmallCard

/-- THE SECOND FORM's CARD OF 'thunklaw1.BigRight'. -/
def bigRightUptoCard : Claim7 := { stood := { row := bigRightUptoRow, standIns := [], harness := (true, "3f6c65230efcc366f875a5b532b9a48e131542a205115071931acd097d8d462f"), looks := false }, kinds := [], alts := [], laidByText := true, laidKinds := [.data, .data, .data], laidTests := true, laidLooks := .later }
def BigRightUptoCardSaid : Prop := Claim7.holds Tryd.pinned (.plain (OpenSpec.upto bigRightSpec)) bigRightUptoCard

/-- THE SECOND FORM's CARD OF 'thunklaw1.BigOrder'. -/
def bigOrderUptoCard : Claim7 := { stood := { row := bigOrderUptoRow, standIns := [], harness := (true, "3f6c65230efcc366f875a5b532b9a48e131542a205115071931acd097d8d462f"), looks := false }, kinds := [], alts := [], laidByText := true, laidKinds := [.data, .data, .data], laidTests := true, laidLooks := .later }
def BigOrderUptoCardSaid : Prop := Claim7.holds Tryd.pinned (.plain (OpenSpec.upto bigOrderSpec)) bigOrderUptoCard

/-- THE SECOND FORM's CARD OF 'thunklaw1.BigSigns'. -/
def bigSignsUptoCard : Claim7 := { stood := { row := bigSignsUptoRow, standIns := [], harness := (true, "3f6c65230efcc366f875a5b532b9a48e131542a205115071931acd097d8d462f"), looks := false }, kinds := [], alts := [], laidByText := true, laidKinds := [.data, .data, .data], laidTests := true, laidLooks := .later }
def BigSignsUptoCardSaid : Prop := Claim7.holds Tryd.pinned (.plain (OpenSpec.upto bigSignsSpec)) bigSignsUptoCard

/-- THE SECOND FORM's CARD OF 'thunklaw1.BigRules'. -/
def bigRulesUptoCard : Claim7 := { stood := { row := bigRulesUptoRow, standIns := [], harness := (true, "3f6c65230efcc366f875a5b532b9a48e131542a205115071931acd097d8d462f"), looks := false }, kinds := [], alts := [], laidByText := true, laidKinds := [.data, .data, .data], laidTests := true, laidLooks := .later }
def BigRulesUptoCardSaid : Prop := Claim7.holds Tryd.pinned (.plain (OpenSpec.upto bigRulesSpec)) bigRulesUptoCard

/-- THE SECOND FORM's CARD OF 'thunklaw1.BigEnds'. -/
def bigEndsUptoCard : Claim7 := { stood := { row := bigEndsUptoRow, standIns := [], harness := (true, "3f6c65230efcc366f875a5b532b9a48e131542a205115071931acd097d8d462f"), looks := false }, kinds := [], alts := [], laidByText := true, laidKinds := [.data, .data, .data], laidTests := true, laidLooks := .later }
def BigEndsUptoCardSaid : Prop := Claim7.holds Tryd.pinned (.plain (OpenSpec.upto bigEndsSpec)) bigEndsUptoCard

/-- THE SECOND FORM's CARD OF 'thunklaw1.BigQuo'. -/
def bigQuoUptoCard : Claim7 := { stood := { row := bigQuoUptoRow, standIns := [], harness := (true, "3f6c65230efcc366f875a5b532b9a48e131542a205115071931acd097d8d462f"), looks := false }, kinds := [], alts := [], laidByText := true, laidKinds := [.data, .data, .data], laidTests := true, laidLooks := .later }
def BigQuoUptoCardSaid : Prop := Claim7.holds Tryd.pinned (.plain (OpenSpec.upto bigQuoSpec)) bigQuoUptoCard

/-- THE SECOND FORM's CARD OF 'thunklaw1.BigPowers'. -/
def bigPowersUptoCard : Claim7 := { stood := { row := bigPowersUptoRow, standIns := [], harness := (true, "3f6c65230efcc366f875a5b532b9a48e131542a205115071931acd097d8d462f"), looks := false }, kinds := [], alts := [], laidByText := true, laidKinds := [.data, .data, .data], laidTests := true, laidLooks := .later }
def BigPowersUptoCardSaid : Prop := Claim7.holds Tryd.pinned (.plain (OpenSpec.upto bigPowersSpec)) bigPowersUptoCard

/-- THE SECOND FORM's CARD OF 'thunklaw1.BigTens'. -/
def bigTensUptoCard : Claim7 := { stood := { row := bigTensUptoRow, standIns := [], harness := (true, "3f6c65230efcc366f875a5b532b9a48e131542a205115071931acd097d8d462f"), looks := false }, kinds := [], alts := [], laidByText := true, laidKinds := [.data, .data, .data], laidTests := true, laidLooks := .later }
def BigTensUptoCardSaid : Prop := Claim7.holds Tryd.pinned (.plain (OpenSpec.upto bigTensSpec)) bigTensUptoCard

/-- THE SECOND FORM's CARD OF 'thunklaw1.BigAll'. -/
def bigAllUptoCard : Claim7 := { stood := { row := bigAllUptoRow, standIns := [], harness := (true, "3f6c65230efcc366f875a5b532b9a48e131542a205115071931acd097d8d462f"), looks := false }, kinds := [], alts := [], laidByText := true, laidKinds := [.data, .data, .data], laidTests := true, laidLooks := .later }
def BigAllUptoCardSaid : Prop := Claim7.holds Tryd.pinned (.plain (OpenSpec.upto bigAllSpec)) bigAllUptoCard

/-- THE SECOND FORM's CARD OF 'thunklaw1.BigSmall'. -/
def bigSmallUptoCard : Claim7 := { stood := { row := bigSmallUptoRow, standIns := [], harness := (true, "3f6c65230efcc366f875a5b532b9a48e131542a205115071931acd097d8d462f"), looks := false }, kinds := [], alts := [], laidByText := true, laidKinds := [.data, .data, .data], laidTests := true, laidLooks := .later }
def BigSmallUptoCardSaid : Prop := Claim7.holds Tryd.pinned (.plain (OpenSpec.upto bigSmallSpec)) bigSmallUptoCard
end Rows
end Go.Proofs.YtpnbhbacpkoddaaDoor

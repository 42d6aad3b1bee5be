/-
  DERIVED. GIVEN WITH THE SEED: THE CARDS: each row of YtmfdlglhngmacaaDoorRows.lean that lists a variable, with what it lists TIED to the program's text (the seventh form; the later family's looks); each row that meets fmt, with fmt's text TOLD by the authors' own Lean function (tested against real Go, not proved from fmt's source: count such statements apart). THE CARD IS WHAT COUNTS. Prove the row's statement (the work); the ties are given (YtmfdlglhngmacaaDoorTie.lean); close each card by the builder's one call (the guide's Derived/Test/ToyasCard.lean, 'card_holds'). Laid BY PROGRAM, IN A SANDBOX (cutbox-door.mjs). By AI agents, Wed Nov 11 2026. No macro, syntax, notation, axiom, sorry.
-/
import Derived.Test.YtmfdlglhngmacaaDoorRows
import GoSem.ClaimSeven
namespace Go.Proofs.YtmfdlglhngmacaaDoor
namespace Rows

/-- THE TIED CARD OF 'thunklaw10.NaturalFuel'. -/
def naturalFuelCard : Claim7 := { stood := { row := naturalFuelRow, standIns := [], harness := (true, "06472ccc2e734025fb51c4dbe6afee2256fcaf741367e7b75c75ff11b22c96a1"), looks := true }, kinds := [], alts := [], laidByText := true, laidKinds := [.data, .data, .data], laidTests := true, laidLooks := .later }
def NaturalFuelCardSaid : Prop := Claim7.holds Tryd.pinned (.plain (OpenSpec.ofChange naturalFuelSpec)) naturalFuelCard

/-- THE TIED CARD OF 'thunklaw10.NaturalLazy'. -/
def naturalLazyCard : Claim7 := { stood := { row := naturalLazyRow, standIns := [], harness := (true, "06472ccc2e734025fb51c4dbe6afee2256fcaf741367e7b75c75ff11b22c96a1"), looks := true }, kinds := [], alts := [], laidByText := true, laidKinds := [.data, .data, .data], laidTests := true, laidLooks := .later }
def NaturalLazyCardSaid : Prop := Claim7.holds Tryd.pinned (.plain (OpenSpec.ofChange naturalLazySpec)) naturalLazyCard

/-- THE TIED CARD OF 'thunklaw10.NaturalNorm'. -/
def naturalNormCard : Claim7 := { stood := { row := naturalNormRow, standIns := [], harness := (true, "06472ccc2e734025fb51c4dbe6afee2256fcaf741367e7b75c75ff11b22c96a1"), looks := true }, kinds := [], alts := [], laidByText := true, laidKinds := [.data, .data, .data], laidTests := true, laidLooks := .later }
def NaturalNormCardSaid : Prop := Claim7.holds Tryd.pinned (.plain (OpenSpec.ofChange naturalNormSpec)) naturalNormCard

/-- THE TIED CARD OF 'thunklaw10.NaturalPrints'. -/
def naturalPrintsCard : Claim7 := { stood := { row := naturalPrintsRow, standIns := [], harness := (true, "06472ccc2e734025fb51c4dbe6afee2256fcaf741367e7b75c75ff11b22c96a1"), looks := true }, kinds := [], alts := [], laidByText := true, laidKinds := [.data, .data, .data], laidTests := true, laidLooks := .later }
def NaturalPrintsCardSaid : Prop := Claim7.holds Tryd.pinned (.plain (OpenSpec.ofChange naturalPrintsSpec)) naturalPrintsCard

/-- THE TIED CARD OF 'thunklaw10.NaturalNumbers'. -/
def naturalNumbersCard : Claim7 := { stood := { row := naturalNumbersRow, standIns := [], harness := (true, "06472ccc2e734025fb51c4dbe6afee2256fcaf741367e7b75c75ff11b22c96a1"), looks := true }, kinds := [], alts := [], laidByText := true, laidKinds := [.data, .data, .data], laidTests := true, laidLooks := .later }
def NaturalNumbersCardSaid : Prop := Claim7.holds Tryd.pinned (.plain (OpenSpec.ofChange naturalNumbersSpec)) naturalNumbersCard

/-- THE TIED CARD OF 'thunklaw10.NaturalIf'. -/
def naturalIfCard : Claim7 := { stood := { row := naturalIfRow, standIns := [], harness := (true, "06472ccc2e734025fb51c4dbe6afee2256fcaf741367e7b75c75ff11b22c96a1"), looks := true }, kinds := [], alts := [], laidByText := true, laidKinds := [.data, .data, .data], laidTests := true, laidLooks := .later }
def NaturalIfCardSaid : Prop := Claim7.holds Tryd.pinned (.plain (OpenSpec.ofChange naturalIfSpec)) naturalIfCard

/-- THE TIED CARD OF 'thunklaw10.NaturalApply'. -/
def naturalApplyCard : Claim7 := { stood := { row := naturalApplyRow, standIns := [], harness := (true, "06472ccc2e734025fb51c4dbe6afee2256fcaf741367e7b75c75ff11b22c96a1"), looks := true }, kinds := [], alts := [], laidByText := true, laidKinds := [.data, .data, .data], laidTests := true, laidLooks := .later }
def NaturalApplyCardSaid : Prop := Claim7.holds Tryd.pinned (.plain (OpenSpec.ofChange naturalApplySpec)) naturalApplyCard

/-- THE TIED CARD OF 'thunklaw10.NaturalOrder'. -/
def naturalOrderCard : Claim7 := { stood := { row := naturalOrderRow, standIns := [], harness := (true, "06472ccc2e734025fb51c4dbe6afee2256fcaf741367e7b75c75ff11b22c96a1"), looks := true }, kinds := [], alts := [], laidByText := true, laidKinds := [.data, .data, .data], laidTests := true, laidLooks := .later }
def NaturalOrderCardSaid : Prop := Claim7.holds Tryd.pinned (.plain (OpenSpec.ofChange naturalOrderSpec)) naturalOrderCard

/-- THE SECOND FORM's CARD OF 'thunklaw10.NaturalFuel'. -/
def naturalFuelUptoCard : Claim7 := { stood := { row := naturalFuelUptoRow, standIns := [], harness := (true, "06472ccc2e734025fb51c4dbe6afee2256fcaf741367e7b75c75ff11b22c96a1"), looks := true }, kinds := [], alts := [], laidByText := true, laidKinds := [.data, .data, .data], laidTests := true, laidLooks := .later }
def NaturalFuelUptoCardSaid : Prop := Claim7.holds Tryd.pinned (.plain (OpenSpec.upto naturalFuelSpec)) naturalFuelUptoCard

/-- THE SECOND FORM's CARD OF 'thunklaw10.NaturalLazy'. -/
def naturalLazyUptoCard : Claim7 := { stood := { row := naturalLazyUptoRow, standIns := [], harness := (true, "06472ccc2e734025fb51c4dbe6afee2256fcaf741367e7b75c75ff11b22c96a1"), looks := true }, kinds := [], alts := [], laidByText := true, laidKinds := [.data, .data, .data], laidTests := true, laidLooks := .later }
def NaturalLazyUptoCardSaid : Prop := Claim7.holds Tryd.pinned (.plain (OpenSpec.upto naturalLazySpec)) naturalLazyUptoCard

/-- THE SECOND FORM's CARD OF 'thunklaw10.NaturalNorm'. -/
def naturalNormUptoCard : Claim7 := { stood := { row := naturalNormUptoRow, standIns := [], harness := (true, "06472ccc2e734025fb51c4dbe6afee2256fcaf741367e7b75c75ff11b22c96a1"), looks := true }, kinds := [], alts := [], laidByText := true, laidKinds := [.data, .data, .data], laidTests := true, laidLooks := .later }
def NaturalNormUptoCardSaid : Prop := Claim7.holds Tryd.pinned (.plain (OpenSpec.upto naturalNormSpec)) naturalNormUptoCard

/-- THE SECOND FORM's CARD OF 'thunklaw10.NaturalPrints'. -/
def naturalPrintsUptoCard : Claim7 := { stood := { row := naturalPrintsUptoRow, standIns := [], harness := (true, "06472ccc2e734025fb51c4dbe6afee2256fcaf741367e7b75c75ff11b22c96a1"), looks := true }, kinds := [], alts := [], laidByText := true, laidKinds := [.data, .data, .data], laidTests := true, laidLooks := .later }
def NaturalPrintsUptoCardSaid : Prop := Claim7.holds Tryd.pinned (.plain (OpenSpec.upto naturalPrintsSpec)) naturalPrintsUptoCard

/-- THE SECOND FORM's CARD OF 'thunklaw10.NaturalNumbers'. -/
def naturalNumbersUptoCard : Claim7 := { stood := { row := naturalNumbersUptoRow, standIns := [], harness := (true, "06472ccc2e734025fb51c4dbe6afee2256fcaf741367e7b75c75ff11b22c96a1"), looks := true }, kinds := [], alts := [], laidByText := true, laidKinds := [.data, .data, .data], laidTests := true, laidLooks := .later }
def NaturalNumbersUptoCardSaid : Prop := Claim7.holds Tryd.pinned (.plain (OpenSpec.upto naturalNumbersSpec)) naturalNumbersUptoCard

/-- THE SECOND FORM's CARD OF 'thunklaw10.NaturalIf'. -/
def naturalIfUptoCard : Claim7 := { stood := { row := naturalIfUptoRow, standIns := [], harness := (true, "06472ccc2e734025fb51c4dbe6afee2256fcaf741367e7b75c75ff11b22c96a1"), looks := true }, kinds := [], alts := [], laidByText := true, laidKinds := [.data, .data, .data], laidTests := true, laidLooks := .later }
def NaturalIfUptoCardSaid : Prop := Claim7.holds Tryd.pinned (.plain (OpenSpec.upto naturalIfSpec)) naturalIfUptoCard

/-- THE SECOND FORM's CARD OF 'thunklaw10.NaturalApply'. -/
def naturalApplyUptoCard : Claim7 := { stood := { row := naturalApplyUptoRow, standIns := [], harness := (true, "06472ccc2e734025fb51c4dbe6afee2256fcaf741367e7b75c75ff11b22c96a1"), looks := true }, kinds := [], alts := [], laidByText := true, laidKinds := [.data, .data, .data], laidTests := true, laidLooks := .later }
def NaturalApplyUptoCardSaid : Prop := Claim7.holds Tryd.pinned (.plain (OpenSpec.upto naturalApplySpec)) naturalApplyUptoCard

/-- THE SECOND FORM's CARD OF 'thunklaw10.NaturalOrder'. -/
def naturalOrderUptoCard : Claim7 := { stood := { row := naturalOrderUptoRow, standIns := [], harness := (true, "06472ccc2e734025fb51c4dbe6afee2256fcaf741367e7b75c75ff11b22c96a1"), looks := true }, kinds := [], alts := [], laidByText := true, laidKinds := [.data, .data, .data], laidTests := true, laidLooks := .later }
def NaturalOrderUptoCardSaid : Prop := Claim7.holds Tryd.pinned (.plain (OpenSpec.upto naturalOrderSpec)) naturalOrderUptoCard
end Rows
end Go.Proofs.YtmfdlglhngmacaaDoor

/-
  Several texts in one: TNGoodN, TNRef, TNRefB.
-/
import Derived.Test.YtmfdlglhngmacaaGreatDoorYI
import Derived.Test.YtmfdlglhngmacaaGreatDoorYT
set_option linter.unusedSimpArgs false
set_option linter.unusedVariables false
set_option linter.defProp false
set_option maxRecDepth 100000
/-
  What norm does to sizes, names that are bound, names that are free.
-/
namespace Go.Lite
open Go Go.Proofs
end Go.Lite
/-
  The document's norm.
-/
namespace Go.Lite
open Go Go.Proofs
end Go.Lite
/-
  The document's Norm.
-/
namespace Go.Lite
open Go Go.Proofs
end Go.Lite

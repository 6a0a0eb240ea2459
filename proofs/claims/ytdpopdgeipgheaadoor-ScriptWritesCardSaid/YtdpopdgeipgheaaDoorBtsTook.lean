
/-
  The document's example of a reader of bits.
-/
import Derived.Test.YtdpopdgeipgheaaDoorBtsGet
namespace Go.Proofs.YtdpopdgeipgheaaDoor
open Go.RowKit
set_option linter.unusedVariables false

end Go.Proofs.YtdpopdgeipgheaaDoor


/-
  The document's example of a reader of bits.
-/
import Derived.Test.YtmmgnbdngpkfcaaBtsGet
namespace Go.Proofs.Ytmmgnbdngpkfcaa
open Go.RowKit
set_option linter.unusedVariables false

end Go.Proofs.Ytmmgnbdngpkfcaa


/-
  A frame's bytes, as the statements make them.
-/
import Derived.Test.YtmmgnbdngpkfcaaFrameRef
namespace Go.Proofs.Ytmmgnbdngpkfcaa
open Go.RowKit
set_option linter.unusedVariables false

end Go.Proofs.Ytmmgnbdngpkfcaa


/-
  The document's example of a reader of bits.
-/
import Derived.Test.YtennjoegjghlaaaBtsGet
namespace Go.Proofs.Ytennjoegjghlaaa
open Go.RowKit
set_option linter.unusedVariables false

end Go.Proofs.Ytennjoegjghlaaa

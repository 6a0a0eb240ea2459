
/-
  How the statements read a frame.
-/
import Derived.Test.YtmmgnbdngpkfcaaFrameText
import Derived.Test.YtmmgnbdngpkfcaaFrameDec
import Derived.Test.YtmmgnbdngpkfcaaFramePlain
namespace Go.Proofs.Ytmmgnbdngpkfcaa
open Go.RowKit
set_option linter.unusedVariables false

end Go.Proofs.Ytmmgnbdngpkfcaa

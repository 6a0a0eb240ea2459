
/-
  The document's example of a reader of bits.
-/
import Derived.Test.YtdpopdgeipgheaaBtsGet
namespace Go.Proofs.Ytdpopdgeipgheaa
open Go.RowKit
set_option linter.unusedVariables false

end Go.Proofs.Ytdpopdgeipgheaa

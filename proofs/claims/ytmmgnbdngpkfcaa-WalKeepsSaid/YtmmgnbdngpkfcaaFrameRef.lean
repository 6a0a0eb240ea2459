
/-
  The functions by which the statements of frames say what they say.
-/
import Derived.Test.YtmmgnbdngpkfcaaFrameEnc
namespace Go.Proofs.Ytmmgnbdngpkfcaa
open Go.RowKit
set_option linter.unusedVariables false

theorem head_enc : Frm.enc 1 [] = [1#8, 0#8, 0#8, 0#8] ++ (Frm.enc 1 []).drop 4 := by decide +kernel

end Go.Proofs.Ytmmgnbdngpkfcaa


/-
  The head of the statements on members.
-/
import Derived.Test.YtmmgnbdngpkfcaaVwI
import Derived.Test.YtmmgnbdngpkfcaaVwR
namespace Go.Proofs.Ytmmgnbdngpkfcaa
open Go.RowKit
set_option linter.unusedVariables false

theorem law20_head (w : World) : Calls Try.prog 53 #[] w fun e w' => e = .returned (.bool true) ∧ Below w.heap.size w w' :=
  law20_head0 (fun w => vw_New 1 1 0 5 ⟨0, 0, []⟩ none 0 0 w (by decide) (by decide) (by decide) ⟨Int.le_refl 0, by show (0 : Int) ≤ 1099511627776; decide⟩ ⟨Int.le_refl 0, Int.le_refl 0⟩ h0_small rfl ⟨Nat.le_refl _, Nat.zero_le _⟩ (Sl.nil _ _ _ _)) w
end Go.Proofs.Ytmmgnbdngpkfcaa

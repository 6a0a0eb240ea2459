
/-
  The law ViewLays, over what comes in.
-/
import Derived.Test.YtmmgnbdngpkfcaaVwV
import Derived.Test.YtmmgnbdngpkfcaaVwW
namespace Go.Proofs.Ytmmgnbdngpkfcaa
open Go.RowKit
set_option linter.unusedVariables false

theorem law_ViewLays (cs : Array Value) (K : Vw.Keep) (ra : Option Addr) (rc : Nat) (rs : List Vw.Rc) (w : World) (hK : EKeepI.rep (fun _ => True) w cs.toList K) (hr : Sl ERecI (fun _ => True) w ra rs) (hrc : rs.length ≤ rc) (hmx : rc ≤ maxLen) :
    Calls Try.prog 11 #[.agg cs, .slice ra rs.length rc] w fun e w' => e = .returned (.bool true) ∧ Below w.heap.size w w' := by
  obtain ⟨la, lc, e, h1, h2⟩ := hK
  have hcs : cs = #[.int .i64 K.view, .int .i64 K.normal, .slice la K.log.length lc] := by
    cases cs; simp at e; rw [e]
  subst hcs
  exact law_ViewLays0 law20_head K la _ lc ra _ rc rs w h2 rfl h1 hr rfl hrc h1.2 hmx
end Go.Proofs.Ytmmgnbdngpkfcaa

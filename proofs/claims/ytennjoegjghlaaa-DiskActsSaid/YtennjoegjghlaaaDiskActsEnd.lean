
/-
  The contract of the law 'DiskActs'.
-/
import Derived.Test.YtennjoegjghlaaaDiskActsWalk
import Derived.Test.YtennjoegjghlaaaDiskDo
namespace Go.Proofs.Ytennjoegjghlaaa
open Go.RowKit
set_option linter.unusedVariables false

theorem law_DiskActs (room : Int) (a : Option Addr) (c : Nat) (ts : List DStep) (w : World) (hro : -9223372036854775808 ≤ room ∧ room ≤ 9223372036854775807) (hs : Sl EStep (fun _ => True) w a ts) (hc : ts.length ≤ c) (hm : c ≤ maxLen) :
    Calls Try.prog 7 #[.int .i64 room, .slice a ts.length c] w fun e w' => e = .returned (.bool true) ∧ Below w.heap.size w w' :=
  acts_walk (fun ok D vs us kk tt nn aB cB bs aK cK ks w h1 h2 h3 h4 h5 h6 h7 h8 h9 => ref16_Do D vs us kk tt nn aB cB bs aK cK ks w h1 h2 h3 h4 h5 h6 h7 h8 h9) room a c ts w hro hs hc hm
end Go.Proofs.Ytennjoegjghlaaa

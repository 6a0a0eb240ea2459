
/-
  The reference's step, whole.
-/
import Derived.Test.YtennjoegjghlaaaDiskDoB
import Derived.Test.YtennjoegjghlaaaDiskDoC
import Derived.Test.YtennjoegjghlaaaDiskDoD
import Derived.Test.YtennjoegjghlaaaDiskDoE
namespace Go.Proofs.Ytennjoegjghlaaa
open Go.RowKit
set_option linter.unusedVariables false

/-- the reference's step -/
theorem ref16_Do {ok : Nat → Prop} (D : Dk.Dsk) (vs us : Nat → Value) (kk tt nn : Int) (aB : Option Addr) (cB : Nat) (bs : List (BitVec 8)) (aK : Option Addr) (cK : Nat) (ks : List Int) (w : World)
    (hM : RfM ok w vs us D) (hok : Dk.Ok D) (hfr : Dk.Fr D) (ha : 0 ≤ D.acts ∧ D.acts ≤ 9000000000000000000)
    (hsB : Sl EU8 (fun _ => True) w aB bs) (hlB : bs.length ≤ 1000) (hsK : Sl EInt (fun _ => True) w aK ks) (hlK : ks.length ≤ 1000) (hnn : -9223372036854775808 ≤ nn ∧ nn ≤ 9223372036854775807) :
    Calls Try.prog 28 #[.agg (Dk.rcells vs us D), .agg #[.int .i64 kk, .int .i64 tt, .int .i64 nn, .slice aB bs.length cB, .slice aK ks.length cK]] w (DoPost ok w D (kk, tt, nn, bs, ks)) := by
  by_cases k5 : kk = 5
  · subst k5
    exact ref16_Do_crash D vs us tt nn aB cB bs aK cK ks w hM hok hfr hsB hsK hlK
  by_cases hk : (kk = 0 ∨ kk = 1 ∨ kk = 2 ∨ kk = 3) ∧ Dk.err D tt = 0
  · obtain ⟨hk, he⟩ := hk
    rcases Dk.err_cases D tt with ⟨h, _⟩ | ⟨_, k, rfl, hk4⟩
    · exact absurd he h
    · have hdn : D.down = false := by
        unfold Dk.err at he
        rw [if_neg (by omega)] at he
        cases hd : D.down
        · rfl
        · rw [hd] at he; exact absurd he (by decide)
      by_cases k3 : kk = 3
      · exact ref16_Do_read D vs us kk nn aB cB bs aK cK ks w hM hok hfr ha hsB hlB hsK hlK hnn k hk4 hdn k3
      · exact ref16_Do_main D vs us kk nn aB cB bs aK cK ks w hM hok hfr ha hsB hlB hsK hlK hnn k hk4 hdn (by omega)
  · exact ref16_Do_easy D vs us kk tt nn aB cB bs aK cK ks w hM hok hfr ha hsB hlB hsK hlK hnn k5 fun h he => hk ⟨h, he⟩
end Go.Proofs.Ytennjoegjghlaaa

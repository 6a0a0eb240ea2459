/-
  The walk of the law 'CrcCuts'.
-/
import Derived.Test.YtcmkkilhipnbcaaCrcHead
import Derived.BigQuiet
import Derived.Deep.QuietTactic
namespace Go.Proofs.Ytcmkkilhipnbcaa
open Go.RowKit
set_option linter.unusedVariables false

theorem Crc.more_cut (l : List (BitVec 8)) (k : Nat) : (Crc.more (Crc.sum (l.take k)) (l.drop k) == Crc.sum l) = true := by
  rw [beq_iff_eq]
  unfold Crc.sum Crc.more
  rw [BitVec.not_not, ← Crc.run_append, List.take_append_drop]

set_option maxHeartbeats 400000 in
theorem law_CrcCuts (a : Option Addr) (c : Nat) (l : List (BitVec 8)) (x : Int) (w : World) (hs : SB w a l) (hc : l.length ≤ c) (hm : c ≤ maxLen) (hx : -9223372036854775808 ≤ x ∧ x ≤ 9223372036854775807) :
    Calls Try.prog 6 #[.slice a l.length c, .int .i64 x] w fun e w' => e = .returned (.bool true) ∧ Below w.heap.size w w' := by
  by_cases hbig : 3000 < l.length
  · have hg : decide (3000 < (l.length : Int)) = true := by simp; omega
    go_enter Try.func6, Try.ntmps6
    go_wp2_with (go_at_call 14; refine (crc_head _).mono ?_; rintro e w1 ⟨rfl, hb⟩)
    go_ret
    exact ⟨rfl, hb⟩
  · have hg : decide (3000 < (l.length : Int)) = false := by simp; omega
    by_cases h0 : x < 0
    · have hg0 : decide (x < 0) = true := by simpa using h0
      go_enter Try.func6, Try.ntmps6
      go_wp2_with (go_at_call 14; refine (crc_head _).mono ?_; rintro e w1 ⟨rfl, hb⟩)
      go_ret
      exact ⟨rfl, hb⟩
    · have hg0 : decide (x < 0) = false := by simpa using h0
      by_cases h1 : l.length < x
      · go_enter Try.func6, Try.ntmps6
        go_wp2_with (go_at_call 14; refine (crc_head _).mono ?_; rintro e w1 ⟨rfl, hb⟩)
        go_ret
        exact ⟨rfl, hb⟩
      · obtain ⟨k, rfl⟩ := Int.eq_ofNat_of_zero_le (show 0 ≤ x by omega)
        have hk : k ≤ l.length := by omega
        have hq := Crc.more_cut l k
        have hz : (Crc.sum [] == 0#32) = true := by decide
        go_enter Try.func6, Try.ntmps6
        go_wp2_with (go_at_call 14; refine (crc_head _).mono ?_; rintro e w1 ⟨rfl, hb⟩)
        have hs1 : SB w1 a l := hs.below (by decide) hb
        have r0 : RB w1 a l.length l := ⟨rfl, hs1⟩
        have r1 := RB.take hs1 hk
        have r2 := RB.drop hs1 hk hc
        have r3 := RB.nil w1 none
        go_quiet ((first
          | (go_at_call 16; exact quiet_eq (crc_Sum _ _ _ _ _ (RB.drewN r0 _) (by unfold maxLen; omega)))
          | (go_at_call 16; exact quiet_eq (crc_Sum _ _ _ _ _ (RB.drewN r1 _) (by unfold maxLen; omega)))
          | (go_at_call 16; exact quiet_eq (crc_Sum _ _ _ _ _ (RB.drewN r3 _) (by unfold maxLen; omega)))
          | (go_at_call 18; exact quiet_eq (crc_More _ _ _ _ _ _ (RB.drewN r2 _) (by unfold maxLen; omega)))))
        go_wp2
        all_goals (go_ret; exact ⟨rfl, below_drewN hb _⟩)
end Go.Proofs.Ytcmkkilhipnbcaa

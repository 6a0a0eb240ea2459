/-
  The walk of the law 'CrcSums'.
-/
import Derived.Test.YtcmkkilhipnbcaaCrcHead
namespace Go.Proofs.Ytcmkkilhipnbcaa
open Go.RowKit
set_option linter.unusedVariables false

set_option maxHeartbeats 400000 in
theorem law_CrcSums (a : Option Addr) (c : Nat) (l : List (BitVec 8)) (s : BitVec 32) (w : World) (hs : SB w a l) (hc : l.length ≤ c) (hm : c ≤ maxLen) :
    Calls Try.prog 3 #[.slice a l.length c, .int .u32 (bv s)] w fun e w' => e = .returned (.bool true) ∧ Below w.heap.size w w' := by
  by_cases hbig : 5000 < l.length
  · go_enter Try.func3, Try.ntmps3
    go_wp2_with (go_at_call 14; refine (crc_head _).mono ?_; rintro e w1 ⟨rfl, hb⟩)
    go_ret
    exact ⟨rfl, hb⟩
  · go_enter Try.func3, Try.ntmps3
    go_wp2_with fail
    refine (crc_head _).mono ?_
    rintro e w1 ⟨rfl, hb⟩
    have h1 : RB w1 a l.length l := ⟨rfl, hs.below (by decide) hb⟩
    go_wp2_with fail
    refine (ref_Copy_read a _ c l _ h1 (by omega)).mono ?_
    rintro e w2 ⟨a', c', rfl, h2, hb2⟩
    have h3 := RB.below h1 hb2
    have hb3 := hb.trans (hb2.mono hb.size)
    go_wp2_with (first
      | (go_at_call 16; refine (crc_Sum _ _ _ l _ h2 (by unfold maxLen; omega)).mono ?_; rintro e w' ⟨rfl, rfl⟩)
      | (go_at_call 17; refine (ref_Sum _ _ _ l _ h3 (by unfold maxLen; omega)).mono ?_; rintro e w' ⟨rfl, rfl⟩)
      | (go_at_call 18; refine (crc_More _ _ _ _ l _ h2 (by unfold maxLen; omega)).mono ?_; rintro e w' ⟨rfl, rfl⟩)
      | (go_at_call 19; refine (ref_More _ _ _ _ l _ h3 (by unfold maxLen; omega)).mono ?_; rintro e w' ⟨rfl, rfl⟩)
      | (go_at_call 20; refine (ref_Same _ _ _ _ _ _ l l _ h2 h3).mono ?_; rintro e w' ⟨rfl, rfl⟩))
    go_ret
    exact ⟨by simp, hb3⟩
end Go.Proofs.Ytcmkkilhipnbcaa

/-
  The walk of the law 'CrcBack'.
-/
import Derived.Test.YtcmkkilhipnbcaaCrcHead
import Derived.Test.YtcmkkilhipnbcaaCrcLaws
namespace Go.Proofs.Ytcmkkilhipnbcaa
open Go.RowKit
set_option linter.unusedVariables false

theorem rb_new (w : World) (g n : Nat) (te : TypeId) (l : List (BitVec 8)) (cs : Array Value) (hg : g = w.heap.size) (hn : n = l.length) (h : cs.toList = l.map fun c => Value.int .u8 (bv c)) : RB (w.alloc (.cells cs te)) (some ⟨g, 0, none⟩) n l := by
  subst hg
  exact ⟨hn, sb_lit _ w te w.heap.size 0 cs l (0, 0) (heap_alloc_new w _) h⟩

set_option maxHeartbeats 400000 in
theorem law_CrcBack (a : Option Addr) (cp : Nat) (l : List (BitVec 8)) (s : BitVec 32) (c : BitVec 8) (w : World) (hs : SB w a l) (hc : l.length ≤ cp) (hm : cp ≤ maxLen) :
    Calls Try.prog 7 #[.slice a l.length cp, .int .u32 (bv s), .int .u8 (bv c)] w fun e w' => e = .returned (.bool true) ∧ Below w.heap.size w w' := by
  by_cases hbig : 3000 < l.length
  · go_enter Try.func7, Try.ntmps7
    go_wp2_with (go_at_call 14; refine (crc_head _).mono ?_; rintro e w1 ⟨rfl, hb⟩)
    go_ret
    exact ⟨rfl, hb⟩
  · go_enter Try.func7, Try.ntmps7
    go_wp2_with fail
    refine (crc_head _).mono ?_
    rintro e w1 ⟨rfl, hb⟩
    have hs1 : SB w1 a l := hs.below (by decide) hb
    go_wp2_with (go_at_call 16; refine (crc_Sum _ _ _ l _ ⟨rfl, hs1⟩ (by unfold maxLen; omega)).mono ?_; rintro e w' ⟨rfl, rfl⟩)
    go_loop [7, 8] (fun x i => ∃ k : Nat, k ≤ l.length ∧ i = .int .i64 ((k : Int) - 1) ∧ x = .int .u32 (bv (Crc.sum (l.take k)))) (fun _ i => (intOf i + 1).toNat)
    case atStart => exact ⟨l.length, Nat.le_refl _, rfl, by rw [List.take_length]⟩
    case round =>
      obtain ⟨k, hk, rfl, rfl⟩ := hrel
      by_cases hlt : 0 < k
      · obtain ⟨j, rfl⟩ : ∃ j, k = j + 1 := ⟨k - 1, by omega⟩
        have hj : j < l.length := by omega
        obtain ⟨b, o, rfl, hcell⟩ := SB.at hs1 j hj
        have hsl := Lib.hid (Crc.sum_less l j hj)
        have e1 : ((j + 1 : Nat) : Int) - 1 = (j : Int) := by omega
        rw [e1]
        clear e1
        go_wp2_with (go_at_call 21; refine (crc_Less _ _ _).mono ?_; rintro e w' ⟨rfl, rfl⟩)
        go_round
        case rel => exact ⟨j, by omega, rfl, by rw [hsl.out]⟩
        case measure => simp [intOf]
      · have hk0 : k = 0 := by omega
        subst hk0
        have hz : (Crc.sum (l.take 0) == 0#32) = true := by simp [Crc.sum, Crc.more, Crc.run]
        have ha := Lib.hid (Crc.more_less s c)
        have hb2 := Lib.hid (Crc.less_more s c)
        have r1 := rb_new w1 w1.heap.size 1 5 [c] #[.int .u8 (bv c)] rfl rfl rfl
        have r2 := rb_new (w1.alloc (.cells #[.int .u8 (bv c)] 5)) (w1.heap.size + 1) 1 5 [c] #[.int .u8 (bv c)] (by simp) rfl rfl
        go_wp2_with fail
        refine (crc_Less _ _ _).mono ?_
        rintro e w' ⟨rfl, rfl⟩
        go_wp2_with fail
        refine (crc_More (Crc.less s c) _ 1 1 [c] _ r1 (by unfold maxLen; omega)).mono ?_
        rintro e w' ⟨rfl, rfl⟩
        rw [ha.out]
        go_wp2_with fail
        refine (crc_More s _ 1 1 [c] _ r2 (by unfold maxLen; omega)).mono ?_
        rintro e w' ⟨rfl, rfl⟩
        go_wp2_with fail
        refine (crc_Less _ _ _).mono ?_
        rintro e w' ⟨rfl, rfl⟩
        rw [hb2.out]
        go_wp2_with fail
        go_ret
        exact ⟨by simp, (hb.alloc hb.size _).alloc (Nat.le_trans hb.size (by simp)) _⟩
end Go.Proofs.Ytcmkkilhipnbcaa

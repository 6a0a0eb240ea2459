/-
  The walk of the law 'CrcBursts'.
-/
import Derived.Test.YtcmkkilhipnbcaaCrcBackWalk
import Derived.Test.YtcmkkilhipnbcaaCrcBurst
namespace Go.Proofs.Ytcmkkilhipnbcaa
open Go.RowKit
set_option linter.unusedVariables false

set_option maxHeartbeats 800000 in
theorem law_CrcBursts (a : Option Addr) (c : Nat) (l : List (BitVec 8)) (x : Int) (bs : BitVec 32) (w : World) (hs : SB w a l) (hc : l.length ≤ c) (hm : c ≤ maxLen) (hx : -9223372036854775808 ≤ x ∧ x ≤ 9223372036854775807) :
    Calls Try.prog 4 #[.slice a l.length c, .int .i64 x, .int .u32 (bv bs)] w fun e w' => e = .returned (.bool true) ∧ Below w.heap.size w w' := by
  by_cases hbig : 3000 < l.length
  · have hg : decide (3000 < (l.length : Int)) = true := by simp; omega
    go_enter Try.func4, Try.ntmps4
    go_wp2_with (go_at_call 14; refine (crc_head _).mono ?_; rintro e w1 ⟨rfl, hb⟩)
    go_ret
    exact ⟨rfl, hb⟩
  · have hg : decide (3000 < (l.length : Int)) = false := by simp; omega
    by_cases h0 : x < 0
    · have hg0 : decide (x < 0) = true := by simpa using h0
      go_enter Try.func4, Try.ntmps4
      go_wp2_with (go_at_call 14; refine (crc_head _).mono ?_; rintro e w1 ⟨rfl, hb⟩)
      go_ret
      exact ⟨rfl, hb⟩
    · have hg0 : decide (x < 0) = false := by simpa using h0
      by_cases h1 : 8 * (l.length : Int) < x
      · go_enter Try.func4, Try.ntmps4
        go_wp2_with (go_at_call 14; refine (crc_head _).mono ?_; rintro e w1 ⟨rfl, hb⟩)
        go_ret
        exact ⟨rfl, hb⟩
      · obtain ⟨k, rfl⟩ := Int.eq_ofNat_of_zero_le (show 0 ≤ x by omega)
        have hk : k ≤ 8 * l.length := by omega
        go_enter Try.func4, Try.ntmps4
        go_wp2_with fail
        refine (crc_head _).mono ?_
        rintro e w1 ⟨rfl, hb⟩
        have hs1 : SB w1 a l := hs.below (by decide) hb
        go_wp2_with fail
        refine (ref_Copy a _ c l _ ⟨rfl, hs1⟩ (by omega)).mono ?_
        rintro e w2 ⟨v, rfl, ho, hb2⟩
        obtain ⟨av, cv, rfl, hcv, hcm, _⟩ := ho.sl
        go_wp2_with fail
        go_loopw [8] (fun i wr => ∃ j : Nat, j ≤ 32 ∧ i = .int .i64 j ∧ Own EU8 5 w1.heap.size wr (.slice av l.length cv) (Crc.burst l k bs j) ∧ Below w1.heap.size w1 wr) (fun i _ => 32 - (intOf i).toNat)
        case atStart => exact ⟨0, by omega, rfl, ho, hb2⟩
        case round =>
          obtain ⟨j, hj, rfl, hoj, hbj⟩ := hrel
          by_cases hlt : j < 32
          · have hu : bv (BitVec.ofNat 64 j) = (j : Int) := by unfold bv; rw [BitVec.toNat_ofNat]; omega
            have hbit : (bs >>> j &&& 1#32 == 1#32) = bs.getLsbD j := by
              rw [Crc.and1]
              have : (bs >>> j)[0] = bs.getLsbD j := by simp
              rw [this]
              cases bs.getLsbD j <;> decide
            have hlb : (Crc.burst l k bs j).length = l.length := Crc.burst_len _ _ _ _
            have Hlb := Lib.hid hlb
            clear hlb
            cases hbj2 : bs.getLsbD j
            · rw [hbj2] at hbit
              have hnext : Crc.burst l k bs (j + 1) = Crc.burst l k bs j := by simp [Crc.burst, hbj2]
              have Hn := Lib.hid hnext
              clear hnext hbj2
              go_wp2
              go_roundw
              case rel => exact ⟨j + 1, by omega, by go_num, by rw [Hn.out]; exact hoj, hbj⟩
              case measure => simp [intOf]; omega
            · rw [hbj2] at hbit
              by_cases hin : k + j < 8 * l.length
              · have hnext : Crc.burst l k bs (j + 1) = Crc.flip (Crc.burst l k bs j) (k + j) := by simp [Crc.burst, hbj2, hin]
                have Hn := Lib.hid hnext
                clear hnext hbj2
                obtain ⟨g, rfl, hg, hcell, hfr⟩ := hoj.at ((k + j) / 8) (by rw [Hlb.out]; omega)
                have hu2 : bv (BitVec.ofInt 64 (((k : Int) + j) % 8)) = ((k : Int) + j) % 8 := by unfold bv; rw [BitVec.toNat_ofInt]; omega
                have hset := Lib.hid (hoj.set ((k + j) / 8) ((Crc.burst l k bs j)[(k + j) / 8]'(by rw [Hlb.out]; omega) ^^^ BitVec.ofInt 8 (2 ^ ((k + j) % 8))))
                go_wp2
                go_roundw
                case rel =>
                  refine ⟨j + 1, by omega, by go_num, ?_, hbj.setCell (by simpa using hg) _⟩
                  rw [Hn.out]
                  unfold Crc.flip
                  have e1 : (Crc.burst l k bs j).getD ((k + j) / 8) 0#8 = (Crc.burst l k bs j)[(k + j) / 8]'(by rw [Hlb.out]; omega) := by
                    simp [List.getD, show (k + j) / 8 < (Crc.burst l k bs j).length by rw [Hlb.out]; omega]
                  rw [e1, ← ofInt_pow _ (by decide)]
                  exact hset.out
                case measure => simp [intOf]; omega
              · have hnext : Crc.burst l k bs (j + 1) = Crc.burst l k bs j := by simp [Crc.burst, hin]
                have Hn := Lib.hid hnext
                clear hnext hbj2
                go_wp2
                go_roundw
                case rel => exact ⟨j + 1, by omega, by go_num, by rw [Hn.out]; exact hoj, hbj⟩
                case measure => simp [intOf]; omega
          · have hj32 : j = 32 := by omega
            subst hj32
            have hfin := Crc.burst_sum l k bs hk
            have hlb : l.length = (Crc.burst l k bs 32).length := (Crc.burst_len _ _ _ _).symm
            have hs2 : SB wr a l := hs1.below (by decide) hbj
            have r1 : RB wr a l.length l := ⟨rfl, hs2⟩
            have r2 : RB wr av l.length (Crc.burst l k bs 32) := by
              obtain ⟨a', c', e, _, _, h⟩ := hoj.sl
              simp only [Value.slice.injEq] at e
              obtain ⟨rfl, _, _⟩ := e
              exact ⟨hlb, h⟩
            have Hfin := Lib.hid hfin
            clear hfin hlb
            go_wp2_with fail
            refine (ref_Same _ _ _ _ _ _ _ _ _ r1 r2).mono ?_
            rintro e w' ⟨rfl, rfl⟩
            go_wp2_with fail
            refine (crc_Sum _ _ _ _ _ r1 (by unfold maxLen; omega)).mono ?_
            rintro e w' ⟨rfl, rfl⟩
            go_wp2_with fail
            refine (crc_Sum _ _ _ _ _ r2 (by unfold maxLen; omega)).mono ?_
            rintro e w' ⟨rfl, rfl⟩
            rw [Hfin.out]
            go_wp2_with fail
            go_ret
            exact ⟨by simp, hb.trans (hbj.mono hb.size)⟩
end Go.Proofs.Ytcmkkilhipnbcaa

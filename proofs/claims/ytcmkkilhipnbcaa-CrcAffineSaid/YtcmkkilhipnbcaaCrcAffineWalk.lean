/-
  The walk of the law 'CrcAffine'.
-/
import Derived.Test.YtcmkkilhipnbcaaCrcBackWalk
namespace Go.Proofs.Ytcmkkilhipnbcaa
open Go.RowKit
set_option linter.unusedVariables false

def xor3 (a b c : List (BitVec 8)) : List (BitVec 8) := (a.zipWith (· ^^^ ·) b).zipWith (· ^^^ ·) c
theorem xor3_snoc (a b c : List (BitVec 8)) (k : Nat) (h1 : k < a.length) (h2 : k < b.length) (h3 : k < c.length) :
    (xor3 a b c).take (k + 1) = (xor3 a b c).take k ++ [a[k] ^^^ b[k] ^^^ c[k]] := by
  have hl : k < (xor3 a b c).length := by simp [xor3]; omega
  rw [List.take_succ_eq_append_getElem hl]
  simp [xor3]

set_option maxHeartbeats 800000 in
theorem law_CrcAffine (a1 : Option Addr) (c1 : Nat) (l1 : List (BitVec 8)) (a2 : Option Addr) (c2 : Nat) (l2 : List (BitVec 8)) (a3 : Option Addr) (c3 : Nat) (l3 : List (BitVec 8)) (w : World)
    (hs1 : SB w a1 l1) (hc1 : l1.length ≤ c1) (hm1 : c1 ≤ maxLen) (hs2 : SB w a2 l2) (hc2 : l2.length ≤ c2) (hm2 : c2 ≤ maxLen) (hs3 : SB w a3 l3) (hc3 : l3.length ≤ c3) (hm3 : c3 ≤ maxLen) :
    Calls Try.prog 5 #[.slice a1 l1.length c1, .slice a2 l2.length c2, .slice a3 l3.length c3] w fun e w' => e = .returned (.bool true) ∧ Below w.heap.size w w' := by
  by_cases hbig : 1000 < l1.length
  · have hg : decide (1000 < (l1.length : Int)) = true := by simp; omega
    go_enter Try.func5, Try.ntmps5
    go_wp2_with (go_at_call 14; refine (crc_head _).mono ?_; rintro e w1 ⟨rfl, hb⟩)
    go_ret
    exact ⟨rfl, hb⟩
  · have hg : decide (1000 < (l1.length : Int)) = false := by simp; omega
    by_cases h2 : l2.length < l1.length
    · have hg2 : decide (l2.length < l1.length) = true := by simp; omega
      go_enter Try.func5, Try.ntmps5
      go_wp2_with (go_at_call 14; refine (crc_head _).mono ?_; rintro e w1 ⟨rfl, hb⟩)
      go_ret
      exact ⟨rfl, hb⟩
    · have hg2 : decide (l2.length < l1.length) = false := by simp; omega
      by_cases h3 : l3.length < l1.length
      · have hg3 : decide (l3.length < l1.length) = true := by simp; omega
        go_enter Try.func5, Try.ntmps5
        go_wp2_with (go_at_call 14; refine (crc_head _).mono ?_; rintro e w1 ⟨rfl, hb⟩)
        go_ret
        exact ⟨rfl, hb⟩
      · have hg3 : decide (l3.length < l1.length) = false := by simp; omega
        go_enter Try.func5, Try.ntmps5
        go_wp2_with (go_at_call 14; refine (crc_head _).mono ?_; rintro e w1 ⟨rfl, hb⟩)
        have hb1 : ∀ k, k < w1.heap.size → (w1.alloc (.cells #[] 5)).heap[k]? = w1.heap[k]? := fun k hk => heap_alloc_old w1 _ hk
        have H1 : SB w1 a1 l1 := hs1.below (by decide) hb
        have H2 : SB w1 a2 l2 := hs2.below (by decide) hb
        have H3 : SB w1 a3 l3 := hs3.below (by decide) hb
        go_loopw [7, 39] (fun v i wr => ∃ k : Nat, k ≤ l1.length ∧ i = .int .i64 k ∧ Own EU8 5 w1.heap.size wr v ((xor3 l1 l2 l3).take k) ∧ Below w1.heap.size w1 wr) (fun _ i _ => l1.length - (intOf i).toNat)
        case atStart => exact ⟨0, Nat.zero_le _, rfl, own_empty EU8 5 w1 (by decide), (Below.refl _ _).alloc (Nat.le_refl _) _⟩
        case round =>
          obtain ⟨k, hk, rfl, ho, hbr⟩ := hrel
          by_cases hlt : k < l1.length
          · obtain ⟨b1, o1, rfl, p1⟩ := SB.at H1 k hlt
            obtain ⟨b2, o2, rfl, p2⟩ := SB.at H2 k (by omega)
            obtain ⟨b3, o3, rfl, p3⟩ := SB.at H3 k (by omega)
            have q1 := cell_thru p1 hbr
            have q2 := cell_thru p2 hbr
            have q3 := cell_thru p3 hbr
            have P1 := Lib.hid p1
            have P2 := Lib.hid p2
            have P3 := Lib.hid p3
            clear p1 p2 p3
            have hsn := Lib.hid (xor3_snoc l1 l2 l3 k hlt (by omega) (by omega))
            have hn1 : ((xor3 l1 l2 l3).take k).length + [l1[k] ^^^ l2[k] ^^^ l3[k]].length ≤ maxLen := by simp [maxLen]; omega
            have hn2 : (((xor3 l1 l2 l3).take k).length + [l1[k] ^^^ l2[k] ^^^ l3[k]].length) * 1 ≤ 140737488355328 := by simp; omega
            have Hn1 := Lib.hid hn1
            have Hn2 := Lib.hid hn2
            clear hn1 hn2
            go_wp2_with fail
            go_region_held3 (fun w' => w'.cell? ⟨b1, o1 + k, none⟩ = some (.int .u8 (bv l1[k])) ∧ w'.cell? ⟨b2, o2 + k, none⟩ = some (.int .u8 (bv l2[k])) ∧ w'.cell? ⟨b3, o3 + k, none⟩ = some (.int .u8 (bv l3[k])))
              (first | go_keep | exact ⟨cell_thru P1.out ((hbr.alloc hbr.size _).drew.trans hb2), cell_thru P2.out ((hbr.alloc hbr.size _).drew.trans hb2), cell_thru P3.out ((hbr.alloc hbr.size _).drew.trans hb2)⟩)
              ((refine step_app EU8 (by rfl) (by rfl) (by rfl) ti_bytes (ho.below ((Below.refl _ _).alloc (Nat.le_refl _) _).drew) rfl
                  (sl_one (heap_alloc_new wr _) (show EU8.rep _ _ _ (l1[k] ^^^ l2[k] ^^^ l3[k]) from rfl) ho.fresh) Hn1.out Hn2.out (by simp; exact Nat.le_succ_of_le hbr.size) ?_; intro v' w' ho2 hg2 hv2 hb2))
            go_wp2
            go_roundw
            case rel => exact ⟨k + 1, by omega, by go_num, by rw [hsn.out]; exact ho2, (hbr.alloc hbr.size _).drew.trans hb2⟩
            case measure => simp [intOf]; omega
          · have hkl : k = l1.length := by omega
            subst hkl
            have hfin : (Crc.sum (xor3 l1 l2 l3) == Crc.sum l1 ^^^ Crc.sum (l2.take l1.length) ^^^ Crc.sum (l3.take l1.length)) = true := by
              rw [beq_iff_eq, ← Crc.sum_three l1 (l2.take l1.length) (l3.take l1.length) (by simp; omega) (by simp; omega)]
              congr 1
              unfold xor3
              apply List.ext_getElem?
              intro i
              simp only [List.getElem?_zipWith, List.getElem?_take]
              by_cases hi : i < l1.length
              · simp [hi]
              · simp [hi]
            rw [List.take_of_length_le (by simp [xor3]; omega)] at ho
            have hxl : (xor3 l1 l2 l3).length = l1.length := by simp [xor3]; omega
            obtain ⟨a4, c4, rfl, _, _, hs4⟩ := ho.sl
            have r0 : RB wr a4 (xor3 l1 l2 l3).length (xor3 l1 l2 l3) := ⟨rfl, hs4⟩
            have r1 : RB wr a1 l1.length l1 := ⟨rfl, H1.below (by decide) hbr⟩
            have r2 : RB wr a2 l1.length (l2.take l1.length) := RB.take (H2.below (by decide) hbr) (by omega)
            have r3 : RB wr a3 l1.length (l3.take l1.length) := RB.take (H3.below (by decide) hbr) (by omega)
            have Hxl := Lib.hid hxl
            clear hxl
            go_wp2_with fail
            refine (crc_Sum _ _ _ _ _ r0 (by rw [Hxl.out]; unfold maxLen; omega)).mono ?_
            rintro e w' ⟨rfl, rfl⟩
            go_wp2_with fail
            refine (crc_Sum _ _ _ _ _ r1 (by unfold maxLen; omega)).mono ?_
            rintro e w' ⟨rfl, rfl⟩
            go_wp2_with fail
            refine (crc_Sum _ _ _ _ _ r2 (by unfold maxLen; omega)).mono ?_
            rintro e w' ⟨rfl, rfl⟩
            go_wp2_with fail
            refine (crc_Sum _ _ _ _ _ r3 (by unfold maxLen; omega)).mono ?_
            rintro e w' ⟨rfl, rfl⟩
            go_wp2_with fail
            go_ret
            exact ⟨rfl, hb.trans (hbr.mono hb.size)⟩
end Go.Proofs.Ytcmkkilhipnbcaa

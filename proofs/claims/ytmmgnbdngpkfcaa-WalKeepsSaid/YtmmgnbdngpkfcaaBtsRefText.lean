
/-
  The document's own bits of a thing, and their bytes.
-/
import Derived.Test.YtmmgnbdngpkfcaaBtsRefNum
namespace Go.Proofs.Ytmmgnbdngpkfcaa
open Go.RowKit
set_option linter.unusedVariables false
set_option maxRecDepth 4096

theorem mul_two (x : BitVec 64) : x * 2#64 = x <<< 1 := by
  apply BitVec.eq_of_toNat_eq
  rw [BitVec.toNat_shiftLeft, Nat.shiftLeft_eq, BitVec.toNat_mul]
  simp

namespace Bts
/-- a byte's number, bit by bit -/
def cval (l : Bits) (i : Nat) : Nat → Nat
  | 0 => 0
  | k + 1 => 2 * cval l i k + (if l.getD (i + k) false then 1 else 0)
theorem cval_le (l : Bits) (i k : Nat) : cval l i k < 2 ^ k := by
  induction k with
  | zero => simp [cval]
  | succ k ih => simp only [cval]; rw [Nat.pow_succ]; split <;> omega
theorem cval_eight : ∀ a b c d e f g h : Bool, BitVec.ofNat 8 (2 * (2 * (2 * (2 * (2 * (2 * (2 * (2 * 0 + (if a then 1 else 0)) + (if b then 1 else 0)) + (if c then 1 else 0)) + (if d then 1 else 0)) + (if e then 1 else 0)) + (if f then 1 else 0)) + (if g then 1 else 0)) + (if h then 1 else 0)) =
    (sel a 128#8 ||| sel b 64#8 ||| sel c 32#8 ||| sel d 16#8 ||| sel e 8#8 ||| sel f 4#8 ||| sel g 2#8 ||| sel h 1#8) := by decide +kernel
theorem cval_pack (l : Bits) (j : Nat) : BitVec.ofNat 8 (cval l (8 * j) 8) = packAt l j := by
  unfold packAt pk
  exact cval_eight _ _ _ _ _ _ _ _
theorem pack_take (l : Bits) (j : Nat) (h : j < (pack l).length) : (pack l).take (j + 1) = (pack l).take j ++ [packAt l j] := by
  rw [List.take_add_one, List.getElem?_eq_getElem h, pack_get]; rfl
end Bts

set_option maxRecDepth 4096 in
set_option maxHeartbeats 1600000 in
theorem ref_Bytes (a : Option Addr) (n c : Nat) (l : Bts.Bits) (B : Nat) (w : World) (hB : w.heap.size = B) (hr : RB w a n (Bts.asB l)) (hl : n ≤ 100000000) :
    Calls Try.prog 77 #[.slice a n c] w fun e w' => ∃ v, e = .returned v ∧ Own EU8 5 B w' v (Bts.pack l) ∧ Below B w w' := by
  subst hB
  obtain ⟨hn, hs⟩ := hr
  rw [Bts.asB_len] at hn
  have hb0 : Below w.heap.size w (w.alloc (.cells #[] 5)) := (Below.refl _ _).alloc (Nat.le_refl _) _
  have hpl := Bts.pack_len l
  have Hn := Lib.hid hn
  have Hpl := Lib.hid hpl
  clear hn hpl
  go_enter Try.func77, Try.ntmps77
  go_wp2_with fail
  go_loopw [3, 4] (fun v i wr => ∃ j : Nat, j ≤ (Bts.pack l).length ∧ i = .int .i64 ((8 * j : Nat) : Int) ∧ Own EU8 5 w.heap.size wr v ((Bts.pack l).take j) ∧ Below w.heap.size w wr) (fun _ i _ => n + 8 - (intOf i).toNat)
  case atStart => exact ⟨0, Nat.zero_le _, rfl, by simpa using own_empty EU8 5 w (by decide), hb0⟩
  case round =>
    obtain ⟨j, hj, rfl, ho, hb⟩ := hrel
    have hsr : SB wr a (Bts.asB l) := hs.below (by decide) hb
    obtain ⟨q, hq⟩ : ∃ q, q = 8 * j := ⟨_, rfl⟩
    rw [← hq]
    have Hq := Lib.hid hq
    clear hq
    by_cases hlt : q < n
    · have hji : (q : Int) < (n : Int) := by omega
      have hjp : j < (Bts.pack l).length := by have := Hpl.out; have := Hn.out; have := Hq.out; omega
      go_wp2_with fail
      go_loop [5, 6] (fun c k => ∃ t : Nat, t ≤ 8 ∧ k = .int .i64 t ∧ c = .int .i64 (Bts.cval l q t)) (fun _ k => 8 - (intOf k).toNat)
      case atStart => exact ⟨0, by omega, rfl, rfl⟩
      case round =>
        obtain ⟨t, ht, rfl, rfl⟩ := hrel
        have hcl := Bts.cval_le l q t
        have hp8 : 2 ^ t ≤ 2 ^ 8 := Nat.pow_le_pow_right (by decide) ht
        obtain ⟨cv, hcv⟩ : ∃ c, c = Bts.cval l q t := ⟨_, rfl⟩
        rw [← hcv] at hcl ⊢
        have Hcv := Lib.hid hcv
        clear hcv
        have hc256 : cv < 256 := by omega
        clear hcl hp8
        by_cases ht8 : t < 8
        · have hti : (t : Int) < 8 := by omega
          by_cases hin : q + t < n
          · have hini : (q : Int) + (t : Int) < (n : Int) := by omega
            have hint : ((q : Int) + (t : Int)).toNat = q + t := by omega
            have hin0 : (0 : Int) ≤ (q : Int) + (t : Int) := by omega
            obtain ⟨bb, oo, rfl, cb⟩ := SB.at hsr (q + t) (by rw [Bts.asB_len, ← Hn.out]; exact hin)
            have hlt2 : q + t < l.length := by rw [← Hn.out]; exact hin
            have hget : (Bts.asB l)[q + t]'(by rw [Bts.asB_len]; exact hlt2) = Bts.bt l[q + t] := by simp [Bts.asB]
            rw [hget] at cb
            have hgd : l.getD (q + t) false = l[q + t] := by simp [List.getD, hlt2]
            have Hgd := Lib.hid hgd
            clear hget hgd
            cases hx : l[q + t]
            · rw [hx] at cb Hgd
              have hbv : bv (Bts.bt false) = (0 : Int) := rfl
              rw [hbv] at cb
              clear hx hbv
              go_wp2_with fail
              go_round
              case rel => exact ⟨t + 1, by omega, by go_num, by simp only [Bts.cval]; rw [Hgd.out, ← Hcv.out]; simp⟩
              case measure => simp [intOf]; omega
            · rw [hx] at cb Hgd
              have hbv : bv (Bts.bt true) = (1 : Int) := rfl
              rw [hbv] at cb
              clear hx hbv
              go_wp2_with fail
              go_round
              case rel => exact ⟨t + 1, by omega, by go_num, by simp only [Bts.cval]; rw [Hgd.out, ← Hcv.out]; simp⟩
              case measure => simp [intOf]; omega
          · have hini : ¬ ((q : Int) + (t : Int) < (n : Int)) := by omega
            have hgd : l.getD (q + t) false = false := by
              have : l[q + t]? = none := List.getElem?_eq_none (by have := Hn.out; omega)
              simp [List.getD, this]
            have Hgd := Lib.hid hgd
            clear hgd
            go_wp2_with fail
            go_round
            case rel => exact ⟨t + 1, by omega, by go_num, by simp only [Bts.cval]; rw [Hgd.out, ← Hcv.out]; simp⟩
            case measure => simp [intOf]; omega
        · obtain rfl : t = 8 := by omega
          have hpk : BitVec.ofNat 8 cv = Bts.packAt l j := by rw [Hcv.out, Hq.out]; exact Bts.cval_pack l j
          have hbv : bv (BitVec.ofNat 8 cv) = (cv : Int) := by unfold bv; rw [BitVec.toNat_ofNat]; omega
          have htk := Bts.pack_take l j hjp
          rw [← hpk] at htk
          have Htk := Lib.hid htk
          have hb1 : Below wr.heap.size wr (wr.alloc (.cells #[.int .u8 (bv (BitVec.ofNat 8 cv))] 5)) := (Below.refl _ _).alloc (Nat.le_refl _) _
          have ho1 := ho.below hb1
          have hsl : Sl EU8 (fun b => some b ≠ u3.ownBlock) (wr.alloc (.cells #[.int .u8 (bv (BitVec.ofNat 8 cv))] 5)) (some ⟨wr.heap.size, 0, none⟩) [BitVec.ofNat 8 cv] := sl_one (heap_alloc_new wr _) rfl ho.fresh
          rw [hbv] at hb1 ho1 hsl
          have hln : ((Bts.pack l).take j).length = j := by rw [List.length_take]; omega
          have hj2 : j ≤ 100000000 := by have := Hq.out; omega
          have Hln := Lib.hid hln
          clear htk hpk hln
          go_wp2_with (first
            | (refine wpList_app EU8 rfl rfl (by rfl) (by rfl) ti_bytes ho1 rfl hsl (by rw [Hln.out]; simp [maxLen]; omega) (by rw [Hln.out]; simp; omega) (by simp; have := hb.size; omega) ?_
               intro v2 w2 ho2 hg2 hv2 hb2))
          go_roundw
          case rel =>
            exact ⟨j + 1, by omega, by have := Hq.out; congr 1; omega, by rw [Htk.out]; exact ho2, (hb.alloc hb.size _).trans hb2⟩
          case measure => simp [intOf]; omega
    · have hji : ¬ ((q : Int) < (n : Int)) := by omega
      have hjl : j = (Bts.pack l).length := by have := Hpl.out; have := Hn.out; have := Hq.out; omega
      rw [List.take_of_length_le (by omega)] at ho
      go_wp2_with fail
      go_ret
      exact ⟨_, rfl, ho, hb⟩

end Go.Proofs.Ytmmgnbdngpkfcaa

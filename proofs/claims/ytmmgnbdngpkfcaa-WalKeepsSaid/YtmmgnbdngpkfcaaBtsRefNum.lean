
/-
  The document's own writer of numbers.
-/
import Derived.Test.YtmmgnbdngpkfcaaBtsRef
import Derived.Test.YtmmgnbdngpkfcaaMake
namespace Go.Proofs.Ytmmgnbdngpkfcaa
open Go.RowKit
set_option linter.unusedVariables false
set_option maxRecDepth 4096

namespace Bts
theorem aux_fuel : ∀ f y, y < 2 ^ f → Lib.bitLenAux (f + 1) y = Lib.bitLenAux f y := by
  intro f
  induction f with
  | zero => intro y hy; simp at hy; subst hy; rfl
  | succ f ih =>
    intro y hy
    have e1 : Lib.bitLenAux (f + 1 + 1) y = if y = 0 then 0 else 1 + Lib.bitLenAux (f + 1) (y / 2) := rfl
    have e2 : Lib.bitLenAux (f + 1) y = if y = 0 then 0 else 1 + Lib.bitLenAux f (y / 2) := rfl
    rw [e1, e2, ih (y / 2) (by rw [Nat.pow_succ] at hy; omega)]
theorem len_half (y : Nat) (h0 : y ≠ 0) (hy : y < 2 ^ 64) : len y = 1 + len (y / 2) := by
  unfold len Lib.bitLen
  have h2 : y / 2 < 2 ^ 63 := by omega
  have e : Lib.bitLenAux 64 y = if y = 0 then 0 else 1 + Lib.bitLenAux 63 (y / 2) := rfl
  rw [aux_fuel 63 (y / 2) h2, e, if_neg h0]
theorem asB_zeros (n : Nat) : asB (zeros n) = List.replicate n 0#8 := by simp [asB, zeros, bt]
end Bts

set_option maxRecDepth 4096 in
set_option maxHeartbeats 1600000 in
theorem ref_Num (x : BitVec 64) (B : Nat) (w : World) (hB : w.heap.size = B) :
    Calls Try.prog 78 #[.int .u64 (bv x)] w fun e w' => ∃ v, e = .returned v ∧ Own EU8 5 B w' v (Bts.asB (Bts.num x)) ∧ Below B w w' := by
  subst hB
  by_cases hx : x = BitVec.allOnes 64
  · subst hx
    have hbx : bv (BitVec.allOnes 64) = 18446744073709551615 := by decide
    have hmk := run_make_row' (P := Try.prog) 49 5 (.int .u8 0) 1 Try.underlying49 (by kernel_rfl) rfl .i64 .i64 64 (by decide) (by decide)
    have hmk' : ∀ w : World, (Instr.makeSlice 49 (.int .i64 64) (.int .i64 64)).run Try.prog w = .ok (.slice (some ⟨w.heap.size, 0, none⟩) 64 64) (w.alloc (.cells (madeCells #[.int .u8 0] 64) 5)) := fun w => hmk w
    clear hmk
    have ho1 := own_made 5 w 64 (by decide)
    obtain ⟨C, hC⟩ : ∃ C, C = madeCells #[.int .u8 0] 64 := ⟨_, rfl⟩
    rw [← hC] at hmk' ho1
    clear hC
    obtain ⟨w1, hw1⟩ : ∃ x, x = w.alloc (.cells C 5) := ⟨_, rfl⟩
    rw [← hw1] at ho1
    have hb1 : Below w.heap.size w w1 := by rw [hw1]; exact (Below.refl _ _).alloc (Nat.le_refl _) _
    have hb2 : Below w1.heap.size w1 (w1.alloc (.cells #[.int .u8 (bv 1#8)] 5)) := (Below.refl _ _).alloc (Nat.le_refl _) _
    have ho2 := ho1.below hb2
    have hsl : Sl EU8 (fun b => some b ≠ (Value.slice (some ⟨w.heap.size, 0, none⟩) 64 64).ownBlock) (w1.alloc (.cells #[.int .u8 (bv 1#8)] 5)) (some ⟨w1.heap.size, 0, none⟩) [1#8] :=
      sl_one (heap_alloc_new w1 _) rfl ho1.fresh
    have h1 : bv (1#8) = (1 : Int) := rfl
    rw [h1] at hb2 ho2 hsl
    have hbw2 := hb1.trans (hb2.mono hb1.size)
    have hz1 : w1.heap.size = w.heap.size + 1 := by rw [hw1]; simp
    rw [hz1] at hsl
    have Hw1 := Lib.hid hw1
    clear hw1 h1 hz1
    go_enter Try.func78, Try.ntmps78
    go_wp2_with (first
      | (rw [← Hw1.out]
         refine wpList_app EU8 rfl rfl (by rfl) (by rfl) ti_bytes ho2 rfl hsl (by simp [maxLen]) (by simp) hbw2.size ?_
         intro v3 w3 ho3 hg3 hv3 hb3
         have hbw3 := hbw2.trans hb3)
      | (refine wpList_app0 (m := 64) EU8 rfl rfl (by rfl) (by rfl) rfl ti_bytes Try.underlying3 zero_byte ho3 (by decide) (by simp [maxLen]) (by simp) hbw3.size ?_
         intro v4 w4 ho4 hg4 hv4 hb4))
    go_ret
    refine ⟨_, rfl, ?_, hbw3.trans hb4⟩
    have e : Bts.num (BitVec.allOnes 64) = Bts.zeros 64 ++ ([true] ++ Bts.zeros 64) := by unfold Bts.num; rw [if_pos rfl]
    rw [e, Bts.asB_app, Bts.asB_app, Bts.asB_zeros, ← List.append_assoc]
    exact ho4
  · have hbx : (bv x == 18446744073709551615) = false := by
      have := bv_beq x (BitVec.allOnes 64)
      rw [show bv (BitVec.allOnes 64) = 18446744073709551615 by decide] at this
      rw [this]; simpa using hx
    obtain ⟨Y, hY⟩ : ∃ Y, Y = x + 1#64 := ⟨_, rfl⟩
    obtain ⟨n, hn⟩ : ∃ n, n = Bts.len Y.toNat := ⟨_, rfl⟩
    have hY0 : Y ≠ 0#64 := by
      intro h0
      apply hx
      rw [hY] at h0
      have := congrArg BitVec.toNat h0
      apply BitVec.eq_of_toNat_eq
      simp at this ⊢
      have := x.isLt; omega
    have hls := Bts.len_spec Y hY0
    rw [← hn] at hls
    have hnum : Bts.num x = Bts.zeros (n - 1) ++ Bts.put Y n := by
      unfold Bts.num Bts.put
      rw [if_neg hx, ← hY, ← hn, show Bts.clamp (n : Int) = n by unfold Bts.clamp; omega]
    have hmk := run_make_row' (P := Try.prog) 49 5 (.int .u8 0) 1 Try.underlying49 (by kernel_rfl) rfl .i64 .i64 (n - 1) (by omega) (by omega)
    have hn1 : ((n - 1 : Nat) : Int) = (n : Int) - 1 := by omega
    rw [hn1] at hmk
    have Hn := Lib.hid hn
    have Hnum := Lib.hid hnum
    have hY2 : x + 1#64 = Y := hY.symm
    have hln : n ≤ 64 := hls.2.1
    have hln1 : 1 ≤ n := hls.1
    have Hn1 := Lib.hid hn1
    clear hn hnum hY hls hn1
    go_enter Try.func78, Try.ntmps78
    go_wp2_with fail
    go_loop [3, 4] (fun i y => ∃ k : Nat, k ≤ n ∧ i = .int .i64 k ∧ y = .int .u64 (bv (Y >>> k)) ∧ k + Bts.len (Y >>> k).toNat = n) (fun i _ => n - (intOf i).toNat)
    case atStart => exact ⟨0, Nat.zero_le _, rfl, by simp, by rw [Hn.out]; simp⟩
    case round =>
      obtain ⟨k, hk, rfl, rfl, hkn⟩ := hrel
      by_cases h0 : Y >>> k = 0#64
      · have hkn' : k = n := by rw [h0] at hkn; have : Bts.len (0#64 : BitVec 64).toNat = 0 := rfl; omega
        subst hkn'
        have hz : bv (0#64) = (0 : Int) := rfl
        rw [h0]
        simp only [hz]
        clear h0 hkn hY0
        have hoA : ∀ W : World, Own EU8 5 W.heap.size (W.alloc (.cells (madeCells #[.int .u8 0] (k - 1)) 5)) (.slice (some ⟨W.heap.size, 0, none⟩) (k - 1) (k - 1)) (List.replicate (k - 1) 0#8) := fun W => own_made 5 W (k - 1) (by unfold maxLen; omega)
        obtain ⟨C, hC⟩ : ∃ C, C = madeCells #[.int .u8 0] (k - 1) := ⟨_, rfl⟩
        rw [← hC] at hmk
        rw [← hC] at hoA
        clear hC
        have hb1 : Below w.heap.size w (w.alloc (.cells C 5)) := (Below.refl _ _).alloc (Nat.le_refl _) _
        have ho1' : Own EU8 5 w.heap.size (w.alloc (.cells C 5)).drew (.slice (some ⟨w.heap.size, 0, none⟩) (k - 1) (k - 1)) (List.replicate (k - 1) 0#8) := hoA w
        have Ho1 := Lib.hid ho1'
        have HoA := Lib.hid hoA
        clear ho1' hoA
        have hkw : IntKind.i64.wrap ((k : Int) - 1) = (k : Int) - 1 := IntWalk.i64_in _ (by omega)
        have hlen : (Bts.asB (Bts.put Y k)).length = k := by rw [Bts.asB_len]; unfold Bts.put; rw [Bts.low_len]; unfold Bts.clamp; omega
        have Hlen := Lib.hid hlen
        clear hlen
        go_wp2_with fail
        go_region_held3 (fun W => True) (trivial)
          ((first
            | (go_at_call 114; refine (ref_Put Y k w.heap.size _ (by rfl) (by omega)).mono ?_; rintro e w3 ⟨v3, rfl, ho3, hb3⟩; obtain ⟨a3, c3, rfl, hc3, hm3, hr3, ho3'⟩ := ho3.shape k Hlen.out.symm; have hsz : w.heap.size ≤ w3.heap.size := hb3.size)
            | (go_at_call 114; refine (ref_Put Y k (w.heap.size + 1) _ (by simp) (by omega)).mono ?_; rintro e w3 ⟨v3, rfl, ho3, hb3⟩; obtain ⟨a3, c3, rfl, hc3, hm3, hr3, ho3'⟩ := ho3.shape k Hlen.out.symm)
            | (refine step_app (l2 := Bts.asB (Bts.put Y k)) (m := k) (base := w.heap.size) EU8 (by rfl) (by rfl) (by rfl) ti_bytes ((HoA.out w3).base hsz) Hlen.out.symm (by exact hr3.2.mono (by decide) fun q _ hq => ⟨heap_alloc_old w3 _ hq, by simp [Value.ownBlock]; omega⟩) (by rw [Hlen.out]; simp [maxLen]; omega) (by rw [Hlen.out]; simp; omega) (by simp; omega) ?_; intro v4 w4 ho4 hg4 hv4 hb4; have hbx : Below w.heap.size w w4 := ((Below.refl _ _).drew.trans (hb3.alloc hb3.size _)).trans hb4)
            | (refine step_app (l2 := Bts.asB (Bts.put Y k)) (m := k) EU8 (by rfl) (by rfl) (by rfl) ti_bytes (Ho1.out.below (by simpa using hb3)) Hlen.out.symm (by exact ho3'.slB.mono (by decide) fun q hq _ => ⟨rfl, by simp [Value.ownBlock]; omega⟩) (by rw [Hlen.out]; simp [maxLen]; omega) (by rw [Hlen.out]; simp; omega) (by have := hb3.size; simp at this; omega) ?_; intro v4 w4 ho4 hg4 hv4 hb4; have hbx : Below w.heap.size w w4 := (hb1.drew.trans (hb3.mono (by omega))).trans hb4)))
        all_goals
          go_wp2_with fail
          go_ret
          rw [Hnum.out, Bts.asB_app, Bts.asB_zeros]
          exact ⟨_, rfl, ho4, hbx⟩
      · have hpos : 0 < bv (Y >>> k) := by
          unfold bv
          have : (Y >>> k).toNat ≠ 0 := fun e => h0 (BitVec.eq_of_toNat_eq (by simpa using e))
          omega
        have hh := Bts.len_half (Y >>> k).toNat (fun e => h0 (BitVec.eq_of_toNat_eq (by simpa using e))) (Y >>> k).isLt
        have hs : (Y >>> k) >>> 1 = Y >>> (k + 1) := by rw [BitVec.shiftRight_add]
        have hs2 : (Y >>> (k + 1)).toNat = (Y >>> k).toNat / 2 := by rw [← hs, BitVec.toNat_ushiftRight, Nat.shiftRight_eq_div_pow]
        have hkk : k + 1 + Bts.len (Y >>> (k + 1)).toNat = n := by rw [hs2]; omega
        have Hkk := Lib.hid hkk
        clear h0 hh hs2 hkn hkk
        go_wp2_with fail
        go_round
        case rel => exact ⟨k + 1, by have := Hkk.out; omega, by go_num, by first | rfl | rw [hs], Hkk.out⟩
        case measure => simp [intOf]; have := Hkk.out; omega
end Go.Proofs.Ytmmgnbdngpkfcaa

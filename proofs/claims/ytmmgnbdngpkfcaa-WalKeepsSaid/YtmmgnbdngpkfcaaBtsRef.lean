
/-
  The document's own writer of bits.
-/
import Derived.Test.YtmmgnbdngpkfcaaBtsItem
import Derived.Test.YtmmgnbdngpkfcaaBtsW
import Derived.Test.YtmmgnbdngpkfcaaZeros
namespace Go.Proofs.Ytmmgnbdngpkfcaa
open Go.RowKit
set_option linter.unusedVariables false
set_option maxRecDepth 4096

theorem own_u8 (te : TypeId) (w : World) (x : BitVec 8) : Own EU8 te w.heap.size (w.alloc (.cells #[.int .u8 (bv x)] te)) (.slice (some ⟨w.heap.size, 0, none⟩) 1 1) [x] := by
  refine .inr ⟨w.heap.size, 1, #[.int .u8 (bv x)], rfl, Nat.le_refl _, heap_alloc_new w _, Nat.le_refl _, by decide, rfl, fun k y hy => ?_⟩
  have hk : k = 0 := by have := (List.getElem?_eq_some_iff.1 hy).1; simp at this; exact this
  subst hk
  simp at hy; subst hy
  exact ⟨[.int .u8 (bv x)], rfl, fun j u hj => by
    have hj0 : j = 0 := by have := (List.getElem?_eq_some_iff.1 hj).1; simp at this; exact this
    subst hj0; simpa [EU8] using hj⟩
theorem zero_byte : ∀ i z, Try.prog.info? 5 = some i → i.zero = some z → ∀ ok W, EU8.rep ok W z.cells.toList (0#8) := by
  have hk : (Try.prog.info? 5).map (fun i => i.zero) = some (some (.int .u8 0)) := by kernel_rfl
  intro i z hi hz ok W
  rw [hi] at hk
  simp only [Option.map_some, Option.some.injEq] at hk
  rw [hz] at hk
  injection hk with hk
  subst hk
  simp [EU8, Value.cells, bv]
theorem low_bit (x : BitVec 64) (k : Nat) : (BitVec.setWidth 8 (x >>> k) &&& 1#8) = Bts.bt (x.getLsbD k) := by
  unfold Bts.bt
  apply BitVec.eq_of_getLsbD_eq
  intro i hi
  rw [BitVec.getLsbD_and, BitVec.getLsbD_setWidth, BitVec.getLsbD_ushiftRight, BitVec.getLsbD_one]
  by_cases h0 : i = 0
  · subst h0; cases x.getLsbD k <;> simp
  · cases x.getLsbD k <;> simp [h0, BitVec.getLsbD_one]

set_option maxRecDepth 4096 in
set_option maxHeartbeats 1600000 in
theorem ref_Put (x : BitVec 64) (n : Int) (B : Nat) (w : World) (hB : w.heap.size = B) (hn : -9223372036854775808 ≤ n ∧ n ≤ 9223372036854775807) :
    Calls Try.prog 114 #[.int .u64 (bv x), .int .i64 n] w fun e w' => ∃ v, e = .returned v ∧ Own EU8 5 B w' v (Bts.asB (Bts.put x n)) ∧ Below B w w' := by
  subst hB
  obtain ⟨m, hm⟩ : ∃ m, m = Bts.clamp n := ⟨_, rfl⟩
  have hm64 : m ≤ 64 := by rw [hm]; exact Bts.clamp_le n
  unfold Bts.put
  rw [← hm]
  obtain ⟨n', hn'⟩ : ∃ n' : Int, n' = min n 64 := ⟨_, rfl⟩
  have hnm : ∀ j : Nat, (j : Int) < n' ↔ j < m := fun j => by rw [hn', hm]; unfold Bts.clamp; omega
  have Hnm := Lib.hid hnm
  have Hn' := Lib.hid hn'
  clear hm hnm hn'
  have hb0 : Below w.heap.size w (w.alloc (.cells #[] 5)) := (Below.refl _ _).alloc (Nat.le_refl _) _
  go_enter Try.func114, Try.ntmps114
  go_upto_region 0 with fail
  go_upto_if 8 with fail
  go_cut [1] (fun s wx => s = .int .i64 n' ∧ wx = w)
  case first =>
    by_cases h : 64 < n
    · have h' : decide (64 < n) = true := by simpa using h
      go_wp2_with fail
      go_meet
      exact ⟨by rw [Hn'.out]; congr 1; omega, rfl⟩
    · have h' : decide (64 < n) = false := by simpa using h
      go_wp2_with fail
      go_meet
      exact ⟨by rw [Hn'.out]; congr 1; omega, rfl⟩
  obtain ⟨hs1, hwc⟩ := hcut
  subst hs1
  obtain ⟨wy, hwy⟩ : ∃ x, x = wc := ⟨_, rfl⟩
  subst hwy
  rw [hwc]
  clear hwc
  go_wp2_with fail
  go_loopw [0, 5, 6] (fun y v i wr => ∃ j : Nat, j ≤ m ∧ i = .int .i64 j ∧ y = .int .u64 (bv (x >>> j)) ∧ Own EU8 5 w.heap.size wr v (Bts.asB (Bts.low x j)) ∧ Below w.heap.size w wr) (fun _ _ i _ => m - (intOf i).toNat)
  case atStart => exact ⟨0, Nat.zero_le _, rfl, by simp, own_empty EU8 5 w (by decide), hb0⟩
  case round =>
    obtain ⟨j, hj, rfl, rfl, ho, hb⟩ := hrel
    by_cases hlt : j < m
    · have hji : (j : Int) < n' := (Hnm.out j).2 hlt
      obtain ⟨a, c, rfl, hc, hcm, hr, ho'⟩ := ho.shape j (by rw [Bts.asB_len, Bts.low_len])
      have hw1 : ∀ y : BitVec 8, Below wr.heap.size wr (wr.alloc (.cells #[.int .u8 (bv y)] 5)) := fun y => (Below.refl _ _).alloc (Nat.le_refl _) _
      have hsl : ∀ y : BitVec 8, Sl EU8 (fun b => some b ≠ (Value.slice (some ⟨wr.heap.size, 0, none⟩) 1 1).ownBlock) (wr.alloc (.cells #[.int .u8 (bv y)] 5)) a (Bts.asB (Bts.low x j)) := fun y =>
        hr.2.mono (by decide) fun k _ hk => ⟨heap_alloc_old wr _ hk, by simp [Value.ownBlock]; omega⟩
      have hown : ∀ y : BitVec 8, Own EU8 5 w.heap.size (wr.alloc (.cells #[.int .u8 (bv y)] 5)) (.slice (some ⟨wr.heap.size, 0, none⟩) 1 1) [y] := fun y => (own_u8 5 wr y).base hb.size
      have Hsl := Lib.hid hsl
      have Hown := Lib.hid hown
      have Hlen := Lib.hid (show (Bts.asB (Bts.low x j)).length = j by rw [Bts.asB_len, Bts.low_len])
      have hshr : (x >>> j) >>> 1 = x >>> (j + 1) := by rw [BitVec.shiftRight_add]
      clear hsl hown hw1
      go_wp2_with (first
        | (refine wpList_app EU8 rfl rfl (by rfl) (by rfl) ti_bytes (Hown.out _) Hlen.out.symm (Hsl.out _) (by rw [Hlen.out]; unfold maxLen; simp; omega) (by rw [Hlen.out]; simp; omega) (by simp; have := hb.size; omega) ?_
           intro v2 w2 ho2 hg2 hv2 hb2))
      go_roundw
      case rel =>
        refine ⟨j + 1, by omega, by go_num, by first | rfl | rw [hshr], ?_, (hb.alloc hb.size _).trans hb2⟩
        have e : Bts.asB (Bts.low x (j + 1)) = [Bts.bt (x.getLsbD j)] ++ Bts.asB (Bts.low x j) := rfl
        rw [e, ← low_bit]
        exact ho2
      case measure => simp [intOf]; omega
    · obtain rfl : j = m := by omega
      have hji : ¬ ((j : Int) < n') := fun h => by have := (Hnm.out j).1 h; omega
      go_wp2_with fail
      go_ret
      exact ⟨_, rfl, ho, hb⟩
end Go.Proofs.Ytmmgnbdngpkfcaa


/-
  The document's own reader of bits.
-/
import Derived.Test.YtdpopdgeipgheaaDoorBtsRefText
import Derived.Test.YtdpopdgeipgheaaDoorBtsRNum
namespace Go.Proofs.YtdpopdgeipgheaaDoor
open Go.RowKit
set_option linter.unusedVariables false
set_option maxRecDepth 4096

namespace Bts
theorem asB_get (l : Bits) (k : Nat) (h : k < l.length) : (asB l)[k]'(by rw [asB_len]; exact h) = bt l[k] := by simp [asB]
theorem bt64 (b : Bool) : BitVec.setWidth 64 (bt b) = if b then 1#64 else 0#64 := by cases b <;> rfl
/-- the same, from any number on -/
def valF (x : BitVec 64) (l : Bits) : BitVec 64 := l.foldl (fun (x : BitVec 64) (b : Bool) => x <<< 1 ||| (if b then 1#64 else 0#64)) x
theorem valF_take (x : BitVec 64) (l : Bits) (k : Nat) (h : k < l.length) : valF x (l.take (k + 1)) = (valF x (l.take k)) <<< 1 + BitVec.setWidth 64 (bt l[k]) := by
  rw [List.take_add_one, List.getElem?_eq_getElem h, Option.toList_some]
  unfold valF
  rw [List.foldl_append, List.foldl_cons, List.foldl_nil, bt64]
  generalize List.foldl _ _ _ = y
  cases l[k]
  · simp
  · apply BitVec.eq_of_toNat_eq
    simp only [if_true]
    rw [BitVec.toNat_or, BitVec.toNat_add, BitVec.toNat_shiftLeft, Nat.shiftLeft_eq]
    have e : (1#64 : BitVec 64).toNat = 1 := rfl
    rw [e]
    have h1 : y.toNat * 2 ^ 1 % 2 ^ 64 = 2 ^ 1 * (y.toNat % 2 ^ 63) := by
      have := y.isLt; omega
    rw [h1, ← Nat.two_pow_add_eq_or_of_lt (i := 1) (b := 1) (by decide)]
    have := y.isLt
    omega
theorem valF_eq (x : BitVec 64) (l : Bits) : valF x l = x <<< l.length ||| val l := val_fold l x
theorem valF_zero (l : Bits) : valF 0#64 l = val l := rfl
end Bts

set_option maxRecDepth 4096 in
set_option maxHeartbeats 800000 in
theorem ref_value (a : Option Addr) (n c : Nat) (l : Bts.Bits) (w : World) (hr : RB w a n (Bts.asB l)) (hl : n ≤ 100000000) :
    Calls Tryd.prog 46 #[.slice a n c] w fun e w' => e = .returned (.int .u64 (bv (Bts.val l))) ∧ w = w' := by
  obtain ⟨hn, hs⟩ := hr
  rw [Bts.asB_len] at hn
  subst hn
  go_enter Tryd.func46, Tryd.ntmps46
  go_wp2_with fail
  go_loop [3, 8] (fun x i => ∃ k : Nat, k ≤ l.length ∧ i = .int .i64 k ∧ x = .int .u64 (bv (Bts.valF 0#64 (l.take k)))) (fun _ i => l.length - (intOf i).toNat)
  case atStart => exact ⟨0, Nat.zero_le _, rfl, rfl⟩
  case round =>
    obtain ⟨k, hk, rfl, rfl⟩ := hrel
    by_cases hlt : k < l.length
    · have hki : (k : Int) < (l.length : Int) := by omega
      obtain ⟨bb, oo, rfl, cb⟩ := SB.at hs k (by rw [Bts.asB_len]; exact hlt)
      rw [Bts.asB_get l k hlt] at cb
      have hvt := Bts.valF_take 0#64 l k hlt
      obtain ⟨y, hy⟩ : ∃ y, y = Bts.valF 0#64 (l.take k) := ⟨_, rfl⟩
      rw [← hy] at hvt ⊢
      obtain ⟨c0, hc0⟩ : ∃ c, c = Bts.bt l[k] := ⟨_, rfl⟩
      rw [← hc0] at hvt cb
      have Hvt := Lib.hid hvt
      have h2 : ∀ z : BitVec 64, BitVec.ofInt 64 (2 * bv z) = z <<< 1 := fun z => by rw [Int.mul_comm]; rw [shl1]; simp
      clear hvt hy hc0
      go_wp2_with fail
      go_round
      case rel => exact ⟨k + 1, by omega, by go_num, by rw [Hvt.out]⟩
      case measure => simp [intOf]; omega
    · obtain rfl : k = l.length := by omega
      rw [List.take_length]
      go_wp2_with fail
      go_ret
      exact ⟨rfl, rfl⟩

set_option maxRecDepth 4096 in
set_option maxHeartbeats 800000 in
theorem ref_Bits (a : Option Addr) (n c : Nat) (b : List (BitVec 8)) (B : Nat) (w : World) (hB : w.heap.size = B) (hr : RB w a n b) (hl : n ≤ 1000000) :
    Calls Tryd.prog 39 #[.slice a n c] w fun e w' => ∃ v, e = .returned v ∧ Own EU8 5 B w' v (Bts.asB (Bts.bitsOf b)) ∧ Below B w w' := by
  subst hB
  obtain ⟨rfl, hs⟩ := hr
  have hb0 : Below w.heap.size w (w.alloc (.cells #[] 5)) := (Below.refl _ _).alloc (Nat.le_refl _) _
  go_enter Tryd.func39, Tryd.ntmps39
  go_wp2_with fail
  go_loopw [3, 8] (fun v i wr => ∃ k : Nat, k ≤ b.length ∧ i = .int .i64 k ∧ Own EU8 5 w.heap.size wr v (Bts.asB (Bts.bitsOf (b.take k))) ∧ Below w.heap.size w wr) (fun _ i _ => b.length - (intOf i).toNat)
  case atStart => exact ⟨0, Nat.zero_le _, rfl, own_empty EU8 5 w (by decide), hb0⟩
  case round =>
    obtain ⟨k, hk, rfl, ho, hb⟩ := hrel
    have hsr : SB wr a b := hs.below (by decide) hb
    by_cases hlt : k < b.length
    · have hki : (k : Int) < (b.length : Int) := by omega
      obtain ⟨bb, oo, rfl, cb⟩ := SB.at hsr k hlt
      have htk : Bts.asB (Bts.bitsOf (b.take k)) ++ Bts.asB (Bts.put ((b[k]).setWidth 64) 8) = Bts.asB (Bts.bitsOf (b.take (k + 1))) := by
        rw [← Bts.asB_app, List.take_add_one, List.getElem?_eq_getElem hlt, Bts.bitsOf_app]
        rw [Option.toList_some, Bts.bitsOf_cons, Bts.bitsOf_nil, List.append_nil]
        rfl
      have hl1 : (Bts.asB (Bts.bitsOf (b.take k))).length ≤ 8000000 := by rw [Bts.asB_len, Bts.bitsOf_len, List.length_take]; omega
      have hl2 : (Bts.asB (Bts.put ((b[k]).setWidth 64) 8)).length = 8 := by rw [Bts.asB_len]; exact Bts.low_len _ _
      obtain ⟨y, hy⟩ : ∃ y, y = b[k] := ⟨_, rfl⟩
      rw [← hy] at htk hl2 cb
      have Htk := Lib.hid htk
      have Hl2 := Lib.hid hl2
      clear htk hl2 hy
      go_wp2_with fail
      refine (ref_Put (y.setWidth 64) 8 wr.heap.size _ (by rfl) (by decide)).mono ?_
      rintro e w2 ⟨v2, rfl, ho2, hb2⟩
      obtain ⟨a2, c2, rfl, hc2, hm2, hr2, ho2'⟩ := ho2.shape 8 Hl2.out.symm
      have ho' := ho.below hb2
      have hsl : Sl EU8 (fun q => some q ≠ u3.ownBlock) w2 a2 (Bts.asB (Bts.put (y.setWidth 64) 8)) := ho2'.slB.mono (by decide) fun q hq _ => ⟨rfl, fun e => by have := (ho.lt q e.symm).2; omega⟩
      have hbw2 := hb.trans (hb2.mono hb.size)
      go_wp2_with (first
        | (refine wpList_app EU8 rfl rfl (by rfl) (by rfl) ti_bytes ho' Hl2.out.symm hsl (by rw [Hl2.out]; unfold maxLen; omega) (by rw [Hl2.out]; omega) hbw2.size ?_
           intro v3 w3 ho3 hg3 hv3 hb3))
      go_roundw
      case rel => exact ⟨k + 1, by omega, by go_num, by rw [← Htk.out]; exact ho3, hbw2.trans hb3⟩
      case measure => simp [intOf]; omega
    · obtain rfl : k = b.length := by omega
      rw [List.take_length] at ho
      go_wp2_with fail
      go_ret
      exact ⟨_, rfl, ho, hb⟩

set_option maxRecDepth 4096 in
set_option maxHeartbeats 800000 in
theorem ref_Get (a : Option Addr) (n c : Nat) (l : Bts.Bits) (i : Int) (w : World) (hr : RB w a n (Bts.asB l)) (hc : n ≤ c) (hl : n ≤ 100000000) (hi : -9223372036854775808 ≤ i ∧ i ≤ 9223372036854775807) :
    Calls Tryd.prog 41 #[.slice a n c, .int .i64 i] w fun e w' => e = .returned (if l.length < Bts.clamp i then .tuple #[.int .u64 0, .int .i64 0, .int .i64 10] else .tuple #[.int .u64 (bv (Bts.val (l.take (Bts.clamp i)))), .int .i64 (Bts.clamp i), .int .i64 0]) ∧ w = w' := by
  obtain ⟨m, hm⟩ : ∃ m, m = Bts.clamp i := ⟨_, rfl⟩
  rw [← hm]
  have hm64 : m ≤ 64 := by rw [hm]; exact Bts.clamp_le i
  have Hm := Lib.hid hm
  have hn : n = l.length := by rw [hr.1, Bts.asB_len]
  obtain ⟨res, hres⟩ : ∃ x, x = (if l.length < m then Value.tuple #[.int .u64 0, .int .i64 0, .int .i64 10] else .tuple #[.int .u64 (bv (Bts.val (l.take m))), .int .i64 m, .int .i64 0]) := ⟨_, rfl⟩
  rw [← hres]
  rw [← hn] at hres
  have Hres := Lib.hid hres
  have Hn := Lib.hid hn
  clear hm hres hn
  have hmc := Hm.out
  unfold Bts.clamp at hmc
  by_cases h0 : i < 0
  · have h0' : decide (i < 0) = true := by simpa using h0
    obtain rfl : m = 0 := by omega
    clear hmc
    go_enter Tryd.func41, Tryd.ntmps41
    by_cases hlt : n < 0
    · have hlt' : (n : Int) < 0 := by omega
      go_wp2_with fail
      refine bodyPost_ret (v := .tuple #[.int .u64 0, .int .i64 0, .int .i64 10]) (by simp [results, Tryd.results41, go_sem]) rfl ?_
      rw [Hres.out, if_pos hlt]
      exact ⟨rfl, rfl⟩
    · have hlt' : ¬ ((n : Int) < 0) := by omega
      have hmc : (0 : Int) ≤ (c : Int) := by omega
      have r1 : RB w a 0 (Bts.asB (l.take 0)) := by
        have := RB.take hr.2 (k := 0) (by rw [← hr.1]; omega)
        have e : (Bts.asB l).take 0 = Bts.asB (l.take 0) := by simp [Bts.asB]
        rw [e] at this; exact this
      go_wp2_with fail
      refine (ref_value a 0 c (l.take 0) _ r1 (by omega)).mono ?_
      rintro e w2 ⟨rfl, rfl⟩
      go_wp2_with fail
      refine bodyPost_ret (v := .tuple #[.int .u64 (bv (Bts.val (l.take 0))), .int .i64 0, .int .i64 0]) (by simp [results, Tryd.results41, go_sem]) rfl ?_
      rw [Hres.out, if_neg hlt]
      exact ⟨rfl, rfl⟩
  · have h0' : decide (i < 0) = false := by simpa using h0
    by_cases h64 : 64 < i
    · have h64' : decide (64 < i) = true := by simpa using h64
      obtain rfl : m = 64 := by omega
      clear hmc
      go_enter Tryd.func41, Tryd.ntmps41
      by_cases hlt : n < 64
      · have hlt' : (n : Int) < 64 := by omega
        go_wp2_with fail
        refine bodyPost_ret (v := .tuple #[.int .u64 0, .int .i64 0, .int .i64 10]) (by simp [results, Tryd.results41, go_sem]) rfl ?_
        rw [Hres.out, if_pos hlt]
        exact ⟨rfl, rfl⟩
      · have hlt' : ¬ ((n : Int) < 64) := by omega
        have hmc : (64 : Int) ≤ (c : Int) := by omega
        have r1 : RB w a 64 (Bts.asB (l.take 64)) := by
          have := RB.take hr.2 (k := 64) (by rw [← hr.1]; omega)
          have e : (Bts.asB l).take 64 = Bts.asB (l.take 64) := by simp [Bts.asB]
          rw [e] at this; exact this
        go_wp2_with fail
        refine (ref_value a 64 c (l.take 64) _ r1 (by omega)).mono ?_
        rintro e w2 ⟨rfl, rfl⟩
        go_wp2_with fail
        refine bodyPost_ret (v := .tuple #[.int .u64 (bv (Bts.val (l.take 64))), .int .i64 64, .int .i64 0]) (by simp [results, Tryd.results41, go_sem]) rfl ?_
        rw [Hres.out, if_neg hlt]
        exact ⟨rfl, rfl⟩
    · have h64' : decide (64 < i) = false := by simpa using h64
      obtain rfl : i = (m : Int) := by omega
      clear hmc
      go_enter Tryd.func41, Tryd.ntmps41
      by_cases hlt : n < m
      · have hlt' : (n : Int) < (m : Int) := by omega
        go_wp2_with fail
        refine bodyPost_ret (v := .tuple #[.int .u64 0, .int .i64 0, .int .i64 10]) (by simp [results, Tryd.results41, go_sem]) rfl ?_
        rw [Hres.out, if_pos hlt]
        exact ⟨rfl, rfl⟩
      · have hlt' : ¬ ((n : Int) < (m : Int)) := by omega
        have hmc : (m : Int) ≤ (c : Int) := by omega
        have r1 : RB w a m (Bts.asB (l.take m)) := by
          have := RB.take hr.2 (k := m) (by rw [← hr.1]; omega)
          have e : (Bts.asB l).take m = Bts.asB (l.take m) := by simp [Bts.asB]
          rw [e] at this; exact this
        go_wp2_with fail
        refine (ref_value a m c (l.take m) _ r1 (by omega)).mono ?_
        rintro e w2 ⟨rfl, rfl⟩
        go_wp2_with fail
        refine bodyPost_ret (v := .tuple #[.int .u64 (bv (Bts.val (l.take m))), .int .i64 m, .int .i64 0]) (by simp [results, Tryd.results41, go_sem]) rfl ?_
        rw [Hres.out, if_neg hlt]
        exact ⟨rfl, rfl⟩
end Go.Proofs.YtdpopdgeipgheaaDoor


/-
  What the functions of the check sum compute, and how bytes are copied and compared.
-/
import Derived.Test.YtmmgnbdngpkfcaaRows
import Derived.Test.YtmmgnbdngpkfcaaMem
import Derived.Test.YtmmgnbdngpkfcaaCrc
import Derived.Test.YtmmgnbdngpkfcaaRef01
namespace Go.Proofs.Ytmmgnbdngpkfcaa
open Go.RowKit
set_option linter.unusedVariables false

set_option maxHeartbeats 400000 in
theorem crc_More (s : BitVec 32) (a : Option Addr) (n cap : Nat) (l : List (BitVec 8)) (w : World) (hr : RB w a n l) (hl : n ≤ maxLen) :
    Calls Try.prog 125 #[.int .u32 (bv s), .slice a n cap] w fun e w' => e = .returned (.int .u32 (bv (Crc.more s l))) ∧ w = w' := by
  obtain ⟨rfl, hs⟩ := hr
  unfold maxLen at hl
  go_enter Try.func125, Try.ntmps125
  go_wp2
  go_loop [5, 12] (fun x i => ∃ k : Nat, k ≤ l.length ∧ i = .int .i64 k ∧ x = .int .u32 (bv (Crc.run (~~~s) (l.take k)))) (fun _ i => l.length - (intOf i).toNat)
  case atStart => exact ⟨0, Nat.zero_le _, rfl, rfl⟩
  case round =>
    obtain ⟨k, hk, rfl, rfl⟩ := hrel
    by_cases hlt : k < l.length
    · obtain ⟨b, o, rfl, hc⟩ := SB.at hs k hlt
      have hsn := Lib.hid (Crc.run_snoc (~~~s) l k hlt)
      go_wp2
      go_loop [5, 20] (fun x i => ∃ j : Nat, j ≤ 8 ∧ i = .int .i64 j ∧ x = .int .u32 (bv (Crc.steps j (Crc.run (~~~s) (l.take k) ^^^ (l[k]).setWidth 32)))) (fun _ i => 8 - (intOf i).toNat)
      case atStart => exact ⟨0, by omega, rfl, rfl⟩
      case round =>
        obtain ⟨j, hj, rfl, rfl⟩ := hrel
        by_cases hlj : j < 8
        · go_wp2
          go_round
          case rel => exact ⟨j + 1, by omega, by go_num, by simp [Crc.steps, Crc.step]⟩
          case measure => simp [intOf]; omega
        · have hj8 : j = 8 := by omega
          subst hj8
          go_wp2
          go_round
          case rel => exact ⟨k + 1, by omega, by go_num, by rw [hsn.out]; rfl⟩
          case measure => simp [intOf]; omega
    · have hkl : k = l.length := by omega
      subst hkl
      go_wp2
      go_ret
      exact ⟨by simp [Crc.more], rfl⟩

theorem crc_Sum (a : Option Addr) (n cap : Nat) (l : List (BitVec 8)) (w : World) (hs : RB w a n l) (hl : n ≤ maxLen) :
    Calls Try.prog 124 #[.slice a n cap] w fun e w' => e = .returned (.int .u32 (bv (Crc.sum l))) ∧ w = w' := by
  go_enter Try.func124, Try.ntmps124
  go_wp2_with (go_at_call 125; refine (crc_More 0#32 a n cap l _ hs hl).mono ?_; rintro e w' ⟨rfl, rfl⟩)
  go_ret
  exact ⟨rfl, rfl⟩
/-- a fixed array of bytes, as its four cells -/
def arr (l : List (BitVec 8)) : Value := .agg (l.map fun c => Value.int .u8 (bv c)).toArray

set_option maxHeartbeats 400000 in
theorem ref_More (s : BitVec 32) (a : Option Addr) (n cap : Nat) (l : List (BitVec 8)) (w : World) (hr : RB w a n l) (hl : n ≤ maxLen) :
    Calls Try.prog 142 #[.int .u32 (bv s), .slice a n cap] w fun e w' => e = .returned (.int .u32 (bv (Crc.more s l))) ∧ w = w' := by
  obtain ⟨rfl, hs⟩ := hr
  unfold maxLen at hl
  go_enter Try.func142, Try.ntmps142
  go_wp2
  go_loop [5, 13] (fun x i => ∃ k : Nat, k ≤ l.length ∧ i = .int .i64 k ∧ x = .int .u32 (bv (Crc.run (~~~s) (l.take k)))) (fun _ i => l.length - (intOf i).toNat)
  case atStart => exact ⟨0, Nat.zero_le _, rfl, rfl⟩
  case round =>
    obtain ⟨k, hk, rfl, rfl⟩ := hrel
    by_cases hlt : k < l.length
    · obtain ⟨b, o, rfl, hc⟩ := SB.at hs k hlt
      have hsn := Lib.hid (Crc.run_snoc (~~~s) l k hlt)
      go_wp2
      go_loop [5, 7] (fun x i => ∃ j : Nat, j ≤ 8 ∧ i = .int .i64 j ∧ x = .int .u32 (bv (Crc.steps j (Crc.run (~~~s) (l.take k) ^^^ (l[k]).setWidth 32)))) (fun _ i => 8 - (intOf i).toNat)
      case atStart => exact ⟨0, by omega, rfl, rfl⟩
      case round =>
        obtain ⟨j, hj, rfl, rfl⟩ := hrel
        by_cases hlj : j < 8
        · cases hodd : (Crc.steps j (Crc.run (~~~s) (l.take k) ^^^ (l[k]).setWidth 32) &&& 1#32 == 1#32)
          · have he := Lib.hid (Crc.step_even _ hodd)
            go_wp2
            go_round
            case rel => exact ⟨j + 1, by omega, by go_num, by rw [Crc.steps, he.out]⟩
            case measure => simp [intOf]; omega
          · have he := Lib.hid (Crc.step_odd _ hodd)
            go_wp2
            go_round
            case rel => exact ⟨j + 1, by omega, by go_num, by rw [Crc.steps, he.out]⟩
            case measure => simp [intOf]; omega
        · have hj8 : j = 8 := by omega
          subst hj8
          go_wp2
          go_round
          case rel => exact ⟨k + 1, by omega, by go_num, by rw [hsn.out]; rfl⟩
          case measure => simp [intOf]; omega
    · have hkl : k = l.length := by omega
      subst hkl
      go_wp2
      go_ret
      exact ⟨by simp [Crc.more], rfl⟩

theorem ref_Sum (a : Option Addr) (n cap : Nat) (l : List (BitVec 8)) (w : World) (hs : RB w a n l) (hl : n ≤ maxLen) :
    Calls Try.prog 113 #[.slice a n cap] w fun e w' => e = .returned (.int .u32 (bv (Crc.sum l))) ∧ w = w' := by
  go_enter Try.func113, Try.ntmps113
  go_wp2_with (go_at_call 142; refine (ref_More 0#32 a n cap l _ hs hl).mono ?_; rintro e w' ⟨rfl, rfl⟩)
  go_ret
  exact ⟨rfl, rfl⟩

end Go.Proofs.Ytmmgnbdngpkfcaa

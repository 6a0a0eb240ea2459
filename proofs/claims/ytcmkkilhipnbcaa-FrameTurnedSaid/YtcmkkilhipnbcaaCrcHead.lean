/-
  The document's example of a check sum, and the readers of bytes.
-/
import Derived.Test.YtcmkkilhipnbcaaCrcWalks
import Derived.Test.YtcmkkilhipnbcaaOpen
import Derived.Lib.SlBytesConst
namespace Go.Proofs.Ytcmkkilhipnbcaa
open Go.RowKit
set_option linter.unusedVariables false

theorem reads_bytes : Reads Try.prog 22 EBytes (bulkL (fun _ => 1)) := reads_slice (by decide) Try.underlying22 (by kernel_rfl) (reads_u8 Try.underlying5)

theorem sb_lit (w w' : World) (te g o : Nat) (cs : Array Value) (l : List (BitVec 8)) (fr : Nat × Nat) (h : w.heap[g]? = some (.cells cs te fr)) (hc : cs.toList = l.map fun c => Value.int .u8 (bv c)) : SB w (some ⟨g, 0, none⟩) l := by
  intro k x hx
  refine ⟨g, 0, rfl, trivial, [.int .u8 (bv x)], rfl, fun j v hj => ?_⟩
  have hj0 : j = 0 := by
    have := (List.getElem?_eq_some_iff.1 hj).1
    simp at this; exact this
  subst hj0
  simp at hj; subst hj
  have : cs[k]? = some (.int .u8 (bv x)) := by
    rw [← Array.getElem?_toList, hc, List.getElem?_map, hx]; rfl
  simp [World.cell?, h, EU8, this]

theorem eq_arr4 (a0 a1 a2 a3 b0 b1 b2 b3 : BitVec 8) (w : World) :
    (Op.equalIn 10000 36 (.agg #[.int .u8 (bv a0), .int .u8 (bv a1), .int .u8 (bv a2), .int .u8 (bv a3)]) (.agg #[.int .u8 (bv b0), .int .u8 (bv b1), .int .u8 (bv b2), .int .u8 (bv b3)])).run Try.prog w = .ok ([a0, a1, a2, a3] == [b0, b1, b2, b3]) w := by
  obtain ⟨i, z, hi, _⟩ := ti_bytes.info
  have hp : ∀ (xs : Array Value) (j : Nat) (v : Value), xs[j]? = some v → (part 5 xs j).run Try.prog w = .ok v w := fun xs j v h1 => by
    simp [part, isAgg, run_underlying Try.underlying5, h1]
  have hq : ∀ (x y : BitVec 8), (Op.equalIn 9999 5 (.int .u8 (bv x)) (.int .u8 (bv y))).run Try.prog w = .ok (x == y) w := fun x y => by
    rw [show (9999 : Nat) = 9998 + 1 from rfl, run_equalIn_int w 9998 5 .u8 .u8 (bv x) (bv y) Try.underlying5, bv_beq]
  rw [show (10000 : Nat) = 9999 + 1 from rfl, run_equalIn_array w 9999 _ _ Try.underlying36 hi]
  have hc : Try.prog.cellsOf 5 = 1 := by kernel_rfl
  rw [hc]
  show (Op.eqItems 9999 5 1 _ _ [0, 1, 2, 3]).run Try.prog w = _
  have pa0 := hp (#[Value.int .u8 (bv a0), .int .u8 (bv a1), .int .u8 (bv a2), .int .u8 (bv a3)] : Array Value) 0 _ rfl
  have pa1 := hp (#[Value.int .u8 (bv a0), .int .u8 (bv a1), .int .u8 (bv a2), .int .u8 (bv a3)] : Array Value) 1 _ rfl
  have pa2 := hp (#[Value.int .u8 (bv a0), .int .u8 (bv a1), .int .u8 (bv a2), .int .u8 (bv a3)] : Array Value) 2 _ rfl
  have pa3 := hp (#[Value.int .u8 (bv a0), .int .u8 (bv a1), .int .u8 (bv a2), .int .u8 (bv a3)] : Array Value) 3 _ rfl
  have pb0 := hp (#[Value.int .u8 (bv b0), .int .u8 (bv b1), .int .u8 (bv b2), .int .u8 (bv b3)] : Array Value) 0 _ rfl
  have pb1 := hp (#[Value.int .u8 (bv b0), .int .u8 (bv b1), .int .u8 (bv b2), .int .u8 (bv b3)] : Array Value) 1 _ rfl
  have pb2 := hp (#[Value.int .u8 (bv b0), .int .u8 (bv b1), .int .u8 (bv b2), .int .u8 (bv b3)] : Array Value) 2 _ rfl
  have pb3 := hp (#[Value.int .u8 (bv b0), .int .u8 (bv b1), .int .u8 (bv b2), .int .u8 (bv b3)] : Array Value) 3 _ rfl
  cases h0 : (a0 == b0) <;> cases h1 : (a1 == b1) <;> cases h2 : (a2 == b2) <;> cases h3 : (a3 == b3) <;> simp [Op.eqItems, hq, pa0, pa1, pa2, pa3, pb0, pb1, pb2, pb3, h0, h1, h2, h3]

def digits : List (BitVec 8) := [49#8, 50#8, 51#8, 52#8, 53#8, 54#8, 55#8, 56#8, 57#8]
theorem digits_sum : Crc.sum digits = 3808858755#32 := by decide +kernel

set_option maxHeartbeats 400000 in
theorem crc_head (w : World) : Calls Try.prog 14 #[] w fun e w' => e = .returned (.bool true) ∧ Below w.heap.size w w' := by
  have hq := Lib.hid digits_sum
  have hs : ∀ cs : Array Value, cs.toList = (digits.map fun c => Value.int .u8 (bv c)) → SB (w.alloc (.cells cs 5 (9, 10))) (some ⟨w.heap.size, 0, none⟩) digits := fun cs hc =>
    sb_lit _ w 5 w.heap.size 0 cs digits (9, 10) (heap_alloc_new w _) hc
  have hcv := fun (w : World) (C : Array Value) (n c : Nat) => Lib.run_convert_bytes_const (P := Try.prog) w 22 5 C n c Try.underlying22 Try.underlying5
  go_enter Try.func14, Try.ntmps14
  go_wp2_with fail
  refine (crc_Sum _ 9 9 digits _ ⟨rfl, hs _ rfl⟩ (by decide)).mono ?_
  rintro e w' ⟨rfl, rfl⟩
  rw [hq.out]
  go_wp2
  go_ret
  exact ⟨by simp [bv], (Below.refl _ _).alloc (Nat.le_refl _) _⟩
end Go.Proofs.Ytcmkkilhipnbcaa

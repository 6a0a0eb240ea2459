
/-
  The document's example of a check sum, and the readers of bytes.
-/
import Derived.Test.YtmmgnbdngpkfcaaCrcWalks
import Derived.Test.YtmmgnbdngpkfcaaOpen
import Derived.Lib.SlBytesConst
namespace Go.Proofs.Ytmmgnbdngpkfcaa
open Go.RowKit
set_option linter.unusedVariables false

theorem eq_arr4 (a0 a1 a2 a3 b0 b1 b2 b3 : BitVec 8) (w : World) :
    (Op.equalIn 10000 198 (.agg #[.int .u8 (bv a0), .int .u8 (bv a1), .int .u8 (bv a2), .int .u8 (bv a3)]) (.agg #[.int .u8 (bv b0), .int .u8 (bv b1), .int .u8 (bv b2), .int .u8 (bv b3)])).run Try.prog w = .ok ([a0, a1, a2, a3] == [b0, b1, b2, b3]) w := by
  obtain ⟨i, z, hi, _⟩ := ti_bytes.info
  have hp : ∀ (xs : Array Value) (j : Nat) (v : Value), xs[j]? = some v → (part 5 xs j).run Try.prog w = .ok v w := fun xs j v h1 => by
    simp [part, isAgg, run_underlying Try.underlying5, h1]
  have hq : ∀ (x y : BitVec 8), (Op.equalIn 9999 5 (.int .u8 (bv x)) (.int .u8 (bv y))).run Try.prog w = .ok (x == y) w := fun x y => by
    rw [show (9999 : Nat) = 9998 + 1 from rfl, run_equalIn_int w 9998 5 .u8 .u8 (bv x) (bv y) Try.underlying5, bv_beq]
  rw [show (10000 : Nat) = 9999 + 1 from rfl, run_equalIn_array w 9999 _ _ Try.underlying198 hi]
  have hc : Try.prog.cellsOf 5 = 1 := by kernel_rfl
  rw [hc]
  show (Op.eqItems 9999 5 1 _ _ [0, 1, 2, 3]).run Try.prog w = _
  have pa0 := hp (#[Value.int .u8 (bv a0), .int .u8 (bv a1), .int .u8 (bv a2), .int .u8 (bv a3)] : Array Value) 0 _ rfl
  have pa1 := hp (#[Value.int .u8 (bv a0), .int .u8 (bv a1), .int .u8 (bv a2), .int .u8 (bv a3)] : Array Value) 1 _ rfl
  have pa2 := hp (#[Value.int .u8 (bv a0), .int .u8 (bv a1), .int .u8 (bv a2), .int .u8 (bv a3)] : Array Value) 2 _ rfl
  have pa3 := hp (#[Value.int .u8 (bv a0), .int .u8 (bv a1), .int .u8 (bv a2), .int .u8 (bv a3)] : Array Value) 3 _ rfl
  have pb0 := hp (#[Value.int .u8 (bv b0), .int .u8 (bv b1), .int .u8 (bv b2), .int .u8 (bv b3)] : Array Value) 0 _ rfl
  have pb1 := hp (#[Value.int .u8 (bv b0), .int .u8 (bv b1), .int .u8 (bv b2), .int .u8 (bv b3)] : Array Value) 1 _ rfl
  have pb2 := hp (#[Value.int .u8 (bv b0), .int .u8 (bv b1), .int .u8 (bv b2), .int .u8 (bv b3)] : Array Value) 2 _ rfl
  have pb3 := hp (#[Value.int .u8 (bv b0), .int .u8 (bv b1), .int .u8 (bv b2), .int .u8 (bv b3)] : Array Value) 3 _ rfl
  cases h0 : (a0 == b0) <;> cases h1 : (a1 == b1) <;> cases h2 : (a2 == b2) <;> cases h3 : (a3 == b3) <;> simp [Op.eqItems, hq, pa0, pa1, pa2, pa3, pb0, pb1, pb2, pb3, h0, h1, h2, h3]

def digits : List (BitVec 8) := [49#8, 50#8, 51#8, 52#8, 53#8, 54#8, 55#8, 56#8, 57#8]
theorem digits_sum : Crc.sum digits = 3808858755#32 := by decide +kernel

end Go.Proofs.Ytmmgnbdngpkfcaa


/-
  Numbers of fixed width: 'bv x' is the number that Go's uint8 .. uint64 holds where x is its bits; the walk's operations on such numbers, said of the bits.
-/
import Derived.WalkKit
import Derived.Lib.Hide
import Derived.BigQuiet
import Derived.Deep.QuietTactic
import Derived.Deep.RegionWith
import Derived.Deep.RegionHeld3
import Derived.StillTailTactics
import Derived.WalkSpells
import Derived.WalkLawsBesides
import Derived.Lib.SlBytesConst
import Derived.Deep.DeepFit
import Derived.Deep.DeepCutAuto
namespace Go.Proofs.Ytmmgnbdngpkfcaa
set_option linter.unusedVariables false

def bv {n : Nat} (x : BitVec n) : Int := (x.toNat : Int)
theorem bv_nonneg {n : Nat} (x : BitVec n) : 0 ≤ bv x := Int.natCast_nonneg _
theorem bv8_lt (x : BitVec 8) : bv x < 256 := by unfold bv; have := x.isLt; omega
theorem bv16_lt (x : BitVec 16) : bv x < 65536 := by unfold bv; have := x.isLt; omega
theorem bv32_lt (x : BitVec 32) : bv x < 4294967296 := by unfold bv; have := x.isLt; omega
theorem bv64_lt (x : BitVec 64) : bv x < 18446744073709551616 := by unfold bv; have := x.isLt; omega
theorem ofInt_bv {n m : Nat} (x : BitVec n) : BitVec.ofInt m (bv x) = x.setWidth m := by
  unfold bv; rw [BitVec.ofInt_natCast]; exact BitVec.ofNat_toNat m x
theorem bv_toNat {n : Nat} (x : BitVec n) : (bv x).toNat = x.toNat := rfl
theorem bv_inj {n : Nat} {x y : BitVec n} : bv x = bv y ↔ x = y :=
  ⟨fun h => BitVec.eq_of_toNat_eq (by unfold bv at h; omega), fun h => by rw [h]⟩
theorem bv_beq {n : Nat} (x y : BitVec n) : (bv x == bv y) = (x == y) := by
  rw [Bool.eq_iff_iff, beq_iff_eq, beq_iff_eq]; exact bv_inj
theorem bv_bne {n : Nat} (x y : BitVec n) : (bv x != bv y) = (x != y) := by
  unfold bne; rw [bv_beq]
theorem wrap8 (n : Int) : IntKind.u8.wrap n = bv (BitVec.ofInt 8 n) := by
  rw [IntKind.wrap_u8]; unfold bv; rw [BitVec.toNat_ofInt]; omega
theorem wrap16 (n : Int) : IntKind.u16.wrap n = bv (BitVec.ofInt 16 n) := by
  unfold bv; rw [BitVec.toNat_ofInt]; simp [IntKind.wrap, IntKind.bits, IntKind.signed]; omega
theorem wrap32 (n : Int) : IntKind.u32.wrap n = bv (BitVec.ofInt 32 n) := by
  rw [IntKind.wrap_u32]; unfold bv; rw [BitVec.toNat_ofInt]; omega
theorem wrap64u (n : Int) : IntKind.u64.wrap n = bv (BitVec.ofInt 64 n) := by
  unfold bv; rw [BitVec.toNat_ofInt]; simp [IntKind.wrap, IntKind.bits, IntKind.signed]; omega
theorem wrapN8 (x : BitVec 8) : IntKind.u8.wrap (x.toNat : Int) = bv x := by rw [wrap8]; simp
theorem wrapN16 (x : BitVec 16) : IntKind.u16.wrap (x.toNat : Int) = bv x := by rw [wrap16]; simp
theorem wrapN32 (x : BitVec 32) : IntKind.u32.wrap (x.toNat : Int) = bv x := by rw [wrap32]; simp
theorem wrapN64 (x : BitVec 64) : IntKind.u64.wrap (x.toNat : Int) = bv x := by rw [wrap64u]; simp
theorem xor8 (a b : Int) : bits .xor .u8 a b = bv (BitVec.ofInt 8 a ^^^ BitVec.ofInt 8 b) := by simp only [bits]; exact wrapN8 _
theorem and8 (a b : Int) : bits .and .u8 a b = bv (BitVec.ofInt 8 a &&& BitVec.ofInt 8 b) := by simp only [bits]; exact wrapN8 _
theorem or8 (a b : Int) : bits .or .u8 a b = bv (BitVec.ofInt 8 a ||| BitVec.ofInt 8 b) := by simp only [bits]; exact wrapN8 _
theorem xor32 (a b : Int) : bits .xor .u32 a b = bv (BitVec.ofInt 32 a ^^^ BitVec.ofInt 32 b) := by simp only [bits]; exact wrapN32 _
theorem and32 (a b : Int) : bits .and .u32 a b = bv (BitVec.ofInt 32 a &&& BitVec.ofInt 32 b) := by simp only [bits]; exact wrapN32 _
theorem or32 (a b : Int) : bits .or .u32 a b = bv (BitVec.ofInt 32 a ||| BitVec.ofInt 32 b) := by simp only [bits]; exact wrapN32 _
theorem xor64 (a b : Int) : bits .xor .u64 a b = bv (BitVec.ofInt 64 a ^^^ BitVec.ofInt 64 b) := by simp only [bits]; exact wrapN64 _
theorem and64 (a b : Int) : bits .and .u64 a b = bv (BitVec.ofInt 64 a &&& BitVec.ofInt 64 b) := by simp only [bits]; exact wrapN64 _
theorem or64 (a b : Int) : bits .or .u64 a b = bv (BitVec.ofInt 64 a ||| BitVec.ofInt 64 b) := by simp only [bits]; exact wrapN64 _
theorem max32 : IntKind.u32.max = bv (BitVec.allOnes 32) := by decide
theorem max64 : IntKind.u64.max = bv (BitVec.allOnes 64) := by decide
theorem max8 : IntKind.u8.max = bv (BitVec.allOnes 8) := by decide
theorem allOnes_xor' {n : Nat} (x : BitVec n) : BitVec.allOnes n ^^^ x = ~~~x := by
  rw [BitVec.xor_comm]; exact BitVec.xor_allOnes
theorem not32 (x : BitVec 32) : 4294967295#32 ^^^ x = ~~~x := allOnes_xor' x
theorem not64 (x : BitVec 64) : 18446744073709551615#64 ^^^ x = ~~~x := allOnes_xor' x
theorem not32' (x : BitVec 32) : x ^^^ 4294967295#32 = ~~~x := by rw [BitVec.xor_comm]; exact not32 x
theorem not8 (x : BitVec 8) : x ^^^ 255#8 = ~~~x := by rw [BitVec.xor_comm]; exact allOnes_xor' x
theorem and8_all (x : BitVec 8) : x &&& 255#8 = x := by
  have : (255#8 : BitVec 8) = BitVec.allOnes 8 := by decide
  rw [this]; exact BitVec.and_allOnes
theorem bv_shr {n : Nat} (x : BitVec n) (k : Nat) : bv x / (2 : Int) ^ k = bv (x >>> k) := by
  unfold bv; rw [BitVec.toNat_ushiftRight, Nat.shiftRight_eq_div_pow]; simp
theorem bv_shr1 {n : Nat} (x : BitVec n) : bv x / (2 : Int) = bv (x >>> 1) := bv_shr x 1
theorem bv_shr4 {n : Nat} (x : BitVec n) : bv x / (16 : Int) = bv (x >>> 4) := bv_shr x 4
theorem bv_shr8 {n : Nat} (x : BitVec n) : bv x / (256 : Int) = bv (x >>> 8) := bv_shr x 8
theorem bv_shr16 {n : Nat} (x : BitVec n) : bv x / (65536 : Int) = bv (x >>> 16) := bv_shr x 16
theorem bv_shr24 {n : Nat} (x : BitVec n) : bv x / (16777216 : Int) = bv (x >>> 24) := bv_shr x 24
theorem bv_shr31 {n : Nat} (x : BitVec n) : bv x / (2147483648 : Int) = bv (x >>> 31) := bv_shr x 31
theorem bv_tdiv {n : Nat} (x : BitVec n) (k : Int) : (bv x).tdiv k = bv x / k := Int.tdiv_eq_ediv_of_nonneg (bv_nonneg x)
theorem bv_tmod {n : Nat} (x : BitVec n) (k : Int) : (bv x).tmod k = bv x % k := Int.tmod_eq_emod_of_nonneg (bv_nonneg x)
theorem bv_mod {n : Nat} (x : BitVec n) (k : Nat) (hk : k ≤ n) : bv x % (2 : Int) ^ k = bv (x &&& BitVec.ofNat n (2 ^ k - 1)) := by
  unfold bv
  have hp : 0 < 2 ^ k := Nat.two_pow_pos k
  have hlt : 2 ^ k - 1 < 2 ^ n := Nat.lt_of_lt_of_le (Nat.sub_lt hp (by decide)) (Nat.pow_le_pow_right (by decide) hk)
  rw [BitVec.toNat_and, BitVec.toNat_ofNat, Nat.mod_eq_of_lt hlt, Nat.and_two_pow_sub_one_eq_mod]
  simp
theorem bv32_mod2 (x : BitVec 32) : bv x % (2 : Int) = bv (x &&& 1#32) := bv_mod x 1 (by decide)
theorem bv64_mod2 (x : BitVec 64) : bv x % (2 : Int) = bv (x &&& 1#64) := bv_mod x 1 (by decide)
theorem bv64_mod256 (x : BitVec 64) : bv x % (256 : Int) = bv (x &&& 255#64) := bv_mod x 8 (by decide)
theorem bv8_beq0 (x : BitVec 8) : (bv x == (0 : Int)) = (x == 0#8) := bv_beq x 0#8
theorem bv8_beq1 (x : BitVec 8) : (bv x == (1 : Int)) = (x == 1#8) := bv_beq x 1#8
theorem bv32_beq0 (x : BitVec 32) : (bv x == (0 : Int)) = (x == 0#32) := bv_beq x 0#32
theorem bv32_beq1 (x : BitVec 32) : (bv x == (1 : Int)) = (x == 1#32) := bv_beq x 1#32
theorem bv64_beq0 (x : BitVec 64) : (bv x == (0 : Int)) = (x == 0#64) := bv_beq x 0#64
theorem bv64_beq1 (x : BitVec 64) : (bv x == (1 : Int)) = (x == 1#64) := bv_beq x 1#64
theorem bv8_bne0 (x : BitVec 8) : (bv x != (0 : Int)) = (x != 0#8) := bv_bne x 0#8
theorem bv64_bne0 (x : BitVec 64) : (bv x != (0 : Int)) = (x != 0#64) := bv_bne x 0#64
theorem ofInt_mul_pow {n m : Nat} (x : BitVec n) (k : Nat) : BitVec.ofInt m (bv x * (2 : Int) ^ k) = x.setWidth m <<< k := by
  apply BitVec.eq_of_toNat_eq
  have e : bv x * 2 ^ k = ((x.toNat * 2 ^ k : Nat) : Int) := by unfold bv; simp
  rw [e, BitVec.ofInt_natCast, BitVec.toNat_ofNat, BitVec.toNat_shiftLeft, BitVec.toNat_setWidth, Nat.shiftLeft_eq, Nat.mod_mul_mod]
theorem ofInt_pow {m : Nat} (k : Nat) (h : 0 < m) : BitVec.ofInt m ((2 : Int) ^ k) = 1#m <<< k := by
  have h1 : bv (1#m) = 1 := by
    unfold bv
    have : 1 < 2 ^ m := Nat.one_lt_two_pow (by omega)
    rw [BitVec.toNat_ofNat, Nat.mod_eq_of_lt this]; rfl
  have h2 := ofInt_mul_pow (n := m) (m := m) (1#m) k
  rw [h1, Int.one_mul] at h2
  rw [h2, BitVec.setWidth_eq]
theorem shl1 {n m : Nat} (x : BitVec n) : BitVec.ofInt m (bv x * (2 : Int)) = x.setWidth m <<< 1 := ofInt_mul_pow x 1
theorem shl4 {n m : Nat} (x : BitVec n) : BitVec.ofInt m (bv x * (16 : Int)) = x.setWidth m <<< 4 := ofInt_mul_pow x 4
theorem shl8 {n m : Nat} (x : BitVec n) : BitVec.ofInt m (bv x * (256 : Int)) = x.setWidth m <<< 8 := ofInt_mul_pow x 8
theorem shl16 {n m : Nat} (x : BitVec n) : BitVec.ofInt m (bv x * (65536 : Int)) = x.setWidth m <<< 16 := ofInt_mul_pow x 16
theorem shl24 {n m : Nat} (x : BitVec n) : BitVec.ofInt m (bv x * (16777216 : Int)) = x.setWidth m <<< 24 := ofInt_mul_pow x 24
theorem ofInt_neg_bv {n m : Nat} (x : BitVec n) : BitVec.ofInt m (-bv x) = -(x.setWidth m) := by
  rw [BitVec.ofInt_neg, ofInt_bv]
theorem ofInt_add_bv {n m : Nat} (x : BitVec n) (i : Int) : BitVec.ofInt m (bv x + i) = x.setWidth m + BitVec.ofInt m i := by
  rw [BitVec.ofInt_add, ofInt_bv]
theorem ofInt_sub_bv {n m : Nat} (x : BitVec n) (i : Int) : BitVec.ofInt m (bv x - i) = x.setWidth m - BitVec.ofInt m i := by
  rw [Int.sub_eq_add_neg, BitVec.ofInt_add, ofInt_bv, BitVec.ofInt_neg, ← BitVec.sub_eq_add_neg]
theorem i64_bv8 (x : BitVec 8) : IntKind.i64.wrap (bv x) = bv x := IntWalk.i64_in _ (by have := bv_nonneg x; have := bv8_lt x; omega)
theorem i64_bv32 (x : BitVec 32) : IntKind.i64.wrap (bv x) = bv x := IntWalk.i64_in _ (by have := bv_nonneg x; have := bv32_lt x; omega)
theorem i64_bv64 (x : BitVec 64) : IntKind.i64.wrap (bv x) = x.toInt := by
  rw [IntKind.wrap_i64]
  have h := BitVec.toInt_eq_toNat_cond x
  have hl := x.isLt
  unfold bv
  split at h <;> omega
attribute [go_sem] wrap8 wrap16 wrap32 wrap64u ofInt_bv bv_beq bv_bne xor8 and8 or8 xor32 and32 or32 xor64 and64 or64 max8 max32 max64 not32 not32' and8_all not8 not64 allOnes_xor' bv_shr bv_shr1 bv_shr4 bv_shr8 bv_shr16 bv_shr24 bv_shr31 bv_tdiv bv_tmod bv32_mod2 bv64_mod2 bv64_mod256 bv8_beq0 bv8_beq1 bv32_beq0 bv32_beq1 bv64_beq0 bv64_beq1 bv8_bne0 bv64_bne0 ofInt_mul_pow shl1 shl4 shl8 shl16 shl24 ofInt_neg_bv ofInt_add_bv ofInt_sub_bv i64_bv8 i64_bv32 i64_bv64
end Go.Proofs.Ytmmgnbdngpkfcaa


/-
  Frames as lists of bytes: how they are written and read.
-/
import Derived.Test.YtmmgnbdngpkfcaaCrcLaws
import Derived.Test.YtmmgnbdngpkfcaaNum
namespace Go.Proofs.Ytmmgnbdngpkfcaa.Frm
set_option linter.unusedVariables false

abbrev Bytes := List (BitVec 8)
def be (x : BitVec 32) : Bytes := [(x >>> 24).setWidth 8, (x >>> 16).setWidth 8, (x >>> 8).setWidth 8, x.setWidth 8]
def getBE (l : Bytes) : BitVec 32 := (l.getD 0 0#8).setWidth 32 <<< 24 ||| (l.getD 1 0#8).setWidth 32 <<< 16 ||| (l.getD 2 0#8).setWidth 32 <<< 8 ||| (l.getD 3 0#8).setWidth 32
/-- a kind and a length in one number -/
def hd (k : Int) (n : Nat) : BitVec 32 := BitVec.ofInt 32 k <<< 24 ||| BitVec.ofNat 32 n
def enc1 (k : Int) (n : Nat) : Bytes := be (hd k n)
def enc2 (k : Int) (n : Nat) : Bytes := enc1 k n ++ be (Crc.sum (enc1 k n))
def enc3 (k : Int) (d : Bytes) : Bytes := enc2 k d.length ++ be (Crc.more (Crc.sum (enc2 k d.length)) d)
def enc (k : Int) (d : Bytes) : Bytes := enc3 k d ++ d
theorem be_len (x : BitVec 32) : (be x).length = 4 := rfl
theorem enc1_len (k : Int) (n : Nat) : (enc1 k n).length = 4 := rfl
theorem enc2_len (k : Int) (n : Nat) : (enc2 k n).length = 8 := rfl
theorem enc3_len (k : Int) (d : Bytes) : (enc3 k d).length = 12 := rfl
theorem enc_len (k : Int) (d : Bytes) : (enc k d).length = 12 + d.length := by simp [enc, enc3_len]
/-- a number's four bytes, as the statements make them -/
def q4 (x : BitVec 64) : Bytes := [(x >>> 24).setWidth 8, (x >>> 16).setWidth 8, (x >>> 8).setWidth 8, x.setWidth 8]
theorem setw (x : BitVec 32) (k : Nat) : ((x.setWidth 64) >>> k).setWidth 8 = (x >>> k).setWidth 8 := by
  apply BitVec.eq_of_toNat_eq
  simp only [BitVec.toNat_setWidth, BitVec.toNat_ushiftRight]
  rw [Nat.mod_eq_of_lt (show x.toNat < 2 ^ 64 by have := x.isLt; omega)]
theorem q4_be (y : BitVec 32) : q4 (y.setWidth 64) = be y := by
  unfold q4 be
  rw [setw, setw, setw]
  congr 3
theorem hd_64 (k : Int) (n : Nat) (hk : 0 ≤ k ∧ k ≤ 255) (hn : n ≤ 65536) : BitVec.ofInt 64 k <<< 24 + BitVec.ofNat 64 n = (hd k n).setWidth 64 := by
  obtain ⟨j, rfl⟩ := Int.eq_ofNat_of_zero_le hk.1
  have hj : j ≤ 255 := by omega
  apply BitVec.eq_of_toNat_eq
  unfold hd
  simp only [BitVec.ofInt_natCast, BitVec.toNat_add, BitVec.toNat_shiftLeft, BitVec.toNat_ofNat, BitVec.toNat_setWidth, BitVec.toNat_or, Nat.shiftLeft_eq]
  have e1 : j % 2 ^ 64 = j := Nat.mod_eq_of_lt (by omega)
  have e2 : j % 2 ^ 32 = j := Nat.mod_eq_of_lt (by omega)
  have e3 : n % 2 ^ 64 = n := Nat.mod_eq_of_lt (by omega)
  have e4 : n % 2 ^ 32 = n := Nat.mod_eq_of_lt (by omega)
  rw [e1, e2, e3, e4, Nat.mod_eq_of_lt (show j * 2 ^ 24 < 2 ^ 64 by omega), Nat.mod_eq_of_lt (show j * 2 ^ 24 < 2 ^ 32 by omega), Nat.mod_eq_of_lt (show j * 2 ^ 24 + n < 2 ^ 64 by omega)]
  have hor : j * 2 ^ 24 ||| n = j * 2 ^ 24 + n := by
    rw [Nat.mul_comm j, Nat.two_pow_add_eq_or_of_lt (show n < 2 ^ 24 by omega)]
  rw [hor, Nat.mod_eq_of_lt (show j * 2 ^ 24 + n < 2 ^ 64 by omega)]

/-- what a decoding tells: kind, content, how many bytes, the error -/
structure Got where
  kind : Int
  data : Bytes
  n : Nat
  err : Int
def bad (e : Int) : Got := ⟨0, [], 0, e⟩
def len24 (l : Bytes) : Nat := (getBE l &&& 16777215#32).toNat
def ith (l : Bytes) (k : Nat) : BitVec 8 := l.getD k 0#8
theorem ith_eq (l : Bytes) (k : Nat) (h : k < l.length) : l[k] = ith l k := by simp [ith, List.getD, h]
def sumA (l : Bytes) : Bool := [ith l 4, ith l 5, ith l 6, ith l 7] == be (Crc.sum (l.take 4))
theorem len24_le (l : Bytes) : len24 l ≤ 16777215 := by
  unfold len24; rw [BitVec.toNat_and]; exact Nat.and_le_right
def body (l : Bytes) : Bytes := (l.drop 12).take (len24 l)
def sumB (l : Bytes) : Bool := [ith l 8, ith l 9, ith l 10, ith l 11] == be (Crc.more (Crc.sum (l.take 8)) (body l))
def dec (l : Bytes) : Got :=
  if l.length < 8 then bad 10
  else if sumA l = false then bad 13
  else if 65536 < len24 l then bad 3
  else if l.length < 12 + len24 l then bad 10
  else if sumB l = false then bad 13
  else ⟨bv (getBE l >>> 24), body l, 12 + len24 l, 0⟩
theorem dec_short {l : Bytes} (h : l.length < 8) : dec l = bad 10 := by simp [dec, h]
theorem dec_sumA {l : Bytes} (h : ¬ l.length < 8) (h1 : sumA l = false) : dec l = bad 13 := by simp [dec, h, h1]
theorem dec_long {l : Bytes} (h : ¬ l.length < 8) (h1 : sumA l = true) (h2 : 65536 < len24 l) : dec l = bad 3 := by simp [dec, h, h1, h2]
theorem dec_cut {l : Bytes} (h : ¬ l.length < 8) (h1 : sumA l = true) (h2 : ¬ 65536 < len24 l) (h3 : l.length < 12 + len24 l) : dec l = bad 10 := by simp [dec, h, h1, h2, h3]
theorem dec_sumB {l : Bytes} (h : ¬ l.length < 8) (h1 : sumA l = true) (h2 : ¬ 65536 < len24 l) (h3 : ¬ l.length < 12 + len24 l) (h4 : sumB l = false) : dec l = bad 13 := by simp [dec, h, h1, h2, h3, h4]
theorem dec_ok {l : Bytes} (h : ¬ l.length < 8) (h1 : sumA l = true) (h2 : ¬ 65536 < len24 l) (h3 : ¬ l.length < 12 + len24 l) (h4 : sumB l = true) : dec l = ⟨bv (getBE l >>> 24), body l, 12 + len24 l, 0⟩ := by simp [dec, h, h1, h2, h3, h4]
end Go.Proofs.Ytmmgnbdngpkfcaa.Frm

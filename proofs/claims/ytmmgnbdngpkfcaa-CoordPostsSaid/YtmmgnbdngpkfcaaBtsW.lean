
/-
  The writer of bits: its other calls.
-/
import Derived.Test.YtmmgnbdngpkfcaaBtsPut
import Derived.Test.YtmmgnbdngpkfcaaLen64
import Derived.Test.YtmmgnbdngpkfcaaMake
namespace Go.Proofs.Ytmmgnbdngpkfcaa
open Go.RowKit
set_option linter.unusedVariables false

set_option maxRecDepth 4096 in
set_option maxHeartbeats 1600000 in
theorem bits_Bytes (B : Nat) (g : Nat) (v : Value) (l : Bts.Bits) (w : World) (hB : w.heap.size = B) (hw : WrAt w g v l) (hl : l.length ≤ 1099511627776) :
    Calls Try.prog 91 #[.pointer (some ⟨g, 0, none⟩)] w fun e w' => ∃ v', e = .returned v' ∧ Own EU8 5 B w' v' (Bts.pack l) ∧ Below B w w' := by
  subst hB
  obtain ⟨hh, ho⟩ := hw
  obtain ⟨a, c, rfl, hc, hm, hr, ho'⟩ := ho.shape _ rfl
  have c0 : w.cell? ⟨g, 0, none⟩ = some (.slice a (Bts.pack l).length c) := by simp [World.cell?, hh]
  have hpl := Bts.pack_len l
  obtain ⟨n, hn⟩ : ∃ n, n = (Bts.pack l).length := ⟨_, rfl⟩
  rw [← hn] at c0 hc hpl
  have hr' : RB w a n (Bts.pack l) := ⟨hn, hr.2⟩
  have Hn := Lib.hid hn
  have hmk := run_make_row' (P := Try.prog) 49 5 (.int .u8 0) 1 Try.underlying49 (by kernel_rfl) rfl .i64 .i64 n (by omega) (by omega)
  have hnb : n ≤ 1099511627776 := by omega
  clear hn hh ho ho' hr hpl
  go_enter Try.func91, Try.ntmps91
  have hb1 : Below w.heap.size w (w.alloc (.cells (madeCells #[.int .u8 0] n) 5)) := (Below.refl _ _).alloc (Nat.le_refl _) _
  have ho1 := own_made 5 w n (by unfold maxLen; omega)
  have hs1 := hr'.2.below (by decide) hb1
  have c1 := cell_thru c0 hb1
  go_wp2_with (first
    | (refine wpList_copy rfl rfl (by rfl) (by rfl) ti_bytes ho1 hs1 Hn.out (Nat.le_refl _) ?_
       intro w2 ho2 hg2))
  go_ret
  refine ⟨_, rfl, ?_, hb1.grown hg2 (by simp) fun k e => by simp at e; omega⟩
  rw [List.drop_of_length_le (by simp), List.append_nil] at ho2
  exact ho2

set_option maxRecDepth 4096 in
set_option maxHeartbeats 1600000 in
theorem bits_Num (g : Nat) (v : Value) (l : Bts.Bits) (x : BitVec 64) (w : World) (hw : WrAt w g v l) (hl : l.length ≤ 549755813888) :
    Calls Try.prog 89 #[.pointer (some ⟨g, 0, none⟩), .int .u64 (bv x)] w fun e w' => e = .returned (.tuple #[]) ∧ ∃ v', WrAt w' g v' (l ++ Bts.num x) ∧ Wrote g v w v' w' := by
  by_cases hx : x = BitVec.allOnes 64
  · subst hx
    have hbx : bv (BitVec.allOnes 64) = 18446744073709551615 := by decide
    go_enter Try.func89, Try.ntmps89
    go_wp2_with fail
    refine (bits_Put g v l 0#64 64 _ hw (by decide) (by omega)).mono ?_
    rintro e w1 ⟨rfl, v1, hw1, ht1⟩
    go_wp2_with fail
    refine (bits_Put g v1 _ 1#64 1 _ hw1 (by decide) (by simp [Bts.put, Bts.low_len]; have := Bts.clamp_le 64; omega)).mono ?_
    rintro e w2 ⟨rfl, v2, hw2, ht2⟩
    go_wp2_with fail
    refine (bits_Put g v2 _ 0#64 64 _ hw2 (by decide) (by simp [Bts.put, Bts.low_len]; have := Bts.clamp_le 64; have := Bts.clamp_le 1; omega)).mono ?_
    rintro e w3 ⟨rfl, v3, hw3, ht3⟩
    go_wp2_with fail
    refine bodyPost_ret (v := .tuple #[]) (by simp [results, Try.results89, go_sem]) rfl ?_
    refine ⟨rfl, v3, ?_, (ht1.trans ht2).trans ht3⟩
    have e1 : l ++ Bts.put 0#64 64 ++ Bts.put 1#64 1 ++ Bts.put 0#64 64 = l ++ Bts.num (BitVec.allOnes 64) := by
      simp only [Bts.num, if_true, Bts.put, List.append_assoc]
      rw [show Bts.clamp 64 = 64 by rfl, show Bts.clamp 1 = 1 by rfl, Bts.low_zero, show Bts.low 1#64 1 = [true] by rfl]
    rw [← e1]; exact hw3
  · have hbx : (bv x == 18446744073709551615) = false := by
      have := bv_beq x (BitVec.allOnes 64)
      rw [show bv (BitVec.allOnes 64) = 18446744073709551615 by decide] at this
      rw [this]; simpa using hx
    obtain ⟨n, hn⟩ : ∃ n, n = Bts.len (x + 1#64).toNat := ⟨_, rfl⟩
    have hn64 : n ≤ 64 := by rw [hn]; exact Bts.len_le _
    have e1 : l ++ Bts.put 0#64 ((n : Int) - 1) ++ Bts.put (x + 1#64) n = l ++ Bts.num x := by
      have hn1 : 1 ≤ n := by rw [hn]; exact Bts.len_pos (by
        intro h0
        apply hx
        have := congrArg BitVec.toNat (show x + 1#64 = 0#64 from BitVec.eq_of_toNat_eq (by simpa using h0))
        apply BitVec.eq_of_toNat_eq
        simp at this ⊢; have := x.isLt; omega)
      simp only [Bts.num, hx, if_false, Bts.put, List.append_assoc]
      rw [show Bts.clamp ((n : Int) - 1) = n - 1 by unfold Bts.clamp; omega, show Bts.clamp (n : Int) = n by unfold Bts.clamp; omega, Bts.low_zero, ← hn]
    have He := Lib.hid e1
    have Hn := Lib.hid hn
    clear e1 hn
    go_enter Try.func89, Try.ntmps89
    go_wp2_with fail
    refine (bits_Len64 (bv (x + 1#64)) _ (bv_nonneg _) (by have := bv64_lt (x + 1#64); omega)).mono ?_
    rw [bv_toNat]
    rw [show Lib.bitLen (x + 1#64).toNat = n from Hn.out.symm]
    rintro e w1 ⟨rfl, rfl⟩
    go_wp2_with fail
    refine (bits_Put g v l 0#64 ((n : Int) - 1) _ hw (by omega) (by omega)).mono ?_
    rintro e w1 ⟨rfl, v1, hw1, ht1⟩
    go_wp2_with fail
    refine (bits_Put g v1 _ (x + 1#64) n _ hw1 (by omega) (by simp [Bts.put, Bts.low_len]; have := Bts.clamp_le ((n : Int) - 1); omega)).mono ?_
    rintro e w2 ⟨rfl, v2, hw2, ht2⟩
    go_wp2_with fail
    refine bodyPost_end (v := .tuple #[]) (by simp [results, Try.results89, go_sem]) rfl ?_
    refine ⟨rfl, v2, ?_, ht1.trans ht2⟩
    rw [← He.out]; exact hw2

theorem zig_eq (i : Int) (hi : -9223372036854775808 ≤ i ∧ i ≤ 9223372036854775807) : (BitVec.ofInt 64 i <<< 1) ^^^ BitVec.ofInt 64 (i / 9223372036854775808) = Bts.zig i := by
  unfold Bts.zig
  by_cases h : i < 0
  · rw [if_pos h, show i / 9223372036854775808 = -1 by omega]
    have e1 : BitVec.ofInt 64 (-1) = BitVec.allOnes 64 := by decide
    rw [e1, BitVec.xor_allOnes]
    have e2 : BitVec.ofInt 64 (-(i + 1)) = ~~~(BitVec.ofInt 64 i) := by
      rw [BitVec.not_eq_neg_add, ← BitVec.ofInt_neg]
      apply BitVec.eq_of_toNat_eq
      simp only [BitVec.toNat_ofInt, BitVec.toNat_sub, BitVec.toNat_ofNat]
      omega
    rw [e2]
    generalize BitVec.ofInt 64 i = x
    apply BitVec.eq_of_toNat_eq
    have hx := x.isLt
    rw [BitVec.toNat_not, BitVec.toNat_shiftLeft, Nat.shiftLeft_eq, BitVec.toNat_add, BitVec.toNat_mul, BitVec.toNat_not]
    simp only [BitVec.toNat_ofNat]
    omega
  · rw [if_neg h, show i / 9223372036854775808 = 0 by omega]
    have e1 : BitVec.ofInt 64 0 = 0#64 := by decide
    rw [e1, BitVec.xor_zero]
    generalize BitVec.ofInt 64 i = x
    apply BitVec.eq_of_toNat_eq
    rw [BitVec.toNat_shiftLeft, Nat.shiftLeft_eq, BitVec.toNat_mul]
    simp

set_option maxRecDepth 4096 in
set_option maxHeartbeats 800000 in
theorem bits_Int (g : Nat) (v : Value) (l : Bts.Bits) (i : Int) (w : World) (hw : WrAt w g v l) (hl : l.length ≤ 549755813888) (hi : -9223372036854775808 ≤ i ∧ i ≤ 9223372036854775807) :
    Calls Try.prog 88 #[.pointer (some ⟨g, 0, none⟩), .int .i64 i] w fun e w' => e = .returned (.tuple #[]) ∧ ∃ v', WrAt w' g v' (l ++ Bts.int i) ∧ Wrote g v w v' w' := by
  have hz := Lib.hid (zig_eq i hi)
  go_enter Try.func88, Try.ntmps88
  go_wp2_with fail
  rw [hz.out]
  refine (bits_Num g v l (Bts.zig i) _ hw hl).mono ?_
  rintro e w1 ⟨rfl, v1, hw1, ht1⟩
  go_wp2_with fail
  refine bodyPost_end (v := .tuple #[]) (by simp [results, Try.results88, go_sem]) rfl ?_
  exact ⟨rfl, v1, hw1, ht1⟩

/-- a new writer -/
theorem wr_new (w : World) : WrAt (w.alloc (.cells #[.slice none 0 0, .int .i64 0] 158)) w.heap.size (.slice none 0 0) [] :=
  ⟨heap_alloc_new w _, .inl ⟨rfl, rfl⟩⟩
theorem Wrote.below {g : Nat} {v v' : Value} {w w' : World} {B : Nat} (h : Wrote g v w v' w') (hB : B ≤ w.heap.size) (hg : B ≤ g) (hv : ∀ b, v.ownBlock = some b → B ≤ b) : Below B w w' :=
  h.only.below hB fun k hk => by rcases hk with rfl | hk; exact hg; exact hv k hk
theorem WrAt.keep {w w' : World} {g : Nat} {v : Value} {l : Bts.Bits} (h : WrAt w g v l) (hb : Below w.heap.size w w') : WrAt w' g v l :=
  ⟨by rw [hb.block g (Array.getElem?_eq_some_iff.1 h.1).1]; exact h.1, h.2.below hb⟩
theorem WrAt.own {w : World} {g : Nat} {v : Value} {l : Bts.Bits} (h : WrAt w g v l) : ∀ b, v.ownBlock = some b → g + 1 ≤ b ∧ b < w.heap.size := fun b hb => h.2.lt b hb
theorem WrAt.lt {w : World} {g : Nat} {v : Value} {l : Bts.Bits} (h : WrAt w g v l) : g < w.heap.size := (Array.getElem?_eq_some_iff.1 h.1).1

end Go.Proofs.Ytmmgnbdngpkfcaa

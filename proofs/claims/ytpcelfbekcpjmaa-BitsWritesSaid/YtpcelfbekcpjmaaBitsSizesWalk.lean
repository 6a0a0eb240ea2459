/-
  The walk of the law 'BitsSizes'.
-/
import Derived.Test.YtpcelfbekcpjmaaBtsRNum
import Derived.Test.YtpcelfbekcpjmaaBtsLaws
import Derived.Test.YtpcelfbekcpjmaaBitsSplitWalk
namespace Go.Proofs.Ytpcelfbekcpjmaa
open Go.RowKit
set_option linter.unusedVariables false

theorem i64_and15 (n : Int) : bits .and .i64 n 15 = n % 16 := by
  have h : bits .and .i64 n 15 = IntKind.i64.wrap ((BitVec.ofInt 64 n &&& BitVec.ofInt 64 15).toNat : Int) := rfl
  rw [h]
  have : (BitVec.ofInt 64 n &&& BitVec.ofInt 64 15).toNat = (BitVec.ofInt 64 n).toNat % 16 := by
    rw [BitVec.toNat_and]
    exact Nat.and_two_pow_sub_one_eq_mod _ 4
  rw [this, BitVec.toNat_ofInt, IntKind.wrap_i64]
  omega
theorem i64_and1 (n : Int) : bits .and .i64 n 1 = n % 2 := by
  have h : bits .and .i64 n 1 = IntKind.i64.wrap ((BitVec.ofInt 64 n &&& BitVec.ofInt 64 1).toNat : Int) := rfl
  rw [h]
  have : (BitVec.ofInt 64 n &&& BitVec.ofInt 64 1).toNat = (BitVec.ofInt 64 n).toNat % 2 := by
    rw [BitVec.toNat_and]
    exact Nat.and_two_pow_sub_one_eq_mod _ 1
  rw [this, BitVec.toNat_ofInt, IntKind.wrap_i64]
  omega
attribute [go_sem] i64_and15 i64_and1

set_option maxRecDepth 4096 in
set_option maxHeartbeats 3200000 in
theorem law_BitsSizes (x y : BitVec 64) (cut : Int) (w : World) (hcut : -9223372036854775808 ≤ cut ∧ cut ≤ 9223372036854775807) :
    Calls Try.prog 8 #[.int .u64 (bv x), .int .u64 (bv y), .int .i64 cut] w fun e w' => e = .returned (.bool true) ∧ Below w.heap.size w w' := by
  obtain ⟨p, hp⟩ : ∃ p : Nat, cut % 16 = (p : Int) := ⟨(cut % 16).toNat, by omega⟩
  have hp16 : p < 16 := by omega
  obtain ⟨z, hz, hz64⟩ := Bts.num_len x
  obtain ⟨z', hz', hz64'⟩ := Bts.num_len y
  have hmono := Bts.num_len_mono (x := x) (y := y)
  have hmono' := Bts.num_len_mono (x := y) (y := x)
  rw [hz, hz'] at hmono hmono'
  have Hz := Lib.hid hz
  have Hz' := Lib.hid hz'
  have Hp := Lib.hid hp
  clear hz hz' hcut
  go_enter Try.func8, Try.ntmps8
  go_wp2_with fail
  refine (law1_wrote _).mono ?_
  rintro e w0 ⟨rfl, hb0⟩
  go_wp2_with fail
  refine (law1_took _).mono ?_
  rintro e w1 ⟨rfl, hb1⟩
  have hbw1 := hb0.trans (hb1.mono hb0.size)
  clear hb0 hb1
  obtain ⟨w2, hw2⟩ : ∃ x, x = w1.alloc (.cells #[.slice none 0 0, .int .i64 0] 27) := ⟨_, rfl⟩
  have hb2 : Below w1.heap.size w1 w2 := by subst hw2; exact (Below.refl _ _).alloc (Nat.le_refl _) _
  have ha2 : WrAt w2 w1.heap.size (.slice none 0 0) [] := by subst hw2; exact wr_new w1
  obtain ⟨w3, hw3⟩ : ∃ x, x = w2.alloc (.cells #[.slice none 0 0, .int .i64 0] 27) := ⟨_, rfl⟩
  have hb3 : Below w2.heap.size w2 w3 := by subst hw3; exact (Below.refl _ _).alloc (Nat.le_refl _) _
  have hB3 : WrAt w3 w2.heap.size (.slice none 0 0) [] := by subst hw3; exact wr_new w2
  have ha3 := ha2.keep hb3
  have hz3 : w2.heap.size = w1.heap.size + 1 := by subst hw2; simp
  have hz4 : w3.heap.size = w1.heap.size + 2 := by subst hw3; simp [hz3]
  rw [hz3] at hB3
  have hbw3 := hbw1.trans ((hb2.trans (hb3.mono hb2.size)).mono hbw1.size)
  go_wp2_with fail
  rw [← hw2, ← hw3]
  clear hw2 hw3
  have Hz3 := Lib.hid hz3
  clear hz3
  obtain ⟨g, hg⟩ : ∃ g, g = w1.heap.size := ⟨_, rfl⟩
  rw [← hg] at ha3 hB3 hz4 ⊢
  have hwg : w.heap.size ≤ g := by rw [hg]; exact hbw1.size
  have Hg := Lib.hid hg
  have Hz4 := Lib.hid hz4
  clear hg hz4 ha2 hb2 hb3 hbw1
  refine (bits_Num g _ [] x _ ha3 (by decide)).mono ?_
  rintro e w4 ⟨rfl, va, ha4, ht4⟩
  rw [List.nil_append] at ha4
  have hB4 := hB3.only ht4.only (by simp [Value.ownBlock]) (by simp [Value.ownBlock])
  have hbw4 := hbw3.trans (ht4.below hbw3.size hwg (by simp [Value.ownBlock]))
  have hva : ∀ b, va.ownBlock = some b → g + 2 ≤ b := fun b hb => by
    rcases ht4.own with e | ⟨c, e, hc⟩
    · rw [e] at hb; simp [Value.ownBlock] at hb
    · rw [e] at hb; injection hb with hb; rw [Hz4.out] at hc; omega
  go_wp2_with fail
  refine (bits_Num (g + 1) _ [] y _ hB4 (by decide)).mono ?_
  rintro e w5 ⟨rfl, vb, hB5, ht5⟩
  rw [List.nil_append] at hB5
  have ha5 := ha4.only ht5.only (by simp [Value.ownBlock]) (fun b hb h => by
    have := hva b hb
    rcases h with h | h
    · omega
    · simp [Value.ownBlock] at h)
  have hbw5 := hbw4.trans (ht5.below hbw4.size (by omega) (by simp [Value.ownBlock]))
  have hla := bits_WLen g va _ w5 ha5
  have hlb := bits_WLen (g + 1) vb _ w5 hB5
  rw [Hz.out] at hla
  rw [Hz'.out] at hlb
  obtain ⟨n1, hn1⟩ : ∃ n, n = 2 * z + 1 := ⟨_, rfl⟩
  obtain ⟨n2, hn2⟩ : ∃ n, n = 2 * z' + 1 := ⟨_, rfl⟩
  rw [← hn1] at hla hmono hmono'
  rw [← hn2] at hlb hmono hmono'
  have hodd : ((n1 : Int) % 2) = 1 := by omega
  have h129 : ¬ (129 < (n1 : Int)) := by omega
  have Hn1 := Lib.hid hn1
  have Hla := Lib.hid hla
  have Hlb := Lib.hid hlb
  clear hla hlb hn1 hn2 ha3 hB3 ha4 hB4 ht4 ht5 hva hbw3 hbw4
  go_upto_region 7 with fail
  go_cut [59] (fun s wx => s = .bool false ∧ wx = w5)
  case first =>
    rcases Nat.lt_trichotomy x.toNat y.toNat with hxy | hxy | hxy
    · have c1 : bv x < bv y := by unfold bv; omega
      have c2 : ¬ (bv y < bv x) := by unfold bv; omega
      have c3 : ¬ ((n2 : Int) < (n1 : Int)) := by have := hmono (by omega); omega
      go_wp2_with (first
        | (go_at_call 12; refine Hla.out.mono ?_; rintro e w7 ⟨rfl, rfl⟩)
        | (go_at_call 12; refine Hlb.out.mono ?_; rintro e w7 ⟨rfl, rfl⟩))
      go_meet
      exact ⟨by first | rfl | (congr 1; simp; omega), rfl⟩
    · have c1 : ¬ (bv x < bv y) := by unfold bv; omega
      have c2 : ¬ (bv y < bv x) := by unfold bv; omega
      go_wp2_with (first
        | (go_at_call 12; refine Hla.out.mono ?_; rintro e w7 ⟨rfl, rfl⟩)
        | (go_at_call 12; refine Hlb.out.mono ?_; rintro e w7 ⟨rfl, rfl⟩))
      go_meet
      exact ⟨by first | rfl | (congr 1; simp; omega), rfl⟩
    · have c1 : ¬ (bv x < bv y) := by unfold bv; omega
      have c2 : bv y < bv x := by unfold bv; omega
      have c3 : ¬ ((n1 : Int) < (n2 : Int)) := by have := hmono' (by omega); omega
      go_wp2_with (first
        | (go_at_call 12; refine Hla.out.mono ?_; rintro e w7 ⟨rfl, rfl⟩)
        | (go_at_call 12; refine Hlb.out.mono ?_; rintro e w7 ⟨rfl, rfl⟩))
      go_meet
      exact ⟨by first | rfl | (congr 1; simp; omega), rfl⟩
  obtain ⟨hs59, hwc⟩ := hcut
  subst hs59
  obtain ⟨wy, hwy⟩ : ∃ x, x = wc := ⟨_, rfl⟩
  subst hwy
  rw [hwc]
  clear hwc Hla Hlb hmono hmono' hodd h129
  have hp' := Hp.out
  go_wp2_with fail
  clear hp'
  refine (bits_Bytes w5.heap.size _ _ _ _ (by rfl) ha5 (by rw [Hz.out]; omega)).mono ?_
  rintro e w6 ⟨v6, rfl, ho6, hb6⟩
  have hpl : (Bts.pack (Bts.num x)).length = (n1 + 7) / 8 := by rw [Bts.pack_len, Hz.out, Hn1.out]
  obtain ⟨n, hn⟩ : ∃ n, n = (Bts.pack (Bts.num x)).length := ⟨_, rfl⟩
  have Hn := Lib.hid hn
  have Hnn := Lib.hid (hn.trans hpl)
  obtain ⟨a6, c6, rfl, hc6, hm6, hr6, _⟩ := ho6.shape n hn
  have hbw6 := hbw5.trans (hb6.mono hbw5.size)
  clear hpl hn ha5 hB5 hbw5 ho6 hb6
  by_cases hpn : n ≤ p
  · have hpn' : (n : Int) ≤ (p : Int) := by omega
    go_wp2
    go_ret
    exact ⟨rfl, hbw6⟩
  have hpn' : ¬ ((n : Int) ≤ (p : Int)) := by omega
  have hpc : (p : Int) ≤ (c6 : Int) := by omega
  have r6 := RB.take hr6.2 (k := p) (by rw [← Hn.out]; omega)
  have h8 : 8 * p < (Bts.num x).length := by rw [Hz.out, ← Hn1.out]; have := Hnn.out; omega
  have hrest : Bts.rest ((Bts.pack (Bts.num x)).take p) ⟨0, 0⟩ = (Bts.num x).take (8 * p) := by
    rw [Bts.rest_zero, Bts.bitsOf_take _ _ (by rw [← Hn.out]; omega), Bts.bitsOf_pack, List.take_append_of_le_length (by omega)]
  obtain ⟨hq1, hq2⟩ := Bts.numR_cut (b := (Bts.pack (Bts.num x)).take p) rfl h8 hrest
  obtain ⟨b, hb⟩ : ∃ b, b = (Bts.pack (Bts.num x)).take p := ⟨_, rfl⟩
  rw [← hb] at r6 hq1 hq2
  have hbl : b.length ≤ 1099511627776 := by rw [hb, List.length_take]; omega
  obtain ⟨q, hq⟩ : ∃ q, q = (Bts.numR b ⟨0, 0⟩).2 := ⟨_, rfl⟩
  rw [← hq] at hq2
  have hnum : Bts.numR b ⟨0, 0⟩ = (0#64, q) := by rw [hq, ← hq1]
  have hnum2 : Bts.numR b q = (0#64, q) := by unfold Bts.numR; rw [if_pos (by rw [hq2]; decide)]
  have hlf : Bts.left b q = 0 := by unfold Bts.left; rw [if_neg (by rw [hq2]; decide)]
  have Hnum := Lib.hid hnum
  have Hnum2 := Lib.hid hnum2
  have Hlf := Lib.hid hlf
  have Hq2 := Lib.hid hq2
  clear hnum hnum2 hlf hq1 hq2 hq hb hrest h8 hr6
  have hv : bv (0#64) = (0 : Int) := rfl
  go_wp2_with fail
  refine (bits_Read w6.heap.size _ _ _ b _ (by rfl) r6 (by omega)).mono ?_
  rintro e w7 ⟨k, rfl, hk, hr7, hb7⟩
  have hbw7 := hbw6.trans (hb7.mono hbw6.size)
  have hwk : w.heap.size ≤ k := by have := hbw6.size; omega
  go_wp2_with fail
  refine (bits_RNum k b _ _ hr7 hbl).mono ?_
  rw [Hnum.out]
  rintro e w8 ⟨rfl, hr8, ho8⟩
  have hbw8 := hbw7.trans (ho8.below hbw7.size fun j hj => by omega)
  simp only [hv]
  go_wp2_with fail
  refine (bits_Err k b _ _ hr8).mono ?_
  rw [Hq2.out]
  rintro e w9 ⟨rfl, rfl⟩
  go_wp2_with fail
  refine (bits_Left k b _ _ hr8 hbl).mono ?_
  rw [Hlf.out]
  rintro e w9 ⟨rfl, hb9⟩
  have hr9 := hr8.keep hb9
  have hbw9 := hbw8.trans (hb9.mono hbw8.size)
  go_wp2_with fail
  refine (bits_RNum k b _ _ hr9 hbl).mono ?_
  rw [Hnum2.out]
  rintro e w10 ⟨rfl, hr10, ho10⟩
  simp only [hv]
  go_wp2_with fail
  go_ret
  exact ⟨rfl, hbw9.trans (ho10.below hbw9.size fun j hj => by omega)⟩
end Go.Proofs.Ytpcelfbekcpjmaa

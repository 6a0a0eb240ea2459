/-
  The walk of the law 'BitsSplit'.
-/
import Derived.Test.YtpcelfbekcpjmaaBtsW
namespace Go.Proofs.Ytpcelfbekcpjmaa
open Go.RowKit
set_option linter.unusedVariables false

theorem i64_and31 (n : Int) : bits .and .i64 n 31 = n % 32 := by
  have h : bits .and .i64 n 31 = IntKind.i64.wrap ((BitVec.ofInt 64 n &&& BitVec.ofInt 64 31).toNat : Int) := rfl
  rw [h]
  have : (BitVec.ofInt 64 n &&& BitVec.ofInt 64 31).toNat = (BitVec.ofInt 64 n).toNat % 32 := by
    rw [BitVec.toNat_and]
    exact Nat.and_two_pow_sub_one_eq_mod _ 5
  rw [this, BitVec.toNat_ofInt, IntKind.wrap_i64]
  omega
attribute [go_sem] i64_and31

theorem Own.only {te : TypeId} {base : Nat} {w w' : World} {v : Value} {l : List (BitVec 8)} {S : Nat → Prop} (h : Own EU8 te base w v l) (hS : Only S w w') (hv : ∀ b, v.ownBlock = some b → ¬ S b) : Own EU8 te base w' v l := by
  rcases h with h | ⟨g, cap, cur, he, hg, hh, h1, h2, h3, h4⟩
  · exact .inl h
  · have hlt := (Array.getElem?_eq_some_iff.1 hh).1
    exact .inr ⟨g, cap, cur, he, hg, by rw [hS.block g hlt (hv g (by rw [he]; rfl))]; exact hh, h1, h2, h3, fun k y hk => h4 k y hk⟩
theorem WrAt.only {w w' : World} {g : Nat} {v : Value} {l : Bts.Bits} {S : Nat → Prop} (h : WrAt w g v l) (hS : Only S w w') (hg : ¬ S g) (hv : ∀ b, v.ownBlock = some b → ¬ S b) : WrAt w' g v l :=
  ⟨by rw [hS.block g h.lt hg]; exact h.1, h.2.only hS hv⟩

theorem low_split (x : BitVec 64) (n m : Nat) : Bts.low x (n + m) = Bts.low (x >>> m) n ++ Bts.low x m := by
  induction n with
  | zero => simp [Bts.low]
  | succ n ih =>
    rw [show n + 1 + m = (n + m) + 1 by omega]
    simp only [Bts.low, List.cons_append]
    rw [ih]
    simp [Nat.add_comm]

set_option maxHeartbeats 1600000 in
theorem law_BitsSplit (x : BitVec 64) (n m : Int) (w : World) (hn : -9223372036854775808 ≤ n ∧ n ≤ 9223372036854775807) (hm : -9223372036854775808 ≤ m ∧ m ≤ 9223372036854775807) :
    Calls Try.prog 3 #[.int .u64 (bv x), .int .i64 n, .int .i64 m] w fun e w' => e = .returned (.bool true) ∧ Below w.heap.size w w' := by
  obtain ⟨p, hp⟩ : ∃ p : Nat, n % 32 = (p : Int) := ⟨(n % 32).toNat, by omega⟩
  obtain ⟨q, hq⟩ : ∃ q : Nat, m % 32 = (q : Int) := ⟨(m % 32).toNat, by omega⟩
  have hp32 : p < 32 := by omega
  have hq32 : q < 32 := by omega
  have hu : bv (BitVec.ofNat 64 q) = (q : Int) := by unfold bv; rw [BitVec.toNat_ofNat]; omega
  have e1 : Bts.put x ((p : Int) + (q : Int)) = Bts.put (x >>> q) p ++ Bts.put x q := by
    unfold Bts.put
    rw [show Bts.clamp ((p : Int) + (q : Int)) = p + q by unfold Bts.clamp; omega, show Bts.clamp (p : Int) = p by unfold Bts.clamp; omega, show Bts.clamp (q : Int) = q by unfold Bts.clamp; omega]
    exact low_split x p q
  have e2 : (Bts.put x ((p : Int) + (q : Int))).length = p + q := by
    unfold Bts.put
    rw [Bts.low_len]; unfold Bts.clamp; omega
  have E1 := Lib.hid e1
  have E2 := Lib.hid e2
  clear e1 e2
  go_enter Try.func3, Try.ntmps3
  go_wp2_with fail
  refine (law1_wrote _).mono ?_
  rintro e w1 ⟨rfl, hb1⟩
  obtain ⟨w2, hw2⟩ : ∃ x, x = w1.alloc (.cells #[.slice none 0 0, .int .i64 0] 27) := ⟨_, rfl⟩
  have hb2 : Below w1.heap.size w1 w2 := by subst hw2; exact (Below.refl _ _).alloc (Nat.le_refl _) _
  have ha2 : WrAt w2 w1.heap.size (.slice none 0 0) [] := by subst hw2; exact wr_new w1
  obtain ⟨w3, hw3⟩ : ∃ x, x = w2.alloc (.cells #[.slice none 0 0, .int .i64 0] 27) := ⟨_, rfl⟩
  have hb3 : Below w2.heap.size w2 w3 := by subst hw3; exact (Below.refl _ _).alloc (Nat.le_refl _) _
  have hB3 : WrAt w3 w2.heap.size (.slice none 0 0) [] := by subst hw3; exact wr_new w2
  have ha3 := ha2.keep hb3
  have hz2 : w1.heap.size < w2.heap.size := ha2.lt
  have hz3 : w2.heap.size = w1.heap.size + 1 := by subst hw2; simp
  have hz4 : w3.heap.size = w1.heap.size + 2 := by subst hw3; simp [hz3]
  rw [hz3] at hB3
  have hbw3 := hb1.trans ((hb2.trans (hb3.mono hb2.size)).mono hb1.size)
  go_upto_region 7 with fail
  rw [← hw2, ← hw3]
  clear hw2 hw3
  have Hz3 := Lib.hid hz3
  clear hz3
  have hn0 := hn
  obtain ⟨g, hg⟩ : ∃ g, g = w1.heap.size := ⟨_, rfl⟩
  rw [← hg] at ha3 hB3 hz4 ⊢
  have Hg := Lib.hid hg
  have Hz4 := Lib.hid hz4
  clear hg hz4 hn hm hp hq ha2 hb2 hb3 hz2
  go_wp2_with fail
  refine (bits_Put g _ [] x ((p : Int) + (q : Int)) _ ha3 (by omega) (by decide)).mono ?_
  rintro e w4 ⟨rfl, va, ha4, ht4⟩
  rw [List.nil_append] at ha4
  have hB4 := hB3.only ht4.only (by simp [Value.ownBlock]) (by simp [Value.ownBlock])
  go_wp2_with fail
  refine (bits_Put (g + 1) _ [] (x >>> q) p _ hB4 (by omega) (by decide)).mono ?_
  rintro e w5 ⟨rfl, vb, hB5, ht5⟩
  have hva : ∀ b, va.ownBlock = some b → g + 2 ≤ b := fun b hb => by
    rcases ht4.own with e | ⟨c, e, hc⟩
    · rw [e] at hb; simp [Value.ownBlock] at hb
    · rw [e] at hb; injection hb with hb; rw [Hz4.out] at hc; omega
  have ha5 := ha4.only ht5.only (by simp [Value.ownBlock]) (fun b hb h => by
    have := hva b hb
    rcases h with h | h
    · omega
    · simp [Value.ownBlock] at h)
  go_wp2_with fail
  refine (bits_Put (g + 1) vb _ x q _ hB5 (by omega) (by simp [Bts.put, Bts.low_len]; have := Bts.clamp_le (p : Int); omega)).mono ?_
  rintro e w6 ⟨rfl, vb2, hB6, ht6⟩
  have ha6 := ha5.only ht6.only (by
    intro h
    rcases h with h | h
    · omega
    · have := (hB5.own _ h).1; omega) (fun b hb h => by
    have := hva b hb
    rcases h with h | h
    · omega
    · rcases ht5.own with e | ⟨c, e, hc⟩
      · rw [e] at h; simp [Value.ownBlock] at h
      · rw [e] at h; injection h with h; have := (ha4.own b hb).2; omega)
  have hbw6 : Below w.heap.size w w6 := by
    have hwg : w.heap.size ≤ g := by rw [Hg.out]; exact hb1.size
    have h4 := hbw3.trans (ht4.below hbw3.size hwg (by simp [Value.ownBlock]))
    have h5 := h4.trans (ht5.below h4.size (by omega) (by simp [Value.ownBlock]))
    exact h5.trans (ht6.below h5.size (by omega) fun b hb => by have := (hB5.own b hb).1; omega)
  rw [List.nil_append, ← E1.out] at hB6
  clear ha3 hB3 ha4 hB4 hB5 ha5 ht4 ht5 ht6 hva hbw3
  go_wp2_with fail
  refine (bits_WLen _ _ _ _ ha6).mono ?_
  rintro e w7 ⟨rfl, rfl⟩
  rw [E2.out]
  go_wp2_with fail
  refine (bits_WLen _ _ _ _ hB6).mono ?_
  rintro e w7 ⟨rfl, rfl⟩
  rw [E2.out]
  go_wp2_with fail
  refine (bits_Bytes w6.heap.size _ _ _ _ (by rfl) ha6 (by rw [E2.out]; omega)).mono ?_
  rintro e w8 ⟨v8, rfl, ho8, hb8⟩
  obtain ⟨a8, c8, rfl, hc8, hm8, hr8, _⟩ := ho8.shape _ rfl
  have hB8 := hB6.keep hb8
  go_wp2_with fail
  refine (bits_Bytes w8.heap.size _ _ _ _ (by rfl) hB8 (by rw [E2.out]; omega)).mono ?_
  rintro e w9 ⟨v9, rfl, ho9, hb9⟩
  obtain ⟨a9, c9, rfl, hc9, hm9, hr9, _⟩ := ho9.shape _ rfl
  have hr89 := hr8.below (by decide) hb9
  go_wp2_with fail
  refine (ref_Same _ _ _ _ _ _ _ _ _ hr89 hr9).mono ?_
  rintro e w10 ⟨rfl, rfl⟩
  rw [beq_self_eq_true]
  go_wp2
  go_ret
  have h8 := hbw6.trans (hb8.mono hbw6.size)
  exact ⟨rfl, h8.trans (hb9.mono h8.size)⟩
end Go.Proofs.Ytpcelfbekcpjmaa

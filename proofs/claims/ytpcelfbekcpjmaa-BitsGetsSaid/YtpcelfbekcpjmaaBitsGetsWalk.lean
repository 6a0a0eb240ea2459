/-
  The walk of the law 'BitsGets'.
-/
import Derived.Test.YtpcelfbekcpjmaaBtsTook
import Derived.Test.YtpcelfbekcpjmaaBitsSplitWalk
namespace Go.Proofs.Ytpcelfbekcpjmaa
open Go.RowKit
set_option linter.unusedVariables false

theorem get_split (b : List (BitVec 8)) (p q : Nat) (hp : p ≤ 31) (hq : q ≤ 31) (h : p + q ≤ 8 * b.length) :
    Bts.getR b ⟨0, 0⟩ ((p : Int) + (q : Int)) = ((Bts.getR b ⟨0, 0⟩ p).1 <<< q ||| (Bts.getR b ⟨p, 0⟩ q).1, ⟨p + q, 0⟩) ∧ (Bts.getR b ⟨0, 0⟩ p).2 = ⟨p, 0⟩ ∧ (Bts.getR b ⟨p, 0⟩ q).2 = ⟨p + q, 0⟩ := by
  have c1 : Bts.clamp ((p : Int) + (q : Int)) = p + q := by unfold Bts.clamp; omega
  have c2 : Bts.clamp (p : Int) = p := by unfold Bts.clamp; omega
  have c3 : Bts.clamp (q : Int) = q := by unfold Bts.clamp; omega
  have l0 : Bts.left b ⟨0, 0⟩ = 8 * b.length := by simp [Bts.left]
  have lp : Bts.left b ⟨p, 0⟩ = 8 * b.length - p := by simp [Bts.left]
  unfold Bts.getR
  rw [c1, c2, c3, l0, lp, if_neg (by omega), if_neg (by omega), if_neg (by omega)]
  refine ⟨?_, by simp, rfl⟩
  simp only [Nat.zero_add]
  have e : (Bts.rest b ⟨0, 0⟩).take (p + q) = (Bts.rest b ⟨0, 0⟩).take p ++ (Bts.rest b ⟨p, 0⟩).take q := by
    simp only [Bts.rest, if_true, List.drop_zero]
    exact List.take_add
  rw [e, Bts.val_app]
  have e2 : ((Bts.rest b ⟨p, 0⟩).take q).length = q := by
    rw [List.length_take, Bts.rest_len, lp]; omega
  rw [e2]

set_option maxHeartbeats 1600000 in
theorem law_BitsGets (a : Option Addr) (c : Nat) (b : List (BitVec 8)) (n m : Int) (w : World) (hs : SB w a b) (hc : b.length ≤ c) (hcm : c ≤ maxLen) (hn : -9223372036854775808 ≤ n ∧ n ≤ 9223372036854775807) (hm : -9223372036854775808 ≤ m ∧ m ≤ 9223372036854775807) :
    Calls Try.prog 4 #[.slice a b.length c, .int .i64 n, .int .i64 m] w fun e w' => e = .returned (.bool true) ∧ Below w.heap.size w w' := by
  obtain ⟨p, hp⟩ : ∃ p : Nat, n % 32 = (p : Int) := ⟨(n % 32).toNat, by omega⟩
  obtain ⟨q, hq⟩ : ∃ q : Nat, m % 32 = (q : Int) := ⟨(m % 32).toNat, by omega⟩
  have hp32 : p < 32 := by omega
  have hq32 : q < 32 := by omega
  have hu : bv (BitVec.ofNat 64 q) = (q : Int) := by unfold bv; rw [BitVec.toNat_ofNat]; omega
  go_enter Try.func4, Try.ntmps4
  go_wp2_with fail
  refine (law1_took _).mono ?_
  rintro e w1 ⟨rfl, hb1⟩
  have hs1 := hs.below (by decide) hb1
  by_cases h1 : 100 < b.length
  · have h1' : decide (100 < (b.length : Int)) = true := by simp; omega
    go_wp2
    go_ret
    exact ⟨rfl, hb1⟩
  have h1' : decide (100 < (b.length : Int)) = false := by simp; omega
  have i1 : IntKind.i64.wrap (8 * (b.length : Int)) = 8 * (b.length : Int) := IntWalk.i64_in _ (by omega)
  by_cases h2 : 8 * b.length < p + q
  · have h2' : decide (8 * (b.length : Int) < (p : Int) + (q : Int)) = true := by simp; omega
    go_wp2
    go_ret
    exact ⟨rfl, hb1⟩
  have h2' : decide (8 * (b.length : Int) < (p : Int) + (q : Int)) = false := by simp; omega
  obtain ⟨g1, g2, g3⟩ := get_split b p q (by omega) (by omega) (by omega)
  have G1 := Lib.hid g1
  have G2 := Lib.hid g2
  have G3 := Lib.hid g3
  clear g1 g2 g3 hs
  go_wp2_with fail
  refine (bits_Read w1.heap.size _ _ _ b _ (by rfl) ⟨rfl, hs1⟩ (by omega)).mono ?_
  rintro e w2 ⟨g, rfl, hg, hr2, hb2⟩
  have hs2 := hs1.below (by decide) hb2
  go_wp2_with fail
  refine (bits_Read w2.heap.size _ _ _ b _ (by rfl) ⟨rfl, hs2⟩ (by omega)).mono ?_
  rintro e w3 ⟨k, rfl, hk, hs3, hb3⟩
  have hr3 := hr2.keep hb3
  have hgk : g < w2.heap.size := hr2.lt
  have hbw3 := hb1.trans ((hb2.trans (hb3.mono hb2.size)).mono hb1.size)
  go_wp2_with fail
  refine (bits_Get g b _ ((p : Int) + (q : Int)) _ hr3 (by omega) (by omega)).mono ?_
  rw [G1.out]
  rintro e w4 ⟨rfl, hr4, ho4⟩
  have hs4 := hs3.only ho4 (by omega) (fun j hj h => by omega)
  have hbw4 := hbw3.trans (ho4.below hbw3.size fun j hj => by have := hb1.size; omega)
  go_wp2_with fail
  refine (bits_Get k b _ p _ hs4 (by omega) (by omega)).mono ?_
  rw [G2.out]
  rintro e w5 ⟨rfl, hs5, ho5⟩
  have hr5 := hr4.only ho5 (by omega) (fun j hj h => by omega)
  have hbw5 := hbw4.trans (ho5.below hbw4.size fun j hj => by have := hb1.size; omega)
  go_wp2_with fail
  refine (bits_Get k b _ q _ hs5 (by omega) (by omega)).mono ?_
  rw [G3.out]
  rintro e w6 ⟨rfl, hs6, ho6⟩
  have hr6 := hr5.only ho6 (by omega) (fun j hj h => by omega)
  have hbw6 := hbw5.trans (ho6.below hbw5.size fun j hj => by have := hb1.size; omega)
  have hlf : Bts.left b ⟨p + q, 0⟩ = 8 * b.length - (p + q) := by simp [Bts.left]
  have hli : ((Bts.left b ⟨p + q, 0⟩ : Nat) : Int) = 8 * (b.length : Int) - p - q := by rw [hlf]; omega
  obtain ⟨lf, hlf2⟩ : ∃ x, x = Bts.left b ⟨p + q, 0⟩ := ⟨_, rfl⟩
  rw [← hlf2] at hli
  have Hlf := Lib.hid hlf2
  clear hlf hlf2 hr2 hr3 hs3 hr4 hs4 hs5 hr5
  go_wp2_with fail
  refine (bits_Left g b _ _ hr6 (by omega)).mono ?_
  rw [← Hlf.out]
  rintro e w7 ⟨rfl, hb7⟩
  have hs7 := hs6.keep hb7
  have hr7 := hr6.keep hb7
  have hbw7 := hbw6.trans (hb7.mono hbw6.size)
  go_wp2_with fail
  refine (bits_Left k b _ _ hs7 (by omega)).mono ?_
  rw [← Hlf.out]
  rintro e w8 ⟨rfl, hb8⟩
  have hr8 := hr7.keep hb8
  have hbw8 := hbw7.trans (hb8.mono hbw7.size)
  go_wp2_with fail
  refine (bits_Left g b _ _ hr8 (by omega)).mono ?_
  rw [← Hlf.out]
  rintro e w9 ⟨rfl, hb9⟩
  have hbw9 := hbw8.trans (hb9.mono hbw8.size)
  go_wp2_with fail
  go_ret
  exact ⟨rfl, hbw9⟩
end Go.Proofs.Ytpcelfbekcpjmaa

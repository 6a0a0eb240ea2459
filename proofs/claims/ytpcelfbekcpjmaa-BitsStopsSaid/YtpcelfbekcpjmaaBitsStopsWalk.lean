/-
  The walk of the law 'BitsStops'.
-/
import Derived.Test.YtpcelfbekcpjmaaBtsRNum
namespace Go.Proofs.Ytpcelfbekcpjmaa
open Go.RowKit
set_option linter.unusedVariables false

set_option maxHeartbeats 1600000 in
theorem law_BitsStops (a : Option Addr) (c : Nat) (b : List (BitVec 8)) (e f : Int) (w : World) (hs : SB w a b) (hc : b.length ≤ c) (hcm : c ≤ maxLen) (he : -9223372036854775808 ≤ e ∧ e ≤ 9223372036854775807) (hf : -9223372036854775808 ≤ f ∧ f ≤ 9223372036854775807) :
    Calls Try.prog 7 #[.slice a b.length c, .int .i64 e, .int .i64 f] w fun e w' => e = .returned (.bool true) ∧ Below w.heap.size w w' := by
  go_enter Try.func7, Try.ntmps7
  go_wp2_with fail
  refine (law1_took _).mono ?_
  rintro x w1 ⟨rfl, hb1⟩
  have hs1 := hs.below (by decide) hb1
  by_cases h1 : 100 < b.length
  · have h1' : decide (100 < (b.length : Int)) = true := by simp; omega
    go_wp2
    go_ret
    exact ⟨rfl, hb1⟩
  have h1' : decide (100 < (b.length : Int)) = false := by simp; omega
  by_cases h2 : e = 0
  · have h2' : (e == 0) = true := by simpa using h2
    go_wp2
    go_ret
    exact ⟨rfl, hb1⟩
  have h2' : (e == 0) = false := by simpa using h2
  by_cases h3 : f = 0
  · have h3' : (f == 0) = true := by simpa using h3
    go_wp2
    go_ret
    exact ⟨rfl, hb1⟩
  have h3' : (f == 0) = false := by simpa using h3
  have i1 : IntKind.i64.wrap (8 * (b.length : Int)) = 8 * (b.length : Int) := IntWalk.i64_in _ (by omega)
  have l0 : ((Bts.left b ⟨0, 0⟩ : Nat) : Int) = 8 * (b.length : Int) := by simp [Bts.left]
  have L0 := Lib.hid l0
  have f1 : Bts.failed ⟨0, 0⟩ e = ⟨0, e⟩ := by simp [Bts.failed]
  have f2 : Bts.failed ⟨0, e⟩ f = ⟨0, e⟩ := by simp [Bts.failed, h2]
  have F1 := Lib.hid f1
  have F2 := Lib.hid f2
  have hen : Bts.endR b ⟨0, e⟩ = e := by simp [Bts.endR, h2]
  have hg1 : Bts.getR b ⟨0, e⟩ 1 = (0#64, ⟨0, e⟩) := Bts.getR_stopped b ⟨0, e⟩ h2
  have hnm : Bts.numR b ⟨0, e⟩ = (0#64, ⟨0, e⟩) := by simp [Bts.numR, h2]
  have hit : Bts.intR b ⟨0, e⟩ = (0, ⟨0, e⟩) := by unfold Bts.intR; rw [hnm]; simp [Bts.unzig]
  have hlz : Bts.left b ⟨0, e⟩ = 0 := by simp [Bts.left, h2]
  have Hen := Lib.hid hen
  have Hg1 := Lib.hid hg1
  have Hnm := Lib.hid hnm
  have Hit := Lib.hid hit
  have Hlz := Lib.hid hlz
  clear l0 f1 f2 hs hen hg1 hnm hit hlz h2 h3
  go_wp2_with fail
  refine (bits_Read w1.heap.size _ _ _ b _ (by rfl) ⟨rfl, hs1⟩ (by omega)).mono ?_
  rintro x w2 ⟨g, rfl, hg, hr2, hb2⟩
  have hbw2 := hb1.trans (hb2.mono hb1.size)
  have hwg : w.heap.size ≤ g := by have := hb1.size; omega
  go_wp2_with fail
  refine (bits_Left g b _ _ hr2 (by omega)).mono ?_
  rw [L0.out]
  rintro x w3 ⟨rfl, hb3⟩
  have hr3 := hr2.keep hb3
  have hbw3 := hbw2.trans (hb3.mono hbw2.size)
  go_wp2_with fail
  refine (bits_Fail g b _ e _ hr3 he).mono ?_
  rw [F1.out]
  rintro x w4 ⟨rfl, hr4, ho4⟩
  have hbw4 := hbw3.trans (ho4.below hbw3.size fun j hj => by omega)
  go_wp2_with fail
  refine (bits_Fail g b _ f _ hr4 hf).mono ?_
  rw [F2.out]
  rintro x w5 ⟨rfl, hr5, ho5⟩
  have hbw5 := hbw4.trans (ho5.below hbw4.size fun j hj => by omega)
  go_wp2_with fail
  refine (bits_Err g b _ _ hr5).mono ?_
  rintro x w6 ⟨rfl, rfl⟩
  go_wp2_with fail
  refine (bits_End g b _ _ hr5 (by omega)).mono ?_
  rw [Hen.out]
  rintro x w6 ⟨rfl, hb6⟩
  have hr6 := hr5.keep hb6
  have hbw6 := hbw5.trans (hb6.mono hbw5.size)
  go_wp2_with fail
  refine (bits_Get g b _ 1 _ hr6 (by omega) (by decide)).mono ?_
  rw [Hg1.out]
  rintro x w7 ⟨rfl, hr7, ho7⟩
  have hbw7 := hbw6.trans (ho7.below hbw6.size fun j hj => by omega)
  have hv : bv (0#64) = (0 : Int) := rfl
  simp only [hv]
  go_wp2_with fail
  refine (bits_RNum g b _ _ hr7 (by omega)).mono ?_
  rw [Hnm.out]
  rintro x w8 ⟨rfl, hr8, ho8⟩
  have hbw8 := hbw7.trans (ho8.below hbw7.size fun j hj => by omega)
  simp only [hv]
  go_wp2_with fail
  refine (bits_RInt g b _ _ hr8 (by omega)).mono ?_
  rw [Hit.out]
  rintro x w9 ⟨rfl, hr9, ho9⟩
  have hbw9 := hbw8.trans (ho9.below hbw8.size fun j hj => by omega)
  go_wp2_with fail
  refine (bits_Left g b _ _ hr9 (by omega)).mono ?_
  rw [Hlz.out]
  rintro x w10 ⟨rfl, hb10⟩
  go_wp2_with fail
  go_ret
  exact ⟨rfl, hbw9.trans (hb10.mono hbw9.size)⟩
end Go.Proofs.Ytpcelfbekcpjmaa

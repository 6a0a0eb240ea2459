/-
  The document's example of a reader of bits.
-/
import Derived.Test.YtpcelfbekcpjmaaBtsGet
namespace Go.Proofs.Ytpcelfbekcpjmaa
open Go.RowKit
set_option linter.unusedVariables false

set_option maxHeartbeats 800000 in
theorem law1_took (w : World) :
    Calls Try.prog 15 #[] w fun e w' => e = .returned (.bool true) ∧ Below w.heap.size w w' := by
  have h1 : Bts.getR [162#8] ⟨0, 0⟩ 3 = (5#64, ⟨3, 0⟩) := by rfl
  have h2 : Bts.left [162#8] ⟨3, 0⟩ = 5 := by decide +kernel
  have H1 := Lib.hid h1
  have H2 := Lib.hid h2
  clear h1 h2
  have hb1 : Below w.heap.size w (w.alloc (.cells #[.int .u8 162] 5)) := (Below.refl _ _).alloc (Nat.le_refl _) _
  have r2 : SB (w.alloc (.cells #[.int .u8 162] 5)) (some ⟨w.heap.size, 0, none⟩) [162#8] := sl_cells (heap_alloc_new w _) rfl trivial
  go_enter Try.func15, Try.ntmps15
  go_wp2_with fail
  refine (bits_Read _ _ _ _ [162#8] _ (by rfl) ⟨rfl, r2⟩ (by decide)).mono ?_
  rintro e w3 ⟨g, rfl, hg, hr3, hb3⟩
  have hg' : w.heap.size ≤ g := by simp at hg; omega
  have hbw3 := hb1.trans (hb3.mono hb1.size)
  go_wp2_with fail
  refine (bits_Get g _ _ 3 _ hr3 (by decide) (by decide)).mono ?_
  rw [H1.out]
  rintro e w4 ⟨rfl, hr4, ho4⟩
  have hbw4 := hbw3.trans (ho4.below hbw3.size fun k hk => by omega)
  have h5 : bv (5#64) = (5 : Int) := rfl
  rw [h5]
  clear h5
  go_wp2_with fail
  refine (bits_Left g _ _ _ hr4 (by decide)).mono ?_
  rw [H2.out]
  rintro e w5 ⟨rfl, hb5⟩
  go_wp2
  go_ret
  exact ⟨rfl, hbw4.trans (hb5.mono hbw4.size)⟩
end Go.Proofs.Ytpcelfbekcpjmaa

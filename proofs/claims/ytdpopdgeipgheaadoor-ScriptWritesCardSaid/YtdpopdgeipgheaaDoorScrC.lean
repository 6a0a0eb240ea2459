
/-
  What the checks of plans and of setups compute.
-/
import Derived.Test.YtdpopdgeipgheaaDoorScr
import Derived.Test.YtdpopdgeipgheaaDoorRow
import Derived.Test.YtdpopdgeipgheaaDoorOpen
import Derived.BigRegion
namespace Go.Proofs.YtdpopdgeipgheaaDoor
open Go.RowKit
set_option linter.unusedVariables false

namespace Sc
/-- between which a setup's first numbers must be -/
def bnd : Array Value := #[.int .i64 1, .int .i64 7, .int .i64 1, .int .i64 4, .int .i64 1, .int .i64 16, .int .i64 1, .int .i64 2, .int .i64 0, .int .i64 100, .int .i64 1, .int .i64 1000, .int .i64 0, .int .i64 4194304, .int .i64 0, .int .i64 1073741824, .int .i64 0, .int .i64 63]
end Sc
/-- the bounds lie in the program's variable -/
def Bounds (w : World) : Prop := ∃ t fr, w.heap[0]? = some (.cells Sc.bnd t fr)
theorem Bounds.lt {w : World} (h : Bounds w) : 0 < w.heap.size := by
  obtain ⟨t, fr, h⟩ := h
  rcases Nat.lt_or_ge 0 w.heap.size with h1 | h1
  · exact h1
  · rw [Array.getElem?_eq_none h1] at h; cases h
theorem Bounds.below {w w' : World} {B : Nat} (h : Bounds w) (hb : Below B w w') (hB : 0 < B) : Bounds w' := by
  obtain ⟨t, fr, h⟩ := h
  exact ⟨t, fr, by rw [hb.block _ hB]; exact h⟩

theorem draw_Check (k m r w b s : Int) (W : World) :
    Calls Tryd.prog 30 #[.agg #[.int .i64 k, .int .i64 m, .int .i64 r, .int .i64 w, .int .i64 b, .int .i64 s]] W fun e w' => e = .returned (.int .i64 (if Sc.planR k m r w b s then 0 else 1)) ∧ Below W.heap.size W w' := by
  obtain ⟨res, hres⟩ : ∃ x : Int, x = (if Sc.planR k m r w b s then 0 else 1) := ⟨_, rfl⟩
  rw [← hres]
  have Hres := Lib.hid hres
  obtain ⟨B, hB⟩ : ∃ x, x = W.heap.size := ⟨_, rfl⟩
  rw [← hB]
  obtain ⟨w1, hw1⟩ : ∃ x, x = W.alloc (.cells #[.int .i64 k, .int .i64 m, .int .i64 r, .int .i64 w, .int .i64 b, .int .i64 s] 24) := ⟨_, rfl⟩
  have hh1 : w1.heap[B]? = some (.cells #[.int .i64 k, .int .i64 m, .int .i64 r, .int .i64 w, .int .i64 b, .int .i64 s] 24 (0, 0)) := by subst hw1; subst hB; exact heap_alloc_new W _
  have hb1 : Below B W w1 := by subst hw1; subst hB; exact (Below.refl _ _).alloc (Nat.le_refl _) _
  have hn1 : w1.heap.size = B + 1 := by subst hw1; subst hB; simp
  have z0 : w1.cell? ⟨B, 0, none⟩ = some (.int .i64 k) := by simp [World.cell?, hh1]
  have z1 : w1.cell? ⟨B, 1, none⟩ = some (.int .i64 m) := by simp [World.cell?, hh1]
  have z2 : w1.cell? ⟨B, 2, none⟩ = some (.int .i64 r) := by simp [World.cell?, hh1]
  have z3 : w1.cell? ⟨B, 3, none⟩ = some (.int .i64 w) := by simp [World.cell?, hh1]
  have z4 : w1.cell? ⟨B, 4, none⟩ = some (.int .i64 b) := by simp [World.cell?, hh1]
  have z5 : w1.cell? ⟨B, 5, none⟩ = some (.int .i64 s) := by simp [World.cell?, hh1]
  obtain ⟨w2, hw2⟩ : ∃ x, x = w1.alloc (.cells #[.int .i64 r, .int .i64 w, .int .i64 b, .int .i64 s] 3) := ⟨_, rfl⟩
  have hb2 : Below (B + 1) w1 w2 := by subst hw2; rw [← hn1]; exact (Below.refl _ _).alloc (Nat.le_refl _) _
  have hh2 : w2.heap[B + 1]? = some (.cells #[.int .i64 r, .int .i64 w, .int .i64 b, .int .i64 s] 3 (0, 0)) := by subst hw2; rw [← hn1]; exact heap_alloc_new w1 _
  have hex2 := hw2.symm
  have hbw : Below B W w2 := hb1.trans (hb2.mono (by omega))
  have y0 : w2.cell? ⟨B, 0, none⟩ = some (.int .i64 k) := by rw [cell_keep (hb2.block B (by omega))]; exact z0
  have y1 : w2.cell? ⟨B, 1, none⟩ = some (.int .i64 m) := by rw [cell_keep (hb2.block B (by omega))]; exact z1
  have y2 : w2.cell? ⟨B, 2, none⟩ = some (.int .i64 r) := by rw [cell_keep (hb2.block B (by omega))]; exact z2
  have y3 : w2.cell? ⟨B, 3, none⟩ = some (.int .i64 w) := by rw [cell_keep (hb2.block B (by omega))]; exact z3
  have y4 : w2.cell? ⟨B, 4, none⟩ = some (.int .i64 b) := by rw [cell_keep (hb2.block B (by omega))]; exact z4
  have y5 : w2.cell? ⟨B, 5, none⟩ = some (.int .i64 s) := by rw [cell_keep (hb2.block B (by omega))]; exact z5
  have ys : ∀ j, j < 4 → ∃ x, w2.cell? ⟨B + 1, j, none⟩ = some (.int .i64 x) ∧ ((j = 0 ∧ x = r) ∨ (j = 1 ∧ x = w) ∨ (j = 2 ∧ x = b) ∨ (j = 3 ∧ x = s)) := by
    intro j hj
    have e : j = 0 ∨ j = 1 ∨ j = 2 ∨ j = 3 := by omega
    rcases e with rfl | rfl | rfl | rfl
    · exact ⟨r, by simp [World.cell?, hh2], .inl ⟨rfl, rfl⟩⟩
    · exact ⟨w, by simp [World.cell?, hh2], .inr (.inl ⟨rfl, rfl⟩)⟩
    · exact ⟨b, by simp [World.cell?, hh2], .inr (.inr (.inl ⟨rfl, rfl⟩))⟩
    · exact ⟨s, by simp [World.cell?, hh2], .inr (.inr (.inr ⟨rfl, rfl⟩))⟩
  have Hys := Lib.hid ys
  have Hbw := Lib.hid hbw
  go_enter Tryd.func30, Tryd.ntmps30
  clear hres hh1 hh2 hw2 hb1 hb2 ys hbw
  go_upto_region 1 with fail
  rw [← hB, ← hw1]
  clear hw1 hB
  go_upto_region 2 with fail
  clear hex2 hn1 z0 z1 z2 z3 z4 z5
  go_loopw [15] (fun i wr => ∃ (j : Nat), j ≤ 4 ∧ i = .int .i64 j ∧ wr = w2 ∧ RowKit.Hid ((0 < j → 0 ≤ r ∧ r ≤ 1000) ∧ (1 < j → 0 ≤ w ∧ w ≤ 1000) ∧ (2 < j → 0 ≤ b ∧ b ≤ 1000) ∧ (3 < j → 0 ≤ s ∧ s ≤ 1000))) (fun i _ => 4 - (intOf i).toNat)
  case atStart => exact ⟨0, Nat.zero_le _, rfl, rfl, Lib.hid ⟨fun h => by omega, fun h => by omega, fun h => by omega, fun h => by omega⟩⟩
  case round =>
    obtain ⟨j, hj, rfl, rfl, hall⟩ := hrel
    by_cases hlt : j < 4
    · have hji : (j : Int) < 4 := by omega
      obtain ⟨x, hx, hx2⟩ := Hys.out j hlt
      have Hx2 := Lib.hid hx2
      clear hx2
      by_cases c0 : x < 0
      · have : res = 1 := by rw [Hres.out, if_neg]; rintro ⟨h1, h2, h3, h4, _⟩; rcases Hx2.out with ⟨_, rfl⟩ | ⟨_, rfl⟩ | ⟨_, rfl⟩ | ⟨_, rfl⟩ <;> omega
        subst this
        go_wp2_with fail
        refine bodyPost_ret (v := .int .i64 1) (by simp [results, Tryd.results30, go_sem]) rfl ?_
        exact ⟨rfl, Hbw.out⟩
      by_cases c1 : 1000 < x
      · have : res = 1 := by rw [Hres.out, if_neg]; rintro ⟨h1, h2, h3, h4, _⟩; rcases Hx2.out with ⟨_, rfl⟩ | ⟨_, rfl⟩ | ⟨_, rfl⟩ | ⟨_, rfl⟩ <;> omega
        subst this
        go_wp2_with fail
        refine bodyPost_ret (v := .int .i64 1) (by simp [results, Tryd.results30, go_sem]) rfl ?_
        exact ⟨rfl, Hbw.out⟩
      have hall' : RowKit.Hid ((0 < j + 1 → 0 ≤ r ∧ r ≤ 1000) ∧ (1 < j + 1 → 0 ≤ w ∧ w ≤ 1000) ∧ (2 < j + 1 → 0 ≤ b ∧ b ≤ 1000) ∧ (3 < j + 1 → 0 ≤ s ∧ s ≤ 1000)) := by
        obtain ⟨h1, h2, h3, h4⟩ := hall.out
        refine Lib.hid ⟨fun h => ?_, fun h => ?_, fun h => ?_, fun h => ?_⟩
        · by_cases hq : 0 < j
          · exact h1 hq
          · rcases Hx2.out with ⟨h, rfl⟩ | ⟨h, rfl⟩ | ⟨h, rfl⟩ | ⟨h, rfl⟩ <;> omega
        · by_cases hq : 1 < j
          · exact h2 hq
          · rcases Hx2.out with ⟨h, rfl⟩ | ⟨h, rfl⟩ | ⟨h, rfl⟩ | ⟨h, rfl⟩ <;> omega
        · by_cases hq : 2 < j
          · exact h3 hq
          · rcases Hx2.out with ⟨h, rfl⟩ | ⟨h, rfl⟩ | ⟨h, rfl⟩ | ⟨h, rfl⟩ <;> omega
        · rcases Hx2.out with ⟨h, rfl⟩ | ⟨h, rfl⟩ | ⟨h, rfl⟩ | ⟨h, rfl⟩ <;> omega
      go_wp2_with fail
      go_roundw
      case rel => exact ⟨j + 1, by omega, by go_num, by simp, hall'⟩
      case measure => simp [intOf]; omega
    · have hji : ¬ ((j : Int) < 4) := by omega
      obtain ⟨h1, h2, h3, h4⟩ := hall.out
      have h1 := h1 (by omega)
      have h2 := h2 (by omega)
      have h3 := h3 (by omega)
      have h4 := h4 (by omega)
      obtain ⟨r0, r1⟩ := h1
      obtain ⟨a0, a1⟩ := h2
      obtain ⟨b0, b1⟩ := h3
      obtain ⟨s0, s1⟩ := h4
      clear hall Hys hlt hj
      by_cases k1 : k < 1
      · have : res = 1 := by rw [Hres.out, if_neg]; rintro ⟨h1, h2, h3, h4, h5, h6, h7⟩; omega
        subst this
        go_wp2_with fail
        refine bodyPost_ret (v := .int .i64 1) (by simp [results, Tryd.results30, go_sem]) rfl ?_
        exact ⟨rfl, Hbw.out⟩
      by_cases k2 : 16 < k
      · have : res = 1 := by rw [Hres.out, if_neg]; rintro ⟨h1, h2, h3, h4, h5, h6, h7⟩; omega
        subst this
        go_wp2_with fail
        refine bodyPost_ret (v := .int .i64 1) (by simp [results, Tryd.results30, go_sem]) rfl ?_
        exact ⟨rfl, Hbw.out⟩
      by_cases k3 : m < 1
      · have : res = 1 := by rw [Hres.out, if_neg]; rintro ⟨h1, h2, h3, h4, h5, h6, h7⟩; omega
        subst this
        go_wp2_with fail
        refine bodyPost_ret (v := .int .i64 1) (by simp [results, Tryd.results30, go_sem]) rfl ?_
        exact ⟨rfl, Hbw.out⟩
      by_cases k4 : 12 < m
      · have : res = 1 := by rw [Hres.out, if_neg]; rintro ⟨h1, h2, h3, h4, h5, h6, h7⟩; omega
        subst this
        go_wp2_with fail
        refine bodyPost_ret (v := .int .i64 1) (by simp [results, Tryd.results30, go_sem]) rfl ?_
        exact ⟨rfl, Hbw.out⟩
      by_cases k5 : r + w + b + s = 0
      · have : res = 1 := by rw [Hres.out, if_neg]; rintro ⟨h1, h2, h3, h4, h5, h6, h7⟩; omega
        subst this
        go_wp2_with fail
        refine bodyPost_ret (v := .int .i64 1) (by simp [results, Tryd.results30, go_sem]) rfl ?_
        exact ⟨rfl, Hbw.out⟩
      · have : res = 0 := by rw [Hres.out, if_pos]; exact ⟨⟨r0, r1⟩, ⟨a0, a1⟩, ⟨b0, b1⟩, ⟨s0, s1⟩, ⟨by omega, by omega⟩, ⟨by omega, by omega⟩, k5⟩
        subst this
        go_wp2_with fail
        refine bodyPost_ret (v := .int .i64 0) (by simp [results, Tryd.results30, go_sem]) rfl ?_
        exact ⟨rfl, Hbw.out⟩

/-- where a setup's numbers lie among its cells -/
def fo (j : Nat) : Nat := if j < 9 then j else j + 1
/-- a setup's cells -/
def confCells (c : Sc.Conf) : Array Value := #[.int .i64 (Sc.cf c 0), .int .i64 (Sc.cf c 1), .int .i64 (Sc.cf c 2), .int .i64 (Sc.cf c 3), .int .i64 (Sc.cf c 4), .int .i64 (Sc.cf c 5), .int .i64 (Sc.cf c 6), .int .i64 (Sc.cf c 7), .int .i64 (Sc.cf c 8), .int .u64 (bv c.2), .int .i64 (Sc.cf c 9), .int .i64 (Sc.cf c 10), .int .i64 (Sc.cf c 11), .int .i64 (Sc.cf c 12), .int .i64 (Sc.cf c 13), .int .i64 (Sc.cf c 14)]
/-- pointers to them -/
def scPtrs (g : Nat) : Array Value := #[.pointer (some ⟨g, 0, none⟩), .pointer (some ⟨g, 1, none⟩), .pointer (some ⟨g, 2, none⟩), .pointer (some ⟨g, 3, none⟩), .pointer (some ⟨g, 4, none⟩), .pointer (some ⟨g, 5, none⟩), .pointer (some ⟨g, 6, none⟩), .pointer (some ⟨g, 7, none⟩), .pointer (some ⟨g, 8, none⟩), .pointer (some ⟨g, 10, none⟩), .pointer (some ⟨g, 11, none⟩), .pointer (some ⟨g, 12, none⟩), .pointer (some ⟨g, 13, none⟩), .pointer (some ⟨g, 14, none⟩), .pointer (some ⟨g, 15, none⟩)]
theorem cases15 {P : Nat → Prop} (j : Nat) (hj : j < 15) (h0 : P 0) (h1 : P 1) (h2 : P 2) (h3 : P 3) (h4 : P 4) (h5 : P 5) (h6 : P 6) (h7 : P 7) (h8 : P 8) (h9 : P 9) (h10 : P 10) (h11 : P 11) (h12 : P 12) (h13 : P 13) (h14 : P 14) : P j := by
  have e : j = 0 ∨ j = 1 ∨ j = 2 ∨ j = 3 ∨ j = 4 ∨ j = 5 ∨ j = 6 ∨ j = 7 ∨ j = 8 ∨ j = 9 ∨ j = 10 ∨ j = 11 ∨ j = 12 ∨ j = 13 ∨ j = 14 := by omega
  rcases e with rfl | rfl | rfl | rfl | rfl | rfl | rfl | rfl | rfl | rfl | rfl | rfl | rfl | rfl | rfl
  · exact h0
  · exact h1
  · exact h2
  · exact h3
  · exact h4
  · exact h5
  · exact h6
  · exact h7
  · exact h8
  · exact h9
  · exact h10
  · exact h11
  · exact h12
  · exact h13
  · exact h14
theorem scPtrs_get (g j : Nat) (h : j < 15) : (scPtrs g)[j]? = some (.pointer (some ⟨g, fo j, none⟩)) := by
  refine cases15 (P := fun j => (scPtrs g)[j]? = some (.pointer (some ⟨g, fo j, none⟩))) j h rfl rfl rfl rfl rfl rfl rfl rfl rfl rfl rfl rfl rfl rfl rfl
theorem confCells_num (c : Sc.Conf) (j : Nat) (h : j < 15) : (confCells c)[fo j]? = some (.int .i64 (Sc.cf c j)) := by
  refine cases15 (P := fun j => (confCells c)[fo j]? = some (.int .i64 (Sc.cf c j))) j h rfl rfl rfl rfl rfl rfl rfl rfl rfl rfl rfl rfl rfl rfl rfl

set_option maxRecDepth 4096 in
set_option maxHeartbeats 3200000 in
theorem script_fields (g : Nat) (w : World) :
    Calls Tryd.prog 21 #[.pointer (some ⟨g, 0, none⟩)] w fun e w' => e = .returned (.slice (some ⟨w.heap.size, 0, none⟩) 15 15) ∧ w'.heap[w.heap.size]? = some (.cells (scPtrs g) 65 (0, 0)) ∧ Below w.heap.size w w' := by
  go_enter Tryd.func21, Tryd.ntmps21
  go_wp2_with fail
  go_region
  go_wp2_with fail
  go_ret
  exact ⟨rfl, heap_alloc_new w.drew _, (Below.refl _ w).drew.alloc (Nat.le_refl _) _⟩

theorem sc_index0 (W : World) : (Instr.index 75 (.agg Sc.bnd) (.int .i64 0)).run Tryd.prog W = .ok (.agg #[.int .i64 1, .int .i64 7]) W := by kernel_rfl
theorem sc_index1 (W : World) : (Instr.index 75 (.agg Sc.bnd) (.int .i64 1)).run Tryd.prog W = .ok (.agg #[.int .i64 1, .int .i64 4]) W := by kernel_rfl
theorem sc_index2 (W : World) : (Instr.index 75 (.agg Sc.bnd) (.int .i64 2)).run Tryd.prog W = .ok (.agg #[.int .i64 1, .int .i64 16]) W := by kernel_rfl
theorem sc_index3 (W : World) : (Instr.index 75 (.agg Sc.bnd) (.int .i64 3)).run Tryd.prog W = .ok (.agg #[.int .i64 1, .int .i64 2]) W := by kernel_rfl
theorem sc_index4 (W : World) : (Instr.index 75 (.agg Sc.bnd) (.int .i64 4)).run Tryd.prog W = .ok (.agg #[.int .i64 0, .int .i64 100]) W := by kernel_rfl
theorem sc_index5 (W : World) : (Instr.index 75 (.agg Sc.bnd) (.int .i64 5)).run Tryd.prog W = .ok (.agg #[.int .i64 1, .int .i64 1000]) W := by kernel_rfl
theorem sc_index6 (W : World) : (Instr.index 75 (.agg Sc.bnd) (.int .i64 6)).run Tryd.prog W = .ok (.agg #[.int .i64 0, .int .i64 4194304]) W := by kernel_rfl
theorem sc_index7 (W : World) : (Instr.index 75 (.agg Sc.bnd) (.int .i64 7)).run Tryd.prog W = .ok (.agg #[.int .i64 0, .int .i64 1073741824]) W := by kernel_rfl
theorem sc_index8 (W : World) : (Instr.index 75 (.agg Sc.bnd) (.int .i64 8)).run Tryd.prog W = .ok (.agg #[.int .i64 0, .int .i64 63]) W := by kernel_rfl
theorem sc_index (j : Nat) (h : j < 9) (W : World) : (Instr.index 75 (.agg Sc.bnd) (.int .i64 (j : Int))).run Tryd.prog W = .ok (.agg #[.int .i64 (Sc.lows.getD j 0), .int .i64 (Sc.highs.getD j 0)]) W := by
  have e : j = 0 ∨ j = 1 ∨ j = 2 ∨ j = 3 ∨ j = 4 ∨ j = 5 ∨ j = 6 ∨ j = 7 ∨ j = 8 := by omega
  rcases e with rfl | rfl | rfl | rfl | rfl | rfl | rfl | rfl | rfl
  · exact sc_index0 W
  · exact sc_index1 W
  · exact sc_index2 W
  · exact sc_index3 W
  · exact sc_index4 W
  · exact sc_index5 W
  · exact sc_index6 W
  · exact sc_index7 W
  · exact sc_index8 W


end Go.Proofs.YtdpopdgeipgheaaDoor


/-
  What the reference's checks of plans and of setups compute.
-/
import Derived.Test.YtdpopdgeipgheaaDoorScrC
import Derived.Deep.MidRow
namespace Go.Proofs.YtdpopdgeipgheaaDoor
open Go.RowKit
set_option linter.unusedVariables false

theorem ref13_Right (k m r w b s : Int) (W : World) :
    Calls Tryd.prog 31 #[.agg #[.int .i64 k, .int .i64 m, .int .i64 r, .int .i64 w, .int .i64 b, .int .i64 s]] W fun e w' => e = .returned (.bool (decide (Sc.planR k m r w b s))) ∧ Below W.heap.size W w' := by
  obtain ⟨res, hres⟩ : ∃ x : Bool, x = decide (Sc.planR k m r w b s) := ⟨_, rfl⟩
  rw [← hres]
  have Hres := Lib.hid hres
  obtain ⟨B, hB⟩ : ∃ x, x = W.heap.size := ⟨_, rfl⟩
  rw [← hB]
  obtain ⟨w1, hw1⟩ : ∃ x, x = W.alloc (.cells #[.int .i64 k, .int .i64 m, .int .i64 r, .int .i64 w, .int .i64 b, .int .i64 s] 77) := ⟨_, rfl⟩
  have hh1 : w1.heap[B]? = some (.cells #[.int .i64 k, .int .i64 m, .int .i64 r, .int .i64 w, .int .i64 b, .int .i64 s] 77 (0, 0)) := by subst hw1; subst hB; exact heap_alloc_new W _
  have hb1 : Below B W w1 := by subst hw1; subst hB; exact (Below.refl _ _).alloc (Nat.le_refl _) _
  have hn1 : w1.heap.size = B + 1 := by subst hw1; subst hB; simp
  have z0 : w1.cell? ⟨B, 0, none⟩ = some (.int .i64 k) := by simp [World.cell?, hh1]
  have z1 : w1.cell? ⟨B, 1, none⟩ = some (.int .i64 m) := by simp [World.cell?, hh1]
  have z2 : w1.cell? ⟨B, 2, none⟩ = some (.int .i64 r) := by simp [World.cell?, hh1]
  have z3 : w1.cell? ⟨B, 3, none⟩ = some (.int .i64 w) := by simp [World.cell?, hh1]
  have z4 : w1.cell? ⟨B, 4, none⟩ = some (.int .i64 b) := by simp [World.cell?, hh1]
  have z5 : w1.cell? ⟨B, 5, none⟩ = some (.int .i64 s) := by simp [World.cell?, hh1]
  obtain ⟨w2, hw2⟩ : ∃ x, x = w1.alloc (.cells #[.int .i64 r, .int .i64 w, .int .i64 b, .int .i64 s] 3) := ⟨_, rfl⟩
  have hb2 : Below (B + 1) w1 w2 := by subst hw2; rw [← hn1]; exact (Below.refl _ _).alloc (Nat.le_refl _) _
  have hh2 : w2.heap[B + 1]? = some (.cells #[.int .i64 r, .int .i64 w, .int .i64 b, .int .i64 s] 3 (0, 0)) := by subst hw2; rw [← hn1]; exact heap_alloc_new w1 _
  have hex2 := hw2.symm
  have hbw : Below B W w2 := hb1.trans (hb2.mono (by omega))
  have y0 : w2.cell? ⟨B, 0, none⟩ = some (.int .i64 k) := by rw [cell_keep (hb2.block B (by omega))]; exact z0
  have y1 : w2.cell? ⟨B, 1, none⟩ = some (.int .i64 m) := by rw [cell_keep (hb2.block B (by omega))]; exact z1
  have y2 : w2.cell? ⟨B, 2, none⟩ = some (.int .i64 r) := by rw [cell_keep (hb2.block B (by omega))]; exact z2
  have y3 : w2.cell? ⟨B, 3, none⟩ = some (.int .i64 w) := by rw [cell_keep (hb2.block B (by omega))]; exact z3
  have y4 : w2.cell? ⟨B, 4, none⟩ = some (.int .i64 b) := by rw [cell_keep (hb2.block B (by omega))]; exact z4
  have y5 : w2.cell? ⟨B, 5, none⟩ = some (.int .i64 s) := by rw [cell_keep (hb2.block B (by omega))]; exact z5
  have ys : ∀ j, j < 4 → ∃ x, w2.cell? ⟨B + 1, j, none⟩ = some (.int .i64 x) ∧ ((j = 0 ∧ x = r) ∨ (j = 1 ∧ x = w) ∨ (j = 2 ∧ x = b) ∨ (j = 3 ∧ x = s)) := by
    intro j hj
    have e : j = 0 ∨ j = 1 ∨ j = 2 ∨ j = 3 := by omega
    rcases e with rfl | rfl | rfl | rfl
    · exact ⟨r, by simp [World.cell?, hh2], .inl ⟨rfl, rfl⟩⟩
    · exact ⟨w, by simp [World.cell?, hh2], .inr (.inl ⟨rfl, rfl⟩)⟩
    · exact ⟨b, by simp [World.cell?, hh2], .inr (.inr (.inl ⟨rfl, rfl⟩))⟩
    · exact ⟨s, by simp [World.cell?, hh2], .inr (.inr (.inr ⟨rfl, rfl⟩))⟩
  have Hys := Lib.hid ys
  have Hbw := Lib.hid hbw
  go_enter Tryd.func31, Tryd.ntmps31
  clear hres hh1 hh2 hw2 hb1 hb2 ys hbw
  go_upto_region 1 with fail
  rw [← hB, ← hw1]
  clear hw1 hB
  go_upto_region 3 with fail
  clear hex2 hn1 z0 z1 z2 z3 z4 z5
  go_loopw [3, 16] (fun tt i wr => ∃ (j : Nat) (t : Int), j ≤ 4 ∧ i = .int .i64 j ∧ tt = .int .i64 t ∧ wr = w2 ∧ RowKit.Hid ((j = 0 → t = 0) ∧ (j = 1 → t = r) ∧ (j = 2 → t = r + w) ∧ (j = 3 → t = r + w + b) ∧ (j = 4 → t = r + w + b + s)) ∧ RowKit.Hid ((0 < j → 0 ≤ r ∧ r ≤ 1000) ∧ (1 < j → 0 ≤ w ∧ w ≤ 1000) ∧ (2 < j → 0 ≤ b ∧ b ≤ 1000) ∧ (3 < j → 0 ≤ s ∧ s ≤ 1000))) (fun _ i _ => 4 - (intOf i).toNat)
  case atStart => exact ⟨0, 0, Nat.zero_le _, rfl, rfl, rfl, Lib.hid ⟨fun h => rfl, fun h => by omega, fun h => by omega, fun h => by omega, fun h => by omega⟩, Lib.hid ⟨fun h => by omega, fun h => by omega, fun h => by omega, fun h => by omega⟩⟩
  case round =>
    obtain ⟨j, t, hj, rfl, rfl, rfl, hsum, hall⟩ := hrel
    by_cases hlt : j < 4
    · have hji : (j : Int) < 4 := by omega
      obtain ⟨x, hx, hx2⟩ := Hys.out j hlt
      have Hx2 := Lib.hid hx2
      clear hx2
      by_cases c0 : x < 0
      · have : res = false := by rw [Hres.out, decide_eq_false]; rintro ⟨h1, h2, h3, h4, _⟩; rcases Hx2.out with ⟨_, rfl⟩ | ⟨_, rfl⟩ | ⟨_, rfl⟩ | ⟨_, rfl⟩ <;> omega
        subst this
        go_wp2_with fail
        refine bodyPost_ret (v := .bool false) (by simp [results, Tryd.results31, go_sem] <;> omega) rfl ?_
        exact ⟨rfl, Hbw.out⟩
      by_cases c1 : 1000 < x
      · have : res = false := by rw [Hres.out, decide_eq_false]; rintro ⟨h1, h2, h3, h4, _⟩; rcases Hx2.out with ⟨_, rfl⟩ | ⟨_, rfl⟩ | ⟨_, rfl⟩ | ⟨_, rfl⟩ <;> omega
        subst this
        go_wp2_with fail
        refine bodyPost_ret (v := .bool false) (by simp [results, Tryd.results31, go_sem] <;> omega) rfl ?_
        exact ⟨rfl, Hbw.out⟩
      have hall' : RowKit.Hid ((0 < j + 1 → 0 ≤ r ∧ r ≤ 1000) ∧ (1 < j + 1 → 0 ≤ w ∧ w ≤ 1000) ∧ (2 < j + 1 → 0 ≤ b ∧ b ≤ 1000) ∧ (3 < j + 1 → 0 ≤ s ∧ s ≤ 1000)) := by
        obtain ⟨h1, h2, h3, h4⟩ := hall.out
        refine Lib.hid ⟨fun h => ?_, fun h => ?_, fun h => ?_, fun h => ?_⟩
        · by_cases hq : 0 < j
          · exact h1 hq
          · rcases Hx2.out with ⟨h, rfl⟩ | ⟨h, rfl⟩ | ⟨h, rfl⟩ | ⟨h, rfl⟩ <;> omega
        · by_cases hq : 1 < j
          · exact h2 hq
          · rcases Hx2.out with ⟨h, rfl⟩ | ⟨h, rfl⟩ | ⟨h, rfl⟩ | ⟨h, rfl⟩ <;> omega
        · by_cases hq : 2 < j
          · exact h3 hq
          · rcases Hx2.out with ⟨h, rfl⟩ | ⟨h, rfl⟩ | ⟨h, rfl⟩ | ⟨h, rfl⟩ <;> omega
        · rcases Hx2.out with ⟨h, rfl⟩ | ⟨h, rfl⟩ | ⟨h, rfl⟩ | ⟨h, rfl⟩ <;> omega
      have hsum' : RowKit.Hid ((j + 1 = 0 → t + x = 0) ∧ (j + 1 = 1 → t + x = r) ∧ (j + 1 = 2 → t + x = r + w) ∧ (j + 1 = 3 → t + x = r + w + b) ∧ (j + 1 = 4 → t + x = r + w + b + s)) := by
        obtain ⟨h0, h1, h2, h3, h4⟩ := hsum.out
        refine Lib.hid ⟨fun h => by omega, fun h => ?_, fun h => ?_, fun h => ?_, fun h => ?_⟩
        · have := h0 (by omega); rcases Hx2.out with ⟨h, rfl⟩ | ⟨h, rfl⟩ | ⟨h, rfl⟩ | ⟨h, rfl⟩ <;> omega
        · have := h1 (by omega); rcases Hx2.out with ⟨h, rfl⟩ | ⟨h, rfl⟩ | ⟨h, rfl⟩ | ⟨h, rfl⟩ <;> omega
        · have := h2 (by omega); rcases Hx2.out with ⟨h, rfl⟩ | ⟨h, rfl⟩ | ⟨h, rfl⟩ | ⟨h, rfl⟩ <;> omega
        · have := h3 (by omega); rcases Hx2.out with ⟨h, rfl⟩ | ⟨h, rfl⟩ | ⟨h, rfl⟩ | ⟨h, rfl⟩ <;> omega
      have ht : 0 ≤ t ∧ t ≤ 3000 := by
        obtain ⟨h0, h1, h2, h3, h4⟩ := hsum.out
        obtain ⟨g1, g2, g3, g4⟩ := hall.out
        have e : j = 0 ∨ j = 1 ∨ j = 2 ∨ j = 3 := by omega
        rcases e with rfl | rfl | rfl | rfl
        · have := h0 rfl; omega
        · have := h1 rfl; have := g1 (by omega); omega
        · have := h2 rfl; have := g1 (by omega); have := g2 (by omega); omega
        · have := h3 rfl; have := g1 (by omega); have := g2 (by omega); have := g3 (by omega); omega
      obtain ⟨t0, t1⟩ := ht
      clear hsum hall
      go_wp2_with fail
      go_roundw
      case rel => exact ⟨j + 1, t + x, by omega, by go_num, by go_num, by simp, hsum', hall'⟩
      case measure => simp [intOf]; omega
    · have hji : ¬ ((j : Int) < 4) := by omega
      obtain ⟨h1, h2, h3, h4⟩ := hall.out
      have h1 := h1 (by omega)
      have h2 := h2 (by omega)
      have h3 := h3 (by omega)
      have h4 := h4 (by omega)
      obtain ⟨r0, r1⟩ := h1
      obtain ⟨a0, a1⟩ := h2
      obtain ⟨b0, b1⟩ := h3
      obtain ⟨s0, s1⟩ := h4
      have ht : t = r + w + b + s := hsum.out.2.2.2.2 (by omega)
      clear hall Hys hlt hj hsum
      have Ht := Lib.hid ht
      clear ht
      by_cases k5 : t ≤ 0
      · have : res = false := by rw [Hres.out, decide_eq_false]; rintro ⟨h1, h2, h3, h4, h5, h6, h7⟩; (have := Ht.out; omega)
        subst this
        go_wp2_with fail
        refine bodyPost_ret (v := .bool false) (by simp [results, Tryd.results31, go_sem] <;> omega) rfl ?_
        exact ⟨rfl, Hbw.out⟩
      by_cases k1 : k < 1
      · have : res = false := by rw [Hres.out, decide_eq_false]; rintro ⟨h1, h2, h3, h4, h5, h6, h7⟩; omega
        subst this
        go_wp2_with fail
        refine bodyPost_ret (v := .bool false) (by simp [results, Tryd.results31, go_sem] <;> omega) rfl ?_
        exact ⟨rfl, Hbw.out⟩
      by_cases k2 : 16 < k
      · have : res = false := by rw [Hres.out, decide_eq_false]; rintro ⟨h1, h2, h3, h4, h5, h6, h7⟩; omega
        subst this
        go_wp2_with fail
        refine bodyPost_ret (v := .bool false) (by simp [results, Tryd.results31, go_sem] <;> omega) rfl ?_
        exact ⟨rfl, Hbw.out⟩
      by_cases k3 : m < 1
      · have : res = false := by rw [Hres.out, decide_eq_false]; rintro ⟨h1, h2, h3, h4, h5, h6, h7⟩; omega
        subst this
        go_wp2_with fail
        refine bodyPost_ret (v := .bool false) (by simp [results, Tryd.results31, go_sem] <;> omega) rfl ?_
        exact ⟨rfl, Hbw.out⟩
      by_cases k4 : 12 < m
      · have : res = false := by rw [Hres.out, decide_eq_false]; rintro ⟨h1, h2, h3, h4, h5, h6, h7⟩; omega
        subst this
        go_wp2_with fail
        refine bodyPost_ret (v := .bool false) (by simp [results, Tryd.results31, go_sem] <;> omega) rfl ?_
        exact ⟨rfl, Hbw.out⟩
      have : res = true := by rw [Hres.out, decide_eq_true]; exact ⟨⟨r0, r1⟩, ⟨a0, a1⟩, ⟨b0, b1⟩, ⟨s0, s1⟩, ⟨by omega, by omega⟩, ⟨by omega, by omega⟩, (by have := Ht.out; omega)⟩
      subst this
      go_wp2_with fail
      refine bodyPost_ret (v := .bool true) (by simp [results, Tryd.results31, go_sem] <;> omega) rfl ?_
      exact ⟨rfl, Hbw.out⟩


/-- a setup's numbers, as the reference has them -/
def ncells (c : Sc.Conf) : Array Value := #[.int .i64 (Sc.cf c 0), .int .i64 (Sc.cf c 1), .int .i64 (Sc.cf c 2), .int .i64 (Sc.cf c 3), .int .i64 (Sc.cf c 4), .int .i64 (Sc.cf c 5), .int .i64 (Sc.cf c 6), .int .i64 (Sc.cf c 7), .int .i64 (Sc.cf c 8), .int .i64 (Sc.cf c 9), .int .i64 (Sc.cf c 10), .int .i64 (Sc.cf c 11), .int .i64 (Sc.cf c 12), .int .i64 (Sc.cf c 13), .int .i64 (Sc.cf c 14)]
/-- a setup's cells, as the reference has them -/
def rcells (c : Sc.Conf) : Array Value := #[.int .i64 (Sc.cf c 0), .int .i64 (Sc.cf c 1), .int .i64 (Sc.cf c 2), .int .i64 (Sc.cf c 3), .int .i64 (Sc.cf c 4), .int .i64 (Sc.cf c 5), .int .i64 (Sc.cf c 6), .int .i64 (Sc.cf c 7), .int .i64 (Sc.cf c 8), .int .i64 (Sc.cf c 9), .int .i64 (Sc.cf c 10), .int .i64 (Sc.cf c 11), .int .i64 (Sc.cf c 12), .int .i64 (Sc.cf c 13), .int .i64 (Sc.cf c 14), .int .u64 (bv c.2)]
theorem ncells_num (c : Sc.Conf) (j : Nat) (h : j < 15) : (ncells c)[j]? = some (.int .i64 (Sc.cf c j)) := by
  refine cases15 (P := fun j => (ncells c)[j]? = some (.int .i64 (Sc.cf c j))) j h rfl rfl rfl rfl rfl rfl rfl rfl rfl rfl rfl rfl rfl rfl rfl
theorem size_15 : (Tryd.prog.info? 37).map (·.size) = some 15 := by kernel_rfl
def loCells : Array Value := #[.int .i64 1, .int .i64 1, .int .i64 1, .int .i64 1, .int .i64 0, .int .i64 1, .int .i64 0, .int .i64 0, .int .i64 0]
def hiCells : Array Value := #[.int .i64 7, .int .i64 4, .int .i64 16, .int .i64 2, .int .i64 100, .int .i64 1000, .int .i64 4194304, .int .i64 1073741824, .int .i64 63]
theorem lohi (j : Nat) (h : j < 9) : loCells[j]? = some (.int .i64 (Sc.lows.getD j 0)) ∧ hiCells[j]? = some (.int .i64 (Sc.highs.getD j 0)) := by
  have e : j = 0 ∨ j = 1 ∨ j = 2 ∨ j = 3 ∨ j = 4 ∨ j = 5 ∨ j = 6 ∨ j = 7 ∨ j = 8 := by omega
  rcases e with rfl | rfl | rfl | rfl | rfl | rfl | rfl | rfl | rfl <;> exact ⟨rfl, rfl⟩
def zero15 : Array Value := #[.int .i64 0, .int .i64 0, .int .i64 0, .int .i64 0, .int .i64 0, .int .i64 0, .int .i64 0, .int .i64 0, .int .i64 0, .int .i64 0, .int .i64 0, .int .i64 0, .int .i64 0, .int .i64 0, .int .i64 0]

end Go.Proofs.YtdpopdgeipgheaaDoor

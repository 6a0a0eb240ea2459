
/-
  What book.Encode computes.
-/
import Derived.Test.YtennjoegjghlaaaHist
import Derived.Test.YtennjoegjghlaaaBtsW
import Derived.Deep.CutBlock
namespace Go.Proofs.Ytennjoegjghlaaa
open Go.RowKit
set_option linter.unusedVariables false

set_option maxRecDepth 4096 in
set_option maxHeartbeats 1600000 in
theorem book_right (k c : Int) (a : Option Addr) (n cp : Nat) (ops : List Bk.Op) (w : World) (hs : Sl EOp (fun _ => True) w a ops) (hn : n = ops.length) (hl : n ≤ 1000) :
    Calls Try.prog 36 #[.agg #[.int .i64 k, .int .i64 c, .slice a n cp]] w fun e w' => e = .returned (.bool (decide (Bk.evOk (k, c, ops)))) ∧ Below w.heap.size w w' := by
  subst hn
  obtain ⟨g, hg⟩ : ∃ g, g = w.heap.size := ⟨_, rfl⟩
  obtain ⟨w1, hw1⟩ : ∃ x, x = w.alloc (.cells #[.int .i64 k, .int .i64 c, .slice a ops.length cp] 69) := ⟨_, rfl⟩
  have hb1 : Below g w w1 := by subst hw1; subst hg; exact (Below.refl _ _).alloc (Nat.le_refl _) _
  have hh1 : w1.heap[g]? = some (.cells #[.int .i64 k, .int .i64 c, .slice a ops.length cp] 69 (0, 0)) := by subst hw1; subst hg; exact heap_alloc_new w _
  have z0 : w1.cell? ⟨g, 0, none⟩ = some (.int .i64 k) := by simp [World.cell?, hh1]
  have z1 : w1.cell? ⟨g, 1, none⟩ = some (.int .i64 c) := by simp [World.cell?, hh1]
  have z2 : w1.cell? ⟨g, 2, none⟩ = some (.slice a ops.length cp) := by simp [World.cell?, hh1]
  have hs1 : Sl EOp (fun _ => True) w1 a ops := hs.below (by decide) (by rw [← hg]; exact hb1)
  have hgl : g < w1.heap.size := cell_lt z0
  rw [← hg]
  clear hh1 hs
  obtain ⟨q, hq⟩ : ∃ q, q = decide (Bk.evOk (k, c, ops)) := ⟨_, rfl⟩
  rw [← hq]
  have Hq := Lib.hid hq
  clear hq
  go_enter Try.func36, Try.ntmps36
  go_upto_region 1 with fail
  rw [← hw1]
  rw [← hg]
  have Hg := Lib.hid hg
  clear hw1 hg
  by_cases hd : 1 ≤ k ∧ k ≤ 4 ∧ 1 ≤ c ∧ c ≤ 16 ∧ ops.length ≤ 12
  · obtain ⟨d1, d2, d3, d4, d5⟩ := hd
    have e1 : ¬ (k < 1) := by omega
    have e2 : ¬ (4 < k) := by omega
    have e3 : ¬ (c < 1) := by omega
    have e4 : ¬ (16 < c) := by omega
    have e5 : ¬ (12 < (ops.length : Int)) := by omega
    have hqq : q = decide (∀ o ∈ ops, Bk.opOk o) := by
      rw [Hq.out]
      exact decide_eq_decide.2 ⟨fun h => h.2, fun h => ⟨⟨d1, d2, d3, d4, d5⟩, h⟩⟩
    have Hqq := Lib.hid hqq
    clear hqq d1 d2 d3 d4
    go_wp2_with fail
    go_loopw [32] (fun i wr => ∃ j : Nat, j ≤ ops.length ∧ i = .int .i64 j ∧ (∀ o ∈ ops.take j, Bk.opOk o) ∧ Below w1.heap.size w1 wr) (fun i _ => ops.length - (intOf i).toNat)
    case atStart => exact ⟨0, Nat.zero_le _, rfl, by simp, Below.refl _ _⟩
    case round =>
      obtain ⟨j, hj, rfl, hall, hb⟩ := hrel
      have hbw := hb1.trans (hb.mono (Nat.le_of_lt hgl))
      by_cases hlt : j < ops.length
      · have hji : (j : Int) < (ops.length : Int) := by omega
        have hsr := hs1.below (by decide) hb
        obtain ⟨b1, o1, rfl, p1, p2, p3, _⟩ := sl_op hsr j hlt
        have htk : ops.take (j + 1) = ops.take j ++ [ops[j]] := (List.take_append_getElem hlt).symm
        have hmem : ops[j] ∈ ops := List.getElem_mem hlt
        obtain ⟨x, hx⟩ : ∃ x, x = ops[j] := ⟨_, rfl⟩
        rw [← hx] at p1 p2 p3 htk hmem
        clear hx
        obtain ⟨x1, x2, x3⟩ := x
        dsimp only at p1 p2 p3
        obtain ⟨w4, hw4⟩ : ∃ x, x = wr.alloc (.cells #[.int .i64 x1, .int .i64 x2, .int .i64 x3] 79) := ⟨_, rfl⟩
        have hb4 : Below wr.heap.size wr w4 := by subst hw4; exact (Below.refl _ _).alloc (Nat.le_refl _) _
        have hh4 : w4.heap[wr.heap.size]? = some (.cells #[.int .i64 x1, .int .i64 x2, .int .i64 x3] 79 (0, 0)) := by subst hw4; exact heap_alloc_new wr _
        obtain ⟨s0, hs0⟩ : ∃ s, s = wr.heap.size := ⟨_, rfl⟩
        rw [← hs0] at hh4
        have y0 : w4.cell? ⟨s0, 0, none⟩ = some (.int .i64 x1) := by simp [World.cell?, hh4]
        have y1 : w4.cell? ⟨s0, 1, none⟩ = some (.int .i64 x2) := by simp [World.cell?, hh4]
        have y2 : w4.cell? ⟨s0, 2, none⟩ = some (.int .i64 x3) := by simp [World.cell?, hh4]
        have hbr4 : Below w1.heap.size w1 w4 := hb.trans (hb4.mono hb.size)
        have hbw4 := hb1.trans (hbr4.mono (Nat.le_of_lt hgl))
        go_upto_region 6 with fail
        rw [← hw4]
        rw [← hs0]
        clear hw4 hs0 hb4 hh4 p1 p2 p3 z0 z1 z2 hsr
        by_cases hd : Bk.opOk (x1, x2, x3)
        · have hall' : ∀ o ∈ ops.take (j + 1), Bk.opOk o := by
            rw [htk]
            intro o ho
            rcases List.mem_append.1 ho with ho | ho
            · exact hall o ho
            · rw [List.mem_singleton.1 ho]; exact hd
          have Hall := Lib.hid hall'
          obtain ⟨d1, d2, d3, d4, d5⟩ := hd
          dsimp only at d1 d2 d3 d4 d5
          have e2 : ¬ (x2 < 0) := by omega
          have e3 : ¬ (16 ≤ x2) := by omega
          have e4 : ¬ (x3 < 0) := by omega
          have e5 : ¬ (1099511627776 ≤ x3) := by omega
          clear hall hall' htk hmem d2 d3 d4 d5
          rcases d1 with rfl | rfl
          · go_wp2_with fail
            go_roundw
            case rel => exact ⟨j + 1, by omega, by go_num, Hall.out, hbr4⟩
            case measure => simp [intOf]; omega
          · go_wp2_with fail
            go_roundw
            case rel => exact ⟨j + 1, by omega, by go_num, Hall.out, hbr4⟩
            case measure => simp [intOf]; omega
        · have hz : q = false := by
            rw [Hqq.out]
            exact decide_eq_false fun h => hd (h _ hmem)
          have Hz := Lib.hid hz
          clear hz hall htk hmem
          unfold Bk.opOk at hd
          dsimp only at hd
          by_cases k1 : x1 = 1 ∨ x1 = 2
          · by_cases e2 : x2 < 0
            · clear hd
              rcases k1 with rfl | rfl
              · go_wp2_with fail
                go_ret
                exact ⟨by rw [Hz.out]; rfl, hbw4⟩
              · go_wp2_with fail
                go_ret
                exact ⟨by rw [Hz.out]; rfl, hbw4⟩
            by_cases e3 : 16 ≤ x2
            · clear hd
              rcases k1 with rfl | rfl
              · go_wp2_with fail
                go_ret
                exact ⟨by rw [Hz.out]; rfl, hbw4⟩
              · go_wp2_with fail
                go_ret
                exact ⟨by rw [Hz.out]; rfl, hbw4⟩
            by_cases e4 : x3 < 0
            · clear hd
              rcases k1 with rfl | rfl
              · go_wp2_with fail
                go_ret
                exact ⟨by rw [Hz.out]; rfl, hbw4⟩
              · go_wp2_with fail
                go_ret
                exact ⟨by rw [Hz.out]; rfl, hbw4⟩
            have e5 : 1099511627776 ≤ x3 := by omega
            clear hd
            rcases k1 with rfl | rfl
            · go_wp2_with fail
              go_ret
              exact ⟨by rw [Hz.out]; rfl, hbw4⟩
            · go_wp2_with fail
              go_ret
              exact ⟨by rw [Hz.out]; rfl, hbw4⟩
          · have d1 : (x1 != 1) = true := by simp; omega
            have d2 : (x1 != 2) = true := by simp; omega
            clear hd k1
            go_wp2_with fail
            go_ret
            exact ⟨by rw [Hz.out]; rfl, hbw4⟩
      · have hji : ¬ ((j : Int) < (ops.length : Int)) := by omega
        rw [List.take_of_length_le (by omega)] at hall
        have hz : q = true := by rw [Hqq.out]; exact decide_eq_true hall
        have Hz := Lib.hid hz
        clear hz hall
        go_wp2_with fail
        go_ret
        exact ⟨by rw [Hz.out]; rfl, hbw⟩
  · have hz : q = false := by
      rw [Hq.out]
      exact decide_eq_false fun h => hd ⟨h.1.1, h.1.2.1, h.1.2.2.1, h.1.2.2.2.1, h.1.2.2.2.2⟩
    have Hz := Lib.hid hz
    clear hz
    by_cases e1 : k < 1
    · clear hd
      go_wp2_with fail
      go_ret
      exact ⟨by rw [Hz.out]; rfl, hb1⟩
    by_cases e2 : 4 < k
    · clear hd
      go_wp2_with fail
      go_ret
      exact ⟨by rw [Hz.out]; rfl, hb1⟩
    by_cases e3 : c < 1
    · clear hd
      go_wp2_with fail
      go_ret
      exact ⟨by rw [Hz.out]; rfl, hb1⟩
    by_cases e4 : 16 < c
    · clear hd
      go_wp2_with fail
      go_ret
      exact ⟨by rw [Hz.out]; rfl, hb1⟩
    have e5 : 12 < (ops.length : Int) := by omega
    clear hd
    go_wp2_with fail
    go_ret
    exact ⟨by rw [Hz.out]; rfl, hb1⟩
end Go.Proofs.Ytennjoegjghlaaa


/-
  A command's bytes, of a command without keys: some bytes, in memory of their own.
-/
import Derived.Test.YtmmgnbdngpkfcaaCoY
namespace Go.Proofs.Ytmmgnbdngpkfcaa
open Go.RowKit
set_option linter.unusedVariables false

set_option maxRecDepth 4096 in
set_option maxHeartbeats 3200000 in
theorem co_readyBits {P : Nat → Prop} (g : Nat) (l : Bts.Bits) (w : World) (h : Wt P w g l) (hl : l.length ≤ 1000000) :
    Calls Try.prog 148 #[.agg #[.int .i64 0, .int .i64 0, .int .i64 0, .slice none 0 0, .slice none 0 0], .pointer (some ⟨g, 0, none⟩)] w fun x w' => ∃ l', x = .returned (.tuple #[]) ∧ Wt P w' g l' ∧ l'.length ≤ l.length + 1000 ∧ Only (fun k => ¬ P k) w w' := by
  obtain ⟨q, hq⟩ : ∃ q, q = w.heap.size := ⟨_, rfl⟩
  obtain ⟨w1, hw1⟩ : ∃ x, x = w.alloc (.cells #[.int .i64 0, .int .i64 0, .int .i64 0, .slice none 0 0, .slice none 0 0] 31) := ⟨_, rfl⟩
  have hh1 : w1.heap[q]? = some (.cells #[.int .i64 0, .int .i64 0, .int .i64 0, .slice none 0 0, .slice none 0 0] 31 (0, 0)) := by rw [hw1, hq]; exact heap_alloc_new w _
  have hb1 : Below w.heap.size w w1 := by rw [hw1]; exact alloc_below _ _
  have h1 := h.more hb1 (Nat.le_of_eq hq.symm) (Array.getElem?_eq_some_iff.1 hh1).1
  have o1 : Only (fun k => ¬ P k) w w1 := Below.only hb1
  have z0 : w1.cell? ⟨q, 0, none⟩ = some (.int .i64 0) := by simp [World.cell?, hh1]
  have z1 : w1.cell? ⟨q, 1, none⟩ = some (.int .i64 0) := by simp [World.cell?, hh1]
  have z2 : w1.cell? ⟨q, 2, none⟩ = some (.int .i64 0) := by simp [World.cell?, hh1]
  have z3 : w1.cell? ⟨q, 3, none⟩ = some (.slice none 0 0) := by simp [World.cell?, hh1]
  have z4 : w1.cell? ⟨q, 4, none⟩ = some (.slice none 0 0) := by simp [World.cell?, hh1]
  have hw1' := hw1.symm
  have l0 := coint_len 0
  have l1 := conum_len 0#64
  have HO1 := Lib.hid o1
  clear hh1 hb1 hw1 h o1
  go_enter Try.func148, Try.ntmps148
  go_upto_region 1 with fail
  rw [← hq]
  clear hw1' hq
  go_wp2_with fail
  refine (wt_Int g l 0 _ h1 (by omega) (by decide)).mono ?_
  rintro x w2 ⟨rfl, h2, o2⟩
  obtain ⟨l2, hl2⟩ : ∃ m, m = l ++ Bts.int 0 := ⟨_, rfl⟩
  rw [← hl2] at h2
  have e2 : l2.length ≤ l.length + 129 := by rw [hl2, List.length_append]; omega
  replace z1 := cell_stays o2 (fun h => h (.inr rfl)) z1
  replace z2 := cell_stays o2 (fun h => h (.inr rfl)) z2
  replace z3 := cell_stays o2 (fun h => h (.inr rfl)) z3
  replace z4 := cell_stays o2 (fun h => h (.inr rfl)) z4
  have HO2 := Lib.hid o2
  clear h1 hl2 z0 o2
  go_wp2_with fail
  refine (wt_Int g l2 0 _ h2 (by omega) (by decide)).mono ?_
  rintro x w3 ⟨rfl, h3, o3⟩
  obtain ⟨l3, hl3⟩ : ∃ m, m = l2 ++ Bts.int 0 := ⟨_, rfl⟩
  rw [← hl3] at h3
  have e3 : l3.length ≤ l2.length + 129 := by rw [hl3, List.length_append]; omega
  replace z2 := cell_stays o3 (fun h => h (.inr rfl)) z2
  replace z3 := cell_stays o3 (fun h => h (.inr rfl)) z3
  replace z4 := cell_stays o3 (fun h => h (.inr rfl)) z4
  have HO3 := Lib.hid o3
  clear h2 hl3 z1 o3
  go_wp2_with fail
  refine (wt_Int g l3 0 _ h3 (by omega) (by decide)).mono ?_
  rintro x w4 ⟨rfl, h4, o4⟩
  obtain ⟨l4, hl4⟩ : ∃ m, m = l3 ++ Bts.int 0 := ⟨_, rfl⟩
  rw [← hl4] at h4
  have e4 : l4.length ≤ l3.length + 129 := by rw [hl4, List.length_append]; omega
  replace z3 := cell_stays o4 (fun h => h (.inr rfl)) z3
  replace z4 := cell_stays o4 (fun h => h (.inr rfl)) z4
  have HO4 := Lib.hid o4
  clear h3 hl4 z2 o4
  go_wp2_with fail
  refine (wt_Num g l4 0#64 _ h4 (by omega)).mono ?_
  rintro x w5 ⟨rfl, h5, o5⟩
  obtain ⟨l5, hl5⟩ : ∃ m, m = l4 ++ Bts.num 0#64 := ⟨_, rfl⟩
  rw [← hl5] at h5
  have e5 : l5.length ≤ l4.length + 129 := by rw [hl5, List.length_append]; omega
  replace z3 := cell_stays o5 (fun h => h (.inr rfl)) z3
  replace z4 := cell_stays o5 (fun h => h (.inr rfl)) z4
  have HO5 := Lib.hid o5
  clear h4 hl5 o5
  go_wp2_with fail
  go_loopw [29] (fun i wr => i = .int .i64 0 ∧ w5 = wr) (fun _ _ => 0)
  case atStart => exact ⟨rfl, rfl⟩
  case round =>
    obtain ⟨rfl, rfl⟩ := hrel
    go_wp2_with fail
    refine (wt_Num g l5 0#64 _ h5 (by omega)).mono ?_
    rintro x w6 ⟨rfl, h6, o6⟩
    obtain ⟨l6, hl6⟩ : ∃ m, m = l5 ++ Bts.num 0#64 := ⟨_, rfl⟩
    rw [← hl6] at h6
    have e6 : l6.length ≤ l5.length + 129 := by rw [hl6, List.length_append]; omega
    replace z4 := cell_stays o6 (fun h => h (.inr rfl)) z4
    have HO6 := Lib.hid o6
    clear h5 hl6 z3 o6
    go_wp2_with fail
    go_loopw [51] (fun i wr => i = .int .i64 0 ∧ w6 = wr) (fun _ _ => 0)
    case atStart => exact ⟨rfl, rfl⟩
    case round =>
      obtain ⟨rfl, rfl⟩ := hrel
      go_wp2_with fail
      refine bodyPost_end (v := .tuple #[]) (by simp [results, Try.results148, go_sem]) rfl ?_
      refine ⟨l6, rfl, h6.less (Q := P) fun k h => .inl h, by omega, ?_⟩
      exact ((((HO1.out.trans HO2.out fun k _ h hp => h (.inl hp)).trans HO3.out fun k _ h hp => h (.inl hp)).trans HO4.out fun k _ h hp => h (.inl hp)).trans HO5.out fun k _ h hp => h (.inl hp)).trans HO6.out fun k _ h hp => h (.inl hp)

set_option maxRecDepth 4096 in
set_option maxHeartbeats 3200000 in
theorem co_cBytes (k : Int) (w : World) (hk : -9223372036854775808 ≤ k ∧ k ≤ 9223372036854775807) :
    Calls Try.prog 126 #[.agg #[.int .i64 k, .int .i64 0, .int .i64 0, .int .i64 0, .slice none 0 0, .slice none 0 0, .int .i64 0, .bool false, .int .i64 0]] w fun e w' => ∃ a n c, e = .returned (.slice a n c) ∧ Below w.heap.size w w' := by
  obtain ⟨E, hE⟩ : ∃ E, E = w.heap.size := ⟨_, rfl⟩
  obtain ⟨w1, hw1⟩ : ∃ x, x = w.alloc (.cells #[.int .i64 k, .int .i64 0, .int .i64 0, .int .i64 0, .slice none 0 0, .slice none 0 0, .int .i64 0, .bool false, .int .i64 0] 35) := ⟨_, rfl⟩
  have hh1 : w1.heap[E]? = some (.cells #[.int .i64 k, .int .i64 0, .int .i64 0, .int .i64 0, .slice none 0 0, .slice none 0 0, .int .i64 0, .bool false, .int .i64 0] 35 (0, 0)) := by rw [hw1, hE]; exact heap_alloc_new w _
  have hb1 : Below w.heap.size w w1 := by rw [hw1]; exact alloc_below _ _
  have hz1 : w1.heap.size = E + 1 := by rw [hw1, hE]; simp
  obtain ⟨w2, hw2⟩ : ∃ x, x = w1.alloc (.cells #[.slice none 0 0, .int .i64 0] 158) := ⟨_, rfl⟩
  have hb2 : Below w1.heap.size w1 w2 := by rw [hw2]; exact alloc_below _ _
  have hz2 : w2.heap.size = E + 1 + 1 := by rw [hw2, ← hz1]; simp
  have ht2 : Wt (· < E + 1) w2 (E + 1) [] := by
    refine ⟨.slice none 0 0, ?_, by omega, by simp [Value.ownBlock], fun k hk => by omega⟩
    rw [hw2, ← hz1]; exact wr_new w1
  have hh2 := (hb2.block E (by omega)).trans hh1
  have hB2 : Below E w w2 := by rw [hE]; exact hb1.trans (hb2.mono hb1.size)
  have z0 : w2.cell? ⟨E, 0, none⟩ = some (.int .i64 k) := by simp [World.cell?, hh2]
  have Hh2 := Lib.hid hh2
  have HB2 := Lib.hid hB2
  have Hz2 := Lib.hid hz2
  have Hz1 := Lib.hid hz1
  have Hw1 := Lib.hid hw1.symm
  have Hw2 := Lib.hid hw2.symm
  have HE := Lib.hid hE
  have lk := coint_len k
  clear hh1 hb1 hw1 hw2 hb2 hh2 hB2 hz1 hz2 hE
  go_enter Try.func126, Try.ntmps126
  go_upto_region 2 with fail
  rw [Hw1.out, Hw2.out, ← HE.out]
  clear Hw1 Hw2
  go_wp2_with fail
  refine (wt_Int (E + 1) [] k _ ht2 (by decide) hk).mono ?_
  rintro x w3 ⟨rfl, ht3, o3⟩
  obtain ⟨l3, hl3⟩ : ∃ m, m = [] ++ Bts.int k := ⟨_, rfl⟩
  rw [← hl3] at ht3
  have e3 : l3.length ≤ 129 := by rw [hl3, List.nil_append]; omega
  have hh3 := (o3.block E (Array.getElem?_eq_some_iff.1 Hh2.out).1 (by omega)).trans Hh2.out
  have y1 : w3.cell? ⟨E, 1, none⟩ = some (.int .i64 0) := by simp [World.cell?, hh3]
  have y2 : w3.cell? ⟨E, 2, none⟩ = some (.int .i64 0) := by simp [World.cell?, hh3]
  have y3 : w3.cell? ⟨E, 3, none⟩ = some (.int .i64 0) := by simp [World.cell?, hh3]
  have y4 : w3.cell? ⟨E, 4, none⟩ = some (.slice none 0 0) := by simp [World.cell?, hh3]
  have y5 : w3.cell? ⟨E, 5, none⟩ = some (.slice none 0 0) := by simp [World.cell?, hh3]
  have y6 : w3.cell? ⟨E, 6, none⟩ = some (.int .i64 0) := by simp [World.cell?, hh3]
  have y7 : w3.cell? ⟨E, 7, none⟩ = some (.bool false) := by simp [World.cell?, hh3]
  have y8 : w3.cell? ⟨E, 8, none⟩ = some (.int .i64 0) := by simp [World.cell?, hh3]
  have HO3 := Lib.hid o3
  clear hl3 z0 ht2 hh3 o3
  go_wp2_with fail
  refine (co_readyBits (E + 1) l3 _ ht3 (by omega)).mono ?_
  rintro x w4 ⟨l4, rfl, ht4, e4, o4⟩
  replace y6 := cell_stays o4 (by omega) y6
  replace y7 := cell_stays o4 (by omega) y7
  replace y8 := cell_stays o4 (by omega) y8
  have HO4 := Lib.hid o4
  clear y1 y2 y3 y4 y5 ht3 o4
  go_wp2_with fail
  refine (co_end (E + 1) l4 ⟨0, false, 0⟩ _ ht4 (by omega) (by unfold enR; decide)).mono ?_
  rintro x w5 ⟨rfl, ht5, o5⟩
  have le := endB_len ⟨0, false, 0⟩
  obtain ⟨l5, hl5⟩ : ∃ m, m = l4 ++ endB ⟨0, false, 0⟩ := ⟨_, rfl⟩
  rw [← hl5] at ht5
  have e5 : l5.length ≤ l4.length + 300 := by rw [hl5, List.length_append]; omega
  have HO5 := Lib.hid o5
  clear hl5 ht4 y6 y7 y8 o5
  obtain ⟨v5, hw5, g1, g2, g3⟩ := ht5
  go_wp2_with fail
  refine (bits_Bytes w5.heap.size (E + 1) v5 _ w5 rfl hw5 (by omega)).mono ?_
  rintro x w6 ⟨v, rfl, hv, hb6⟩
  obtain ⟨a, c, rfl, _⟩ := hv.shape _ rfl
  go_wp2_with fail
  go_ret
  have o25 := (HO3.out.trans HO4.out fun _ _ h => h).trans HO5.out fun _ _ h => h
  have hz2 : E + 1 ≤ w2.heap.size := by have := Hz2.out; omega
  have b25 : Below E w2 w5 := o25.below (by omega) fun k hk => by omega
  have hz5 : E ≤ w5.heap.size := by have := o25.size; omega
  rw [← HE.out]
  exact ⟨_, _, _, rfl, (HB2.out.trans b25).trans (hb6.mono hz5)⟩
end Go.Proofs.Ytmmgnbdngpkfcaa


/-
  The walk of the law 'GraphReaches'.
-/
import Derived.Test.YticpbiccgnfecaaGraQ
import Derived.Test.YticpbiccgnfecaaGraH
namespace Go.Proofs.Yticpbiccgnfecaa
open Go.RowKit
set_option linter.unusedVariables false

theorem below_drewN {B : Nat} {w w' : World} (h : Below B w w') (q : Nat) : Below B w (w'.drewN q) :=
  h.trans ⟨rfl, rfl, rfl, by rw [drewN_heap]; exact Nat.le_refl _, fun k _ => by rw [drewN_heap]⟩

set_option maxRecDepth 4096 in
set_option maxHeartbeats 1600000 in
theorem law_GraphReaches (n : Int) (a1 : Option Addr) (c1 : Nat) (l : List (Int × Int)) (W : World) (hn : -9223372036854775808 ≤ n ∧ n ≤ 9223372036854775807) (hs1 : Sl EArc (fun _ => True) W a1 l) (hc1 : l.length ≤ c1) (hm1 : c1 ≤ maxLen) :
    Calls Try.prog 4 #[.int .i64 n, .slice a1 l.length c1] W fun e W' => e = .returned (.bool true) ∧ Below W.heap.size W W' := by
  obtain ⟨n0, n1⟩ := hn
  unfold maxLen at hm1
  have ha0 : Sl EArc (fun _ => True) (W.alloc (.cells #[.int .i64 0, .int .i64 1] 27)) (some ⟨W.heap.size, 0, none⟩) [(0, 1)] :=
    sl_pairs [(0, 1)] (heap_alloc_new W _) (by decide) (by
      intro k p hp
      have hk : k = 0 := by have := (List.getElem?_eq_some_iff.1 hp).1; simp at this; exact this
      subst hk; simp at hp; subst hp; exact ⟨rfl, rfl⟩)
  have hb0 := alloc_below W (.cells #[.int .i64 0, .int .i64 1] 27)
  have Hb0 := Lib.hid hb0
  have Ha0 := Lib.hid ha0
  have Hs1 := Lib.hid hs1
  clear ha0 hb0 hs1
  go_enter Try.func4, Try.ntmps4
  go_wp2_with fail
  refine (law07_arcs _ _ _ _ [(0, 1)] _ rfl ⟨rfl, Ha0.out⟩ (by decide)).mono ?_
  rintro e w2 ⟨v2, rfl, ho2, hb2⟩
  obtain ⟨a3, c3, rfl, hc3, hm3, hr3, _⟩ := ho2.shape 1 rfl
  have hb02 : Below W.heap.size W w2 := Hb0.out.trans (hb2.mono Hb0.out.size)
  have Hr3 := Lib.hid hr3
  have Hb02 := Lib.hid hb02
  clear ho2 hb2 hr3 hb02
  go_wp2_with fail
  refine (graph_Reach _ 2 2 _ 1 _ [(0, 1)] _ rfl Hr3.out (by decide) (by decide)).mono ?_
  rintro e w4 ⟨g, rows, cp, rfl, hM, hb4⟩
  have y0 := hM.cell (i := 0) (by decide)
  have y1 := hM.at (i := 0) (j := 1) (by decide) (by decide)
  have y2 := hM.cell (i := 1) (by decide)
  have y3 := hM.at (i := 1) (j := 0) (by decide) (by decide)
  rw [show Gr.wayB (Gr.T 2 [(0, 1)]) 2 0 1 = true by decide] at y1
  rw [show Gr.wayB (Gr.T 2 [(0, 1)]) 2 1 0 = false by decide] at y3
  have hb04 : Below W.heap.size W w4 := Hb02.out.trans (hb4.mono Hb02.out.size)
  have Hb04 := Lib.hid hb04
  clear hb4 hb04 hM
  obtain ⟨r0, hr0⟩ : ∃ x, x = rows 0 := ⟨_, rfl⟩
  obtain ⟨r1, hr1⟩ : ∃ x, x = rows 1 := ⟨_, rfl⟩
  obtain ⟨p0, hp0⟩ : ∃ x, x = cp 0 := ⟨_, rfl⟩
  obtain ⟨p1, hp1⟩ : ∃ x, x = cp 1 := ⟨_, rfl⟩
  rw [← hr0, ← hp0] at y0
  rw [← hr0] at y1
  rw [← hr1, ← hp1] at y2
  rw [← hr1] at y3
  clear hr0 hr1 hp0 hp1
  by_cases k0 : 60 < n
  · go_wp2_with fail
    go_ret
    exact ⟨rfl, Hb04.out⟩
  by_cases k1 : (300 : Int) < (l.length : Int)
  · go_wp2_with fail
    go_ret
    exact ⟨rfl, Hb04.out⟩
  obtain ⟨N, hN⟩ : ∃ N : Nat, N = (max n 0).toNat := ⟨_, rfl⟩
  have hN2 : min (max n 0) 400 = (N : Int) := by omega
  have hN3 : N ≤ 60 := by omega
  have hN4 : (N : Int) ≤ 60 := by omega
  have hN5 : 0 ≤ (N : Int) := by omega
  have HN := Lib.hid hN
  have HN2 := Lib.hid hN2
  clear hN hN2
  go_wp2_with fail
  refine (law07_arcs _ _ _ _ l _ rfl ⟨rfl, Hs1.out.below (by decide) Hb04.out⟩ (by omega)).mono ?_
  rintro e w5 ⟨v5, rfl, ho5, hb5⟩
  obtain ⟨a5, c5, rfl, hc5, hm5, hr5, _⟩ := ho5.shape l.length rfl
  have hb05 : Below W.heap.size W w5 := Hb04.out.trans (hb5.mono Hb04.out.size)
  have Hb05 := Lib.hid hb05
  have Hr5 := Lib.hid hr5
  clear ho5 hb5 hb05 hr5 y0 y1 y2 y3
  go_wp2_with fail
  refine (graph_Reach _ n N _ _ _ l _ rfl Hr5.out HN2.out (by omega)).mono ?_
  rintro e w6 ⟨g1, rows1, cp1, rfl, hM1, hb6⟩
  have hb06 : Below W.heap.size W w6 := Hb05.out.trans (hb6.mono Hb05.out.size)
  have Hb06 := Lib.hid hb06
  have HM1 := Lib.hid hM1
  clear hb6 hb06 hM1
  by_cases k3 : n < 0
  · obtain rfl : N = 0 := by have := HN.out; omega
    go_wp2_with fail
    refine (ref07_Table _ 0 _ _ _ l _ rfl ⟨rfl, Hs1.out.below (by decide) Hb06.out⟩ (by omega) (by omega)).mono ?_
    rintro e w7 ⟨rfl, ⟨rowsT, cpT, hMT⟩, hb7⟩
    have hM17 := HM1.out.below hb7
    have hb07 : Below W.heap.size W w7 := Hb06.out.trans (hb7.mono Hb06.out.size)
    have HM17 := Lib.hid hM17
    have HMT := Lib.hid hMT
    have Hb07 := Lib.hid hb07
    clear hM17 hMT hb07 hb7
    go_wp2_with fail
    refine (ref07_Reach _ _ 0 rowsT cpT (Gr.T 0 l) _ rfl HMT.out (by omega)).mono ?_
    rintro e w8 ⟨g2, rows2, cp2, rfl, hM2, hb8⟩
    have hM18 := HM17.out.below hb8
    have hb08 : Below W.heap.size W w8 := Hb07.out.trans (hb8.mono Hb07.out.size)
    have HM18 := Lib.hid hM18
    have HM2 := Lib.hid hM2
    have Hb08 := Lib.hid hb08
    clear hM18 hM2 hb08 hb8
    go_wp2_with fail
    go_loopw [63] (fun i wr => ∃ k : Nat, k ≤ 0 ∧ i = .int .i64 k ∧ ∃ q, wr = w8.drewN q) (fun i _ => 0 - (intOf i).toNat)
    case atStart => exact ⟨0, Nat.zero_le _, rfl, 0, rfl⟩
    case round =>
      obtain ⟨k, hk, rfl, q, rfl⟩ := hrel
      have hlt : ¬ (k < 0) := by omega
      obtain rfl : k = 0 := by omega
      go_wp2_with fail
      go_ret
      exact ⟨rfl, below_drewN Hb08.out q⟩
  · obtain rfl : n = (N : Int) := by have := HN.out; omega
    go_wp2_with fail
    refine (ref07_Table _ N _ _ _ l _ rfl ⟨rfl, Hs1.out.below (by decide) Hb06.out⟩ (by omega) (by omega)).mono ?_
    rintro e w7 ⟨rfl, ⟨rowsT, cpT, hMT⟩, hb7⟩
    have hM17 := HM1.out.below hb7
    have hb07 : Below W.heap.size W w7 := Hb06.out.trans (hb7.mono Hb06.out.size)
    have HM17 := Lib.hid hM17
    have HMT := Lib.hid hMT
    have Hb07 := Lib.hid hb07
    clear hM17 hMT hb07 hb7
    go_wp2_with fail
    refine (ref07_Reach _ _ N rowsT cpT (Gr.T N l) _ rfl HMT.out (by omega)).mono ?_
    rintro e w8 ⟨g2, rows2, cp2, rfl, hM2, hb8⟩
    have hM18 := HM17.out.below hb8
    have hb08 : Below W.heap.size W w8 := Hb07.out.trans (hb8.mono Hb07.out.size)
    have HM18 := Lib.hid hM18
    have HM2 := Lib.hid hM2
    have Hb08 := Lib.hid hb08
    clear hM18 hM2 hb08 hb8
    go_wp2_with fail
    go_loopw [63] (fun i wr => ∃ k : Nat, k ≤ N ∧ i = .int .i64 k ∧ ∃ q, wr = w8.drewN q) (fun i _ => N - (intOf i).toNat)
    case atStart => exact ⟨0, Nat.zero_le _, rfl, 0, rfl⟩
    case round =>
      obtain ⟨k, hk, rfl, q, rfl⟩ := hrel
      by_cases hlt : k < N
      · have hki : (k : Int) < (N : Int) := by omega
        have hk0 : (0 : Int) ≤ (k : Int) := by omega
        have y1 := HM18.out.cell hlt
        have y2 := HM2.out.cell hlt
        obtain ⟨r1, hr1⟩ : ∃ x, x = rows1 k := ⟨_, rfl⟩
        obtain ⟨e1, he1⟩ : ∃ x, x = cp1 k := ⟨_, rfl⟩
        obtain ⟨r2, hr2⟩ : ∃ x, x = rows2 k := ⟨_, rfl⟩
        obtain ⟨e2, he2⟩ : ∃ x, x = cp2 k := ⟨_, rfl⟩
        rw [← hr1, ← he1] at y1
        rw [← hr2, ← he2] at y2
        have Hr1 := Lib.hid hr1
        have Hr2 := Lib.hid hr2
        clear hr1 he1 hr2 he2
        go_wp2_with fail
        go_loopw [78] (fun i wj => ∃ j : Nat, j ≤ N ∧ i = .int .i64 j ∧ ∃ q, wj = w8.drewN q) (fun i _ => N - (intOf i).toNat)
        case atStart => exact ⟨0, Nat.zero_le _, rfl, q, rfl⟩
        case round =>
          obtain ⟨j, hj, rfl, q2, rfl⟩ := hrel
          by_cases hjl : j < N
          · have hji : (j : Int) < (N : Int) := by omega
            have hj0 : (0 : Int) ≤ (j : Int) := by omega
            have y3 := HM18.out.at hlt hjl
            have y4 := HM2.out.at hlt hjl
            rw [← Hr1.out] at y3
            rw [← Hr2.out] at y4
            obtain ⟨bb, hbb⟩ : ∃ x, x = Gr.wayB (Gr.T N l) N k j := ⟨_, rfl⟩
            rw [← hbb] at y3 y4
            clear hbb
            go_upto_region 20 with fail
            go_quiet (fail)
            have hbb : (bb != bb) = false := by cases bb <;> rfl
            go_wp2_with fail
            go_roundw
            case rel => exact ⟨j + 1, by omega, by go_num, _, rfl⟩
            case measure => simp [intOf]; omega
          · have hji : ¬ ((j : Int) < (N : Int)) := by omega
            go_wp2_with fail
            go_roundw
            case rel => exact ⟨k + 1, by omega, by go_num, _, rfl⟩
            case measure => simp [intOf]; omega
      · have hki : ¬ ((k : Int) < (N : Int)) := by omega
        go_wp2_with fail
        go_ret
        exact ⟨rfl, below_drewN Hb08.out q⟩
end Go.Proofs.Yticpbiccgnfecaa

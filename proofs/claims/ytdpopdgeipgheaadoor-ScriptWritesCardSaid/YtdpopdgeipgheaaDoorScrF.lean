
/-
  What the reference's check of a setup computes.
-/
import Derived.Test.YtdpopdgeipgheaaDoorScrE
import Derived.BigQuiet
namespace Go.Proofs.YtdpopdgeipgheaaDoor
open Go.RowKit
set_option linter.unusedVariables false

set_option maxRecDepth 8192 in
set_option maxHeartbeats 3200000 in
theorem ref14_Check (c : Sc.Conf) (w : World) :
    Calls Tryd.prog 16 #[.agg (rcells c)] w fun e w' => e = .returned (.int .i64 (Sc.check c)) ∧ Below w.heap.size w w' := by
  obtain ⟨res, hres⟩ : ∃ x : Int, x = Sc.check c := ⟨_, rfl⟩
  rw [← hres]
  have Hres := Lib.hid hres
  obtain ⟨B, hB⟩ : ∃ x, x = w.heap.size := ⟨_, rfl⟩
  rw [← hB]
  obtain ⟨w1, hw1⟩ : ∃ x, x = w.alloc (.cells (rcells c) 39) := ⟨_, rfl⟩
  have hh1 : w1.heap[B]? = some (.cells (rcells c) 39 (0, 0)) := by subst hw1; subst hB; exact heap_alloc_new w _
  have hb1 : Below B w w1 := by subst hw1; subst hB; exact (Below.refl _ _).alloc (Nat.le_refl _) _
  have hn1 : w1.heap.size = B + 1 := by subst hw1; subst hB; simp
  have hr1 : w1.rangeAt B 0 (ncells c).toList := by
    have := World.rangeAt_of_block hh1 0 15
    exact this
  obtain ⟨w2, hw2⟩ : ∃ x, x = w1.alloc (.cells zero15 37) := ⟨_, rfl⟩
  have hh2 : w2.heap[B + 1]? = some (.cells zero15 37 (0, 0)) := by subst hw2; rw [← hn1]; exact heap_alloc_new w1 _
  have hb2 : Below (B + 1) w1 w2 := by subst hw2; rw [← hn1]; exact (Below.refl _ _).alloc (Nat.le_refl _) _
  have hn2 : w2.heap.size = B + 2 := by subst hw2; simp [hn1]
  obtain ⟨w3, hw3⟩ : ∃ x, x = w2.setRow (B + 1) (ncells c) := ⟨_, rfl⟩
  have hh3 : w3.heap[B + 1]? = some (.cells (ncells c) 37 (0, 0)) := by subst hw3; exact setRow_at hh2
  have hb3 : Below B w w3 := by subst hw3; exact (hb1.trans (hb2.mono (by omega))).trans (setRow_below _ (by omega) (by omega))
  have hn3 : w3.heap.size = B + 2 := by subst hw3; simp [World.setRow, hn2]
  have z0 : w3.cell? ⟨B + 1, 9, none⟩ = some (.int .i64 (Sc.cf c 9)) := by simp [World.cell?, hh3, ncells]
  have z1 : w3.cell? ⟨B + 1, 10, none⟩ = some (.int .i64 (Sc.cf c 10)) := by simp [World.cell?, hh3, ncells]
  have z2 : w3.cell? ⟨B + 1, 11, none⟩ = some (.int .i64 (Sc.cf c 11)) := by simp [World.cell?, hh3, ncells]
  have z3 : w3.cell? ⟨B + 1, 12, none⟩ = some (.int .i64 (Sc.cf c 12)) := by simp [World.cell?, hh3, ncells]
  have z4 : w3.cell? ⟨B + 1, 13, none⟩ = some (.int .i64 (Sc.cf c 13)) := by simp [World.cell?, hh3, ncells]
  have z5 : w3.cell? ⟨B + 1, 14, none⟩ = some (.int .i64 (Sc.cf c 14)) := by simp [World.cell?, hh3, ncells]
  have hst : (storeCells ⟨B + 1, 0, none⟩ (ncells c).toList).run Tryd.prog w2 = .ok () w3 := by rw [hw3]; exact row_store w2 (B + 1) zero15 (ncells c) 37 hh2 rfl (by kernel_rfl)
  have hsz : (ncells c).size = 15 := rfl
  have Hh3 := Lib.hid hh3
  have Hb3 := Lib.hid hb3
  have Hr1 := Lib.hid hr1
  have Hh2 := Lib.hid hh2
  have Hex3 := Lib.hid hw3
  have hex2 := hw2.symm
  unfold zero15 at hex2
  have hpn : Value.pointer (some ⟨w1.heap.size, 0, none⟩) = .pointer (some ⟨B + 1, 0, none⟩) := by rw [hn1]
  have Hpn := Lib.hid hpn
  clear hres hh1 hb1 hr1 hh2 hb2 hh3 hb3 hw2 hw3 hpn hn2
  unfold rcells at hw1 ⊢
  go_enter Tryd.func16, Tryd.ntmps16
  go_upto_region 1 with fail
  rw [← hB, ← hw1]
  clear hw1 hB
  go_upto_region 2 with (first
    | (refine wpList_load_mid rfl _ _ rfl B 0 rfl (ncells c).toList _ Hr1.out Tryd.underlying37 rfl size_15 ?_))
  clear hex2 Hpn Hh2 Hr1 hst hsz
  go_wp2_with fail
  refine (ref13_Right _ _ _ _ _ _ w3).mono ?_
  rintro e w4 ⟨rfl, hb4⟩
  rw [hn3] at hb4
  have hh4 : w4.heap[B + 1]? = some (.cells (ncells c) 37 (0, 0)) := by rw [hb4.block _ (by omega)]; exact Hh3.out
  have hbw4 : Below B w w4 := Hb3.out.trans (hb4.mono (by omega))
  have hs4 : B + 2 ≤ w4.heap.size := by have := hb4.size; omega
  have Hh4 := Lib.hid hh4
  have Hbw4 := Lib.hid hbw4
  clear z0 z1 z2 z3 z4 z5 hb4 hh4 hbw4 hn3 Hex3 Hb3 Hh3
  by_cases hp : Sc.planOk c
  case neg =>
    have : res = 1 := by rw [Hres.out]; unfold Sc.check; rw [if_neg hp]
    subst this
    rw [decide_eq_false (show ¬ Sc.planR _ _ _ _ _ _ from hp)]
    go_wp2_with fail
    refine bodyPost_ret (v := .int .i64 1) (by simp [results, Tryd.results16, go_sem]) rfl ?_
    exact ⟨rfl, Hbw4.out⟩
  rw [decide_eq_true (show Sc.planR _ _ _ _ _ _ from hp)]
  have Hp := Lib.hid hp
  clear hp
  obtain ⟨n, hn⟩ : ∃ n, n = w4.heap.size := ⟨_, rfl⟩
  obtain ⟨w5, hw5⟩ : ∃ x, x = w4.alloc (.cells loCells 3) := ⟨_, rfl⟩
  have hh5 : w5.heap[n]? = some (.cells loCells 3 (0, 0)) := by subst hw5; subst hn; exact heap_alloc_new w4 _
  have hb5 : Below n w4 w5 := by subst hw5; subst hn; exact (Below.refl _ _).alloc (Nat.le_refl _) _
  have hn5 : w5.heap.size = n + 1 := by subst hw5; subst hn; simp
  obtain ⟨w6, hw6⟩ : ∃ x, x = w5.alloc (.cells hiCells 3) := ⟨_, rfl⟩
  have hh6 : w6.heap[n + 1]? = some (.cells hiCells 3 (0, 0)) := by subst hw6; rw [← hn5]; exact heap_alloc_new w5 _
  have hb6 : Below (n + 1) w5 w6 := by subst hw6; rw [← hn5]; exact (Below.refl _ _).alloc (Nat.le_refl _) _
  have hh6n : w6.heap[n]? = some (.cells loCells 3 (0, 0)) := by rw [hb6.block _ (by omega)]; exact hh5
  have hh6B : w6.heap[B + 1]? = some (.cells (ncells c) 37 (0, 0)) := by rw [hb6.block _ (by omega), hb5.block _ (by omega)]; exact Hh4.out
  have hbw6 : Below B w w6 := Hbw4.out.trans ((hb5.mono (by omega)).trans (hb6.mono (by omega)))
  have hc6 : ∀ j, j < 9 → w6.cell? ⟨n, j, none⟩ = some (.int .i64 (Sc.lows.getD j 0)) ∧ w6.cell? ⟨n + 1, j, none⟩ = some (.int .i64 (Sc.highs.getD j 0)) ∧ w6.cell? ⟨B + 1, j, none⟩ = some (.int .i64 (Sc.cf c j)) := fun j hj =>
    ⟨by simp [World.cell?, hh6n, (lohi j hj).1], by simp [World.cell?, hh6, (lohi j hj).2], by simp [World.cell?, hh6B, ncells_num c j (by omega)]⟩
  have hs6 : B + 2 ≤ w6.heap.size := by have := hb6.size; omega
  have Hc6 := Lib.hid hc6
  have Hbw6 := Lib.hid hbw6
  have hex5 := hw5.symm
  have hex6 := hw6.symm
  unfold loCells at hex5
  unfold hiCells at hex6
  clear hc6 hbw6 hh6B hh6n hb6 hh6 hb5 hh5 hw5 hw6
  subst hn
  go_upto_region 6 with fail
  clear hex5 hex6
  obtain ⟨n, hn⟩ : ∃ n, n = w4.heap.size := ⟨_, rfl⟩
  rw [← hn] at Hc6 ⊢
  clear hn Hbw4 Hh4
  go_wp2_with fail
  go_loopw [28] (fun i wr => ∃ (j : Nat), j ≤ 9 ∧ i = .int .i64 j ∧ RowKit.Hid (Below w6.heap.size w6 wr) ∧ RowKit.Hid (∀ i, i < j → Sc.inB c i)) (fun i _ => 9 - (intOf i).toNat)
  case atStart => exact ⟨0, Nat.zero_le _, rfl, Lib.hid (Below.refl _ _), Lib.hid fun i h => by omega⟩
  case round =>
    obtain ⟨j, hj, rfl, Hbr, Hall⟩ := hrel
    by_cases hlt : j < 9
    · have hji : (j : Int) < 9 := by omega
      have hji15 : (j : Int) < 15 := by omega
      obtain ⟨c1, c2, c3⟩ := Hc6.out j hlt
      have c1 := cell_thru c1 Hbr.out
      have c2 := cell_thru c2 Hbr.out
      have c3 := cell_thru c3 Hbr.out
      obtain ⟨lo, hlo⟩ : ∃ x, x = Sc.lows.getD j 0 := ⟨_, rfl⟩
      obtain ⟨hi, hhi⟩ : ∃ x, x = Sc.highs.getD j 0 := ⟨_, rfl⟩
      obtain ⟨x, hx⟩ : ∃ x, x = Sc.cf c j := ⟨_, rfl⟩
      rw [← hlo] at c1
      rw [← hhi] at c2
      rw [← hx] at c3
      have hin : Sc.inB c j ↔ lo ≤ x ∧ x ≤ hi := by unfold Sc.inB; rw [hlo, hhi, hx]
      have Hin := Lib.hid hin
      clear hin hlo hhi hx Hc6
      have hbwr : Below B w wr := Hbw6.out.trans (Hbr.out.mono (by omega))
      have Hbwr := Lib.hid hbwr
      clear hbwr
      by_cases k0 : x < lo
      · have hd : decide (x < lo) = true := decide_eq_true k0
        have : res = 1 := by
          rw [Hres.out]; unfold Sc.check; rw [if_pos Hp.out, if_neg]
          intro h; have := Hin.out.1 (h j hlt); omega
        subst this
        clear k0
        go_wp2_with fail
        go_quiet (fail)
        go_wp2_with fail
        refine bodyPost_ret (v := .int .i64 1) (by simp [results, Tryd.results16, go_sem]) rfl ?_
        exact ⟨rfl, Hbwr.out.trans ⟨rfl, rfl, rfl, Nat.le_refl _, fun _ _ => rfl⟩⟩
      by_cases k1 : hi < x
      · have : res = 1 := by
          rw [Hres.out]; unfold Sc.check; rw [if_pos Hp.out, if_neg]
          intro h; have := Hin.out.1 (h j hlt); omega
        subst this
        have hd : decide (x < lo) = false := decide_eq_false k0
        have hd1 : decide (hi < x) = true := decide_eq_true k1
        clear k0 k1
        go_wp2_with fail
        go_quiet (fail)
        go_wp2_with fail
        refine bodyPost_ret (v := .int .i64 1) (by simp [results, Tryd.results16, go_sem]) rfl ?_
        exact ⟨rfl, Hbwr.out.trans ⟨rfl, rfl, rfl, Nat.le_refl _, fun _ _ => rfl⟩⟩
      have hinj : Sc.inB c j := Hin.out.2 ⟨by omega, by omega⟩
      have Hinj := Lib.hid hinj
      have hd : decide (x < lo) = false := decide_eq_false k0
      have hd1 : decide (hi < x) = false := decide_eq_false k1
      clear hinj k0 k1
      go_wp2_with fail
      go_quiet (fail)
      go_wp2_with fail
      go_roundw
      case rel =>
        refine ⟨j + 1, by omega, by go_num, Lib.hid (Hbr.out.trans ⟨rfl, rfl, rfl, Nat.le_refl _, fun _ _ => rfl⟩), Lib.hid fun i hi => ?_⟩
        by_cases hij : i < j
        · exact Hall.out i hij
        · have : i = j := by omega
          subst this; exact Hinj.out
      case measure => simp [intOf]; omega
    · have hji : ¬ ((j : Int) < 9) := by omega
      have hbo : Sc.boundsOk c := fun i hi => Hall.out i (by omega)
      have e2 := hbo 2 (by decide)
      have e4 := hbo 4 (by decide)
      unfold Sc.inB at e2 e4
      simp only [Sc.lows, Sc.highs, List.getD_cons_zero, List.getD_cons_succ] at e2 e4
      have zx := cell_thru (Hc6.out 2 (by decide)).2.2 Hbr.out
      have zy := cell_thru (Hc6.out 4 (by decide)).2.2 Hbr.out
      obtain ⟨x, hx⟩ : ∃ x, x = Sc.cf c 2 := ⟨_, rfl⟩
      obtain ⟨y, hy⟩ : ∃ x, x = Sc.cf c 4 := ⟨_, rfl⟩
      rw [← hx] at e2 zx
      rw [← hy] at e4 zy
      obtain ⟨x1, x2⟩ := e2
      obtain ⟨y1, y2⟩ := e4
      have hp0 : 0 ≤ 2 * x * y := Int.mul_nonneg (by omega) y1
      have hp1 : 2 * x * y ≤ 3200 := Int.le_trans (Int.mul_le_mul (show 2 * x ≤ 32 by omega) y2 y1 (by decide)) (by decide)
      have hchk : Sc.check c = if 400 < 2 * x * y then 4 else 0 := by unfold Sc.check; rw [if_pos Hp.out, if_pos hbo, hx, hy]
      have Hchk := Lib.hid hchk
      have hbwr : Below B w wr := Hbw6.out.trans (Hbr.out.mono (by omega))
      have Hbwr := Lib.hid hbwr
      clear hchk hbwr hx hy hbo Hc6
      by_cases hp : 400 < 2 * x * y
      · have : res = 4 := by rw [Hres.out, Hchk.out, if_pos hp]
        subst this
        go_wp2_with fail
        refine bodyPost_ret (v := .int .i64 4) (by simp [results, Tryd.results16, go_sem]) rfl ?_
        exact ⟨rfl, Hbwr.out⟩
      · have : res = 0 := by rw [Hres.out, Hchk.out, if_neg hp]
        subst this
        go_wp2_with fail
        refine bodyPost_ret (v := .int .i64 0) (by simp [results, Tryd.results16, go_sem]) rfl ?_
        exact ⟨rfl, Hbwr.out⟩
end Go.Proofs.YtdpopdgeipgheaaDoor

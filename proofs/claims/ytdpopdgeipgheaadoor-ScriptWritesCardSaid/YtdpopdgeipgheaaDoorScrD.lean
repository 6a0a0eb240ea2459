
/-
  What the check of a setup computes.
-/
import Derived.Test.YtdpopdgeipgheaaDoorScrC
namespace Go.Proofs.YtdpopdgeipgheaaDoor
open Go.RowKit
set_option linter.unusedVariables false

theorem size_two : (Tryd.prog.info? 74).map (·.size) = some 2 := by kernel_rfl
set_option maxRecDepth 8192 in
set_option maxHeartbeats 3200000 in
theorem script_Check (c : Sc.Conf) (w : World) (hbd : Bounds w) :
    Calls Tryd.prog 15 #[.agg (confCells c)] w fun e w' => e = .returned (.int .i64 (Sc.check c)) ∧ Below w.heap.size w w' := by
  obtain ⟨res, hres⟩ : ∃ x : Int, x = Sc.check c := ⟨_, rfl⟩
  rw [← hres]
  have Hres := Lib.hid hres
  obtain ⟨B, hB⟩ : ∃ x, x = w.heap.size := ⟨_, rfl⟩
  rw [← hB]
  have hgB := hbd.lt
  rw [← hB] at hgB
  obtain ⟨w1, hw1⟩ : ∃ x, x = w.alloc (.cells (confCells c) 26) := ⟨_, rfl⟩
  have hh1 : w1.heap[B]? = some (.cells (confCells c) 26 (0, 0)) := by subst hw1; subst hB; exact heap_alloc_new w _
  have hb1 : Below B w w1 := by subst hw1; subst hB; exact (Below.refl _ _).alloc (Nat.le_refl _) _
  have hn1 : w1.heap.size = B + 1 := by subst hw1; subst hB; simp
  have z0 : w1.cell? ⟨B, 10, none⟩ = some (.int .i64 (Sc.cf c 9)) := by simp [World.cell?, hh1, confCells]
  have z1 : w1.cell? ⟨B, 11, none⟩ = some (.int .i64 (Sc.cf c 10)) := by simp [World.cell?, hh1, confCells]
  have z2 : w1.cell? ⟨B, 12, none⟩ = some (.int .i64 (Sc.cf c 11)) := by simp [World.cell?, hh1, confCells]
  have z3 : w1.cell? ⟨B, 13, none⟩ = some (.int .i64 (Sc.cf c 12)) := by simp [World.cell?, hh1, confCells]
  have z4 : w1.cell? ⟨B, 14, none⟩ = some (.int .i64 (Sc.cf c 13)) := by simp [World.cell?, hh1, confCells]
  have z5 : w1.cell? ⟨B, 15, none⟩ = some (.int .i64 (Sc.cf c 14)) := by simp [World.cell?, hh1, confCells]
  have Hh1 := Lib.hid hh1
  have Hbd := Lib.hid hbd
  have Hb1 := Lib.hid hb1
  have HB := Lib.hid hB
  clear hres hh1 hbd hb1
  unfold confCells at hw1 ⊢
  go_enter Tryd.func15, Tryd.ntmps15
  go_upto_region 1 with fail
  rw [← hB, ← hw1]
  clear hw1 hB
  go_wp2_with fail
  refine (draw_Check _ _ _ _ _ _ w1).mono ?_
  rintro e w3 ⟨rfl, hb3⟩
  rw [hn1] at hb3
  have hh3 : w3.heap[B]? = some (.cells (confCells c) 26 (0, 0)) := by rw [hb3.block B (by omega)]; exact Hh1.out
  have hbw3 : Below B w w3 := Hb1.out.trans (hb3.mono (by omega))
  have hn3 : B + 1 ≤ w3.heap.size := by have := hb3.size; omega
  have hbd3 : Bounds w3 := Hbd.out.below hbw3 hgB
  have Hh3 := Lib.hid hh3
  have Hbw3 := Lib.hid hbw3
  obtain ⟨tb, frb, hgb⟩ := hbd3
  have Hgb := Lib.hid hgb
  clear hb3 hh3 hbw3 z0 z1 z2 z3 z4 z5 hn1 hgb
  by_cases hp : Sc.planOk c
  case neg =>
    have : res = 1 := by rw [Hres.out]; unfold Sc.check; rw [if_neg hp]
    subst this
    rw [if_neg (show ¬ Sc.planR _ _ _ _ _ _ from hp)]
    go_wp2_with fail
    refine bodyPost_ret (v := .int .i64 1) (by simp [results, Tryd.results15, go_sem]) rfl ?_
    exact ⟨rfl, Hbw3.out⟩
  rw [if_pos (show Sc.planR _ _ _ _ _ _ from hp)]
  have Hp := Lib.hid hp
  clear hp
  go_wp2_with (refine wpList_loadRow rfl _ _ rfl 0 rfl Sc.bnd tb frb _ Hgb.out Tryd.underlying75 rfl (by kernel_rfl) ?_)
  go_loopw [14] (fun i wr => ∃ (j : Nat), j ≤ 9 ∧ i = .int .i64 j ∧ RowKit.Hid (Below (B + 1) w3 wr) ∧ RowKit.Hid (∀ i, i < j → Sc.inB c i)) (fun i _ => 9 - (intOf i).toNat)
  case atStart => exact ⟨0, Nat.zero_le _, rfl, Lib.hid (Below.refl _ _), Lib.hid fun i h => by omega⟩
  case round =>
    obtain ⟨j, hj, rfl, Hbr, Hall⟩ := hrel
    have hnr : B + 1 ≤ wr.heap.size := by have := Hbr.out.size; omega
    by_cases hlt : j < 9
    · have hji : (j : Int) < 9 := by omega
      have hidx := sc_index j hlt
      obtain ⟨lo, hlo⟩ : ∃ x, x = Sc.lows.getD j 0 := ⟨_, rfl⟩
      obtain ⟨hi, hhi⟩ : ∃ x, x = Sc.highs.getD j 0 := ⟨_, rfl⟩
      obtain ⟨x, hx⟩ : ∃ x, x = Sc.cf c j := ⟨_, rfl⟩
      rw [← hlo, ← hhi] at hidx
      have hin : Sc.inB c j ↔ lo ≤ x ∧ x ≤ hi := by unfold Sc.inB; rw [hlo, hhi, hx]
      have Hin := Lib.hid hin
      obtain ⟨n, hn⟩ : ∃ n, n = wr.heap.size := ⟨_, rfl⟩
      obtain ⟨w5, hw5⟩ : ∃ y, y = wr.alloc (.cells #[.int .i64 0, .int .i64 0] 74) := ⟨_, rfl⟩
      have hh5 : w5.heap[n]? = some (.cells #[.int .i64 0, .int .i64 0] 74 (0, 0)) := by subst hw5; subst hn; exact heap_alloc_new wr _
      have hb5 : Below n wr w5 := by subst hw5; subst hn; exact (Below.refl _ _).alloc (Nat.le_refl _) _
      have hn5 : w5.heap.size = n + 1 := by subst hw5; subst hn; simp
      have v0 : w5.cell? ⟨n, 0, none⟩ = some (.int .i64 0) := by simp [World.cell?, hh5]
      have v1 : w5.cell? ⟨n, 1, none⟩ = some (.int .i64 0) := by simp [World.cell?, hh5]
      have f0 : w5.frozen? ⟨n, 0, none⟩ = false := by simp [World.frozen?, hh5]
      have f1 : w5.frozen? ⟨n, 1, none⟩ = false := by simp [World.frozen?, hh5]
      obtain ⟨w6, hw6⟩ : ∃ y, y = (w5.setCell ⟨n, 0, none⟩ (.int .i64 lo)).setCell ⟨n, 1, none⟩ (.int .i64 hi) := ⟨_, rfl⟩
      have hh6 : w6.heap[n]? = some (.cells #[.int .i64 lo, .int .i64 hi] 74 (0, 0)) := by
        have e1 := heap_set hh5 0 (.int .i64 lo)
        have e2 := heap_set e1 1 (.int .i64 hi)
        subst hw6
        simpa using e2
      have hb6 : Below n wr w6 := by
        subst hw6
        exact (hb5.setCell (p := ⟨n, 0, none⟩) (Nat.le_refl _) _).setCell (p := ⟨n, 1, none⟩) (Nat.le_refl _) _
      have hn6 : w6.heap.size = n + 1 := by subst hw6; simp [World.setCell, hn5]
      have hBn : B + 1 ≤ n := by omega
      have hh6B : w6.heap[B]? = some (.cells (confCells c) 26 (0, 0)) := by
        rw [hb6.block B (by omega), Hbr.out.block B (by omega)]; exact Hh3.out
      have hb36 : Below (B + 1) w3 w6 := Hbr.out.trans (hb6.mono hBn)
      have Hh5 := Lib.hid hh5
      have Hh6 := Lib.hid hh6
      have Hh6B := Lib.hid hh6B
      have Hb36 := Lib.hid hb36
      have hex5 := hw5.symm
      have hex6 := hw6.symm
      have Hhx := Lib.hid hx
      clear hlo hhi hx hin hb5 hb6 hh5 hh6 hh6B hb36 hw5 hw6 Hh5
      subst hn
      go_upto_region 7 with fail
      clear hex5 hex6 v0 v1 f0 f1
      go_wp2_with fail
      refine (script_fields B _).mono ?_
      rintro e w7 ⟨rfl, hh7, hb7⟩
      rw [hn6] at hh7 hb7 ⊢
      have hq7 : w7.cell? ⟨wr.heap.size + 1, j, none⟩ = some (.pointer (some ⟨B, fo j, none⟩)) := by simp [World.cell?, hh7, scPtrs_get B j (by omega)]
      have hB7 : w7.heap[B]? = some (.cells (confCells c) 26 (0, 0)) := by rw [hb7.block B (by omega)]; exact Hh6B.out
      have hn7 : w7.heap[wr.heap.size]? = some (.cells #[.int .i64 lo, .int .i64 hi] 74 (0, 0)) := by rw [hb7.block _ (by omega)]; exact Hh6.out
      have hx7 : w7.cell? ⟨B, fo j, none⟩ = some (.int .i64 x) := by rw [Hhx.out]; simp [World.cell?, hB7, confCells_num c j (by omega)]
      have ha7 : w7.cell? ⟨wr.heap.size, 0, none⟩ = some (.int .i64 lo) := by simp [World.cell?, hn7]
      have hc7 : w7.cell? ⟨wr.heap.size, 1, none⟩ = some (.int .i64 hi) := by simp [World.cell?, hn7]
      have hb37 : Below (B + 1) w3 w7 := Hb36.out.trans (hb7.mono (by omega))
      have Hb37 := Lib.hid hb37
      have Hbw7 := Lib.hid (Hbw3.out.trans (hb37.mono (by omega) : Below B w3 w7))
      have hj15 : (j : Int) < 15 := by omega
      clear hh7 hb7 hB7 hn7 hb37 hn6 hn5 hBn hnr hidx
      by_cases k0 : x < lo
      · have : res = 1 := by
          rw [Hres.out]; unfold Sc.check; rw [if_pos Hp.out, if_neg]
          intro h; have := Hin.out.1 (h j hlt); omega
        subst this
        go_wp2_with fail
        refine bodyPost_ret (v := .int .i64 1) (by simp [results, Tryd.results15, go_sem]) rfl ?_
        exact ⟨rfl, Hbw7.out⟩
      by_cases k1 : hi < x
      · have : res = 1 := by
          rw [Hres.out]; unfold Sc.check; rw [if_pos Hp.out, if_neg]
          intro h; have := Hin.out.1 (h j hlt); omega
        subst this
        go_wp2_with fail
        refine bodyPost_ret (v := .int .i64 1) (by simp [results, Tryd.results15, go_sem]) rfl ?_
        exact ⟨rfl, Hbw7.out⟩
      have hinj : Sc.inB c j := Hin.out.2 ⟨by omega, by omega⟩
      have Hinj := Lib.hid hinj
      clear hinj
      go_wp2_with fail
      go_roundw
      case rel =>
        refine ⟨j + 1, by omega, by go_num, Hb37, Lib.hid fun i hi => ?_⟩
        by_cases hij : i < j
        · exact Hall.out i hij
        · have : i = j := by omega
          subst this; exact Hinj.out
      case measure => simp [intOf]; omega
    · have hji : ¬ ((j : Int) < 9) := by omega
      have hbo : Sc.boundsOk c := fun i hi => Hall.out i (by omega)
      have e2 := hbo 2 (by decide)
      have e4 := hbo 4 (by decide)
      unfold Sc.inB at e2 e4
      simp only [Sc.lows, Sc.highs, List.getD_cons_zero, List.getD_cons_succ] at e2 e4
      have hBr : wr.heap[B]? = some (.cells (confCells c) 26 (0, 0)) := by rw [Hbr.out.block B (by omega)]; exact Hh3.out
      obtain ⟨x, hx⟩ : ∃ x, x = Sc.cf c 2 := ⟨_, rfl⟩
      obtain ⟨y, hy⟩ : ∃ x, x = Sc.cf c 4 := ⟨_, rfl⟩
      have zx : wr.cell? ⟨B, 2, none⟩ = some (.int .i64 x) := by rw [hx]; simp [World.cell?, hBr, confCells]
      have zy : wr.cell? ⟨B, 4, none⟩ = some (.int .i64 y) := by rw [hy]; simp [World.cell?, hBr, confCells]
      rw [← hx] at e2
      rw [← hy] at e4
      obtain ⟨x1, x2⟩ := e2
      obtain ⟨y1, y2⟩ := e4
      have hp0 : 0 ≤ 2 * x * y := Int.mul_nonneg (by omega) y1
      have hp1 : 2 * x * y ≤ 3200 := Int.le_trans (Int.mul_le_mul (show 2 * x ≤ 32 by omega) y2 y1 (by decide)) (by decide)
      have hchk : Sc.check c = if 400 < 2 * x * y then 4 else 0 := by unfold Sc.check; rw [if_pos Hp.out, if_pos hbo, hx, hy]
      have Hchk := Lib.hid hchk
      have Hbwr := Lib.hid (Hbw3.out.trans (Hbr.out.mono (by omega) : Below B w3 wr))
      clear hchk hBr hx hy hbo
      by_cases hp : 400 < 2 * x * y
      · have : res = 4 := by rw [Hres.out, Hchk.out, if_pos hp]
        subst this
        go_wp2_with fail
        refine bodyPost_ret (v := .int .i64 4) (by simp [results, Tryd.results15, go_sem]) rfl ?_
        exact ⟨rfl, Hbwr.out⟩
      · have : res = 0 := by rw [Hres.out, Hchk.out, if_neg hp]
        subst this
        go_wp2_with fail
        refine bodyPost_ret (v := .int .i64 0) (by simp [results, Tryd.results15, go_sem]) rfl ?_
        exact ⟨rfl, Hbwr.out⟩
end Go.Proofs.YtdpopdgeipgheaaDoor

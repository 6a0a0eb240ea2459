
/-
  The document's example, as the laws look at it.
-/
import Derived.Test.YtdpopdgeipgheaaDoorScrM
namespace Go.Proofs.YtdpopdgeipgheaaDoor
open Go.RowKit
set_option linter.unusedVariables false

set_option maxRecDepth 100000 in
set_option maxHeartbeats 3200000 in
theorem law14_head (w : World) (hbd : Bounds w) : Calls Tryd.prog 7 #[] w fun e w' => e = .returned (.bool true) ∧ Below w.heap.size w w' := by
  obtain ⟨he1, he2, he3⟩ := Sc.head_enc
  obtain ⟨O, hO⟩ : ∃ O, O = Sc.encOut (Sc.small1, []) := ⟨_, rfl⟩
  rw [← hO] at he2
  have He1 := Lib.hid he1
  have He3 := Lib.hid he3
  have HO := Lib.hid hO
  have h9 : 9 < (O.length : Int) := by omega
  clear he1 he2 he3 hO
  have Hbd := Lib.hid hbd
  have hgB := hbd.lt
  clear hbd
  go_enter Tryd.func7, Tryd.ntmps7
  go_wp2_with fail
  refine (law14_small _).mono ?_
  rintro e w1 ⟨rfl, hb1⟩
  obtain ⟨c0, hc0⟩ : ∃ c, c = Sc.small0 := ⟨_, rfl⟩
  rw [← hc0]
  obtain ⟨M, hM⟩ : ∃ M, M = w1.heap.size := ⟨_, rfl⟩
  obtain ⟨w2, hw2⟩ : ∃ x, x = w1.alloc (.cells (confCells c0) 26) := ⟨_, rfl⟩
  have hb2 : Below w1.heap.size w1 w2 := by subst hw2; exact (Below.refl _ _).alloc (Nat.le_refl _) _
  have hh2 : w2.heap[M]? = some (.cells (confCells c0) 26 (0, 0)) := by subst hw2; subst hM; exact heap_alloc_new w1 _
  have hn2 : w2.heap.size = M + 1 := by subst hw2; subst hM; simp
  have hbw2 := hb1.trans (hb2.mono hb1.size)
  have m9 : w2.cell? ⟨M, 9, none⟩ = some (.int .u64 (bv c0.2)) := by simp [World.cell?, hh2, confCells]
  have mf : w2.frozen? ⟨M, 9, none⟩ = false := by simp [World.frozen?, hh2]
  obtain ⟨w3, hw3⟩ : ∃ x, x = w2.setCell ⟨M, 9, none⟩ (.int .u64 18446744073709551615) := ⟨_, rfl⟩
  have hh3 : w3.heap[M]? = some (.cells (confCells Sc.small1) 26 (0, 0)) := by
    have := heap_set hh2 9 (.int .u64 18446744073709551615)
    rw [hw3, this, hc0]
    rfl
  have hwM : w.heap.size ≤ M := by rw [hM]; exact hb1.size
  have hbw3 : Below w.heap.size w w3 := by rw [hw3]; exact hbw2.setCell (p := ⟨M, 9, none⟩) hwM _
  have Hh3 := Lib.hid hh3
  have HM := Lib.hid hM
  have Hw2 := Lib.hid hw2
  have Hw3 := Lib.hid hw3
  have hn3 : M + 1 ≤ w3.heap.size := by rw [hw3]; simp [World.setCell, hn2]
  have hbd3 : Bounds w3 := Hbd.out.below hbw3 hgB
  have Hbd3 := Lib.hid hbd3
  have Hbw3 := Lib.hid hbw3
  clear hb1 hb2 hh2 hn2 hbw2 hM hw2 hw3 hbw3 hbd3 hh3 hc0
  unfold confCells
  go_upto_region 2 with fail
  have hex := Hw2.out.symm
  unfold confCells at hex
  rw [hex, ← HM.out]
  clear hex
  go_upto_region 3 with fail
  rw [← Hw3.out]
  clear m9 mf
  go_wp2_with (first | (refine wpList_loadRow rfl _ _ rfl M rfl (confCells Sc.small1) _ (0, 0) _ Hh3.out Tryd.underlying26 rfl size_conf ?_))
  refine (script_Encode w3.heap.size Sc.small1 none 0 0 [] w3 rfl Hbd3.out rfl ⟨rfl, Sl.nil _ _ _ _⟩ (Nat.le_refl _) (Nat.zero_le _) (fun _ => He3.out)).mono ?_
  rintro e w4 ⟨v4, rfl, ho4, hb4⟩
  rw [He1.out]
  rw [← HO.out] at ho4
  obtain ⟨a4, c4, rfl, hc4, hm4, hr4, _⟩ := ho4.shape O.length rfl
  have hh4 : w4.heap[M]? = some (.cells (confCells Sc.small1) 26 (0, 0)) := by rw [hb4.block M (by omega)]; exact Hh3.out
  have Hbd4 := Lib.hid (Hbd3.out.below hb4 (by have := Hbw3.out.size; omega))
  have Hbw4 := Lib.hid (Hbw3.out.trans (hb4.mono Hbw3.out.size))
  obtain ⟨c1, hc1⟩ : ∃ c, c = Sc.small1 := ⟨_, rfl⟩
  rw [← hc1] at hh4
  have k0 : w4.cell? ⟨M, 0, none⟩ = some (.int .i64 (Sc.cf c1 0)) := by simp [World.cell?, hh4, confCells]
  have k1 : w4.cell? ⟨M, 1, none⟩ = some (.int .i64 (Sc.cf c1 1)) := by simp [World.cell?, hh4, confCells]
  have k2 : w4.cell? ⟨M, 2, none⟩ = some (.int .i64 (Sc.cf c1 2)) := by simp [World.cell?, hh4, confCells]
  have k3 : w4.cell? ⟨M, 3, none⟩ = some (.int .i64 (Sc.cf c1 3)) := by simp [World.cell?, hh4, confCells]
  have k4 : w4.cell? ⟨M, 4, none⟩ = some (.int .i64 (Sc.cf c1 4)) := by simp [World.cell?, hh4, confCells]
  have k5 : w4.cell? ⟨M, 5, none⟩ = some (.int .i64 (Sc.cf c1 5)) := by simp [World.cell?, hh4, confCells]
  have k6 : w4.cell? ⟨M, 6, none⟩ = some (.int .i64 (Sc.cf c1 6)) := by simp [World.cell?, hh4, confCells]
  have k7 : w4.cell? ⟨M, 7, none⟩ = some (.int .i64 (Sc.cf c1 7)) := by simp [World.cell?, hh4, confCells]
  have k8 : w4.cell? ⟨M, 8, none⟩ = some (.int .i64 (Sc.cf c1 8)) := by simp [World.cell?, hh4, confCells]
  have k9 : w4.cell? ⟨M, 9, none⟩ = some (.int .u64 (bv (c1).2)) := by simp [World.cell?, hh4, confCells]
  have k10 : w4.cell? ⟨M, 10, none⟩ = some (.int .i64 (Sc.cf c1 9)) := by simp [World.cell?, hh4, confCells]
  have k11 : w4.cell? ⟨M, 11, none⟩ = some (.int .i64 (Sc.cf c1 10)) := by simp [World.cell?, hh4, confCells]
  have k12 : w4.cell? ⟨M, 12, none⟩ = some (.int .i64 (Sc.cf c1 11)) := by simp [World.cell?, hh4, confCells]
  have k13 : w4.cell? ⟨M, 13, none⟩ = some (.int .i64 (Sc.cf c1 12)) := by simp [World.cell?, hh4, confCells]
  have k14 : w4.cell? ⟨M, 14, none⟩ = some (.int .i64 (Sc.cf c1 13)) := by simp [World.cell?, hh4, confCells]
  have k15 : w4.cell? ⟨M, 15, none⟩ = some (.int .i64 (Sc.cf c1 14)) := by simp [World.cell?, hh4, confCells]
  have Hc1 := Lib.hid hc1
  clear hh4 hb4 ho4 hr4 hc4 hm4 hc1
  go_wp2_with fail
  refine (script_Check c1 w4 Hbd4.out).mono ?_
  rintro e w5 ⟨rfl, hb5⟩
  rw [Hc1.out, show Sc.check Sc.small1 = 0 from Sc.small_chk _]
  clear k0 k1 k2 k3 k4 k5 k6 k7 k8 k9 k10 k11 k12 k13 k14 k15
  go_wp2_with fail
  go_ret
  exact ⟨rfl, Hbw4.out.trans (hb5.mono (Hbw4.out.size))⟩
end Go.Proofs.YtdpopdgeipgheaaDoor


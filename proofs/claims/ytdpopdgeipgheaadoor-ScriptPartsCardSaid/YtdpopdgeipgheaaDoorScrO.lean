
/-
  The document's example.
-/
import Derived.Test.YtdpopdgeipgheaaDoorScrN
namespace Go.Proofs.YtdpopdgeipgheaaDoor
open Go.RowKit
set_option linter.unusedVariables false

namespace Sc
def small0 : Conf := ([3, 1, 1, 2, 0, 5, 0, 0, 0, 1, 1, 1, 0, 0, 0], 0#64)
def small1 : Conf := ([3, 1, 1, 2, 0, 5, 0, 0, 0, 1, 1, 1, 0, 0, 0], 18446744073709551615#64)
theorem small_chk (s : BitVec 64) : check ([3, 1, 1, 2, 0, 5, 0, 0, 0, 1, 1, 1, 0, 0, 0], s) = 0 := by
  have h1 : planOk ([3, 1, 1, 2, 0, 5, 0, 0, 0, 1, 1, 1, 0, 0, 0], s) := by show planR 1 1 1 0 0 0; decide
  have h2 : boundsOk ([3, 1, 1, 2, 0, 5, 0, 0, 0, 1, 1, 1, 0, 0, 0], s) := by
    intro i hi
    have e : i = 0 ∨ i = 1 ∨ i = 2 ∨ i = 3 ∨ i = 4 ∨ i = 5 ∨ i = 6 ∨ i = 7 ∨ i = 8 := by omega
    rcases e with rfl | rfl | rfl | rfl | rfl | rfl | rfl | rfl | rfl
    · show (1 : Int) ≤ 3 ∧ (3 : Int) ≤ 7; decide
    · show (1 : Int) ≤ 1 ∧ (1 : Int) ≤ 4; decide
    · show (1 : Int) ≤ 1 ∧ (1 : Int) ≤ 16; decide
    · show (1 : Int) ≤ 2 ∧ (2 : Int) ≤ 2; decide
    · show (0 : Int) ≤ 0 ∧ (0 : Int) ≤ 100; decide
    · show (1 : Int) ≤ 5 ∧ (5 : Int) ≤ 1000; decide
    · show (0 : Int) ≤ 0 ∧ (0 : Int) ≤ 4194304; decide
    · show (0 : Int) ≤ 0 ∧ (0 : Int) ≤ 1073741824; decide
    · show (0 : Int) ≤ 0 ∧ (0 : Int) ≤ 63; decide
  have h3 : ¬ 400 < 2 * cf ([3, 1, 1, 2, 0, 5, 0, 0, 0, 1, 1, 1, 0, 0, 0], s) 2 * cf ([3, 1, 1, 2, 0, 5, 0, 0, 0, 1, 1, 1, 0, 0, 0], s) 4 := by show ¬ 400 < 2 * (1 : Int) * 0; decide
  unfold check
  rw [if_pos h1, if_pos h2, if_neg h3]
theorem head_enc : encErr (small1, []) = 0 ∧ 9 < (encOut (small1, [])).length ∧ (allBits (small1, [])).length ≤ 1000000000 := by
  have h : encErr (small1, []) = 0 := by
    have := small_chk 18446744073709551615#64
    unfold encErr; rw [if_pos (show check (small1, ([] : List Step)).1 = 0 from this)]; rfl
  refine ⟨h, ?_, by decide +kernel⟩
  unfold encOut
  rw [if_pos h]
  decide +kernel
end Sc
set_option maxRecDepth 100000 in
theorem law14_small (w : World) : Calls Tryd.prog 10 #[] w fun e w' => e = .returned (.agg (confCells Sc.small0)) ∧ Below w.heap.size w w' := by
  go_enter Tryd.func10, Tryd.ntmps10
  go_wp2_with fail
  refine bodyPost_ret (v := .agg (confCells Sc.small0)) ?_ rfl ?_
  · exact results_cell_row (P := Tryd.prog) Tryd.results10 _ _ w.heap.size 26 (confCells Sc.small0) (0, 0) _ rfl (heap_alloc_new w _) Tryd.underlying26 rfl (conf_size _)
  · exact ⟨rfl, (Below.refl _ _).alloc (Nat.le_refl _) _⟩
end Go.Proofs.YtdpopdgeipgheaaDoor

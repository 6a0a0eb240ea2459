
/-
  Equal setups are told to be equal.
-/
import Derived.Test.YtdpopdgeipgheaaDoorScrH
import Derived.ChangeKeysEq
namespace Go.Proofs.YtdpopdgeipgheaaDoor
open Go.RowKit
set_option linter.unusedVariables false

set_option maxRecDepth 100000 in
set_option maxHeartbeats 3200000 in
theorem eq_conf (c : Sc.Conf) (W : World) : (binOp .eql 26 (.agg (confCells c)) (.agg (confCells c))).run Tryd.prog W = .ok (.bool true) W := by
  unfold confCells
  go_simp
set_option maxRecDepth 100000 in
theorem eq_nums (c : Sc.Conf) (d : Nat) (W : World) : (Op.equalIn (d + 2) 37 (.agg (ncells c)) (.agg (ncells c))).run Tryd.prog W = .ok true W := by
  have his : (Tryd.prog.info? 3).isSome = true := by kernel_rfl
  obtain ⟨i, hi⟩ := Option.isSome_iff_exists.1 his
  rw [run_equalIn_array W (d + 1) _ _ Tryd.underlying37 hi]
  have hc : Tryd.prog.cellsOf 3 = 1 := by kernel_rfl
  rw [hc]
  unfold ncells
  have hr : List.range 15 = [0, 1, 2, 3, 4, 5, 6, 7, 8, 9, 10, 11, 12, 13, 14] := by decide
  rw [hr]
  simp only [Op.eqItems]
  go_simp
set_option maxRecDepth 100000 in
set_option maxHeartbeats 3200000 in
theorem eq_rconf (c : Sc.Conf) (W : World) : (binOp .eql 39 (.agg (rcells c)) (.agg (rcells c))).run Tryd.prog W = .ok (.bool true) W := by
  have h := eq_nums c 9997 W
  unfold ncells at h
  unfold rcells
  go_simp
end Go.Proofs.YtdpopdgeipgheaaDoor

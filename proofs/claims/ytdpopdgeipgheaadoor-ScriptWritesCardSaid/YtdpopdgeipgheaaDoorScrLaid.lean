
/-
  What the laid variable gives: the bounds of a setup's numbers lie where the program looks for them.
-/
import Derived.Test.YtdpopdgeipgheaaDoorScrC
import Derived.Test.YtdpopdgeipgheaaDoorRows
import Derived.ProofKit
import Derived.LaidMore
import Derived.OpenShut
namespace Go.Proofs.YtdpopdgeipgheaaDoor
open Go.ChangeShapes Go.WideShapes Go.ChangeAt Go.RowKit
set_option linter.unusedVariables false

theorem gBounds : Tryd.prog.globalNamed "crucible/script.bounds" = some 0 := by kernel_rfl
theorem tBounds : (Tryd.prog.globals[0]?).map (·.type) = some 75 := by kernel_rfl
theorem cells_int : Tryd.prog.cellsOf 3 = 1 := by kernel_rfl
theorem cells_pair : Tryd.prog.cellsOf 74 = 2 := by kernel_rfl
theorem cells_nine : Tryd.prog.cellsOf 75 = 18 := by kernel_rfl

theorem list_two {α : Type} {cs : List α} {a b : α} (h : cs.length = 2) (h0 : (cs.drop 0).take 1 = [a]) (h1 : (cs.drop 1).take 1 = [b]) : cs = [a, b] := by
  match cs, h with
  | [x, y], _ =>
    simp at h0 h1
    rw [h0, h1]
theorem open_pair {H : Type} {enc : TypeId × Value → H} {W : World} {sp : Nat → Bool} {fuel : Nat} {cs : List Value} {lo hi : Int} {x : DataW H × List MemPlace} (h : DataW.trod enc Tryd.prog W 0 sp false fuel 74 cs = some x) (hx : x.1 = .agg [.lit (.int .i64 lo), .lit (.int .i64 hi)]) : cs = [.int .i64 lo, .int .i64 hi] := by
  obtain ⟨xs, m, rfl, hx1, hlen, hn, hel⟩ := DataW.trod_array Tryd.underlying74 h
  rw [cells_pair] at hlen
  rw [cells_int] at hel
  have h0 := hel 0 (by decide)
  have h1 := hel 1 (by decide)
  match xs, hn, hx1, h0, h1 with
  | [x0, x1], _, hx1, h0, h1 =>
    obtain ⟨k0, e0, f0, _⟩ := DataW.trod_int Tryd.underlying3 (show DataW.trod _ Tryd.prog W 0 _ false m 3 _ = some x0 from h0)
    obtain ⟨k1, e1, f1, _⟩ := DataW.trod_int Tryd.underlying3 (show DataW.trod _ Tryd.prog W 0 _ false m 3 _ = some x1 from h1)
    rw [hx1] at hx
    simp only [List.map_cons, List.map_nil, f0, f1, DataW.agg.injEq, List.cons.injEq, DataW.lit.injEq, Lit.int.injEq, and_true, true_and] at hx
    obtain ⟨rfl, rfl⟩ := hx
    exact list_two hlen (by simpa using e0) (by simpa using e1)
theorem pairs_ext {α : Type} {cs bs : List α} {n : Nat} (h1 : cs.length = n * 2) (h2 : bs.length = n * 2) (h : ∀ i, i < n → (cs.drop (i * 2)).take 2 = (bs.drop (i * 2)).take 2) : cs = bs := by
  apply List.ext_getElem?
  intro k
  by_cases hk : k < n * 2
  · have e := congrArg (fun l : List α => l[k % 2]?) (h (k / 2) (by omega))
    simp only [List.getElem?_take, List.getElem?_drop] at e
    rw [if_pos (by omega), if_pos (by omega), show k / 2 * 2 + k % 2 = k by omega] at e
    exact e
  · rw [List.getElem?_eq_none (by omega), List.getElem?_eq_none (by omega)]

theorem bounds_laid {W : World} (h : laidMetH Tryd.prog [("crucible/script.bounds", Rows.laid_crucible_script_bounds)] W) : Bounds W := by
  rw [MakeChecks.laidMetH_plain _ _ _ (by kernel_rfl)] at h
  obtain ⟨ps, ⟨g0, t0, cs0, f0, p0, q0, hg0, ht0, hv0, hd0, _, _⟩, _, _⟩ := h
  obtain rfl := Option.some.inj (gBounds.symm.trans hg0)
  obtain rfl := Option.some.inj (tBounds.symm.trans ht0)
  obtain ⟨xs, m, rfl, hx, hlen, hn, hel⟩ := DataW.trod_array Tryd.underlying75 hd0
  rw [cells_nine] at hlen
  rw [cells_pair] at hel
  simp only [Prod.mk.injEq, Rows.laid_crucible_script_bounds, DataW.agg.injEq] at hx
  have hx := hx.1
  have hcs : cs0.toList = Sc.bnd.toList := by
    refine pairs_ext (n := 9) hlen rfl fun i hi => ?_
    have h1 := hel i hi
    have hxi : xs[i]? = some xs[i] := List.getElem?_eq_getElem (by omega)
    rw [hxi] at h1
    have h2 : (xs.map (·.1))[i]? = some xs[i].1 := by rw [List.getElem?_map, hxi]; rfl
    rw [← hx] at h2
    have e : i = 0 ∨ i = 1 ∨ i = 2 ∨ i = 3 ∨ i = 4 ∨ i = 5 ∨ i = 6 ∨ i = 7 ∨ i = 8 := by omega
    rcases e with rfl | rfl | rfl | rfl | rfl | rfl | rfl | rfl | rfl
    · exact open_pair h1 (Option.some.inj h2).symm
    · exact open_pair h1 (Option.some.inj h2).symm
    · exact open_pair h1 (Option.some.inj h2).symm
    · exact open_pair h1 (Option.some.inj h2).symm
    · exact open_pair h1 (Option.some.inj h2).symm
    · exact open_pair h1 (Option.some.inj h2).symm
    · exact open_pair h1 (Option.some.inj h2).symm
    · exact open_pair h1 (Option.some.inj h2).symm
    · exact open_pair h1 (Option.some.inj h2).symm
  have hcs : cs0 = Sc.bnd := Array.toList_inj.1 hcs
  unfold World.var? at hv0
  rw [hg0, Option.bind_some] at hv0
  split at hv0
  · rename_i cs t fr hh
    simp only [Option.some.injEq] at hv0
    exact ⟨t, fr, by rw [hh, hv0, hcs]⟩
  · cases hv0
end Go.Proofs.YtdpopdgeipgheaaDoor


/-
  A post that asks one node after the other, walked: made, closed, looked at, emptied; on none at all.
-/
import Derived.Test.YtmmgnbdngpkfcaaPoA
namespace Go.Proofs.Ytmmgnbdngpkfcaa
open Go.RowKit
set_option linter.unusedVariables false

theorem po_Open {g lm : Nat} {ov : Value} {P : Po} (w : World) (h : PoA w g lm ov P) :
    Calls Try.prog 47 #[.pointer (some ⟨g, 0, none⟩)] w fun e w' => e = .returned (.bool P.opn) ∧ w = w' := by
  have c4 := h.cell 4 rfl
  clear h
  go_enter Try.func47, Try.ntmps47
  go_wp2_with fail
  go_ret
  exact ⟨rfl, rfl⟩
theorem po_Open_nil (w : World) :
    Calls Try.prog 47 #[.pointer none] w fun e w' => e = .returned (.bool false) ∧ w = w' := by
  go_enter Try.func47, Try.ntmps47
  go_wp2_with fail
  go_ret
  exact ⟨rfl, rfl⟩
theorem po_Take_nil (w : World) :
    Calls Try.prog 48 #[.pointer none] w fun e w' => e = .returned (.slice none 0 0) ∧ w = w' := by
  go_enter Try.func48, Try.ntmps48
  go_wp2_with fail
  go_ret
  exact ⟨rfl, rfl⟩
theorem po_Drop_nil (w : World) :
    Calls Try.prog 52 #[.pointer none] w fun e w' => e = .returned (.tuple #[]) ∧ w = w' := by
  go_enter Try.func52, Try.ntmps52
  go_wp2_with fail
  refine bodyPost_end (v := .tuple #[]) (by simp [results, Try.results52, go_sem]) rfl ?_
  exact ⟨rfl, rfl⟩
theorem po_Tick_nil (w : World) :
    Calls Try.prog 51 #[.pointer none] w fun e w' => e = .returned (.tuple #[]) ∧ w = w' := by
  go_enter Try.func51, Try.ntmps51
  go_wp2_with fail
  refine bodyPost_ret (v := .tuple #[]) (by simp [results, Try.results51, go_sem]) rfl ?_
  exact ⟨rfl, rfl⟩
theorem po_Ask_nil (w : World) :
    Calls Try.prog 46 #[.pointer none, .agg #[.int .i64 0, .int .i64 0, .int .i64 0, .int .i64 0, .int .i64 0, .slice none 0 0, .slice none 0 0, .int .i64 0, .bool false, .int .i64 0]] w fun e w' => e = .returned (.tuple #[]) ∧ Below w.heap.size w w' := by
  go_enter Try.func46, Try.ntmps46
  go_wp2_with fail
  refine bodyPost_ret (v := .tuple #[]) (by simp [results, Try.results46, go_sem]) rfl ?_
  exact ⟨rfl, alloc_below _ _⟩
theorem po_Drop {g lm : Nat} {ov : Value} {P : Po} (w : World) (h : PoA w g lm ov P) :
    Calls Try.prog 52 #[.pointer (some ⟨g, 0, none⟩)] w fun e w' => e = .returned (.tuple #[]) ∧ PoA w' g lm ov { P with opn := false } ∧ Only (· = g) w w' := by
  have c4 := h.cell 4 rfl
  have f4 := h.fr 4
  have hfin : PoA (w.setCell ⟨g, 4, none⟩ (.bool false)) g lm ov { P with opn := false } ∧ Only (· = g) w (w.setCell ⟨g, 4, none⟩ (.bool false)) := by
    have ho : Only (· = g) w (w.setCell ⟨g, 4, none⟩ (.bool false)) := (Only.refl (· = g) w).setCell (p := ⟨g, 4, none⟩) (.inl rfl) _
    exact ⟨h.set ho (heap_set h.row 4 (.bool false)) rfl ⟨h.right.1, h.right.2, h.right.3, h.right.4, h.right.5, h.right.6, h.right.7, h.right.8⟩ h.ov1, ho⟩
  have Hfin := Lib.hid hfin
  clear h hfin
  go_enter Try.func52, Try.ntmps52
  go_wp2_with fail
  refine bodyPost_end (v := .tuple #[]) (by simp [results, Try.results52, go_sem]) rfl ?_
  exact ⟨rfl, Hfin.out⟩
theorem po_Take {g lm : Nat} {a : Option Addr} {n c : Nat} {P : Po} (w : World) (h : PoA w g lm (.slice a n c) P) :
    Calls Try.prog 48 #[.pointer (some ⟨g, 0, none⟩)] w fun e w' => e = .returned (.slice a n c) ∧ PoA w' g lm (.slice none 0 0) P ∧ Only (· = g) w w' := by
  have c4 := h.cell 18 rfl
  have f4 := h.fr 18
  have hfin : PoA (w.setCell ⟨g, 18, none⟩ (.slice none 0 0)) g lm (.slice none 0 0) P ∧ Only (· = g) w (w.setCell ⟨g, 18, none⟩ (.slice none 0 0)) := by
    have ho : Only (· = g) w (w.setCell ⟨g, 18, none⟩ (.slice none 0 0)) := (Only.refl (· = g) w).setCell (p := ⟨g, 18, none⟩) (.inl rfl) _
    exact ⟨h.set ho (heap_set h.row 18 (.slice none 0 0)) rfl h.right rfl, ho⟩
  have Hfin := Lib.hid hfin
  clear h hfin
  go_enter Try.func48, Try.ntmps48
  go_wp2_with fail
  go_ret
  exact ⟨rfl, Hfin.out⟩
set_option maxRecDepth 4096 in
theorem po_New (w : World) (nodes pat : Int) (hn : 1 ≤ nodes ∧ nodes ≤ 8) (hp : 0 ≤ pat ∧ pat ≤ 15) :
    Calls Try.prog 45 #[.int .i64 77, .int .i64 nodes, .int .i64 pat] w fun e w' => ∃ g lm, e = .returned (.pointer (some ⟨g, 0, none⟩)) ∧ PoA w' g lm (.slice none 0 0) ⟨77, nodes, pat, 0, false, 0, 0, 0, 0, fun _ => none⟩ ∧ w.heap.size ≤ g ∧ w.heap.size ≤ lm ∧ Below w.heap.size w w' := by
  have hmx : max nodes 1 = nodes := by omega
  have hmm := @run_makeMap Try.prog
  go_enter Try.func45, Try.ntmps45
  go_wp2_with fail
  go_ret
  have hb1 : Below w.heap.size w (w.alloc (.map #[] 0)) := alloc_below _ _
  have hb2 : Below (w.alloc (.map #[] 0)).heap.size (w.alloc (.map #[] 0)) ((w.alloc (.map #[] 0)).alloc (.cells #[.int .i64 77, .int .i64 nodes, .int .i64 pat, .int .i64 0, .bool false, .int .i64 0, .int .i64 0, .int .i64 0, .int .i64 0, .int .i64 0, .slice none 0 0, .slice none 0 0, .int .i64 0, .bool false, .int .i64 0, .int .i64 0, .int .i64 0, .map (some w.heap.size), .slice none 0 0] 153)) := alloc_below _ _
  refine ⟨(w.alloc (.map #[] 0)).heap.size, w.heap.size, by simp, ⟨heap_alloc_new (w.alloc (.map #[] 0)) _, ?_, (fun z hz => by cases hz), by simp, ⟨hn, hp, ⟨Int.le_refl 0, by show (0 : Int) ≤ 100; decide⟩, ⟨Int.le_refl 0, by show (0 : Int) ≤ 100; decide⟩, ⟨Int.le_refl 0, by show (0 : Int) ≤ 100; decide⟩, ⟨by show (0 : Int) ≤ 77; decide, by show (77 : Int) ≤ 100; decide⟩, ⟨Int.le_refl 0, by show (0 : Int) ≤ 100; decide⟩, ⟨Int.le_refl 0, by show (0 : Int) ≤ 100; decide⟩⟩, rfl⟩, by simp, Nat.le_refl _, hb1.trans (hb2.mono (by simp))⟩
  exact ((IMap.made w).keep (hb2.block _ (by simp))).mono (by decide)
end Go.Proofs.Ytmmgnbdngpkfcaa


/-
  The law's own look at an order of three.
-/
import Derived.Test.YticpbiccgnfecaaGraU
import Derived.Test.YticpbiccgnfecaaGraH
namespace Go.Proofs.Yticpbiccgnfecaa
open Go.RowKit
set_option linter.unusedVariables false

theorem drewN_below {B : Nat} {w w' : World} (h : Below B w w') (q : Nat) : Below B w (w'.drewN q) :=
  h.trans ⟨rfl, rfl, rfl, by rw [drewN_heap]; exact Nat.le_refl _, fun k _ => by rw [drewN_heap]⟩
theorem topo_len (N : Nat) (R : Gr.Rel) (hR : Gr.Bd N R) : (natI ((Gr.topo N R N []).getD [])).length ≤ N := by
  rw [natI_len]
  cases h : Gr.topo N R N [] with
  | none => simp
  | some o => have := (Gr.topo_ord hR (Gr.Ord.nil N R) h).2; simp at this ⊢; omega

theorem sl_nums3 (w : World) (x y z : Int) (h : ∀ p ∈ [x, y, z], -9223372036854775808 ≤ p ∧ p ≤ 9223372036854775807) : Sl EInt (fun _ => True) (w.alloc (.cells #[.int .i64 x, .int .i64 y, .int .i64 z] 3)) (some ⟨w.heap.size, 0, none⟩) [x, y, z] :=
  sl_nums [x, y, z] (heap_alloc_new w _) h (by
    intro k p hp
    have hk : k < 3 := by have := (List.getElem?_eq_some_iff.1 hp).1; simpa using this
    have e : k = 0 ∨ k = 1 ∨ k = 2 := by omega
    rcases e with rfl | rfl | rfl <;> (simp at hp; subst hp; rfl))

set_option maxRecDepth 4096 in
set_option maxHeartbeats 1600000 in
theorem law07_ordered (B : Nat) (w : World) (hB : w.heap.size = B) :
    Calls Try.prog 17 #[] w fun e w' => e = .returned (.bool true) ∧ Below B w w' := by
  subst hB
  have ha0 : Sl EArc (fun _ => True) (w.alloc (.cells #[.int .i64 2, .int .i64 0, .int .i64 1, .int .i64 0] 27)) (some ⟨w.heap.size, 0, none⟩) [(2, 0), (1, 0)] :=
    sl_pairs [(2, 0), (1, 0)] (heap_alloc_new w _) (by decide) (by
      intro k p hp
      have hk : k < 2 := by have := (List.getElem?_eq_some_iff.1 hp).1; simpa using this
      have e : k = 0 ∨ k = 1 := by omega
      rcases e with rfl | rfl <;> (simp at hp; subst hp; exact ⟨rfl, rfl⟩))
  have Ha0 := Lib.hid ha0
  have Hb0 := Lib.hid (alloc_below w (.cells #[.int .i64 2, .int .i64 0, .int .i64 1, .int .i64 0] 27))
  clear ha0
  go_enter Try.func17, Try.ntmps17
  go_wp2_with fail
  refine (law07_arcs _ _ _ _ [(2, 0), (1, 0)] _ rfl ⟨rfl, Ha0.out⟩ (by decide)).mono ?_
  rintro e w2 ⟨v2, rfl, ho2, hb2⟩
  obtain ⟨a3, c3, rfl, hc3, hm3, hr3, _⟩ := ho2.shape 2 rfl
  have Hb02 := Lib.hid (Hb0.out.trans (hb2.mono Hb0.out.size))
  have Hr3 := Lib.hid hr3
  clear ho2 hb2 hr3
  go_wp2_with fail
  refine (graph_Order _ 3 3 _ 2 _ [(2, 0), (1, 0)] _ rfl Hr3.out (by decide) (by decide)).mono ?_
  rintro e w4 ⟨v4, rfl, ho4, hb4⟩
  rw [show Gr.topo 3 (Gr.T 3 [(2, 0), (1, 0)]) 3 [] = some [1, 2, 0] by decide] at ho4 ⊢
  obtain ⟨a5, c5, rfl, hc5, hm5, hr5, _⟩ := ho4.shape 3 rfl
  have hl5 : natI ((some [1, 2, 0] : Option (List Nat)).getD []) = [1, 2, 0] := by decide
  rw [hl5] at hr5
  have Hb04 := Lib.hid (Hb02.out.trans (hb4.mono Hb02.out.size))
  have Hr5 := Lib.hid (show RS EInt (w4.alloc (.cells #[.int .i64 1, .int .i64 2, .int .i64 0] 3)) a5 3 [1, 2, 0] from ⟨rfl, hr5.2.below (by decide) (alloc_below w4 _)⟩)
  have Hz := Lib.hid (sl_nums3 w4 1 2 0 (by decide))
  have Hb05 := Lib.hid (Hb04.out.alloc Hb04.out.size (.cells #[.int .i64 1, .int .i64 2, .int .i64 0] 3))
  clear ho4 hb4 hr5 hl5
  go_wp2_with fail
  refine (ref07_Same _ 3 _ [1, 2, 0] _ 3 _ [1, 2, 0] _ Hr5.out ⟨rfl, Hz.out⟩ (by decide) (by decide)).mono ?_
  rintro e w6 ⟨rfl, q, rfl⟩
  rw [show sameB [1, 2, 0] [1, 2, 0] = true by decide]
  go_wp2_with fail
  go_ret
  exact ⟨rfl, drewN_below Hb05.out q⟩
end Go.Proofs.Yticpbiccgnfecaa

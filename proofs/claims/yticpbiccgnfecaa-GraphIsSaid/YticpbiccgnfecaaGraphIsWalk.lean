
/-
  The walk of the law 'GraphIs'.
-/
import Derived.Test.YticpbiccgnfecaaGraC
import Derived.Test.YticpbiccgnfecaaGraH
namespace Go.Proofs.Yticpbiccgnfecaa
open Go.RowKit
set_option linter.unusedVariables false

set_option maxRecDepth 4096 in
set_option maxHeartbeats 1600000 in
theorem law_GraphIs (n : Int) (a1 : Option Addr) (c1 : Nat) (l : List (Int × Int)) (a2 : Option Addr) (c2 : Nat) (cy : List Int) (W : World) (hn : -9223372036854775808 ≤ n ∧ n ≤ 9223372036854775807) (hs1 : Sl EArc (fun _ => True) W a1 l) (hc1 : l.length ≤ c1) (hm1 : c1 ≤ maxLen) (hs2 : Sl EInt (fun _ => True) W a2 cy) (hc2 : cy.length ≤ c2) (hm2 : c2 ≤ maxLen) :
    Calls Try.prog 3 #[.int .i64 n, .slice a1 l.length c1, .slice a2 cy.length c2] W fun e W' => e = .returned (.bool true) ∧ Below W.heap.size W W' := by
  obtain ⟨n0, n1⟩ := hn
  obtain ⟨B, hB⟩ : ∃ B, B = W.heap.size := ⟨_, rfl⟩
  have hm2' := hm2
  unfold maxLen at hm1 hm2
  have ha0 : Sl EArc (fun _ => True) (W.alloc (.cells #[.int .i64 0, .int .i64 0] 27)) (some ⟨W.heap.size, 0, none⟩) [(0, 0)] :=
    sl_pairs [(0, 0)] (heap_alloc_new W _) (by decide) (by
      intro k p hp
      have hk : k = 0 := by have := (List.getElem?_eq_some_iff.1 hp).1; simp at this; exact this
      subst hk; simp at hp; subst hp; exact ⟨rfl, rfl⟩)
  have hb0 := alloc_below W (.cells #[.int .i64 0, .int .i64 0] 27)
  have Hb0 := Lib.hid hb0
  have Ha0 := Lib.hid ha0
  have HB := Lib.hid hB
  have Hs1 := Lib.hid hs1
  have Hs2 := Lib.hid hs2
  clear ha0 hb0 hB hs1 hs2
  go_enter Try.func3, Try.ntmps3
  go_wp2_with fail
  refine (law07_arcs _ _ _ _ [(0, 0)] _ rfl ⟨rfl, Ha0.out⟩ (by decide)).mono ?_
  rintro e w2 ⟨v2, rfl, ho2, hb2⟩
  obtain ⟨a3, c3, rfl, hc3, hm3, hr3, _⟩ := ho2.shape 1 rfl
  have hb02 : Below W.heap.size W w2 := Hb0.out.trans (hb2.mono Hb0.out.size)
  have hb3 := alloc_below w2 (.cells #[.int .i64 0] 3)
  have hr3' : RS EArc (w2.alloc (.cells #[.int .i64 0] 3)) a3 1 [(0, 0)] := ⟨rfl, hr3.2.below (by decide) hb3⟩
  have hz3 : Sl EInt (fun _ => True) (w2.alloc (.cells #[.int .i64 0] 3)) (some ⟨w2.heap.size, 0, none⟩) [0] :=
    sl_nums [0] (heap_alloc_new w2 _) (by decide) (by
      intro k p hp
      have hk : k = 0 := by have := (List.getElem?_eq_some_iff.1 hp).1; simp at this; exact this
      subst hk; simp at hp; subst hp; rfl)
  have hb03 : Below W.heap.size W (w2.alloc (.cells #[.int .i64 0] 3)) := hb02.trans (hb3.mono hb02.size)
  have Hr3 := Lib.hid hr3'
  have Hz3 := Lib.hid hz3
  have Hb03 := Lib.hid hb03
  clear ho2 hb2 hr3 hb02 hb3 hr3' hz3 hb03
  go_wp2_with fail
  refine (graph_Is _ 1 1 _ 1 _ [(0, 0)] _ 1 _ [0] _ rfl Hr3.out ⟨rfl, Hz3.out⟩ (by decide) (by decide) (by decide) (by decide) (by decide)).mono ?_
  rintro e w4 ⟨rfl, hb4⟩
  rw [show decide (Gr.isC 1 (Gr.T 1 [(0, 0)]) [0]) = true by decide]
  have hb04 : Below W.heap.size W w4 := Hb03.out.trans (hb4.mono Hb03.out.size)
  have Hb04 := Lib.hid hb04
  clear hb4 hb04
  by_cases k0 : 60 < n
  · go_wp2_with fail
    go_ret
    exact ⟨rfl, Hb04.out⟩
  by_cases k1 : (300 : Int) < (l.length : Int)
  · go_wp2_with fail
    go_ret
    exact ⟨rfl, Hb04.out⟩
  by_cases k2 : (60 : Int) < (cy.length : Int)
  · go_wp2_with fail
    go_ret
    exact ⟨rfl, Hb04.out⟩
  obtain ⟨N, hN⟩ : ∃ N : Nat, N = (max n 0).toNat := ⟨_, rfl⟩
  have hN2 : min (max n 0) 400 = (N : Int) := by omega
  have hN3 : N ≤ 60 := by omega
  have HN := Lib.hid hN
  have HN2 := Lib.hid hN2
  clear hN hN2
  go_wp2_with fail
  refine (law07_arcs _ _ _ _ l _ rfl ⟨rfl, Hs1.out.below (by decide) Hb04.out⟩ (by omega)).mono ?_
  rintro e w5 ⟨v5, rfl, ho5, hb5⟩
  obtain ⟨a5, c5, rfl, hc5, hm5, hr5, _⟩ := ho5.shape l.length rfl
  have hb05 : Below W.heap.size W w5 := Hb04.out.trans (hb5.mono Hb04.out.size)
  have Hb05 := Lib.hid hb05
  have Hr5 := Lib.hid hr5
  clear ho5 hb5 hb05 hr5
  go_wp2_with fail
  refine (graph_Is _ n N _ _ _ l _ _ _ cy _ rfl Hr5.out ⟨rfl, Hs2.out.below (by decide) Hb05.out⟩ HN2.out (by omega) (by omega) hc2 hm2').mono ?_
  rintro e w6 ⟨rfl, hb6⟩
  have hb06 : Below W.heap.size W w6 := Hb05.out.trans (hb6.mono Hb05.out.size)
  have Hb06 := Lib.hid hb06
  obtain ⟨res, hres⟩ : ∃ x, x = decide (Gr.isC N (Gr.T N l) cy) := ⟨_, rfl⟩
  rw [← hres]
  have Hres := Lib.hid hres
  clear hb6 hb06 hres
  have fin : ∀ (w7 : World), Below W.heap.size W w7 → ∀ (rows cp : Nat → Nat) (g : Nat), Mtx 33 4 w7 g N N N rows cp (Gr.T N l) → Calls Try.prog 13 #[.slice (some ⟨g, 0, none⟩) N N, .slice a2 cy.length c2] w7 fun e w' => e = .returned (.bool res) ∧ ∃ q, w' = w7.drewN q := by
    intro w7 hb7 rows cp g hM
    rw [Hres.out]
    exact ref07_Is g N rows cp (Gr.T N l) a2 cy.length c2 cy w7 hM (Gr.T_bd N l) ⟨rfl, Hs2.out.below (by decide) hb7⟩ (by omega) (by omega)
  by_cases k3 : n < 0
  · have hN0 : N = 0 := by have := HN.out; omega
    subst hN0
    go_wp2_with fail
    refine (ref07_Table _ 0 _ _ _ l _ rfl ⟨rfl, Hs1.out.below (by decide) Hb06.out⟩ (by omega) (by omega)).mono ?_
    rintro e w7 ⟨rfl, ⟨rows, cp, hM⟩, hb7⟩
    have hb07 : Below W.heap.size W w7 := Hb06.out.trans (hb7.mono Hb06.out.size)
    have hf := fin w7 hb07 rows cp _ hM
    have Hf := Lib.hid hf
    have Hb07 := Lib.hid hb07
    clear hM hb7 hf hb07 fin
    go_wp2_with fail
    refine (Hf.out).mono ?_
    rintro e w8 ⟨rfl, q, rfl⟩
    go_wp2_with fail
    go_ret
    refine ⟨by cases res <;> rfl, Hb07.out.trans ⟨rfl, rfl, rfl, by rw [drewN_heap]; exact Nat.le_refl _, fun k _ => by rw [drewN_heap]⟩⟩
  · have hnN : n = (N : Int) := by have := HN.out; omega
    subst hnN
    go_wp2_with fail
    refine (ref07_Table _ N _ _ _ l _ rfl ⟨rfl, Hs1.out.below (by decide) Hb06.out⟩ (by omega) (by omega)).mono ?_
    rintro e w7 ⟨rfl, ⟨rows, cp, hM⟩, hb7⟩
    have hb07 : Below W.heap.size W w7 := Hb06.out.trans (hb7.mono Hb06.out.size)
    have hf := fin w7 hb07 rows cp _ hM
    have Hf := Lib.hid hf
    have Hb07 := Lib.hid hb07
    clear hM hb7 hf hb07 fin
    go_wp2_with fail
    refine (Hf.out).mono ?_
    rintro e w8 ⟨rfl, q, rfl⟩
    go_wp2_with fail
    go_ret
    refine ⟨by cases res <;> rfl, Hb07.out.trans ⟨rfl, rfl, rfl, by rw [drewN_heap]; exact Nat.le_refl _, fun k _ => by rw [drewN_heap]⟩⟩
end Go.Proofs.Yticpbiccgnfecaa

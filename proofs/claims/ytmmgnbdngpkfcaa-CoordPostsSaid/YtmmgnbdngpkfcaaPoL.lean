
/-
  A unit of time goes by at a post.
-/
import Derived.Test.YtmmgnbdngpkfcaaPoK
namespace Go.Proofs.Ytmmgnbdngpkfcaa
open Go.RowKit
set_option linter.unusedVariables false

theorem po_Tick0 {g lm : Nat} {ov : Value} {P : Po} (w : World) (h : PoA w g lm ov P) (ho : P.opn = false) :
    Calls Try.prog 51 #[.pointer (some ⟨g, 0, none⟩)] w fun e w' => e = .returned (.tuple #[]) ∧ w = w' := by
  have c4 : w.cell? ⟨g, 4, none⟩ = some (.bool P.opn) := h.cell 4 rfl
  rw [ho] at c4
  clear h ho
  go_enter Try.func51, Try.ntmps51
  go_wp2_with fail
  refine bodyPost_ret (v := .tuple #[]) (by simp [results, Try.results51, go_sem]) rfl ?_
  exact ⟨rfl, rfl⟩
set_option maxRecDepth 4096 in
theorem po_age {g lm : Nat} {ov : Value} {P : Po} {w : World} (h : PoA w g lm ov P) (ha : P.age ≤ 90) : PoA (w.setCell ⟨g, 16, none⟩ (.int .i64 (P.age + 1))) g lm ov { P with age := P.age + 1 } ∧ Only (· = g) w (w.setCell ⟨g, 16, none⟩ (.int .i64 (P.age + 1))) := by
  have ho : Only (· = g) w (w.setCell ⟨g, 16, none⟩ (.int .i64 (P.age + 1))) := (Only.refl (· = g) w).setCell (p := ⟨g, 16, none⟩) (.inl rfl) _
  obtain ⟨r1, r2, r3, r4, r5, r6, r7, r8⟩ := h.right
  exact ⟨h.set ho (heap_set h.row 16 (.int .i64 (P.age + 1))) rfl ⟨r1, r2, r3, r4, r5, r6, r7, ⟨by show 0 ≤ P.age + 1; omega, by show P.age + 1 ≤ 100; omega⟩⟩ h.ov1, ho⟩
set_option maxRecDepth 4096 in
set_option maxHeartbeats 3200000 in
theorem po_Tick1 {g lm : Nat} {ov : Value} {P : Po} (w : World) (h : PoA w g lm ov P) (ho : P.opn = true) (ha : P.age ≤ 90) (hp : P.age + 1 ≤ P.pat) :
    Calls Try.prog 51 #[.pointer (some ⟨g, 0, none⟩)] w fun e w' => e = .returned (.tuple #[]) ∧ PoA w' g lm ov { P with age := P.age + 1 } ∧ Only (· = g) w w' := by
  have hr := h.right.age
  have c4 : w.cell? ⟨g, 4, none⟩ = some (.bool P.opn) := h.cell 4 rfl
  rw [ho] at c4
  have c16 : w.cell? ⟨g, 16, none⟩ = some (.int .i64 P.age) := h.cell 16 rfl
  have f16 := h.fr 16
  obtain ⟨hP, hO⟩ := po_age h ha
  obtain ⟨w1, hw1⟩ : ∃ x, x = w.setCell ⟨g, 16, none⟩ (.int .i64 (P.age + 1)) := ⟨_, rfl⟩
  rw [← hw1] at hP hO
  have d16 : w1.cell? ⟨g, 16, none⟩ = some (.int .i64 (P.age + 1)) := hP.cell 16 rfl
  have d2 : w1.cell? ⟨g, 2, none⟩ = some (.int .i64 P.pat) := hP.cell 2 rfl
  have hlt : ¬ P.pat < P.age + 1 := by omega
  obtain ⟨x, hx⟩ : ∃ x, x = P.age := ⟨_, rfl⟩
  obtain ⟨y, hy⟩ : ∃ y, y = P.pat := ⟨_, rfl⟩
  rw [← hx] at hr ha hw1 c16 d16 hlt
  rw [← hy] at d2 hlt
  have hlt2 : decide (y < x + 1) = false := by simpa using hlt
  have HP := Lib.hid hP
  have HO := Lib.hid hO
  have Hw1 := Lib.hid hw1.symm
  clear h ho hp hP hO hw1 hx hy
  go_enter Try.func51, Try.ntmps51
  go_upto_region 2 with fail
  rw [Hw1.out]
  clear c16 f16 Hw1
  go_quiet (fail)
  go_wp2_with fail
  refine bodyPost_end (v := .tuple #[]) (by simp [results, Try.results51, go_sem]) rfl ?_
  exact ⟨rfl, HP.out.heapEq rfl, ⟨HO.out.os, HO.out.tape, HO.out.output, HO.out.size, HO.out.block⟩⟩
set_option maxRecDepth 4096 in
set_option maxHeartbeats 3200000 in
theorem po_Tick2 {g lm : Nat} {P : Po} (w : World) (h : PoA w g lm (.slice none 0 0) P) (ho : P.opn = true) (ha : P.age ≤ 90) (hp : P.pat < P.age + 1) :
    Calls Try.prog 51 #[.pointer (some ⟨g, 0, none⟩)] w fun e w' => ∃ ov, e = .returned (.tuple #[]) ∧ PoA w' g lm ov { P with age := 0, to_ := P.to_ % P.nodes + 1 } ∧ Own EPm 89 w.heap.size w' ov [⟨P.me, P.to_ % P.nodes + 1, P.sh, P.id⟩] ∧ Only (· = g) w w' := by
  obtain ⟨r1, r2, r3, r4, r5, r6, r7, r8⟩ := h.right
  have c4 : w.cell? ⟨g, 4, none⟩ = some (.bool P.opn) := h.cell 4 rfl
  rw [ho] at c4
  have c16 : w.cell? ⟨g, 16, none⟩ = some (.int .i64 P.age) := h.cell 16 rfl
  have f16 := h.fr 16
  obtain ⟨hP, hO⟩ := po_age h ha
  obtain ⟨w1, hw1⟩ : ∃ x, x = w.setCell ⟨g, 16, none⟩ (.int .i64 (P.age + 1)) := ⟨_, rfl⟩
  rw [← hw1] at hP hO
  have d16 : w1.cell? ⟨g, 16, none⟩ = some (.int .i64 (P.age + 1)) := hP.cell 16 rfl
  have d2 : w1.cell? ⟨g, 2, none⟩ = some (.int .i64 P.pat) := hP.cell 2 rfl
  have d1 : w1.cell? ⟨g, 1, none⟩ = some (.int .i64 P.nodes) := hP.cell 1 rfl
  have d15 : w1.cell? ⟨g, 15, none⟩ = some (.int .i64 P.to_) := hP.cell 15 rfl
  have f15 := hP.fr 15
  have hn0 : 0 ≤ P.to_ % P.nodes := Int.emod_nonneg _ (by omega)
  have hn1 : P.to_ % P.nodes < P.nodes := Int.emod_lt_of_pos _ (by omega)
  have hmod : P.to_.tmod P.nodes = P.to_ % P.nodes := Int.tmod_eq_emod_of_nonneg r7.1
  obtain ⟨w2, hw2⟩ : ∃ x, x = w1.setCell ⟨g, 15, none⟩ (.int .i64 (P.to_ % P.nodes + 1)) := ⟨_, rfl⟩
  have hO2 : Only (· = g) w1 w2 := by rw [hw2]; exact (Only.refl (· = g) w1).setCell (p := ⟨g, 15, none⟩) (.inl rfl) _
  have hg2 : w2.heap[g]? = some (.cells (poRow { P with age := P.age + 1, to_ := P.to_ % P.nodes + 1 } lm (.slice none 0 0)) 153 (0, 0)) := by
    rw [hw2]; exact heap_set hP.row 15 (.int .i64 (P.to_ % P.nodes + 1))
  have hP2 : PoA w2 g lm (.slice none 0 0) { P with age := P.age + 1, to_ := P.to_ % P.nodes + 1 } := hP.set hO2 hg2 rfl ⟨r1, r2, r3, r4, r5, r6, ⟨by show 0 ≤ P.to_ % P.nodes + 1; omega, by show P.to_ % P.nodes + 1 ≤ 100; omega⟩, ⟨by show 0 ≤ P.age + 1; omega, by show P.age + 1 ≤ 100; omega⟩⟩ rfl
  have hO02 : Only (· = g) w w2 := hO.trans hO2 fun _ _ h => h
  have HP2 := Lib.hid hP2
  have HO2 := Lib.hid hO02
  obtain ⟨x, hx⟩ : ∃ x, x = P.age := ⟨_, rfl⟩
  obtain ⟨y, hy⟩ : ∃ y, y = P.pat := ⟨_, rfl⟩
  obtain ⟨t, ht⟩ : ∃ t, t = P.to_ := ⟨_, rfl⟩
  obtain ⟨n, hn⟩ : ∃ n, n = P.nodes := ⟨_, rfl⟩
  rw [← hx] at r8 ha hw1 c16 d16 hp
  rw [← hy] at d2 hp
  rw [← ht, ← hn] at hn0 hn1 hmod hw2
  rw [← ht] at d15 r7
  rw [← hn] at d1 r1
  have Hw1 := Lib.hid hw1.symm
  have Hw2 := Lib.hid hw2.symm
  have Hx := Lib.hid hx
  have Ht := Lib.hid ht
  have Hn := Lib.hid hn
  clear h ho hP hO hw1 hx hy ht hn hw2 hg2 hP2 hO02 hO2
  go_enter Try.func51, Try.ntmps51
  go_upto_region 2 with fail
  rw [Hw1.out]
  clear c16 f16 Hw1 c4
  go_region
  go_wp2_with fail
  go_region
  rw [Hw2.out]
  clear d16 d2 d15 d1 f15 Hw2
  go_wp2_with fail
  refine (po_send w2.drew.drew (HP2.out.heapEq rfl)).mono ?_
  rintro e w5 ⟨ov, rfl, hP5, hO5, ho5⟩
  have HP5 := Lib.hid hP5
  have HO5 := Lib.hid hO5
  have Ho5 := Lib.hid ho5
  clear hP5 hO5 ho5
  go_wp2_with fail
  refine bodyPost_end (v := .tuple #[]) (by simp [results, Try.results51, go_sem]) rfl ?_
  refine ⟨ov, rfl, ?_, ?_, HO2.out.trans ⟨Ho5.out.os, Ho5.out.tape, Ho5.out.output, Ho5.out.size, Ho5.out.block⟩ fun _ _ h => h⟩
  · exact HP5.out
  · exact HO5.out.base HO2.out.size
end Go.Proofs.Ytmmgnbdngpkfcaa

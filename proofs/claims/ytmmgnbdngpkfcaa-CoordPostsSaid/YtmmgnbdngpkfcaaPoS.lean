
/-
  A post sends its question.
-/
import Derived.Test.YtmmgnbdngpkfcaaPoB
import Derived.Test.YtmmgnbdngpkfcaaRegZ
namespace Go.Proofs.Ytmmgnbdngpkfcaa
open Go.RowKit
set_option linter.unusedVariables false
set_option linter.unusedSimpArgs false

theorem cell_set_off {w : World} {g a b : Nat} {u v : Value} (hne : a ≠ b) (hc : w.cell? ⟨g, b, none⟩ = some v) : (w.setCell ⟨g, a, none⟩ u).cell? ⟨g, b, none⟩ = some v := by
  rw [← hc]
  simp only [World.cell?, World.setCell]
  rw [Array.getElem?_modify, if_pos rfl]
  cases hh : w.heap[g]? with
  | none => rfl
  | some o =>
    cases o with
    | cells cs t fr => simp [hne]
    | _ => rfl

theorem own_pm {te : TypeId} {base : Nat} {w w' : World} {v : Value} {l : List Pm} {S : Nat → Prop} (h : Own EPm te base w v l) (ho : Only S w w') (hS : ∀ k, S k → k < base) : Own EPm te base w' v l := by
  rcases h with h | ⟨g, cap, cur, hv, hg, hh, h1, h2, h3, h4⟩
  · exact .inl h
  · refine .inr ⟨g, cap, cur, hv, hg, by rw [ho.block g (Array.getElem?_eq_some_iff.1 hh).1 (fun hs => by have := hS g hs; omega)]; exact hh, h1, h2, h3, fun k y hk => ?_⟩
    obtain ⟨cs, hr, hc⟩ := h4 k y hk
    exact ⟨cs, hr, hc⟩
set_option maxRecDepth 4096 in
set_option maxHeartbeats 3200000 in
theorem po_send {g lm : Nat} {P : Po} (w : World) (h : PoA w g lm (.slice none 0 0) P) :
    Calls Try.prog 86 #[.pointer (some ⟨g, 0, none⟩)] w fun x w' => ∃ ov, x = .returned (.tuple #[]) ∧ PoA w' g lm ov { P with age := 0 } ∧ Own EPm 89 w.heap.size w' ov [⟨P.me, P.to_, P.sh, P.id⟩] ∧ Only (· = g) w w' := by
  obtain ⟨h1, h2, h3, h4, h5, h6, h7, h8⟩ := h.right
  have hR : ({ P with age := 0 } : Po).Right := ⟨h1, h2, h3, h4, h5, h6, h7, ⟨Int.le_refl 0, by show (0 : Int) ≤ 100; decide⟩⟩
  have h0 := h.row
  have f0 := h.fr
  have H := Lib.hid h
  clear h
  obtain ⟨pm, pn, pp, pi, po, ps, pk, pt, pa, pl⟩ := P
  dsimp only at h1 h2 h3 h4 h5 h6 h7 h8 hR
  have HR := Lib.hid hR
  have hgz := (Array.getElem?_eq_some_iff.1 h0).1
  have hlm : lm < w.heap.size := H.out.map.lt
  have hne := H.out.ne
  obtain ⟨w1, hw1⟩ : ∃ x, x = w.setCell ⟨g, 16, none⟩ (.int .i64 0) := ⟨_, rfl⟩
  have o1 : Only (· = g) w w1 := by rw [hw1]; exact (Only.refl (· = g) w).setCell (p := ⟨g, 16, none⟩) (.inl rfl) _
  have hh1 : w1.heap[g]? = some (.cells (poRow ⟨pm, pn, pp, pi, po, ps, pk, pt, 0, pl⟩ lm (.slice none 0 0)) 153 (0, 0)) := by
    rw [hw1]; exact heap_set h0 16 (.int .i64 0)
  have hz1 : w1.heap.size = w.heap.size := by rw [hw1]; simp
  have y0 : w1.cell? ⟨g, 0, none⟩ = some (.int .i64 pm) := by simp [World.cell?, hh1, poRow]
  have y3 : w1.cell? ⟨g, 3, none⟩ = some (.int .i64 pi) := by simp [World.cell?, hh1, poRow]
  have y5 : w1.cell? ⟨g, 5, none⟩ = some (.int .i64 ps) := by simp [World.cell?, hh1, poRow]
  have y6 : w1.cell? ⟨g, 6, none⟩ = some (.int .i64 pk) := by simp [World.cell?, hh1, poRow]
  have y7 : w1.cell? ⟨g, 7, none⟩ = some (.int .i64 0) := by simp [World.cell?, hh1, poRow]
  have y8 : w1.cell? ⟨g, 8, none⟩ = some (.int .i64 0) := by simp [World.cell?, hh1, poRow]
  have y9 : w1.cell? ⟨g, 9, none⟩ = some (.int .i64 0) := by simp [World.cell?, hh1, poRow]
  have y10 : w1.cell? ⟨g, 10, none⟩ = some (.slice none 0 0) := by simp [World.cell?, hh1, poRow]
  have y11 : w1.cell? ⟨g, 11, none⟩ = some (.slice none 0 0) := by simp [World.cell?, hh1, poRow]
  have y12 : w1.cell? ⟨g, 12, none⟩ = some (.int .i64 0) := by simp [World.cell?, hh1, poRow]
  have y13 : w1.cell? ⟨g, 13, none⟩ = some (.bool false) := by simp [World.cell?, hh1, poRow]
  have y14 : w1.cell? ⟨g, 14, none⟩ = some (.int .i64 0) := by simp [World.cell?, hh1, poRow]
  have y15 : w1.cell? ⟨g, 15, none⟩ = some (.int .i64 pt) := by simp [World.cell?, hh1, poRow]
  have y18 : w1.cell? ⟨g, 18, none⟩ = some (.slice none 0 0) := by simp [World.cell?, hh1, poRow]
  have z7 : w.cell? ⟨g, 16, none⟩ = some (.int .i64 pa) := by simp [World.cell?, h0, poRow]
  have f7 := f0 16
  have Hw1 := Lib.hid hw1.symm
  have Ho1 := Lib.hid o1
  have Hh1 := Lib.hid hh1
  have Hz1 := Lib.hid hz1
  have Hlm := Lib.hid hlm
  have Hgz := Lib.hid hgz
  clear o1 hh1 hw1 h0 f0 hz1 hR
  go_enter Try.func86, Try.ntmps86
  go_upto_region 1 with fail
  rw [Hw1.out]
  clear z7 f7 Hw1
  have hcall : ∀ u : World, Calls Try.prog 126 #[.agg #[.int .i64 pk, .int .i64 0, .int .i64 0, .int .i64 0, .slice none 0 0, .slice none 0 0, .int .i64 0, .bool false, .int .i64 0]] u fun e w' => ∃ a n c, e = .returned (.slice a n c) ∧ Below u.heap.size u w' := fun u => co_cBytes pk u (by omega)
  have Hcall := Lib.hid hcall
  have hitem : ∀ (w10 : World) (a : Option Addr) (n c : Nat), Own EPm 89 w.heap.size (w10.alloc (.cells #[.int .i64 6, .int .i64 pm, .int .i64 pt, .int .i64 ps, .int .i64 0, .int .i64 0, .int .i64 0, .int .i64 0, .int .i64 pi, .int .i64 0, .slice none 0 0, .slice a n c] 89)) (.slice none 0 0) [] ∧ Sl EPm (fun b => some b ≠ (Value.slice none 0 0).ownBlock) (w10.alloc (.cells #[.int .i64 6, .int .i64 pm, .int .i64 pt, .int .i64 ps, .int .i64 0, .int .i64 0, .int .i64 0, .int .i64 0, .int .i64 pi, .int .i64 0, .slice none 0 0, .slice a n c] 89)) (some ⟨w10.heap.size, 0, none⟩) [⟨pm, pt, ps, pi⟩] := fun w10 a n c =>
    ⟨Own.nil _ _ _ _, sl_one (heap_alloc_new w10 _) ⟨.slice a n c, rfl, rfl⟩ (by simp [Value.ownBlock])⟩
  have Hitem := Lib.hid hitem
  have hk1 : ∀ (w10 : World) (k : Nat) (v : Value), Below w1.drew.heap.size w1.drew w10 → w1.cell? ⟨g, k, none⟩ = some v → w10.cell? ⟨g, k, none⟩ = some v := fun w10 k v hb h => cell_thru (w := w1.drew) h hb
  have hk2 : ∀ (w10 : World) (k : Nat) (v : Value) (x : Obj), Below w1.drew.heap.size w1.drew w10 → w1.cell? ⟨g, k, none⟩ = some v → (w10.alloc x).cell? ⟨g, k, none⟩ = some v := fun w10 k v x hb h => cell_thru (hk1 w10 k v hb h) ((Below.refl _ _).alloc (Nat.le_refl _) _)
  have hk3 : ∀ (w10 w11 : World) (k : Nat) (v : Value) (x : Obj), Below w1.drew.heap.size w1.drew w10 → Below w.heap.size (w10.alloc x) w11 → w1.cell? ⟨g, k, none⟩ = some v → w11.cell? ⟨g, k, none⟩ = some v := fun w10 w11 k v x hb hb11 h => (hb11.cell (p := ⟨g, k, none⟩) Hgz.out).trans (hk2 w10 k v x hb h)
  have hk4 : ∀ (w10 w11 : World) (k : Nat) (v : Value) (x : Obj) (u : Value), 18 ≠ k → Below w1.drew.heap.size w1.drew w10 → Below w.heap.size (w10.alloc x) w11 → w1.cell? ⟨g, k, none⟩ = some v → (w11.setCell ⟨g, 18, none⟩ u).cell? ⟨g, k, none⟩ = some v := fun w10 w11 k v x u hne hb hb11 h => cell_set_off hne (hk3 w10 w11 k v x hb hb11 h)
  have Hk1 := Lib.hid hk1
  have Hk2 := Lib.hid hk2
  have Hk3 := Lib.hid hk3
  have Hk4 := Lib.hid hk4
  clear hcall hitem hk1 hk2 hk3 hk4
  refine AnyZ.start 33 (fun W => W.cell? ⟨g, 0, none⟩ = some (.int .i64 pm) ∧ W.cell? ⟨g, 3, none⟩ = some (.int .i64 pi) ∧ W.cell? ⟨g, 5, none⟩ = some (.int .i64 ps) ∧ W.cell? ⟨g, 6, none⟩ = some (.int .i64 pk) ∧ W.cell? ⟨g, 7, none⟩ = some (.int .i64 0) ∧ W.cell? ⟨g, 8, none⟩ = some (.int .i64 0) ∧ W.cell? ⟨g, 9, none⟩ = some (.int .i64 0) ∧ W.cell? ⟨g, 10, none⟩ = some (.slice none 0 0) ∧ W.cell? ⟨g, 11, none⟩ = some (.slice none 0 0) ∧ W.cell? ⟨g, 12, none⟩ = some (.int .i64 0) ∧ W.cell? ⟨g, 13, none⟩ = some (.bool false) ∧ W.cell? ⟨g, 14, none⟩ = some (.int .i64 0) ∧ W.cell? ⟨g, 15, none⟩ = some (.int .i64 pt) ∧ W.cell? ⟨g, 18, none⟩ = some (.slice none 0 0)) (by kernel_rfl) ⟨y0, y3, y5, y6, y7, y8, y9, y10, y11, y12, y13, y14, y15, y18⟩ fun hHeld => ?_
  refine AnyZ.take 0 _ (v := ?_) rfl (by kernel_rfl) (by kernel_rfl) (by kernel_rfl) (by kernel_rfl) (by kernel_rfl) (fun _ _ _ h => h) (Or.inl ⟨by rfl, ?_⟩) hHeld ?_
  rotate_left
  · intro w hSw; obtain ⟨q0, q3, q5, q6, q7, q8, q9, q10, q11, q12, q13, q14, q15, q18⟩ := hSw; go_simp; with_reducible rfl
  try simp only [Act.put, List.setIfInBounds_toArray, List.set_cons_zero, List.set_cons_succ]
  refine AnyZ.take 1 _ (v := ?_) rfl (by kernel_rfl) (by kernel_rfl) (by kernel_rfl) (by kernel_rfl) (by kernel_rfl) (fun _ _ _ h => h) (Or.inl ⟨by rfl, ?_⟩) hHeld ?_
  rotate_left
  · intro w hSw; obtain ⟨q0, q3, q5, q6, q7, q8, q9, q10, q11, q12, q13, q14, q15, q18⟩ := hSw; go_simp; with_reducible rfl
  try simp only [Act.put, List.setIfInBounds_toArray, List.set_cons_zero, List.set_cons_succ]
  refine AnyZ.take 2 _ (v := ?_) rfl (by kernel_rfl) (by kernel_rfl) (by kernel_rfl) (by kernel_rfl) (by kernel_rfl) (fun _ _ _ h => h) (Or.inl ⟨by rfl, ?_⟩) hHeld ?_
  rotate_left
  · intro w hSw; obtain ⟨q0, q3, q5, q6, q7, q8, q9, q10, q11, q12, q13, q14, q15, q18⟩ := hSw; go_simp; with_reducible rfl
  try simp only [Act.put, List.setIfInBounds_toArray, List.set_cons_zero, List.set_cons_succ]
  refine AnyZ.take 3 _ (v := ?_) rfl (by kernel_rfl) (by kernel_rfl) (by kernel_rfl) (by kernel_rfl) (by kernel_rfl) (fun _ _ _ h => h) (Or.inl ⟨by rfl, ?_⟩) hHeld ?_
  rotate_left
  · intro w hSw; obtain ⟨q0, q3, q5, q6, q7, q8, q9, q10, q11, q12, q13, q14, q15, q18⟩ := hSw; go_simp; with_reducible rfl
  try simp only [Act.put, List.setIfInBounds_toArray, List.set_cons_zero, List.set_cons_succ]
  refine AnyZ.take 4 _ (v := ?_) rfl (by kernel_rfl) (by kernel_rfl) (by kernel_rfl) (by kernel_rfl) (by kernel_rfl) (fun _ _ _ h => h) (Or.inl ⟨by rfl, ?_⟩) hHeld ?_
  rotate_left
  · intro w hSw; obtain ⟨q0, q3, q5, q6, q7, q8, q9, q10, q11, q12, q13, q14, q15, q18⟩ := hSw; go_simp; with_reducible rfl
  try simp only [Act.put, List.setIfInBounds_toArray, List.set_cons_zero, List.set_cons_succ]
  refine AnyZ.take 5 _ (v := ?_) rfl (by kernel_rfl) (by kernel_rfl) (by kernel_rfl) (by kernel_rfl) (by kernel_rfl) (fun _ _ _ h => h) (Or.inl ⟨by rfl, ?_⟩) hHeld ?_
  rotate_left
  · intro w hSw; obtain ⟨q0, q3, q5, q6, q7, q8, q9, q10, q11, q12, q13, q14, q15, q18⟩ := hSw; go_simp; with_reducible rfl
  try simp only [Act.put, List.setIfInBounds_toArray, List.set_cons_zero, List.set_cons_succ]
  refine AnyZ.take 6 _ (v := ?_) rfl (by kernel_rfl) (by kernel_rfl) (by kernel_rfl) (by kernel_rfl) (by kernel_rfl) (fun _ _ _ h => h) (Or.inl ⟨by rfl, ?_⟩) hHeld ?_
  rotate_left
  · intro w hSw; obtain ⟨q0, q3, q5, q6, q7, q8, q9, q10, q11, q12, q13, q14, q15, q18⟩ := hSw; go_simp; with_reducible rfl
  try simp only [Act.put, List.setIfInBounds_toArray, List.set_cons_zero, List.set_cons_succ]
  refine AnyZ.take 7 _ (v := ?_) rfl (by kernel_rfl) (by kernel_rfl) (by kernel_rfl) (by kernel_rfl) (by kernel_rfl) (fun _ _ _ h => h) (Or.inl ⟨by rfl, ?_⟩) hHeld ?_
  rotate_left
  · intro w hSw; obtain ⟨q0, q3, q5, q6, q7, q8, q9, q10, q11, q12, q13, q14, q15, q18⟩ := hSw; go_simp; with_reducible rfl
  try simp only [Act.put, List.setIfInBounds_toArray, List.set_cons_zero, List.set_cons_succ]
  refine AnyZ.take 8 _ (v := ?_) rfl (by kernel_rfl) (by kernel_rfl) (by kernel_rfl) (by kernel_rfl) (by kernel_rfl) (fun _ _ _ h => h) (Or.inl ⟨by rfl, ?_⟩) hHeld ?_
  rotate_left
  · intro w hSw; obtain ⟨q0, q3, q5, q6, q7, q8, q9, q10, q11, q12, q13, q14, q15, q18⟩ := hSw; go_simp; with_reducible rfl
  try simp only [Act.put, List.setIfInBounds_toArray, List.set_cons_zero, List.set_cons_succ]
  refine AnyZ.take 9 _ (v := ?_) rfl (by kernel_rfl) (by kernel_rfl) (by kernel_rfl) (by kernel_rfl) (by kernel_rfl) (fun _ _ _ h => h) (Or.inl ⟨by rfl, ?_⟩) hHeld ?_
  rotate_left
  · intro w hSw; obtain ⟨q0, q3, q5, q6, q7, q8, q9, q10, q11, q12, q13, q14, q15, q18⟩ := hSw; go_simp; with_reducible rfl
  try simp only [Act.put, List.setIfInBounds_toArray, List.set_cons_zero, List.set_cons_succ]
  refine AnyZ.take 10 _ (v := ?_) rfl (by kernel_rfl) (by kernel_rfl) (by kernel_rfl) (by kernel_rfl) (by kernel_rfl) (fun _ _ _ h => h) (Or.inl ⟨by rfl, ?_⟩) hHeld ?_
  rotate_left
  · intro w hSw; obtain ⟨q0, q3, q5, q6, q7, q8, q9, q10, q11, q12, q13, q14, q15, q18⟩ := hSw; go_simp; with_reducible rfl
  try simp only [Act.put, List.setIfInBounds_toArray, List.set_cons_zero, List.set_cons_succ]
  refine AnyZ.take 11 _ (v := ?_) rfl (by kernel_rfl) (by kernel_rfl) (by kernel_rfl) (by kernel_rfl) (by kernel_rfl) (fun _ _ _ h => h) (Or.inl ⟨by rfl, ?_⟩) hHeld ?_
  rotate_left
  · intro w hSw; obtain ⟨q0, q3, q5, q6, q7, q8, q9, q10, q11, q12, q13, q14, q15, q18⟩ := hSw; go_simp; with_reducible rfl
  try simp only [Act.put, List.setIfInBounds_toArray, List.set_cons_zero, List.set_cons_succ]
  refine AnyZ.take 12 _ (v := ?_) rfl (by kernel_rfl) (by kernel_rfl) (by kernel_rfl) (by kernel_rfl) (by kernel_rfl) (fun _ _ _ h => h) (Or.inl ⟨by rfl, ?_⟩) hHeld ?_
  rotate_left
  · intro w hSw; obtain ⟨q0, q3, q5, q6, q7, q8, q9, q10, q11, q12, q13, q14, q15, q18⟩ := hSw; go_simp; with_reducible rfl
  try simp only [Act.put, List.setIfInBounds_toArray, List.set_cons_zero, List.set_cons_succ]
  refine AnyZ.take 13 _ (v := ?_) rfl (by kernel_rfl) (by kernel_rfl) (by kernel_rfl) (by kernel_rfl) (by kernel_rfl) (fun _ _ _ h => h) (Or.inl ⟨by rfl, ?_⟩) hHeld ?_
  rotate_left
  · intro w hSw; obtain ⟨q0, q3, q5, q6, q7, q8, q9, q10, q11, q12, q13, q14, q15, q18⟩ := hSw; go_simp; with_reducible rfl
  try simp only [Act.put, List.setIfInBounds_toArray, List.set_cons_zero, List.set_cons_succ]
  refine AnyZ.take 14 _ (v := ?_) rfl (by kernel_rfl) (by kernel_rfl) (by kernel_rfl) (by kernel_rfl) (by kernel_rfl) (fun _ _ _ h => h) (Or.inl ⟨by rfl, ?_⟩) hHeld ?_
  rotate_left
  · intro w hSw; obtain ⟨q0, q3, q5, q6, q7, q8, q9, q10, q11, q12, q13, q14, q15, q18⟩ := hSw; go_simp; with_reducible rfl
  try simp only [Act.put, List.setIfInBounds_toArray, List.set_cons_zero, List.set_cons_succ]
  refine AnyZ.take 15 _ (v := ?_) rfl (by kernel_rfl) (by kernel_rfl) (by kernel_rfl) (by kernel_rfl) (by kernel_rfl) (fun _ _ _ h => h) (Or.inl ⟨by rfl, ?_⟩) hHeld ?_
  rotate_left
  · intro w hSw; obtain ⟨q0, q3, q5, q6, q7, q8, q9, q10, q11, q12, q13, q14, q15, q18⟩ := hSw; go_simp; with_reducible rfl
  try simp only [Act.put, List.setIfInBounds_toArray, List.set_cons_zero, List.set_cons_succ]
  refine AnyZ.take 16 _ (v := ?_) rfl (by kernel_rfl) (by kernel_rfl) (by kernel_rfl) (by kernel_rfl) (by kernel_rfl) (fun _ _ _ h => h) (Or.inl ⟨by rfl, ?_⟩) hHeld ?_
  rotate_left
  · intro w hSw; obtain ⟨q0, q3, q5, q6, q7, q8, q9, q10, q11, q12, q13, q14, q15, q18⟩ := hSw; go_simp; with_reducible rfl
  try simp only [Act.put, List.setIfInBounds_toArray, List.set_cons_zero, List.set_cons_succ]
  refine AnyZ.take 17 _ (v := ?_) rfl (by kernel_rfl) (by kernel_rfl) (by kernel_rfl) (by kernel_rfl) (by kernel_rfl) (fun _ _ _ h => h) (Or.inl ⟨by rfl, ?_⟩) hHeld ?_
  rotate_left
  · intro w hSw; obtain ⟨q0, q3, q5, q6, q7, q8, q9, q10, q11, q12, q13, q14, q15, q18⟩ := hSw; go_simp; with_reducible rfl
  try simp only [Act.put, List.setIfInBounds_toArray, List.set_cons_zero, List.set_cons_succ]
  refine AnyZ.take 18 _ (v := ?_) rfl (by kernel_rfl) (by kernel_rfl) (by kernel_rfl) (by kernel_rfl) (by kernel_rfl) (fun _ _ _ h => h) (Or.inl ⟨by rfl, ?_⟩) hHeld ?_
  rotate_left
  · intro w hSw; obtain ⟨q0, q3, q5, q6, q7, q8, q9, q10, q11, q12, q13, q14, q15, q18⟩ := hSw; go_simp; with_reducible rfl
  try simp only [Act.put, List.setIfInBounds_toArray, List.set_cons_zero, List.set_cons_succ]
  refine AnyZ.take 19 _ (v := ?_) rfl (by kernel_rfl) (by kernel_rfl) (by kernel_rfl) (by kernel_rfl) (by kernel_rfl) (fun _ _ _ h => h) (Or.inl ⟨by rfl, ?_⟩) hHeld ?_
  rotate_left
  · intro w hSw; obtain ⟨q0, q3, q5, q6, q7, q8, q9, q10, q11, q12, q13, q14, q15, q18⟩ := hSw; go_simp; with_reducible rfl
  try simp only [Act.put, List.setIfInBounds_toArray, List.set_cons_zero, List.set_cons_succ]
  refine AnyZ.take 20 _ (v := ?_) rfl (by kernel_rfl) (by kernel_rfl) (by kernel_rfl) (by kernel_rfl) (by kernel_rfl) (fun _ _ _ h => h) (Or.inl ⟨by rfl, ?_⟩) hHeld ?_
  rotate_left
  · intro w hSw; obtain ⟨q0, q3, q5, q6, q7, q8, q9, q10, q11, q12, q13, q14, q15, q18⟩ := hSw; go_simp; with_reducible rfl
  try simp only [Act.put, List.setIfInBounds_toArray, List.set_cons_zero, List.set_cons_succ]
  refine AnyZ.take 21 _ (v := ?_) rfl (by kernel_rfl) (by kernel_rfl) (by kernel_rfl) (by kernel_rfl) (by kernel_rfl) (fun _ _ _ h => h) (Or.inl ⟨by rfl, ?_⟩) hHeld ?_
  rotate_left
  · intro w hSw; obtain ⟨q0, q3, q5, q6, q7, q8, q9, q10, q11, q12, q13, q14, q15, q18⟩ := hSw; go_simp; with_reducible rfl
  try simp only [Act.put, List.setIfInBounds_toArray, List.set_cons_zero, List.set_cons_succ]
  refine AnyZ.take 22 _ (v := ?_) rfl (by kernel_rfl) (by kernel_rfl) (by kernel_rfl) (by kernel_rfl) (by kernel_rfl) (fun _ _ _ h => h) (Or.inl ⟨by rfl, ?_⟩) hHeld ?_
  rotate_left
  · intro w hSw; obtain ⟨q0, q3, q5, q6, q7, q8, q9, q10, q11, q12, q13, q14, q15, q18⟩ := hSw; go_simp; with_reducible rfl
  try simp only [Act.put, List.setIfInBounds_toArray, List.set_cons_zero, List.set_cons_succ]
  refine AnyZ.take 23 _ (v := ?_) rfl (by kernel_rfl) (by kernel_rfl) (by kernel_rfl) (by kernel_rfl) (by kernel_rfl) (fun _ _ _ h => h) (Or.inl ⟨by rfl, ?_⟩) hHeld ?_
  rotate_left
  · intro w hSw; obtain ⟨q0, q3, q5, q6, q7, q8, q9, q10, q11, q12, q13, q14, q15, q18⟩ := hSw; go_simp; with_reducible rfl
  try simp only [Act.put, List.setIfInBounds_toArray, List.set_cons_zero, List.set_cons_succ]
  refine AnyZ.take 24 _ (v := ?_) rfl (by kernel_rfl) (by kernel_rfl) (by kernel_rfl) (by kernel_rfl) (by kernel_rfl) (fun _ _ _ h => h) (Or.inl ⟨by rfl, ?_⟩) hHeld ?_
  rotate_left
  · intro w hSw; obtain ⟨q0, q3, q5, q6, q7, q8, q9, q10, q11, q12, q13, q14, q15, q18⟩ := hSw; go_simp; with_reducible rfl
  try simp only [Act.put, List.setIfInBounds_toArray, List.set_cons_zero, List.set_cons_succ]
  refine AnyZ.take 25 _ (v := ?_) rfl (by kernel_rfl) (by kernel_rfl) (by kernel_rfl) (by kernel_rfl) (by kernel_rfl) (fun _ _ _ h => h) (Or.inl ⟨by rfl, ?_⟩) hHeld ?_
  rotate_left
  · intro w hSw; obtain ⟨q0, q3, q5, q6, q7, q8, q9, q10, q11, q12, q13, q14, q15, q18⟩ := hSw; go_simp; with_reducible rfl
  try simp only [Act.put, List.setIfInBounds_toArray, List.set_cons_zero, List.set_cons_succ]
  refine AnyZ.take 26 _ (v := ?_) rfl (by kernel_rfl) (by kernel_rfl) (by kernel_rfl) (by kernel_rfl) (by kernel_rfl) (fun _ _ _ h => h) (Or.inl ⟨by rfl, ?_⟩) hHeld ?_
  rotate_left
  · intro w hSw; obtain ⟨q0, q3, q5, q6, q7, q8, q9, q10, q11, q12, q13, q14, q15, q18⟩ := hSw; go_simp; with_reducible rfl
  try simp only [Act.put, List.setIfInBounds_toArray, List.set_cons_zero, List.set_cons_succ]
  refine AnyZ.lone 27 _ (by kernel_rfl) rfl fun K hK => ?_
  rw [if_pos (by rfl)]
  go_simp
  go_at_call 126
  refine (Hcall.out _).mono ?_
  rintro e w10 ⟨a10, n10, c10, rfl, hb10⟩
  refine hK.out _ _ (fun _ => ⟨Hk1.out _ _ _ hb10 y0, Hk1.out _ _ _ hb10 y3, Hk1.out _ _ _ hb10 y5, Hk1.out _ _ _ hb10 y6, Hk1.out _ _ _ hb10 y7, Hk1.out _ _ _ hb10 y8, Hk1.out _ _ _ hb10 y9, Hk1.out _ _ _ hb10 y10, Hk1.out _ _ _ hb10 y11, Hk1.out _ _ _ hb10 y12, Hk1.out _ _ _ hb10 y13, Hk1.out _ _ _ hb10 y14, Hk1.out _ _ _ hb10 y15, Hk1.out _ _ _ hb10 y18⟩) fun hHeld => ?_
  clear hK K
  try simp only [Act.put, List.setIfInBounds_toArray, List.set_cons_zero, List.set_cons_succ]
  have Hb10 := Lib.hid hb10
  have hHeld := hHeld rfl
  refine AnyZ.take 28 _ (v := ?_) rfl (by kernel_rfl) (by kernel_rfl) (by kernel_rfl) (by kernel_rfl) (by kernel_rfl) (fun _ _ _ h => h) (Or.inl ⟨by rfl, ?_⟩) hHeld ?_
  rotate_left
  · intro w hSw; go_simp; with_reducible rfl
  try simp only [Act.put, List.setIfInBounds_toArray, List.set_cons_zero, List.set_cons_succ]
  refine AnyZ.lone 29 _ (by kernel_rfl) rfl fun K hK => ?_
  rw [if_pos (by rfl)]
  go_simp
  refine hK.out _ _ (fun _ => ⟨Hk2.out _ _ _ _ Hb10.out y0, Hk2.out _ _ _ _ Hb10.out y3, Hk2.out _ _ _ _ Hb10.out y5, Hk2.out _ _ _ _ Hb10.out y6, Hk2.out _ _ _ _ Hb10.out y7, Hk2.out _ _ _ _ Hb10.out y8, Hk2.out _ _ _ _ Hb10.out y9, Hk2.out _ _ _ _ Hb10.out y10, Hk2.out _ _ _ _ Hb10.out y11, Hk2.out _ _ _ _ Hb10.out y12, Hk2.out _ _ _ _ Hb10.out y13, Hk2.out _ _ _ _ Hb10.out y14, Hk2.out _ _ _ _ Hb10.out y15, Hk2.out _ _ _ _ Hb10.out y18⟩) fun hHeld => ?_
  clear hK K
  try simp only [Act.put, List.setIfInBounds_toArray, List.set_cons_zero, List.set_cons_succ]
  refine AnyZ.lone 30 _ (by kernel_rfl) rfl fun K hK => ?_
  rw [if_pos (by rfl)]
  refine step_app (l := []) (l2 := [⟨pm, pt, ps, pi⟩]) (base := w.heap.size) EPm (by rfl) (by rfl) (by rfl) ti_msgs (Hitem.out _ _ _ _).1 rfl (Hitem.out _ _ _ _).2 (by show (1 : Nat) ≤ maxLen; decide) (by show (1 : Nat) * 128 ≤ 140737488355328; decide) (by have := Hb10.out.size; have := Hz1.out; have := drew_size w1; simp; omega) ?_
  intro v11 w11 ho11 hg11 hv11 hb11
  obtain ⟨a11, c11, rfl, hc11, hm11, hr11, ho11'⟩ := ho11.shape 1 rfl
  have Hb11 := Lib.hid hb11
  have Ho11 := Lib.hid ho11'
  refine hK.out _ _ (fun _ => ⟨Hk3.out _ _ _ _ _ Hb10.out Hb11.out y0, Hk3.out _ _ _ _ _ Hb10.out Hb11.out y3, Hk3.out _ _ _ _ _ Hb10.out Hb11.out y5, Hk3.out _ _ _ _ _ Hb10.out Hb11.out y6, Hk3.out _ _ _ _ _ Hb10.out Hb11.out y7, Hk3.out _ _ _ _ _ Hb10.out Hb11.out y8, Hk3.out _ _ _ _ _ Hb10.out Hb11.out y9, Hk3.out _ _ _ _ _ Hb10.out Hb11.out y10, Hk3.out _ _ _ _ _ Hb10.out Hb11.out y11, Hk3.out _ _ _ _ _ Hb10.out Hb11.out y12, Hk3.out _ _ _ _ _ Hb10.out Hb11.out y13, Hk3.out _ _ _ _ _ Hb10.out Hb11.out y14, Hk3.out _ _ _ _ _ Hb10.out Hb11.out y15, Hk3.out _ _ _ _ _ Hb10.out Hb11.out y18⟩) fun hHeld => ?_
  clear hK K ho11 ho11' hg11 hv11 hr11 hc11 hm11 hb11
  try simp only [Act.put, List.setIfInBounds_toArray, List.set_cons_zero, List.set_cons_succ]
  have hHeld := hHeld rfl
  refine AnyZ.lone 31 _ (by kernel_rfl) rfl fun K hK => ?_
  rw [if_pos (by rfl)]
  go_simp
  refine hK.out _ _ (fun _ => hHeld) fun _ => ?_
  clear hK K
  try simp only [Act.put, List.setIfInBounds_toArray, List.set_cons_zero, List.set_cons_succ]
  refine AnyZ.take 32 _ (v := ?_) rfl (by kernel_rfl) (by kernel_rfl) (by kernel_rfl) (by kernel_rfl) (by kernel_rfl) (fun _ _ _ h => h) (Or.inl ⟨by rfl, ?_⟩) hHeld ?_
  rotate_left
  · intro w hSw; go_simp; with_reducible rfl
  try simp only [Act.put, List.setIfInBounds_toArray, List.set_cons_zero, List.set_cons_succ]
  have k11 : w11.cell? ⟨g, 18, none⟩ = some (.slice none 0 0) := Hk3.out _ _ _ _ _ Hb10.out Hb11.out y18
  have kf11 : w11.frozen? ⟨g, 18, none⟩ = false := by
    rw [Hb11.out.frozen (p := ⟨g, 18, none⟩) Hgz.out, Below.frozen (B := w10.heap.size) ((Below.refl _ _).alloc (Nat.le_refl _) _) (p := ⟨g, 18, none⟩) (cell_lt (Hk1.out _ _ _ Hb10.out y18)), Below.frozen Hb10.out (p := ⟨g, 18, none⟩) (cell_lt (w := w1.drew) y18)]
    show w1.frozen? _ = false
    simp [World.frozen?, Hh1.out]
  refine AnyZ.lone 33 _ (by kernel_rfl) rfl fun K hK => ?_
  rw [if_pos (by rfl)]
  go_simp
  refine hK.out _ _ (fun h => (by cases h)) fun _ => ?_
  clear hK K
  refine AnyZ.done (by kernel_rfl) ?_ _
  go_wp2_with fail
  refine bodyPost_end (v := .tuple #[]) (by simp [results, Try.results86, go_sem]) rfl ?_
  have hsz : w.heap.size ≤ w11.heap.size := by
    have h10 := Hb10.out.size
    have h11 := Hb11.out.size
    have h1 := Hz1.out
    have hd := drew_size w1
    simp at h11
    omega
  have hone : (Value.slice a11 1 c11).oneCell' = true := rfl
  have hO : Only (· = g) w (w11.setCell ⟨g, 18, none⟩ (.slice a11 1 c11)) := by
    have h2 : Only (· = g) w1 w10 := ⟨Hb10.out.os, Hb10.out.tape, Hb10.out.output, Hb10.out.size, fun k hk _ => Hb10.out.block k hk⟩
    have h3 : Only (· = g) w10 (w10.alloc (.cells #[.int .i64 6, .int .i64 pm, .int .i64 pt, .int .i64 ps, .int .i64 0, .int .i64 0, .int .i64 0, .int .i64 0, .int .i64 pi, .int .i64 0, .slice none 0 0, .slice a10 n10 c10] 89)) := Below.only (alloc_below _ _)
    have h4 : Only (fun k => w.heap.size ≤ k) (w10.alloc (.cells #[.int .i64 6, .int .i64 pm, .int .i64 pt, .int .i64 ps, .int .i64 0, .int .i64 0, .int .i64 0, .int .i64 0, .int .i64 pi, .int .i64 0, .slice none 0 0, .slice a10 n10 c10] 89)) w11 := ⟨Hb11.out.os, Hb11.out.tape, Hb11.out.output, Hb11.out.size, fun k hk hn => Hb11.out.block k (by omega)⟩
    exact ((((Ho1.out.trans h2 fun _ _ h => h).trans h3 fun _ _ h => h).trans h4 fun k hk h => by omega)).setCell (p := ⟨g, 18, none⟩) (.inl rfl) _
  have hH : (w11.setCell ⟨g, 18, none⟩ (.slice a11 1 c11)).heap[g]? = some (.cells (poRow ⟨pm, pn, pp, pi, po, ps, pk, pt, 0, pl⟩ lm (.slice a11 1 c11)) 153 (0, 0)) := by
    have hg1 : g < w1.heap.size := by have := Hz1.out; have := Hgz.out; omega
    have hg10 : g < w10.heap.size := Nat.lt_of_lt_of_le hg1 Hb10.out.size
    have e : w11.heap[g]? = some (.cells (poRow ⟨pm, pn, pp, pi, po, ps, pk, pt, 0, pl⟩ lm (.slice none 0 0)) 153 (0, 0)) := by
      rw [Hb11.out.block g Hgz.out, Below.heap_alloc _ _ _ hg10, Hb10.out.block g hg1]
      exact Hh1.out
    exact heap_set e 18 (.slice a11 1 c11)
  refine ⟨_, rfl, H.out.set hO hH rfl HR.out hone, ?_, hO⟩
  exact own_pm Ho11.out (Only.setCell (S := (· = g)) (Only.refl _ w11) (p := ⟨g, 18, none⟩) (.inl rfl) _) fun k hk => by rw [hk]; exact Hgz.out
end Go.Proofs.Ytmmgnbdngpkfcaa

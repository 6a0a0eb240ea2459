
/-
  A post asks anew.
-/
import Derived.Test.YtmmgnbdngpkfcaaPoS
import Derived.Test.YtmmgnbdngpkfcaaPoI
namespace Go.Proofs.Ytmmgnbdngpkfcaa
open Go.RowKit
set_option linter.unusedVariables false

def askRow0 (sh kd : Int) : Array Value := #[.int .i64 sh, .int .i64 kd, .int .i64 0, .int .i64 0, .int .i64 0, .slice none 0 0, .slice none 0 0, .int .i64 0, .bool false, .int .i64 0]
theorem PoA.heapEq {w w' : World} {g lm : Nat} {ov : Value} {P : Po} (h : PoA w g lm ov P) (e : w'.heap = w.heap) : PoA w' g lm ov P :=
  ⟨by rw [e]; exact h.row, h.map.keep (by rw [e]), h.few, h.ne, h.right, h.ov1⟩
theorem po_ask_row {w : World} {g te : Nat} {fr : Nat × Nat} {o0 o1 o2 o3 o4 o5 o6 o7 o8 o9 o10 o11 o12 o13 o14 o15 o16 o17 o18 : Value} (h : w.heap[g]? = some (.cells #[o0, o1, o2, o3, o4, o5, o6, o7, o8, o9, o10, o11, o12, o13, o14, o15, o16, o17, o18] te fr)) (v4 v5 v6 v7 v8 v9 v10 v11 v12 v13 v14 : Value) :
    (((((((((((w.setCell ⟨g, 4, none⟩ v4).setCell ⟨g, 5, none⟩ v5).setCell ⟨g, 6, none⟩ v6).setCell ⟨g, 7, none⟩ v7).setCell ⟨g, 8, none⟩ v8).setCell ⟨g, 9, none⟩ v9).setCell ⟨g, 10, none⟩ v10).setCell ⟨g, 11, none⟩ v11).setCell ⟨g, 12, none⟩ v12).setCell ⟨g, 13, none⟩ v13).setCell ⟨g, 14, none⟩ v14).heap[g]? = some (.cells #[o0, o1, o2, o3, v4, v5, v6, v7, v8, v9, v10, v11, v12, v13, v14, o15, o16, o17, o18] te fr) := by
  have h4 := heap_set h 4 v4
  rw [show (#[o0, o1, o2, o3, o4, o5, o6, o7, o8, o9, o10, o11, o12, o13, o14, o15, o16, o17, o18] : Array Value).setIfInBounds 4 v4 = #[o0, o1, o2, o3, v4, o5, o6, o7, o8, o9, o10, o11, o12, o13, o14, o15, o16, o17, o18] from rfl] at h4
  have h5 := heap_set h4 5 v5
  rw [show (#[o0, o1, o2, o3, v4, o5, o6, o7, o8, o9, o10, o11, o12, o13, o14, o15, o16, o17, o18] : Array Value).setIfInBounds 5 v5 = #[o0, o1, o2, o3, v4, v5, o6, o7, o8, o9, o10, o11, o12, o13, o14, o15, o16, o17, o18] from rfl] at h5
  have h6 := heap_set h5 6 v6
  rw [show (#[o0, o1, o2, o3, v4, v5, o6, o7, o8, o9, o10, o11, o12, o13, o14, o15, o16, o17, o18] : Array Value).setIfInBounds 6 v6 = #[o0, o1, o2, o3, v4, v5, v6, o7, o8, o9, o10, o11, o12, o13, o14, o15, o16, o17, o18] from rfl] at h6
  have h7 := heap_set h6 7 v7
  rw [show (#[o0, o1, o2, o3, v4, v5, v6, o7, o8, o9, o10, o11, o12, o13, o14, o15, o16, o17, o18] : Array Value).setIfInBounds 7 v7 = #[o0, o1, o2, o3, v4, v5, v6, v7, o8, o9, o10, o11, o12, o13, o14, o15, o16, o17, o18] from rfl] at h7
  have h8 := heap_set h7 8 v8
  rw [show (#[o0, o1, o2, o3, v4, v5, v6, v7, o8, o9, o10, o11, o12, o13, o14, o15, o16, o17, o18] : Array Value).setIfInBounds 8 v8 = #[o0, o1, o2, o3, v4, v5, v6, v7, v8, o9, o10, o11, o12, o13, o14, o15, o16, o17, o18] from rfl] at h8
  have h9 := heap_set h8 9 v9
  rw [show (#[o0, o1, o2, o3, v4, v5, v6, v7, v8, o9, o10, o11, o12, o13, o14, o15, o16, o17, o18] : Array Value).setIfInBounds 9 v9 = #[o0, o1, o2, o3, v4, v5, v6, v7, v8, v9, o10, o11, o12, o13, o14, o15, o16, o17, o18] from rfl] at h9
  have h10 := heap_set h9 10 v10
  rw [show (#[o0, o1, o2, o3, v4, v5, v6, v7, v8, v9, o10, o11, o12, o13, o14, o15, o16, o17, o18] : Array Value).setIfInBounds 10 v10 = #[o0, o1, o2, o3, v4, v5, v6, v7, v8, v9, v10, o11, o12, o13, o14, o15, o16, o17, o18] from rfl] at h10
  have h11 := heap_set h10 11 v11
  rw [show (#[o0, o1, o2, o3, v4, v5, v6, v7, v8, v9, v10, o11, o12, o13, o14, o15, o16, o17, o18] : Array Value).setIfInBounds 11 v11 = #[o0, o1, o2, o3, v4, v5, v6, v7, v8, v9, v10, v11, o12, o13, o14, o15, o16, o17, o18] from rfl] at h11
  have h12 := heap_set h11 12 v12
  rw [show (#[o0, o1, o2, o3, v4, v5, v6, v7, v8, v9, v10, v11, o12, o13, o14, o15, o16, o17, o18] : Array Value).setIfInBounds 12 v12 = #[o0, o1, o2, o3, v4, v5, v6, v7, v8, v9, v10, v11, v12, o13, o14, o15, o16, o17, o18] from rfl] at h12
  have h13 := heap_set h12 13 v13
  rw [show (#[o0, o1, o2, o3, v4, v5, v6, v7, v8, v9, v10, v11, v12, o13, o14, o15, o16, o17, o18] : Array Value).setIfInBounds 13 v13 = #[o0, o1, o2, o3, v4, v5, v6, v7, v8, v9, v10, v11, v12, v13, o14, o15, o16, o17, o18] from rfl] at h13
  have h14 := heap_set h13 14 v14
  rw [show (#[o0, o1, o2, o3, v4, v5, v6, v7, v8, v9, v10, v11, v12, v13, o14, o15, o16, o17, o18] : Array Value).setIfInBounds 14 v14 = #[o0, o1, o2, o3, v4, v5, v6, v7, v8, v9, v10, v11, v12, v13, v14, o15, o16, o17, o18] from rfl] at h14
  exact h14
set_option maxRecDepth 4096 in
set_option maxHeartbeats 3200000 in
theorem po_Ask {g lm : Nat} {P : Po} (sh kd to_ : Int) (w : World) (h : PoA w g lm (.slice none 0 0) P) (hid : P.id ≤ 90) (hsh : 0 ≤ sh ∧ sh ≤ 7) (hkd : 0 ≤ kd ∧ kd ≤ 100) (hto : max 1 ((P.lead sh).getD 0) = to_) (ht : 1 ≤ to_ ∧ to_ ≤ 100) :
    Calls Try.prog 46 #[.pointer (some ⟨g, 0, none⟩), .agg (askRow0 sh kd)] w fun x w' => ∃ ov, x = .returned (.tuple #[]) ∧ PoA w' g lm ov { P with id := P.id + 1, opn := true, sh := sh, kd := kd, to_ := to_, age := 0 } ∧ Own EPm 89 w.heap.size w' ov [⟨P.me, to_, sh, P.id + 1⟩] ∧ Only (· = g) w w' := by
  obtain ⟨r1, r2, r3, r4, r5, r6, r7, r8⟩ := h.right
  have hR : ({ P with id := P.id + 1, opn := true, sh := sh, kd := kd, to_ := to_ } : Po).Right := ⟨r1, r2, ⟨by show 0 ≤ P.id + 1; omega, by show P.id + 1 ≤ 100; omega⟩, ⟨hsh.1, by show sh ≤ 100; omega⟩, hkd, r6, ⟨by show 0 ≤ to_; omega, ht.2⟩, r8⟩
  have h0 := h.row
  have hlz := h.map.lt
  have hgz := h.lt
  have hne := h.ne
  have H := Lib.hid h
  clear h
  obtain ⟨pm, pn, pp, pi, po, ps, pk, pt, pa, pl⟩ := P
  dsimp only at r1 r2 r3 r4 r5 r6 r7 r8 hR hid hto ⊢
  unfold askRow0
  obtain ⟨E, hE⟩ : ∃ E, E = w.heap.size := ⟨_, rfl⟩
  obtain ⟨w1, hw1⟩ : ∃ x, x = w.alloc (.cells #[.int .i64 sh, .int .i64 kd, .int .i64 0, .int .i64 0, .int .i64 0, .slice none 0 0, .slice none 0 0, .int .i64 0, .bool false, .int .i64 0] 37) := ⟨_, rfl⟩
  have hz1 : w1.heap.size = E + 1 := by rw [hw1, hE]; simp
  have hb1 : Below w.heap.size w w1 := by rw [hw1]; exact alloc_below _ _
  have hh1 : w1.heap[E]? = some (.cells #[.int .i64 sh, .int .i64 kd, .int .i64 0, .int .i64 0, .int .i64 0, .slice none 0 0, .slice none 0 0, .int .i64 0, .bool false, .int .i64 0] 37 (0, 0)) := by rw [hw1, hE]; exact heap_alloc_new w _
  have hg1 : w1.heap[g]? = some (.cells (poRow ⟨pm, pn, pp, pi, po, ps, pk, pt, pa, pl⟩ lm (.slice none 0 0)) 153 (0, 0)) := (hb1.block g hgz).trans h0
  have y3 : w1.cell? ⟨g, 3, none⟩ = some (.int .i64 pi) := by simp [World.cell?, hg1, poRow]
  have f3 : w1.frozen? ⟨g, 3, none⟩ = false := by simp [World.frozen?, hg1]
  obtain ⟨w2, hw2⟩ : ∃ x, x = w1.setCell ⟨g, 3, none⟩ (.int .i64 (pi + 1)) := ⟨_, rfl⟩
  have ho2 : Only (· = g) w1 w2 := by rw [hw2]; exact (Only.refl (· = g) w1).setCell (p := ⟨g, 3, none⟩) (.inl rfl) _
  have hg2 : w2.heap[g]? = some (.cells (poRow ⟨pm, pn, pp, pi + 1, po, ps, pk, pt, pa, pl⟩ lm (.slice none 0 0)) 153 (0, 0)) := by
    rw [hw2]; exact heap_set hg1 3 (.int .i64 (pi + 1))
  have hh2 : w2.heap[E]? = some (.cells #[.int .i64 sh, .int .i64 kd, .int .i64 0, .int .i64 0, .int .i64 0, .slice none 0 0, .slice none 0 0, .int .i64 0, .bool false, .int .i64 0] 37 (0, 0)) := (ho2.block E (by omega) (by omega)).trans hh1
  have a0 : w2.cell? ⟨E, 0, none⟩ = some (.int .i64 sh) := by simp [World.cell?, hh2]
  have a1 : w2.cell? ⟨E, 1, none⟩ = some (.int .i64 kd) := by simp [World.cell?, hh2]
  have a2 : w2.cell? ⟨E, 2, none⟩ = some (.int .i64 0) := by simp [World.cell?, hh2]
  have a3 : w2.cell? ⟨E, 3, none⟩ = some (.int .i64 0) := by simp [World.cell?, hh2]
  have a4 : w2.cell? ⟨E, 4, none⟩ = some (.int .i64 0) := by simp [World.cell?, hh2]
  have a5 : w2.cell? ⟨E, 5, none⟩ = some (.slice none 0 0) := by simp [World.cell?, hh2]
  have a6 : w2.cell? ⟨E, 6, none⟩ = some (.slice none 0 0) := by simp [World.cell?, hh2]
  have a7 : w2.cell? ⟨E, 7, none⟩ = some (.int .i64 0) := by simp [World.cell?, hh2]
  have a8 : w2.cell? ⟨E, 8, none⟩ = some (.bool false) := by simp [World.cell?, hh2]
  have a9 : w2.cell? ⟨E, 9, none⟩ = some (.int .i64 0) := by simp [World.cell?, hh2]
  have c4 : w2.cell? ⟨g, 4, none⟩ = some (.bool po) := by simp [World.cell?, hg2, poRow]
  have c5 : w2.cell? ⟨g, 5, none⟩ = some (.int .i64 ps) := by simp [World.cell?, hg2, poRow]
  have c6 : w2.cell? ⟨g, 6, none⟩ = some (.int .i64 pk) := by simp [World.cell?, hg2, poRow]
  have c7 : w2.cell? ⟨g, 7, none⟩ = some (.int .i64 0) := by simp [World.cell?, hg2, poRow]
  have c8 : w2.cell? ⟨g, 8, none⟩ = some (.int .i64 0) := by simp [World.cell?, hg2, poRow]
  have c9 : w2.cell? ⟨g, 9, none⟩ = some (.int .i64 0) := by simp [World.cell?, hg2, poRow]
  have c10 : w2.cell? ⟨g, 10, none⟩ = some (.slice none 0 0) := by simp [World.cell?, hg2, poRow]
  have c11 : w2.cell? ⟨g, 11, none⟩ = some (.slice none 0 0) := by simp [World.cell?, hg2, poRow]
  have c12 : w2.cell? ⟨g, 12, none⟩ = some (.int .i64 0) := by simp [World.cell?, hg2, poRow]
  have c13 : w2.cell? ⟨g, 13, none⟩ = some (.bool false) := by simp [World.cell?, hg2, poRow]
  have c14 : w2.cell? ⟨g, 14, none⟩ = some (.int .i64 0) := by simp [World.cell?, hg2, poRow]
  have f2 : ∀ o, w2.frozen? ⟨g, o, none⟩ = false := fun o => by simp [World.frozen?, hg2]
  have hgE : g ≠ E := by omega
  have hgE2 : (g == E) = false := by simp; omega
  have hEg2 : (E == g) = false := by simp; omega
  have Hw1 := Lib.hid hw1.symm
  have Hw2 := Lib.hid hw2.symm
  have HE := Lib.hid hE
  have Hz1 := Lib.hid hz1
  have Hg2 := Lib.hid hg2
  have Hh2 := Lib.hid hh2
  have Hb1 := Lib.hid hb1
  have Ho2 := Lib.hid ho2
  have HR := Lib.hid hR
  have Hto := Lib.hid hto
  have Hne := Lib.hid hne
  have Hlz := Lib.hid hlz
  have Hgz := Lib.hid hgz
  clear hw1 hw2 hE hz1 hg1 hh1 hb1 hg2 hh2 ho2 hR hto hne h0 hlz hgz
  go_enter Try.func46, Try.ntmps46
  go_upto_region 2 with fail
  rw [Hw1.out, ← HE.out]
  go_upto_region 3 with fail
  rw [Hw2.out]
  clear y3 f3 Hw1 Hw2
  go_region
  obtain ⟨w3, hw3⟩ : ∃ x, x = ((((((((((w2.setCell ⟨g, 4, none⟩ (.bool true)).setCell ⟨g, 5, none⟩ (.int .i64 sh)).setCell ⟨g, 6, none⟩ (.int .i64 kd)).setCell ⟨g, 7, none⟩ (.int .i64 0)).setCell ⟨g, 8, none⟩ (.int .i64 0)).setCell ⟨g, 9, none⟩ (.int .i64 0)).setCell ⟨g, 10, none⟩ (.slice none 0 0)).setCell ⟨g, 11, none⟩ (.slice none 0 0)).setCell ⟨g, 12, none⟩ (.int .i64 0)).setCell ⟨g, 13, none⟩ (.bool false)).setCell ⟨g, 14, none⟩ (.int .i64 0) := ⟨_, rfl⟩
  have ho3 : Only (· = g) w2 w3 := by rw [hw3]; exact ((((((((((((Only.refl (· = g) w2).setCell (p := ⟨g, 4, none⟩) (.inl rfl) (.bool true)).setCell (p := ⟨g, 5, none⟩) (.inl rfl) (.int .i64 sh)).setCell (p := ⟨g, 6, none⟩) (.inl rfl) (.int .i64 kd)).setCell (p := ⟨g, 7, none⟩) (.inl rfl) (.int .i64 0)).setCell (p := ⟨g, 8, none⟩) (.inl rfl) (.int .i64 0)).setCell (p := ⟨g, 9, none⟩) (.inl rfl) (.int .i64 0)).setCell (p := ⟨g, 10, none⟩) (.inl rfl) (.slice none 0 0)).setCell (p := ⟨g, 11, none⟩) (.inl rfl) (.slice none 0 0)).setCell (p := ⟨g, 12, none⟩) (.inl rfl) (.int .i64 0)).setCell (p := ⟨g, 13, none⟩) (.inl rfl) (.bool false)).setCell (p := ⟨g, 14, none⟩) (.inl rfl) (.int .i64 0))
  have hg3 : w3.heap[g]? = some (.cells (poRow ⟨pm, pn, pp, pi + 1, true, sh, kd, pt, pa, pl⟩ lm (.slice none 0 0)) 153 (0, 0)) := by
    rw [hw3]; exact po_ask_row Hg2.out (.bool true) (.int .i64 sh) (.int .i64 kd) (.int .i64 0) (.int .i64 0) (.int .i64 0) (.slice none 0 0) (.slice none 0 0) (.int .i64 0) (.bool false) (.int .i64 0)
  rw [← hw3]
  have hh3 := (ho3.block E (Array.getElem?_eq_some_iff.1 Hh2.out).1 (by omega)).trans Hh2.out
  have ho03 : Only (· = g) w w3 := ((Below.only (S := (· = g)) Hb1.out).trans Ho2.out fun _ _ h => h).trans ho3 fun _ _ h => h
  have hm3 : IMap w3 lm 16 (fun z => (pl z).map (.int .i64)) := H.out.map.keep (ho03.block lm Hlz.out (Ne.symm Hne.out))
  have hlk := IMap.lookup (hm3.keep (w' := w3.drew.drew) rfl) (t := 129) Try.underlying129 (zero_int w3.drew.drew) (k := sh) (by unfold i64ok; omega)
  have elk : (Option.map (Value.int .i64) (pl sh)).getD (.int .i64 0) = .int .i64 ((pl sh).getD 0) := by cases pl sh <;> rfl
  rw [elk] at hlk
  have hto := Hto.out
  obtain ⟨ls, hls⟩ : ∃ x, x = (pl sh).getD 0 := ⟨_, rfl⟩
  rw [← hls] at hto hlk
  have b0 : w3.cell? ⟨E, 0, none⟩ = some (.int .i64 sh) := by simp [World.cell?, hh3]
  have b15 : w3.cell? ⟨g, 15, none⟩ = some (.int .i64 pt) := by simp [World.cell?, hg3, poRow]
  have b17 : w3.cell? ⟨g, 17, none⟩ = some (.map (some lm)) := by simp [World.cell?, hg3, poRow]
  have g15 : w3.frozen? ⟨g, 15, none⟩ = false := by simp [World.frozen?, hg3]
  have Hg3 := Lib.hid hg3
  have Ho03 := Lib.hid ho03
  have Hls := Lib.hid hls
  clear hw3 ho3 hg3 hh3 ho03 hm3 elk hls a0 a1 a2 a3 a4 a5 a6 a7 a8 a9 c4 c5 c6 c7 c8 c9 c10 c11 c12 c13 c14 f2 Hto
  go_wp2_with fail
  go_region
  obtain ⟨w4, hw4⟩ : ∃ x, x = w3.setCell ⟨g, 15, none⟩ (.int .i64 to_) := ⟨_, rfl⟩
  have ho4 : Only (· = g) w3 w4 := by rw [hw4]; exact (Only.refl (· = g) w3).setCell (p := ⟨g, 15, none⟩) (.inl rfl) _
  have hg4 : w4.heap[g]? = some (.cells (poRow ⟨pm, pn, pp, pi + 1, true, sh, kd, to_, pa, pl⟩ lm (.slice none 0 0)) 153 (0, 0)) := by
    rw [hw4]; exact heap_set Hg3.out 15 (.int .i64 to_)
  have ho04 : Only (· = g) w w4 := Ho03.out.trans ho4 fun _ _ h => h
  have hP4 : PoA w4 g lm (.slice none 0 0) ⟨pm, pn, pp, pi + 1, true, sh, kd, to_, pa, pl⟩ := H.out.set ho04 hg4 rfl HR.out rfl
  rw [← hw4]
  have HP4 := Lib.hid hP4
  have Ho04 := Lib.hid ho04
  clear hw4 ho4 hg4 ho04 hP4 b0 b15 b17 g15 hlk hto
  go_wp2_with fail
  refine (po_send w4.drew.drew (HP4.out.heapEq rfl)).mono ?_
  rintro x w5 ⟨ov, rfl, hP5, hO5, ho5⟩
  go_wp2_with fail
  refine bodyPost_end (v := .tuple #[]) (by simp [results, Try.results46, go_sem]) rfl ?_
  exact ⟨ov, rfl, hP5, hO5.base Ho04.out.size, Ho04.out.trans ⟨ho5.os, ho5.tape, ho5.output, ho5.size, ho5.block⟩ fun _ _ h => h⟩
end Go.Proofs.Ytmmgnbdngpkfcaa

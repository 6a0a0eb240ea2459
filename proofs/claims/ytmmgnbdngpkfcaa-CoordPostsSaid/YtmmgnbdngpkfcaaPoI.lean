
/-
  A post that asks one node after the other, walked: a message that is no answer.
-/
import Derived.Test.YtmmgnbdngpkfcaaPoB
namespace Go.Proofs.Ytmmgnbdngpkfcaa
open Go.RowKit
set_option linter.unusedVariables false

structure Ms where
  kind : Int
  frm : Int
  to_ : Int
  sh : Int
  view : Int
  normal : Int
  at_ : Int
  commit : Int
  id : Int
  err : Int
  lv : Value
  dv : Value
def Ms.row (m : Ms) : Array Value := #[.int .i64 m.kind, .int .i64 m.frm, .int .i64 m.to_, .int .i64 m.sh, .int .i64 m.view, .int .i64 m.normal, .int .i64 m.at_, .int .i64 m.commit, .int .i64 m.id, .int .i64 m.err, m.lv, m.dv]
def ans0 : Array Value := #[.int .i64 0, .slice none 0 0, .int .i64 0, .int .i64 0, .int .i64 0, .int .i64 0, .bool false, .int .i64 0]
theorem size_answer : (Try.prog.info? 41).map (·.size) = some 8 := by kernel_rfl

def MissPost (B : Nat) (w : World) (x : Ending) (w' : World) : Prop := x = .returned (.tuple #[.agg ans0, .bool false]) ∧ Below B w w'
set_option maxRecDepth 4096 in
set_option maxHeartbeats 3200000 in
theorem po_In_nil (m : Ms) (w : World) : Calls Try.prog 49 #[.pointer none, .agg m.row] w (MissPost w.heap.size w) := by
  obtain ⟨k, fr, t, sh, v, no, a, c, i, e, lv, dv⟩ := m
  unfold Ms.row
  dsimp only
  obtain ⟨E, hE⟩ : ∃ E, E = w.heap.size := ⟨_, rfl⟩
  obtain ⟨w1, hw1⟩ : ∃ x, x = w.alloc (.cells #[.int .i64 k, .int .i64 fr, .int .i64 t, .int .i64 sh, .int .i64 v, .int .i64 no, .int .i64 a, .int .i64 c, .int .i64 i, .int .i64 e, lv, dv] 89) := ⟨_, rfl⟩
  obtain ⟨w2, hw2⟩ : ∃ x, x = w1.alloc (.cells #[.int .i64 0, .slice none 0 0, .int .i64 0, .int .i64 0, .int .i64 0, .int .i64 0, .bool false, .int .i64 0] 41) := ⟨_, rfl⟩
  have hz1 : w1.heap.size = E + 1 := by rw [hw1, hE]; simp
  have hb1 : Below w.heap.size w w1 := by rw [hw1]; exact alloc_below _ _
  have hb2 : Below w1.heap.size w1 w2 := by rw [hw2]; exact alloc_below _ _
  have hh2 : w2.heap[E + 1]? = some (.cells #[.int .i64 0, .slice none 0 0, .int .i64 0, .int .i64 0, .int .i64 0, .int .i64 0, .bool false, .int .i64 0] 41 (0, 0)) := by rw [hw2, ← hz1]; exact heap_alloc_new w1 _
  have hb : Below E w w2 := by rw [hE]; exact hb1.trans (hb2.mono hb1.size)
  have Hw1 := Lib.hid hw1.symm
  have Hw2 := Lib.hid hw2.symm
  have HE := Lib.hid hE
  have Hz1 := Lib.hid hz1
  have Hh2 := Lib.hid hh2
  have Hb := Lib.hid hb
  clear hw1 hw2 hE hz1 hh2 hb hb1 hb2
  rw [← HE.out]
  go_enter Try.func49, Try.ntmps49
  go_upto_region 1 with fail
  rw [Hw1.out, Hw2.out, ← HE.out]
  clear Hw1 Hw2
  go_wp2_with fail
  go_quiet (fail)
  have hs8 : (Try.prog.info? 41).map (·.size) = some (#[.int .i64 0, .slice none 0 0, .int .i64 0, .int .i64 0, .int .i64 0, .int .i64 0, .bool false, .int .i64 0] : Array Value).size := size_answer
  have hall : (#[.int .i64 0, .slice none 0 0, .int .i64 0, .int .i64 0, .int .i64 0, .int .i64 0, .bool false, .int .i64 0] : Array Value).all (·.oneCell') = true := by simp [Value.oneCell']
  have hhd : ∀ n1 : Nat, (w2.drewN n1).heap[E + 1]? = some (.cells #[.int .i64 0, .slice none 0 0, .int .i64 0, .int .i64 0, .int .i64 0, .int .i64 0, .bool false, .int .i64 0] 41 (0, 0)) := fun _ => Hh2.out
  have hfin : ∀ n1 : Nat, Below E w ((w2.drewN n1).setRow (E + 1) #[.int .i64 0, .slice none 0 0, .int .i64 0, .int .i64 0, .int .i64 0, .int .i64 0, .bool false, .int .i64 0]) := fun n1 => (Hb.out.trans (⟨rfl, rfl, rfl, Nat.le_refl _, fun _ _ => rfl⟩ : Below E w2  (w2.drewN n1))).trans (setRow_below (w := (w2.drewN n1)) #[.int .i64 0, .slice none 0 0, .int .i64 0, .int .i64 0, .int .i64 0, .int .i64 0, .bool false, .int .i64 0] (by have := Hb.out.size; have := HE.out; show E ≤ w2.heap.size; omega) (Nat.le_succ _))
  have Hhd := Lib.hid hhd
  have Hfin := Lib.hid hfin
  clear hhd hfin
  go_wp2_with (refine wpList_storeRow rfl _ _ _ rfl (E + 1) rfl _ _ rfl _ (Hhd.out _) hs8 rfl hall ?_)
  refine bodyPost_ret (v := .tuple #[.agg ans0, .bool false]) (results_cell2 Try.results49 _ _ (E + 1) 41 _ (0, 0) _ rfl (setRow_at (Hhd.out _)) Try.underlying41 rfl hs8) rfl ?_
  exact ⟨rfl, Hfin.out _⟩

set_option maxRecDepth 4096 in
set_option maxHeartbeats 3200000 in
theorem po_In_m1 {g lm : Nat} {ov : Value} {P : Po} (m : Ms) (w : World) (h : PoA w g lm ov P) (hm : P.opn = false) : Calls Try.prog 49 #[.pointer (some ⟨g, 0, none⟩), .agg m.row] w (MissPost w.heap.size w) := by
  obtain ⟨k, fr, t, sh, v, no, a, c, i, e, lv, dv⟩ := m
  have hgz := h.lt
  have hlz := h.map.lt
  have h0 := h.row
  have hne := h.ne
  have hri := h.right
  have H := Lib.hid h
  clear h
  obtain ⟨pm, pn, pp, pi, po, ps, pk, pt, pa, pl⟩ := P
  unfold Ms.row
  dsimp only at hm ⊢
  obtain ⟨E, hE⟩ : ∃ E, E = w.heap.size := ⟨_, rfl⟩
  obtain ⟨w1, hw1⟩ : ∃ x, x = w.alloc (.cells #[.int .i64 k, .int .i64 fr, .int .i64 t, .int .i64 sh, .int .i64 v, .int .i64 no, .int .i64 a, .int .i64 c, .int .i64 i, .int .i64 e, lv, dv] 89) := ⟨_, rfl⟩
  obtain ⟨w2, hw2⟩ : ∃ x, x = w1.alloc (.cells #[.int .i64 0, .slice none 0 0, .int .i64 0, .int .i64 0, .int .i64 0, .int .i64 0, .bool false, .int .i64 0] 41) := ⟨_, rfl⟩
  have hz1 : w1.heap.size = E + 1 := by rw [hw1, hE]; simp
  have hb1 : Below w.heap.size w w1 := by rw [hw1]; exact alloc_below _ _
  have hb2 : Below w1.heap.size w1 w2 := by rw [hw2]; exact alloc_below _ _
  have hh2 : w2.heap[E + 1]? = some (.cells #[.int .i64 0, .slice none 0 0, .int .i64 0, .int .i64 0, .int .i64 0, .int .i64 0, .bool false, .int .i64 0] 41 (0, 0)) := by rw [hw2, ← hz1]; exact heap_alloc_new w1 _
  have hb : Below E w w2 := by rw [hE]; exact hb1.trans (hb2.mono hb1.size)
  have hm2 : w2.heap[E]? = some (.cells #[.int .i64 k, .int .i64 fr, .int .i64 t, .int .i64 sh, .int .i64 v, .int .i64 no, .int .i64 a, .int .i64 c, .int .i64 i, .int .i64 e, lv, dv] 89 (0, 0)) := by rw [hb2.block E (by omega), hw1, hE]; exact heap_alloc_new w _
  have hg2 : w2.heap[g]? = some (.cells (poRow ⟨pm, pn, pp, pi, po, ps, pk, pt, pa, pl⟩ lm ov) 153 (0, 0)) := (hb.block g (by omega)).trans h0
  have m1 : w2.cell? ⟨E, 1, none⟩ = some (.int .i64 fr) := by simp [World.cell?, hm2]
  have m0 : w2.cell? ⟨E, 0, none⟩ = some (.int .i64 k) := by simp [World.cell?, hm2]
  have m3 : w2.cell? ⟨E, 3, none⟩ = some (.int .i64 sh) := by simp [World.cell?, hm2]
  have m4 : w2.cell? ⟨E, 4, none⟩ = some (.int .i64 v) := by simp [World.cell?, hm2]
  have m8 : w2.cell? ⟨E, 8, none⟩ = some (.int .i64 i) := by simp [World.cell?, hm2]
  have m9 : w2.cell? ⟨E, 9, none⟩ = some (.int .i64 e) := by simp [World.cell?, hm2]
  have m11 : w2.cell? ⟨E, 11, none⟩ = some (dv) := by simp [World.cell?, hm2]
  have y1 : w2.cell? ⟨g, 1, none⟩ = some (.int .i64 pn) := by simp [World.cell?, hg2, poRow]
  have y2 : w2.cell? ⟨g, 2, none⟩ = some (.int .i64 pp) := by simp [World.cell?, hg2, poRow]
  have y3 : w2.cell? ⟨g, 3, none⟩ = some (.int .i64 pi) := by simp [World.cell?, hg2, poRow]
  have y4 : w2.cell? ⟨g, 4, none⟩ = some (.bool po) := by simp [World.cell?, hg2, poRow]
  have y5 : w2.cell? ⟨g, 5, none⟩ = some (.int .i64 ps) := by simp [World.cell?, hg2, poRow]
  have y15 : w2.cell? ⟨g, 15, none⟩ = some (.int .i64 pt) := by simp [World.cell?, hg2, poRow]
  have y16 : w2.cell? ⟨g, 16, none⟩ = some (.int .i64 pa) := by simp [World.cell?, hg2, poRow]
  have y17 : w2.cell? ⟨g, 17, none⟩ = some (.map (some lm)) := by simp [World.cell?, hg2, poRow]
  have fg : ∀ o, w2.frozen? ⟨g, o, none⟩ = false := fun o => by simp [World.frozen?, hg2]
  have Hg2 := Lib.hid hg2
  have Hfg := Lib.hid fg
  have Hri := Lib.hid hri
  have Hne := Lib.hid hne
  have Hgz := Lib.hid hgz
  have Hlz := Lib.hid hlz
  clear hm2 hg2 fg hri hne h0 hgz hlz
  have Hw1 := Lib.hid hw1.symm
  have Hw2 := Lib.hid hw2.symm
  have HE := Lib.hid hE
  have Hz1 := Lib.hid hz1
  have Hh2 := Lib.hid hh2
  have Hb := Lib.hid hb
  clear hw1 hw2 hE hz1 hh2 hb hb1 hb2
  subst hm
  rw [← HE.out]
  go_enter Try.func49, Try.ntmps49
  go_upto_region 1 with fail
  rw [Hw1.out, Hw2.out, ← HE.out]
  clear Hw1 Hw2
  go_wp2_with fail
  go_quiet (fail)
  have hs8 : (Try.prog.info? 41).map (·.size) = some (#[.int .i64 0, .slice none 0 0, .int .i64 0, .int .i64 0, .int .i64 0, .int .i64 0, .bool false, .int .i64 0] : Array Value).size := size_answer
  have hall : (#[.int .i64 0, .slice none 0 0, .int .i64 0, .int .i64 0, .int .i64 0, .int .i64 0, .bool false, .int .i64 0] : Array Value).all (·.oneCell') = true := by simp [Value.oneCell']
  have hhd : ∀ n1 : Nat, (w2.drewN n1).heap[E + 1]? = some (.cells #[.int .i64 0, .slice none 0 0, .int .i64 0, .int .i64 0, .int .i64 0, .int .i64 0, .bool false, .int .i64 0] 41 (0, 0)) := fun _ => Hh2.out
  have hfin : ∀ n1 : Nat, Below E w ((w2.drewN n1).setRow (E + 1) #[.int .i64 0, .slice none 0 0, .int .i64 0, .int .i64 0, .int .i64 0, .int .i64 0, .bool false, .int .i64 0]) := fun n1 => (Hb.out.trans (⟨rfl, rfl, rfl, Nat.le_refl _, fun _ _ => rfl⟩ : Below E w2  (w2.drewN n1))).trans (setRow_below (w := (w2.drewN n1)) #[.int .i64 0, .slice none 0 0, .int .i64 0, .int .i64 0, .int .i64 0, .int .i64 0, .bool false, .int .i64 0] (by have := Hb.out.size; have := HE.out; show E ≤ w2.heap.size; omega) (Nat.le_succ _))
  have Hhd := Lib.hid hhd
  have Hfin := Lib.hid hfin
  clear hhd hfin
  go_wp2_with (refine wpList_storeRow rfl _ _ _ rfl (E + 1) rfl _ _ rfl _ (Hhd.out _) hs8 rfl hall ?_)
  refine bodyPost_ret (v := .tuple #[.agg ans0, .bool false]) (results_cell2 Try.results49 _ _ (E + 1) 41 _ (0, 0) _ rfl (setRow_at (Hhd.out _)) Try.underlying41 rfl hs8) rfl ?_
  exact ⟨rfl, Hfin.out _⟩

set_option maxRecDepth 4096 in
set_option maxHeartbeats 3200000 in
theorem po_In_m2 {g lm : Nat} {ov : Value} {P : Po} (m : Ms) (w : World) (h : PoA w g lm ov P) (hm : P.opn = true ∧ m.kind ≠ 7) : Calls Try.prog 49 #[.pointer (some ⟨g, 0, none⟩), .agg m.row] w (MissPost w.heap.size w) := by
  obtain ⟨k, fr, t, sh, v, no, a, c, i, e, lv, dv⟩ := m
  have hgz := h.lt
  have hlz := h.map.lt
  have h0 := h.row
  have hne := h.ne
  have hri := h.right
  have H := Lib.hid h
  clear h
  obtain ⟨pm, pn, pp, pi, po, ps, pk, pt, pa, pl⟩ := P
  unfold Ms.row
  dsimp only at hm ⊢
  obtain ⟨E, hE⟩ : ∃ E, E = w.heap.size := ⟨_, rfl⟩
  obtain ⟨w1, hw1⟩ : ∃ x, x = w.alloc (.cells #[.int .i64 k, .int .i64 fr, .int .i64 t, .int .i64 sh, .int .i64 v, .int .i64 no, .int .i64 a, .int .i64 c, .int .i64 i, .int .i64 e, lv, dv] 89) := ⟨_, rfl⟩
  obtain ⟨w2, hw2⟩ : ∃ x, x = w1.alloc (.cells #[.int .i64 0, .slice none 0 0, .int .i64 0, .int .i64 0, .int .i64 0, .int .i64 0, .bool false, .int .i64 0] 41) := ⟨_, rfl⟩
  have hz1 : w1.heap.size = E + 1 := by rw [hw1, hE]; simp
  have hb1 : Below w.heap.size w w1 := by rw [hw1]; exact alloc_below _ _
  have hb2 : Below w1.heap.size w1 w2 := by rw [hw2]; exact alloc_below _ _
  have hh2 : w2.heap[E + 1]? = some (.cells #[.int .i64 0, .slice none 0 0, .int .i64 0, .int .i64 0, .int .i64 0, .int .i64 0, .bool false, .int .i64 0] 41 (0, 0)) := by rw [hw2, ← hz1]; exact heap_alloc_new w1 _
  have hb : Below E w w2 := by rw [hE]; exact hb1.trans (hb2.mono hb1.size)
  have hm2 : w2.heap[E]? = some (.cells #[.int .i64 k, .int .i64 fr, .int .i64 t, .int .i64 sh, .int .i64 v, .int .i64 no, .int .i64 a, .int .i64 c, .int .i64 i, .int .i64 e, lv, dv] 89 (0, 0)) := by rw [hb2.block E (by omega), hw1, hE]; exact heap_alloc_new w _
  have hg2 : w2.heap[g]? = some (.cells (poRow ⟨pm, pn, pp, pi, po, ps, pk, pt, pa, pl⟩ lm ov) 153 (0, 0)) := (hb.block g (by omega)).trans h0
  have m1 : w2.cell? ⟨E, 1, none⟩ = some (.int .i64 fr) := by simp [World.cell?, hm2]
  have m0 : w2.cell? ⟨E, 0, none⟩ = some (.int .i64 k) := by simp [World.cell?, hm2]
  have m3 : w2.cell? ⟨E, 3, none⟩ = some (.int .i64 sh) := by simp [World.cell?, hm2]
  have m4 : w2.cell? ⟨E, 4, none⟩ = some (.int .i64 v) := by simp [World.cell?, hm2]
  have m8 : w2.cell? ⟨E, 8, none⟩ = some (.int .i64 i) := by simp [World.cell?, hm2]
  have m9 : w2.cell? ⟨E, 9, none⟩ = some (.int .i64 e) := by simp [World.cell?, hm2]
  have m11 : w2.cell? ⟨E, 11, none⟩ = some (dv) := by simp [World.cell?, hm2]
  have y1 : w2.cell? ⟨g, 1, none⟩ = some (.int .i64 pn) := by simp [World.cell?, hg2, poRow]
  have y2 : w2.cell? ⟨g, 2, none⟩ = some (.int .i64 pp) := by simp [World.cell?, hg2, poRow]
  have y3 : w2.cell? ⟨g, 3, none⟩ = some (.int .i64 pi) := by simp [World.cell?, hg2, poRow]
  have y4 : w2.cell? ⟨g, 4, none⟩ = some (.bool po) := by simp [World.cell?, hg2, poRow]
  have y5 : w2.cell? ⟨g, 5, none⟩ = some (.int .i64 ps) := by simp [World.cell?, hg2, poRow]
  have y15 : w2.cell? ⟨g, 15, none⟩ = some (.int .i64 pt) := by simp [World.cell?, hg2, poRow]
  have y16 : w2.cell? ⟨g, 16, none⟩ = some (.int .i64 pa) := by simp [World.cell?, hg2, poRow]
  have y17 : w2.cell? ⟨g, 17, none⟩ = some (.map (some lm)) := by simp [World.cell?, hg2, poRow]
  have fg : ∀ o, w2.frozen? ⟨g, o, none⟩ = false := fun o => by simp [World.frozen?, hg2]
  have Hg2 := Lib.hid hg2
  have Hfg := Lib.hid fg
  have Hri := Lib.hid hri
  have Hne := Lib.hid hne
  have Hgz := Lib.hid hgz
  have Hlz := Lib.hid hlz
  clear hm2 hg2 fg hri hne h0 hgz hlz
  have Hw1 := Lib.hid hw1.symm
  have Hw2 := Lib.hid hw2.symm
  have HE := Lib.hid hE
  have Hz1 := Lib.hid hz1
  have Hh2 := Lib.hid hh2
  have Hb := Lib.hid hb
  clear hw1 hw2 hE hz1 hh2 hb hb1 hb2
  obtain ⟨rfl, hk⟩ := hm
  have hk2 : (k != 7) = true := by simpa using hk
  clear hk
  rw [← HE.out]
  go_enter Try.func49, Try.ntmps49
  go_upto_region 1 with fail
  rw [Hw1.out, Hw2.out, ← HE.out]
  clear Hw1 Hw2
  go_wp2_with fail
  go_quiet (fail)
  have hs8 : (Try.prog.info? 41).map (·.size) = some (#[.int .i64 0, .slice none 0 0, .int .i64 0, .int .i64 0, .int .i64 0, .int .i64 0, .bool false, .int .i64 0] : Array Value).size := size_answer
  have hall : (#[.int .i64 0, .slice none 0 0, .int .i64 0, .int .i64 0, .int .i64 0, .int .i64 0, .bool false, .int .i64 0] : Array Value).all (·.oneCell') = true := by simp [Value.oneCell']
  have hhd : ∀ n1 : Nat, (w2.drewN n1).heap[E + 1]? = some (.cells #[.int .i64 0, .slice none 0 0, .int .i64 0, .int .i64 0, .int .i64 0, .int .i64 0, .bool false, .int .i64 0] 41 (0, 0)) := fun _ => Hh2.out
  have hfin : ∀ n1 : Nat, Below E w ((w2.drewN n1).setRow (E + 1) #[.int .i64 0, .slice none 0 0, .int .i64 0, .int .i64 0, .int .i64 0, .int .i64 0, .bool false, .int .i64 0]) := fun n1 => (Hb.out.trans (⟨rfl, rfl, rfl, Nat.le_refl _, fun _ _ => rfl⟩ : Below E w2  (w2.drewN n1))).trans (setRow_below (w := (w2.drewN n1)) #[.int .i64 0, .slice none 0 0, .int .i64 0, .int .i64 0, .int .i64 0, .int .i64 0, .bool false, .int .i64 0] (by have := Hb.out.size; have := HE.out; show E ≤ w2.heap.size; omega) (Nat.le_succ _))
  have Hhd := Lib.hid hhd
  have Hfin := Lib.hid hfin
  clear hhd hfin
  go_wp2_with (refine wpList_storeRow rfl _ _ _ rfl (E + 1) rfl _ _ rfl _ (Hhd.out _) hs8 rfl hall ?_)
  refine bodyPost_ret (v := .tuple #[.agg ans0, .bool false]) (results_cell2 Try.results49 _ _ (E + 1) 41 _ (0, 0) _ rfl (setRow_at (Hhd.out _)) Try.underlying41 rfl hs8) rfl ?_
  exact ⟨rfl, Hfin.out _⟩

set_option maxRecDepth 4096 in
set_option maxHeartbeats 3200000 in
theorem po_In_m3 {g lm : Nat} {ov : Value} {P : Po} (m : Ms) (w : World) (h : PoA w g lm ov P) (hm : P.opn = true ∧ m.kind = 7 ∧ m.id ≠ P.id) : Calls Try.prog 49 #[.pointer (some ⟨g, 0, none⟩), .agg m.row] w (MissPost w.heap.size w) := by
  obtain ⟨k, fr, t, sh, v, no, a, c, i, e, lv, dv⟩ := m
  have hgz := h.lt
  have hlz := h.map.lt
  have h0 := h.row
  have hne := h.ne
  have hri := h.right
  have H := Lib.hid h
  clear h
  obtain ⟨pm, pn, pp, pi, po, ps, pk, pt, pa, pl⟩ := P
  unfold Ms.row
  dsimp only at hm ⊢
  obtain ⟨E, hE⟩ : ∃ E, E = w.heap.size := ⟨_, rfl⟩
  obtain ⟨w1, hw1⟩ : ∃ x, x = w.alloc (.cells #[.int .i64 k, .int .i64 fr, .int .i64 t, .int .i64 sh, .int .i64 v, .int .i64 no, .int .i64 a, .int .i64 c, .int .i64 i, .int .i64 e, lv, dv] 89) := ⟨_, rfl⟩
  obtain ⟨w2, hw2⟩ : ∃ x, x = w1.alloc (.cells #[.int .i64 0, .slice none 0 0, .int .i64 0, .int .i64 0, .int .i64 0, .int .i64 0, .bool false, .int .i64 0] 41) := ⟨_, rfl⟩
  have hz1 : w1.heap.size = E + 1 := by rw [hw1, hE]; simp
  have hb1 : Below w.heap.size w w1 := by rw [hw1]; exact alloc_below _ _
  have hb2 : Below w1.heap.size w1 w2 := by rw [hw2]; exact alloc_below _ _
  have hh2 : w2.heap[E + 1]? = some (.cells #[.int .i64 0, .slice none 0 0, .int .i64 0, .int .i64 0, .int .i64 0, .int .i64 0, .bool false, .int .i64 0] 41 (0, 0)) := by rw [hw2, ← hz1]; exact heap_alloc_new w1 _
  have hb : Below E w w2 := by rw [hE]; exact hb1.trans (hb2.mono hb1.size)
  have hm2 : w2.heap[E]? = some (.cells #[.int .i64 k, .int .i64 fr, .int .i64 t, .int .i64 sh, .int .i64 v, .int .i64 no, .int .i64 a, .int .i64 c, .int .i64 i, .int .i64 e, lv, dv] 89 (0, 0)) := by rw [hb2.block E (by omega), hw1, hE]; exact heap_alloc_new w _
  have hg2 : w2.heap[g]? = some (.cells (poRow ⟨pm, pn, pp, pi, po, ps, pk, pt, pa, pl⟩ lm ov) 153 (0, 0)) := (hb.block g (by omega)).trans h0
  have m1 : w2.cell? ⟨E, 1, none⟩ = some (.int .i64 fr) := by simp [World.cell?, hm2]
  have m0 : w2.cell? ⟨E, 0, none⟩ = some (.int .i64 k) := by simp [World.cell?, hm2]
  have m3 : w2.cell? ⟨E, 3, none⟩ = some (.int .i64 sh) := by simp [World.cell?, hm2]
  have m4 : w2.cell? ⟨E, 4, none⟩ = some (.int .i64 v) := by simp [World.cell?, hm2]
  have m8 : w2.cell? ⟨E, 8, none⟩ = some (.int .i64 i) := by simp [World.cell?, hm2]
  have m9 : w2.cell? ⟨E, 9, none⟩ = some (.int .i64 e) := by simp [World.cell?, hm2]
  have m11 : w2.cell? ⟨E, 11, none⟩ = some (dv) := by simp [World.cell?, hm2]
  have y1 : w2.cell? ⟨g, 1, none⟩ = some (.int .i64 pn) := by simp [World.cell?, hg2, poRow]
  have y2 : w2.cell? ⟨g, 2, none⟩ = some (.int .i64 pp) := by simp [World.cell?, hg2, poRow]
  have y3 : w2.cell? ⟨g, 3, none⟩ = some (.int .i64 pi) := by simp [World.cell?, hg2, poRow]
  have y4 : w2.cell? ⟨g, 4, none⟩ = some (.bool po) := by simp [World.cell?, hg2, poRow]
  have y5 : w2.cell? ⟨g, 5, none⟩ = some (.int .i64 ps) := by simp [World.cell?, hg2, poRow]
  have y15 : w2.cell? ⟨g, 15, none⟩ = some (.int .i64 pt) := by simp [World.cell?, hg2, poRow]
  have y16 : w2.cell? ⟨g, 16, none⟩ = some (.int .i64 pa) := by simp [World.cell?, hg2, poRow]
  have y17 : w2.cell? ⟨g, 17, none⟩ = some (.map (some lm)) := by simp [World.cell?, hg2, poRow]
  have fg : ∀ o, w2.frozen? ⟨g, o, none⟩ = false := fun o => by simp [World.frozen?, hg2]
  have Hg2 := Lib.hid hg2
  have Hfg := Lib.hid fg
  have Hri := Lib.hid hri
  have Hne := Lib.hid hne
  have Hgz := Lib.hid hgz
  have Hlz := Lib.hid hlz
  clear hm2 hg2 fg hri hne h0 hgz hlz
  have Hw1 := Lib.hid hw1.symm
  have Hw2 := Lib.hid hw2.symm
  have HE := Lib.hid hE
  have Hz1 := Lib.hid hz1
  have Hh2 := Lib.hid hh2
  have Hb := Lib.hid hb
  clear hw1 hw2 hE hz1 hh2 hb hb1 hb2
  obtain ⟨rfl, rfl, hk⟩ := hm
  have hk2 : (i == pi) = false := by simpa using hk
  rw [← HE.out]
  go_enter Try.func49, Try.ntmps49
  go_upto_region 1 with fail
  rw [Hw1.out, Hw2.out, ← HE.out]
  clear Hw1 Hw2
  go_wp2_with fail
  go_quiet (fail)
  have hs8 : (Try.prog.info? 41).map (·.size) = some (#[.int .i64 0, .slice none 0 0, .int .i64 0, .int .i64 0, .int .i64 0, .int .i64 0, .bool false, .int .i64 0] : Array Value).size := size_answer
  have hall : (#[.int .i64 0, .slice none 0 0, .int .i64 0, .int .i64 0, .int .i64 0, .int .i64 0, .bool false, .int .i64 0] : Array Value).all (·.oneCell') = true := by simp [Value.oneCell']
  have hhd : ∀ n1 : Nat, (w2.drewN n1).heap[E + 1]? = some (.cells #[.int .i64 0, .slice none 0 0, .int .i64 0, .int .i64 0, .int .i64 0, .int .i64 0, .bool false, .int .i64 0] 41 (0, 0)) := fun _ => Hh2.out
  have hfin : ∀ n1 : Nat, Below E w ((w2.drewN n1).setRow (E + 1) #[.int .i64 0, .slice none 0 0, .int .i64 0, .int .i64 0, .int .i64 0, .int .i64 0, .bool false, .int .i64 0]) := fun n1 => (Hb.out.trans (⟨rfl, rfl, rfl, Nat.le_refl _, fun _ _ => rfl⟩ : Below E w2  (w2.drewN n1))).trans (setRow_below (w := (w2.drewN n1)) #[.int .i64 0, .slice none 0 0, .int .i64 0, .int .i64 0, .int .i64 0, .int .i64 0, .bool false, .int .i64 0] (by have := Hb.out.size; have := HE.out; show E ≤ w2.heap.size; omega) (Nat.le_succ _))
  have Hhd := Lib.hid hhd
  have Hfin := Lib.hid hfin
  clear hhd hfin
  go_wp2_with (refine wpList_storeRow rfl _ _ _ rfl (E + 1) rfl _ _ rfl _ (Hhd.out _) hs8 rfl hall ?_)
  refine bodyPost_ret (v := .tuple #[.agg ans0, .bool false]) (results_cell2 Try.results49 _ _ (E + 1) 41 _ (0, 0) _ rfl (setRow_at (Hhd.out _)) Try.underlying41 rfl hs8) rfl ?_
  exact ⟨rfl, Hfin.out _⟩

set_option maxRecDepth 4096 in
set_option maxHeartbeats 3200000 in
theorem po_In_m4 {g lm : Nat} {ov : Value} {P : Po} (m : Ms) (w : World) (h : PoA w g lm ov P) (hm : P.opn = true ∧ m.kind = 7 ∧ m.id = P.id ∧ m.sh ≠ P.sh) : Calls Try.prog 49 #[.pointer (some ⟨g, 0, none⟩), .agg m.row] w (MissPost w.heap.size w) := by
  obtain ⟨k, fr, t, sh, v, no, a, c, i, e, lv, dv⟩ := m
  have hgz := h.lt
  have hlz := h.map.lt
  have h0 := h.row
  have hne := h.ne
  have hri := h.right
  have H := Lib.hid h
  clear h
  obtain ⟨pm, pn, pp, pi, po, ps, pk, pt, pa, pl⟩ := P
  unfold Ms.row
  dsimp only at hm ⊢
  obtain ⟨E, hE⟩ : ∃ E, E = w.heap.size := ⟨_, rfl⟩
  obtain ⟨w1, hw1⟩ : ∃ x, x = w.alloc (.cells #[.int .i64 k, .int .i64 fr, .int .i64 t, .int .i64 sh, .int .i64 v, .int .i64 no, .int .i64 a, .int .i64 c, .int .i64 i, .int .i64 e, lv, dv] 89) := ⟨_, rfl⟩
  obtain ⟨w2, hw2⟩ : ∃ x, x = w1.alloc (.cells #[.int .i64 0, .slice none 0 0, .int .i64 0, .int .i64 0, .int .i64 0, .int .i64 0, .bool false, .int .i64 0] 41) := ⟨_, rfl⟩
  have hz1 : w1.heap.size = E + 1 := by rw [hw1, hE]; simp
  have hb1 : Below w.heap.size w w1 := by rw [hw1]; exact alloc_below _ _
  have hb2 : Below w1.heap.size w1 w2 := by rw [hw2]; exact alloc_below _ _
  have hh2 : w2.heap[E + 1]? = some (.cells #[.int .i64 0, .slice none 0 0, .int .i64 0, .int .i64 0, .int .i64 0, .int .i64 0, .bool false, .int .i64 0] 41 (0, 0)) := by rw [hw2, ← hz1]; exact heap_alloc_new w1 _
  have hb : Below E w w2 := by rw [hE]; exact hb1.trans (hb2.mono hb1.size)
  have hm2 : w2.heap[E]? = some (.cells #[.int .i64 k, .int .i64 fr, .int .i64 t, .int .i64 sh, .int .i64 v, .int .i64 no, .int .i64 a, .int .i64 c, .int .i64 i, .int .i64 e, lv, dv] 89 (0, 0)) := by rw [hb2.block E (by omega), hw1, hE]; exact heap_alloc_new w _
  have hg2 : w2.heap[g]? = some (.cells (poRow ⟨pm, pn, pp, pi, po, ps, pk, pt, pa, pl⟩ lm ov) 153 (0, 0)) := (hb.block g (by omega)).trans h0
  have m1 : w2.cell? ⟨E, 1, none⟩ = some (.int .i64 fr) := by simp [World.cell?, hm2]
  have m0 : w2.cell? ⟨E, 0, none⟩ = some (.int .i64 k) := by simp [World.cell?, hm2]
  have m3 : w2.cell? ⟨E, 3, none⟩ = some (.int .i64 sh) := by simp [World.cell?, hm2]
  have m4 : w2.cell? ⟨E, 4, none⟩ = some (.int .i64 v) := by simp [World.cell?, hm2]
  have m8 : w2.cell? ⟨E, 8, none⟩ = some (.int .i64 i) := by simp [World.cell?, hm2]
  have m9 : w2.cell? ⟨E, 9, none⟩ = some (.int .i64 e) := by simp [World.cell?, hm2]
  have m11 : w2.cell? ⟨E, 11, none⟩ = some (dv) := by simp [World.cell?, hm2]
  have y1 : w2.cell? ⟨g, 1, none⟩ = some (.int .i64 pn) := by simp [World.cell?, hg2, poRow]
  have y2 : w2.cell? ⟨g, 2, none⟩ = some (.int .i64 pp) := by simp [World.cell?, hg2, poRow]
  have y3 : w2.cell? ⟨g, 3, none⟩ = some (.int .i64 pi) := by simp [World.cell?, hg2, poRow]
  have y4 : w2.cell? ⟨g, 4, none⟩ = some (.bool po) := by simp [World.cell?, hg2, poRow]
  have y5 : w2.cell? ⟨g, 5, none⟩ = some (.int .i64 ps) := by simp [World.cell?, hg2, poRow]
  have y15 : w2.cell? ⟨g, 15, none⟩ = some (.int .i64 pt) := by simp [World.cell?, hg2, poRow]
  have y16 : w2.cell? ⟨g, 16, none⟩ = some (.int .i64 pa) := by simp [World.cell?, hg2, poRow]
  have y17 : w2.cell? ⟨g, 17, none⟩ = some (.map (some lm)) := by simp [World.cell?, hg2, poRow]
  have fg : ∀ o, w2.frozen? ⟨g, o, none⟩ = false := fun o => by simp [World.frozen?, hg2]
  have Hg2 := Lib.hid hg2
  have Hfg := Lib.hid fg
  have Hri := Lib.hid hri
  have Hne := Lib.hid hne
  have Hgz := Lib.hid hgz
  have Hlz := Lib.hid hlz
  clear hm2 hg2 fg hri hne h0 hgz hlz
  have Hw1 := Lib.hid hw1.symm
  have Hw2 := Lib.hid hw2.symm
  have HE := Lib.hid hE
  have Hz1 := Lib.hid hz1
  have Hh2 := Lib.hid hh2
  have Hb := Lib.hid hb
  clear hw1 hw2 hE hz1 hh2 hb hb1 hb2
  obtain ⟨rfl, rfl, rfl, hk⟩ := hm
  have hk2 : (sh == ps) = false := by simpa using hk
  rw [← HE.out]
  go_enter Try.func49, Try.ntmps49
  go_upto_region 1 with fail
  rw [Hw1.out, Hw2.out, ← HE.out]
  clear Hw1 Hw2
  go_wp2_with fail
  go_quiet (fail)
  have hs8 : (Try.prog.info? 41).map (·.size) = some (#[.int .i64 0, .slice none 0 0, .int .i64 0, .int .i64 0, .int .i64 0, .int .i64 0, .bool false, .int .i64 0] : Array Value).size := size_answer
  have hall : (#[.int .i64 0, .slice none 0 0, .int .i64 0, .int .i64 0, .int .i64 0, .int .i64 0, .bool false, .int .i64 0] : Array Value).all (·.oneCell') = true := by simp [Value.oneCell']
  have hhd : ∀ n1 : Nat, (w2.drewN n1).heap[E + 1]? = some (.cells #[.int .i64 0, .slice none 0 0, .int .i64 0, .int .i64 0, .int .i64 0, .int .i64 0, .bool false, .int .i64 0] 41 (0, 0)) := fun _ => Hh2.out
  have hfin : ∀ n1 : Nat, Below E w ((w2.drewN n1).setRow (E + 1) #[.int .i64 0, .slice none 0 0, .int .i64 0, .int .i64 0, .int .i64 0, .int .i64 0, .bool false, .int .i64 0]) := fun n1 => (Hb.out.trans (⟨rfl, rfl, rfl, Nat.le_refl _, fun _ _ => rfl⟩ : Below E w2  (w2.drewN n1))).trans (setRow_below (w := (w2.drewN n1)) #[.int .i64 0, .slice none 0 0, .int .i64 0, .int .i64 0, .int .i64 0, .int .i64 0, .bool false, .int .i64 0] (by have := Hb.out.size; have := HE.out; show E ≤ w2.heap.size; omega) (Nat.le_succ _))
  have Hhd := Lib.hid hhd
  have Hfin := Lib.hid hfin
  clear hhd hfin
  go_wp2_with (refine wpList_storeRow rfl _ _ _ rfl (E + 1) rfl _ _ rfl _ (Hhd.out _) hs8 rfl hall ?_)
  refine bodyPost_ret (v := .tuple #[.agg ans0, .bool false]) (results_cell2 Try.results49 _ _ (E + 1) 41 _ (0, 0) _ rfl (setRow_at (Hhd.out _)) Try.underlying41 rfl hs8) rfl ?_
  exact ⟨rfl, Hfin.out _⟩

set_option maxRecDepth 4096 in
set_option maxHeartbeats 3200000 in
theorem po_In_m5 {g lm : Nat} {ov : Value} {P : Po} (m : Ms) (w : World) (h : PoA w g lm ov P) (hm : P.opn = true ∧ m.kind = 7 ∧ m.id = P.id ∧ m.sh = P.sh ∧ m.err ≠ 0 ∧ m.frm ≠ P.to_) : Calls Try.prog 49 #[.pointer (some ⟨g, 0, none⟩), .agg m.row] w (MissPost w.heap.size w) := by
  obtain ⟨k, fr, t, sh, v, no, a, c, i, e, lv, dv⟩ := m
  have hgz := h.lt
  have hlz := h.map.lt
  have h0 := h.row
  have hne := h.ne
  have hri := h.right
  have H := Lib.hid h
  clear h
  obtain ⟨pm, pn, pp, pi, po, ps, pk, pt, pa, pl⟩ := P
  unfold Ms.row
  dsimp only at hm ⊢
  obtain ⟨E, hE⟩ : ∃ E, E = w.heap.size := ⟨_, rfl⟩
  obtain ⟨w1, hw1⟩ : ∃ x, x = w.alloc (.cells #[.int .i64 k, .int .i64 fr, .int .i64 t, .int .i64 sh, .int .i64 v, .int .i64 no, .int .i64 a, .int .i64 c, .int .i64 i, .int .i64 e, lv, dv] 89) := ⟨_, rfl⟩
  obtain ⟨w2, hw2⟩ : ∃ x, x = w1.alloc (.cells #[.int .i64 0, .slice none 0 0, .int .i64 0, .int .i64 0, .int .i64 0, .int .i64 0, .bool false, .int .i64 0] 41) := ⟨_, rfl⟩
  have hz1 : w1.heap.size = E + 1 := by rw [hw1, hE]; simp
  have hb1 : Below w.heap.size w w1 := by rw [hw1]; exact alloc_below _ _
  have hb2 : Below w1.heap.size w1 w2 := by rw [hw2]; exact alloc_below _ _
  have hh2 : w2.heap[E + 1]? = some (.cells #[.int .i64 0, .slice none 0 0, .int .i64 0, .int .i64 0, .int .i64 0, .int .i64 0, .bool false, .int .i64 0] 41 (0, 0)) := by rw [hw2, ← hz1]; exact heap_alloc_new w1 _
  have hb : Below E w w2 := by rw [hE]; exact hb1.trans (hb2.mono hb1.size)
  have hm2 : w2.heap[E]? = some (.cells #[.int .i64 k, .int .i64 fr, .int .i64 t, .int .i64 sh, .int .i64 v, .int .i64 no, .int .i64 a, .int .i64 c, .int .i64 i, .int .i64 e, lv, dv] 89 (0, 0)) := by rw [hb2.block E (by omega), hw1, hE]; exact heap_alloc_new w _
  have hg2 : w2.heap[g]? = some (.cells (poRow ⟨pm, pn, pp, pi, po, ps, pk, pt, pa, pl⟩ lm ov) 153 (0, 0)) := (hb.block g (by omega)).trans h0
  have m1 : w2.cell? ⟨E, 1, none⟩ = some (.int .i64 fr) := by simp [World.cell?, hm2]
  have m0 : w2.cell? ⟨E, 0, none⟩ = some (.int .i64 k) := by simp [World.cell?, hm2]
  have m3 : w2.cell? ⟨E, 3, none⟩ = some (.int .i64 sh) := by simp [World.cell?, hm2]
  have m4 : w2.cell? ⟨E, 4, none⟩ = some (.int .i64 v) := by simp [World.cell?, hm2]
  have m8 : w2.cell? ⟨E, 8, none⟩ = some (.int .i64 i) := by simp [World.cell?, hm2]
  have m9 : w2.cell? ⟨E, 9, none⟩ = some (.int .i64 e) := by simp [World.cell?, hm2]
  have m11 : w2.cell? ⟨E, 11, none⟩ = some (dv) := by simp [World.cell?, hm2]
  have y1 : w2.cell? ⟨g, 1, none⟩ = some (.int .i64 pn) := by simp [World.cell?, hg2, poRow]
  have y2 : w2.cell? ⟨g, 2, none⟩ = some (.int .i64 pp) := by simp [World.cell?, hg2, poRow]
  have y3 : w2.cell? ⟨g, 3, none⟩ = some (.int .i64 pi) := by simp [World.cell?, hg2, poRow]
  have y4 : w2.cell? ⟨g, 4, none⟩ = some (.bool po) := by simp [World.cell?, hg2, poRow]
  have y5 : w2.cell? ⟨g, 5, none⟩ = some (.int .i64 ps) := by simp [World.cell?, hg2, poRow]
  have y15 : w2.cell? ⟨g, 15, none⟩ = some (.int .i64 pt) := by simp [World.cell?, hg2, poRow]
  have y16 : w2.cell? ⟨g, 16, none⟩ = some (.int .i64 pa) := by simp [World.cell?, hg2, poRow]
  have y17 : w2.cell? ⟨g, 17, none⟩ = some (.map (some lm)) := by simp [World.cell?, hg2, poRow]
  have fg : ∀ o, w2.frozen? ⟨g, o, none⟩ = false := fun o => by simp [World.frozen?, hg2]
  have Hg2 := Lib.hid hg2
  have Hfg := Lib.hid fg
  have Hri := Lib.hid hri
  have Hne := Lib.hid hne
  have Hgz := Lib.hid hgz
  have Hlz := Lib.hid hlz
  clear hm2 hg2 fg hri hne h0 hgz hlz
  have Hw1 := Lib.hid hw1.symm
  have Hw2 := Lib.hid hw2.symm
  have HE := Lib.hid hE
  have Hz1 := Lib.hid hz1
  have Hh2 := Lib.hid hh2
  have Hb := Lib.hid hb
  clear hw1 hw2 hE hz1 hh2 hb hb1 hb2
  obtain ⟨rfl, rfl, rfl, rfl, he, hk⟩ := hm
  have hk2 : (fr == pt) = false := by simpa using hk
  have he2 : (e == 0) = false := by simpa using he
  rw [← HE.out]
  go_enter Try.func49, Try.ntmps49
  go_upto_region 1 with fail
  rw [Hw1.out, Hw2.out, ← HE.out]
  clear Hw1 Hw2
  go_wp2_with fail
  go_quiet (fail)
  go_wp2_with fail
  go_quiet (fail)
  have hs8 : (Try.prog.info? 41).map (·.size) = some (#[.int .i64 0, .slice none 0 0, .int .i64 0, .int .i64 0, .int .i64 0, .int .i64 0, .bool false, .int .i64 0] : Array Value).size := size_answer
  have hall : (#[.int .i64 0, .slice none 0 0, .int .i64 0, .int .i64 0, .int .i64 0, .int .i64 0, .bool false, .int .i64 0] : Array Value).all (·.oneCell') = true := by simp [Value.oneCell']
  have hhd : ∀ n1 : Nat, (w2.drewN n1).heap[E + 1]? = some (.cells #[.int .i64 0, .slice none 0 0, .int .i64 0, .int .i64 0, .int .i64 0, .int .i64 0, .bool false, .int .i64 0] 41 (0, 0)) := fun _ => Hh2.out
  have hfin : ∀ n1 : Nat, Below E w ((w2.drewN n1).setRow (E + 1) #[.int .i64 0, .slice none 0 0, .int .i64 0, .int .i64 0, .int .i64 0, .int .i64 0, .bool false, .int .i64 0]) := fun n1 => (Hb.out.trans (⟨rfl, rfl, rfl, Nat.le_refl _, fun _ _ => rfl⟩ : Below E w2  (w2.drewN n1))).trans (setRow_below (w := (w2.drewN n1)) #[.int .i64 0, .slice none 0 0, .int .i64 0, .int .i64 0, .int .i64 0, .int .i64 0, .bool false, .int .i64 0] (by have := Hb.out.size; have := HE.out; show E ≤ w2.heap.size; omega) (Nat.le_succ _))
  have Hhd := Lib.hid hhd
  have Hfin := Lib.hid hfin
  clear hhd hfin
  go_wp2_with (refine wpList_storeRow rfl _ _ _ rfl (E + 1) rfl _ _ rfl _ (Hhd.out _) hs8 rfl hall ?_)
  refine bodyPost_ret (v := .tuple #[.agg ans0, .bool false]) (results_cell2 Try.results49 _ _ (E + 1) 41 _ (0, 0) _ rfl (setRow_at (Hhd.out _)) Try.underlying41 rfl hs8) rfl ?_
  exact ⟨rfl, Hfin.out _⟩
end Go.Proofs.Ytmmgnbdngpkfcaa

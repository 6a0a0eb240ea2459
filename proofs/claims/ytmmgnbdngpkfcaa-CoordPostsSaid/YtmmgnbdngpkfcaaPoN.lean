
/-
  A post takes a message: another one leads; or it is the answer.
-/
import Derived.Test.YtmmgnbdngpkfcaaPoL
namespace Go.Proofs.Ytmmgnbdngpkfcaa
open Go.RowKit
set_option linter.unusedVariables false

theorem PoA.st15 {g lm : Nat} {ov : Value} {P : Po} {w : World} (h : PoA w g lm ov P) (v : Int) (hv : 0 ≤ v ∧ v ≤ 100) : PoA (w.setCell ⟨g, 15, none⟩ (.int .i64 v)) g lm ov { P with to_ := v } ∧ Only (· = g) w (w.setCell ⟨g, 15, none⟩ (.int .i64 v)) := by
  have ho : Only (· = g) w (w.setCell ⟨g, 15, none⟩ (.int .i64 v)) := (Only.refl (· = g) w).setCell (p := ⟨g, 15, none⟩) (.inl rfl) _
  obtain ⟨r1, r2, r3, r4, r5, r6, r7, r8⟩ := h.right
  exact ⟨h.set ho (heap_set h.row 15 (.int .i64 v)) rfl ⟨r1, r2, r3, r4, r5, r6, hv, r8⟩ h.ov1, ho⟩
theorem PoA.st16 {g lm : Nat} {ov : Value} {P : Po} {w : World} (h : PoA w g lm ov P) (v : Int) (hv : 0 ≤ v ∧ v ≤ 100) : PoA (w.setCell ⟨g, 16, none⟩ (.int .i64 v)) g lm ov { P with age := v } ∧ Only (· = g) w (w.setCell ⟨g, 16, none⟩ (.int .i64 v)) := by
  have ho : Only (· = g) w (w.setCell ⟨g, 16, none⟩ (.int .i64 v)) := (Only.refl (· = g) w).setCell (p := ⟨g, 16, none⟩) (.inl rfl) _
  obtain ⟨r1, r2, r3, r4, r5, r6, r7, r8⟩ := h.right
  exact ⟨h.set ho (heap_set h.row 16 (.int .i64 v)) rfl ⟨r1, r2, r3, r4, r5, r6, r7, hv⟩ h.ov1, ho⟩
theorem PoA.st4 {g lm : Nat} {ov : Value} {P : Po} {w : World} (h : PoA w g lm ov P) (v : Bool) : PoA (w.setCell ⟨g, 4, none⟩ (.bool v)) g lm ov { P with opn := v } ∧ Only (· = g) w (w.setCell ⟨g, 4, none⟩ (.bool v)) := by
  have ho : Only (· = g) w (w.setCell ⟨g, 4, none⟩ (.bool v)) := (Only.refl (· = g) w).setCell (p := ⟨g, 4, none⟩) (.inl rfl) _
  obtain ⟨r1, r2, r3, r4, r5, r6, r7, r8⟩ := h.right
  exact ⟨h.set ho (heap_set h.row 4 (.bool v)) rfl ⟨r1, r2, r3, r4, r5, r6, r7, r8⟩ h.ov1, ho⟩

set_option maxRecDepth 4096 in
set_option maxHeartbeats 3200000 in
theorem po_In_view {g lm : Nat} {ov : Value} {P : Po} (m : Ms) (w : World) (h : PoA w g lm ov P) (hm : P.opn = true ∧ m.kind = 7 ∧ m.id = P.id ∧ m.sh = P.sh ∧ m.err ≠ 0 ∧ m.frm = 1 ∧ P.to_ = 1 ∧ 2 ≤ m.view ∧ m.view ≤ P.nodes) (hag : max P.age (P.pat - 1) = P.pat - 1 ∨ max P.age (P.pat - 1) = 0) (M : Int) (hM : max P.age (P.pat - 1) = M) :
    Calls Try.prog 49 #[.pointer (some ⟨g, 0, none⟩), .agg m.row] w fun x w' => x = .returned (.tuple #[.agg ans0, .bool false]) ∧ PoA w' g lm ov { P with to_ := m.view - 1, age := M } ∧ Only (· = g) w w' := by
  obtain ⟨k, fr, t, sh, v, no, a, c, i, e, lv, dv⟩ := m
  have hgz := h.lt
  have hlz := h.map.lt
  have h0 := h.row
  have hne := h.ne
  have hri := h.right
  have H := Lib.hid h
  have hMr : 0 ≤ M ∧ M ≤ 100 := by obtain ⟨q1, q2⟩ := h.right.pat; obtain ⟨q3, q4⟩ := h.right.age; omega
  clear h
  obtain ⟨pm, pn, pp, pi, po, ps, pk, pt, pa, pl⟩ := P
  unfold Ms.row
  dsimp only at hm hag hM ⊢
  obtain ⟨E, hE⟩ : ∃ E, E = w.heap.size := ⟨_, rfl⟩
  obtain ⟨w1, hw1⟩ : ∃ x, x = w.alloc (.cells #[.int .i64 k, .int .i64 fr, .int .i64 t, .int .i64 sh, .int .i64 v, .int .i64 no, .int .i64 a, .int .i64 c, .int .i64 i, .int .i64 e, lv, dv] 89) := ⟨_, rfl⟩
  obtain ⟨w2, hw2⟩ : ∃ x, x = w1.alloc (.cells #[.int .i64 0, .slice none 0 0, .int .i64 0, .int .i64 0, .int .i64 0, .int .i64 0, .bool false, .int .i64 0] 41) := ⟨_, rfl⟩
  have hz1 : w1.heap.size = E + 1 := by rw [hw1, hE]; simp
  have hb1 : Below w.heap.size w w1 := by rw [hw1]; exact alloc_below _ _
  have hb2 : Below w1.heap.size w1 w2 := by rw [hw2]; exact alloc_below _ _
  have hh2 : w2.heap[E + 1]? = some (.cells #[.int .i64 0, .slice none 0 0, .int .i64 0, .int .i64 0, .int .i64 0, .int .i64 0, .bool false, .int .i64 0] 41 (0, 0)) := by rw [hw2, ← hz1]; exact heap_alloc_new w1 _
  have hb : Below E w w2 := by rw [hE]; exact hb1.trans (hb2.mono hb1.size)
  have hm2 : w2.heap[E]? = some (.cells #[.int .i64 k, .int .i64 fr, .int .i64 t, .int .i64 sh, .int .i64 v, .int .i64 no, .int .i64 a, .int .i64 c, .int .i64 i, .int .i64 e, lv, dv] 89 (0, 0)) := by rw [hb2.block E (by omega), hw1, hE]; exact heap_alloc_new w _
  have hg2 : w2.heap[g]? = some (.cells (poRow ⟨pm, pn, pp, pi, po, ps, pk, pt, pa, pl⟩ lm ov) 153 (0, 0)) := (hb.block g (by omega)).trans h0
  have m1 : w2.cell? ⟨E, 1, none⟩ = some (.int .i64 fr) := by simp [World.cell?, hm2]
  have m0 : w2.cell? ⟨E, 0, none⟩ = some (.int .i64 k) := by simp [World.cell?, hm2]
  have m3 : w2.cell? ⟨E, 3, none⟩ = some (.int .i64 sh) := by simp [World.cell?, hm2]
  have m4 : w2.cell? ⟨E, 4, none⟩ = some (.int .i64 v) := by simp [World.cell?, hm2]
  have m8 : w2.cell? ⟨E, 8, none⟩ = some (.int .i64 i) := by simp [World.cell?, hm2]
  have m9 : w2.cell? ⟨E, 9, none⟩ = some (.int .i64 e) := by simp [World.cell?, hm2]
  have m11 : w2.cell? ⟨E, 11, none⟩ = some (dv) := by simp [World.cell?, hm2]
  have y1 : w2.cell? ⟨g, 1, none⟩ = some (.int .i64 pn) := by simp [World.cell?, hg2, poRow]
  have y2 : w2.cell? ⟨g, 2, none⟩ = some (.int .i64 pp) := by simp [World.cell?, hg2, poRow]
  have y3 : w2.cell? ⟨g, 3, none⟩ = some (.int .i64 pi) := by simp [World.cell?, hg2, poRow]
  have y4 : w2.cell? ⟨g, 4, none⟩ = some (.bool po) := by simp [World.cell?, hg2, poRow]
  have y5 : w2.cell? ⟨g, 5, none⟩ = some (.int .i64 ps) := by simp [World.cell?, hg2, poRow]
  have y15 : w2.cell? ⟨g, 15, none⟩ = some (.int .i64 pt) := by simp [World.cell?, hg2, poRow]
  have y16 : w2.cell? ⟨g, 16, none⟩ = some (.int .i64 pa) := by simp [World.cell?, hg2, poRow]
  have y17 : w2.cell? ⟨g, 17, none⟩ = some (.map (some lm)) := by simp [World.cell?, hg2, poRow]
  have fg : ∀ o, w2.frozen? ⟨g, o, none⟩ = false := fun o => by simp [World.frozen?, hg2]
  have Hg2 := Lib.hid hg2
  have Hfg := Lib.hid fg
  have Hri := Lib.hid hri
  have Hne := Lib.hid hne
  have Hgz := Lib.hid hgz
  have Hlz := Lib.hid hlz
  clear hm2 hg2 fg hri hne h0 hgz hlz
  have Hw1 := Lib.hid hw1.symm
  have Hw2 := Lib.hid hw2.symm
  have HE := Lib.hid hE
  have Hz1 := Lib.hid hz1
  have Hh2 := Lib.hid hh2
  have Hb := Lib.hid hb
  clear hw1 hw2 hE hz1 hh2 hb hb1 hb2
  obtain ⟨rfl, rfl, rfl, rfl, he, rfl, rfl, hv1, hv2⟩ := hm
  have he2 : (e != 0) = true := by simpa using he
  have hr1 := Hri.out.nodes
  have hr2 := Hri.out.pat
  have hr8 := Hri.out.age
  dsimp only at hr1 hr2 hr8
  have hPa : PoA w2 g lm ov ⟨pm, pn, pp, i, true, sh, pk, 1, pa, pl⟩ := H.out.only (S := fun k => w.heap.size ≤ k) ⟨Hb.out.os, Hb.out.tape, Hb.out.output, Hb.out.size, fun k hk hn => Hb.out.block k (by have := HE.out; omega)⟩ (by have := Hgz.out; omega) (by have := Hlz.out; omega)
  have hn1 : (1 : Int) % pn = 1 := Int.emod_eq_of_lt (by omega) (by omega)
  have hn3 : (v + pn - 2) % pn = v - 2 := by
    rw [show v + pn - 2 = (v - 2) + pn by omega, Int.add_emod_right]
    exact Int.emod_eq_of_lt (by omega) (by omega)
  have hv4 : (v != 1) = true := by simp; omega
  have hv5 : (1 : Int) ≤ v := by omega
  obtain ⟨g1, q1⟩ := hPa.st15 (1 + 1) (by decide)
  obtain ⟨g2, q2⟩ := g1.st15 v (by omega)
  obtain ⟨g3, q3⟩ := g2.st16 M hMr
  obtain ⟨g4, q4⟩ := g3.st15 (v - 2 + 1) (by omega)
  obtain ⟨w3, hw3⟩ : ∃ x, x = (((w2.setCell ⟨g, 15, none⟩ (.int .i64 (1 + 1))).setCell ⟨g, 15, none⟩ (.int .i64 v)).setCell ⟨g, 16, none⟩ (.int .i64 M)).setCell ⟨g, 15, none⟩ (.int .i64 (v - 2 + 1)) := ⟨_, rfl⟩
  have ho3 : Only (· = g) w2 w3 := by rw [hw3]; exact ((q1.trans q2 fun _ _ h => h).trans q3 fun _ _ h => h).trans q4 fun _ _ h => h
  have hfin : ∀ n1 n2 : Nat, ((((((w2.drewN n1).setCell ⟨g, 15, none⟩ (.int .i64 2)).drewN n2).setCell ⟨g, 15, none⟩ (.int .i64 v)).setCell ⟨g, 16, none⟩ (.int .i64 M)).setCell ⟨g, 15, none⟩ (.int .i64 (v - 2 + 1))).drew.drew.drew.heap[E + 1]? = some (.cells #[.int .i64 0, .slice none 0 0, .int .i64 0, .int .i64 0, .int .i64 0, .int .i64 0, .bool false, .int .i64 0] 41 (0, 0)) ∧ PoA (((((((w2.drewN n1).setCell ⟨g, 15, none⟩ (.int .i64 2)).drewN n2).setCell ⟨g, 15, none⟩ (.int .i64 v)).setCell ⟨g, 16, none⟩ (.int .i64 M)).setCell ⟨g, 15, none⟩ (.int .i64 (v - 2 + 1))).drew.drew.drew.setRow (E + 1) #[.int .i64 0, .slice none 0 0, .int .i64 0, .int .i64 0, .int .i64 0, .int .i64 0, .bool false, .int .i64 0]) g lm ov ⟨pm, pn, pp, i, true, sh, pk, v - 1, M, pl⟩ ∧ Only (· = g) w (((((((w2.drewN n1).setCell ⟨g, 15, none⟩ (.int .i64 2)).drewN n2).setCell ⟨g, 15, none⟩ (.int .i64 v)).setCell ⟨g, 16, none⟩ (.int .i64 M)).setCell ⟨g, 15, none⟩ (.int .i64 (v - 2 + 1))).drew.drew.drew.setRow (E + 1) #[.int .i64 0, .slice none 0 0, .int .i64 0, .int .i64 0, .int .i64 0, .int .i64 0, .bool false, .int .i64 0]) := fun n1 n2 => by
    have hg1 : g ≠ E + 1 := by have := Hgz.out; have := HE.out; omega
    have hl1 : lm ≠ E + 1 := by have := Hlz.out; have := HE.out; omega
    have e1 : ((((((w2.drewN n1).setCell ⟨g, 15, none⟩ (.int .i64 2)).drewN n2).setCell ⟨g, 15, none⟩ (.int .i64 v)).setCell ⟨g, 16, none⟩ (.int .i64 M)).setCell ⟨g, 15, none⟩ (.int .i64 (v - 2 + 1))).drew.drew.drew.heap[E + 1]? = some (.cells #[.int .i64 0, .slice none 0 0, .int .i64 0, .int .i64 0, .int .i64 0, .int .i64 0, .bool false, .int .i64 0] 41 (0, 0)) := by
      have := (ho3.block (E + 1) (Array.getElem?_eq_some_iff.1 Hh2.out).1 (fun e => hg1 e.symm)).trans Hh2.out
      rw [hw3] at this
      exact this
    have o1 : Only (· = g) w2 ((((((w2.drewN n1).setCell ⟨g, 15, none⟩ (.int .i64 2)).drewN n2).setCell ⟨g, 15, none⟩ (.int .i64 v)).setCell ⟨g, 16, none⟩ (.int .i64 M)).setCell ⟨g, 15, none⟩ (.int .i64 (v - 2 + 1))).drew.drew.drew := by
      rw [hw3] at ho3
      exact ⟨ho3.os, ho3.tape, ho3.output, ho3.size, ho3.block⟩
    have p1 : PoA ((((((w2.drewN n1).setCell ⟨g, 15, none⟩ (.int .i64 2)).drewN n2).setCell ⟨g, 15, none⟩ (.int .i64 v)).setCell ⟨g, 16, none⟩ (.int .i64 M)).setCell ⟨g, 15, none⟩ (.int .i64 (v - 2 + 1))).drew.drew.drew g lm ov ⟨pm, pn, pp, i, true, sh, pk, v - 1, M, pl⟩ := by
      have h4 : PoA _ g lm ov ⟨pm, pn, pp, i, true, sh, pk, v - 2 + 1, M, pl⟩ := g4
      rw [show v - 2 + 1 = v - 1 by omega] at h4 ⊢
      exact h4.heapEq rfl
    refine ⟨e1, p1.only (setRow_only _ _ _) hg1 hl1, ?_⟩
    have o2 : Only (· = g) w w2 := by
      have hbb := Hb.out
      exact ⟨hbb.os, hbb.tape, hbb.output, hbb.size, fun k hk _ => hbb.block k (by have := HE.out; omega)⟩
    have o3 := o2.trans o1 fun _ _ h => h
    refine ⟨o3.os, o3.tape, o3.output, by have := o3.size; simpa [World.setRow] using this, fun k hk hn => ?_⟩
    rw [(setRow_only _ (E + 1) _).block k (Nat.lt_of_lt_of_le hk o3.size) (by have := HE.out; omega)]
    exact o3.block k hk hn
  rw [← hw3] at g4
  replace g4 : PoA w3 g lm ov ⟨pm, pn, pp, i, true, sh, pk, v - 2 + 1, M, pl⟩ := g4
  have f15 := Hfg.out 15
  have f16 := Hfg.out 16
  have Hg4 := Lib.hid g4
  have Ho3 := Lib.hid ho3
  have Hfin := Lib.hid hfin
  clear hfin g1 g2 g3 g4 q1 q2 q3 q4 ho3 hw3 hPa he hag
  go_enter Try.func49, Try.ntmps49
  go_upto_region 1 with fail
  rw [Hw1.out, Hw2.out, ← HE.out]
  clear Hw1 Hw2
  go_wp2_with fail
  go_quiet (fail)
  go_wp2_with fail
  go_quiet (fail)
  go_wp2_with fail
  go_region
  go_wp2_with fail
  go_quiet (fail)
  go_wp2_with fail
  go_region
  go_wp2_with fail
  go_region
  go_wp2_with fail
  go_region
  have hs8 : (Try.prog.info? 41).map (·.size) = some (#[.int .i64 0, .slice none 0 0, .int .i64 0, .int .i64 0, .int .i64 0, .int .i64 0, .bool false, .int .i64 0] : Array Value).size := size_answer
  have hall : (#[.int .i64 0, .slice none 0 0, .int .i64 0, .int .i64 0, .int .i64 0, .int .i64 0, .bool false, .int .i64 0] : Array Value).all (·.oneCell') = true := by simp [Value.oneCell']
  go_wp2_with (refine wpList_storeRow rfl _ _ _ rfl (E + 1) rfl _ _ rfl _ (Hfin.out _ _).1 hs8 rfl hall ?_)
  refine bodyPost_ret (v := .tuple #[.agg ans0, .bool false]) (results_cell2 Try.results49 _ _ (E + 1) 41 _ (0, 0) _ rfl (setRow_at (Hfin.out _ _).1) Try.underlying41 rfl hs8) rfl ?_
  exact ⟨rfl, (Hfin.out _ _).2⟩

theorem Po.upd_few {l : Int → Option Int} {k v : Int} (h : ∀ z, (l z).isSome = true → 0 ≤ z ∧ z < 8) (hk : 0 ≤ k ∧ k < 8) : ∀ z, (Co.updI l k v z).isSome = true → 0 ≤ z ∧ z < 8 := fun z hz => by
  unfold Co.updI at hz
  split at hz
  · rename_i e; rw [e]; exact hk
  · exact h z hz
theorem PoA.lead {g lm n : Nat} {ov : Value} {P : Po} {w w' : World} (h : PoA w g lm ov P) (k v : Int) (hk : 0 ≤ k ∧ k < 8) (hm : IMap w' lm n (updM (fun z => (P.lead z).map (.int .i64)) k (some (.int .i64 v)))) (ho : Only (· = lm) w w') : PoA w' g lm ov { P with lead := Co.updI P.lead k v } := by
  have hf : updM (fun z => (P.lead z).map (.int .i64)) k (some (.int .i64 v)) = fun z => (Co.updI P.lead k v z).map (.int .i64) := by
    funext z
    unfold updM Co.updI
    by_cases e : z = k
    · simp [e]
    · simp [e]
  rw [hf] at hm
  have hfew := Po.upd_few (v := v) h.few hk
  obtain ⟨r1, r2, r3, r4, r5, r6, r7, r8⟩ := h.right
  refine ⟨(ho.block g h.lt h.ne).trans h.row, (hm.fit (k := 8) fun z hz => ?_).mono (by decide), hfew, h.ne, ⟨r1, r2, r3, r4, r5, r6, r7, r8⟩, h.ov1⟩
  exact hfew z (by simpa using hz)

set_option maxRecDepth 4096 in
set_option maxHeartbeats 3200000 in
theorem po_In_tell {g lm : Nat} {ov : Value} {P : Po} (m : Ms) (w : World) (A : Co.An) (da : Option Addr) (dn dc : Nat) (h : PoA w g lm ov P) (hm : P.opn = true ∧ m.kind = 7 ∧ m.id = P.id ∧ m.sh = P.sh ∧ m.err = 0 ∧ m.dv = .slice da dn dc) (hf : -9223372036854775808 ≤ m.frm ∧ m.frm ≤ 9223372036854775807) (h8 : P.sh < 8) (hrb : RB w da dn (Bts.pack (ansB A))) (hA : AnR A) (hA7 : ∀ x ∈ A.vals, Bts.i64 x) :
    Calls Try.prog 49 #[.pointer (some ⟨g, 0, none⟩), .agg m.row] w fun x w' => ∃ v, x = .returned (.tuple #[.agg (ansRow A v), .bool true]) ∧ Own EInt 3 w.heap.size w' v A.vals ∧ PoA w' g lm ov { P with opn := false, lead := Co.updI P.lead P.sh m.frm } ∧ Only (fun k => k = g ∨ k = lm) w w' := by
  obtain ⟨k, fr, t, sh, v, no, a, c, i, e, lv, dv⟩ := m
  have hgz := h.lt
  have hlz := h.map.lt
  have h0 := h.row
  have hne := h.ne
  have hri := h.right
  have H := Lib.hid h
  clear h
  obtain ⟨pm, pn, pp, pi, po, ps, pk, pt, pa, pl⟩ := P
  unfold Ms.row
  dsimp only at hm hf h8 ⊢
  obtain ⟨E, hE⟩ : ∃ E, E = w.heap.size := ⟨_, rfl⟩
  obtain ⟨w1, hw1⟩ : ∃ x, x = w.alloc (.cells #[.int .i64 k, .int .i64 fr, .int .i64 t, .int .i64 sh, .int .i64 v, .int .i64 no, .int .i64 a, .int .i64 c, .int .i64 i, .int .i64 e, lv, dv] 89) := ⟨_, rfl⟩
  obtain ⟨w2, hw2⟩ : ∃ x, x = w1.alloc (.cells #[.int .i64 0, .slice none 0 0, .int .i64 0, .int .i64 0, .int .i64 0, .int .i64 0, .bool false, .int .i64 0] 41) := ⟨_, rfl⟩
  have hz1 : w1.heap.size = E + 1 := by rw [hw1, hE]; simp
  have hb1 : Below w.heap.size w w1 := by rw [hw1]; exact alloc_below _ _
  have hb2 : Below w1.heap.size w1 w2 := by rw [hw2]; exact alloc_below _ _
  have hh2 : w2.heap[E + 1]? = some (.cells #[.int .i64 0, .slice none 0 0, .int .i64 0, .int .i64 0, .int .i64 0, .int .i64 0, .bool false, .int .i64 0] 41 (0, 0)) := by rw [hw2, ← hz1]; exact heap_alloc_new w1 _
  have hb : Below E w w2 := by rw [hE]; exact hb1.trans (hb2.mono hb1.size)
  have hm2 : w2.heap[E]? = some (.cells #[.int .i64 k, .int .i64 fr, .int .i64 t, .int .i64 sh, .int .i64 v, .int .i64 no, .int .i64 a, .int .i64 c, .int .i64 i, .int .i64 e, lv, dv] 89 (0, 0)) := by rw [hb2.block E (by omega), hw1, hE]; exact heap_alloc_new w _
  have hg2 : w2.heap[g]? = some (.cells (poRow ⟨pm, pn, pp, pi, po, ps, pk, pt, pa, pl⟩ lm ov) 153 (0, 0)) := (hb.block g (by omega)).trans h0
  have m1 : w2.cell? ⟨E, 1, none⟩ = some (.int .i64 fr) := by simp [World.cell?, hm2]
  have m0 : w2.cell? ⟨E, 0, none⟩ = some (.int .i64 k) := by simp [World.cell?, hm2]
  have m3 : w2.cell? ⟨E, 3, none⟩ = some (.int .i64 sh) := by simp [World.cell?, hm2]
  have m4 : w2.cell? ⟨E, 4, none⟩ = some (.int .i64 v) := by simp [World.cell?, hm2]
  have m8 : w2.cell? ⟨E, 8, none⟩ = some (.int .i64 i) := by simp [World.cell?, hm2]
  have m9 : w2.cell? ⟨E, 9, none⟩ = some (.int .i64 e) := by simp [World.cell?, hm2]
  have m11 : w2.cell? ⟨E, 11, none⟩ = some (dv) := by simp [World.cell?, hm2]
  have y1 : w2.cell? ⟨g, 1, none⟩ = some (.int .i64 pn) := by simp [World.cell?, hg2, poRow]
  have y2 : w2.cell? ⟨g, 2, none⟩ = some (.int .i64 pp) := by simp [World.cell?, hg2, poRow]
  have y3 : w2.cell? ⟨g, 3, none⟩ = some (.int .i64 pi) := by simp [World.cell?, hg2, poRow]
  have y4 : w2.cell? ⟨g, 4, none⟩ = some (.bool po) := by simp [World.cell?, hg2, poRow]
  have y5 : w2.cell? ⟨g, 5, none⟩ = some (.int .i64 ps) := by simp [World.cell?, hg2, poRow]
  have y15 : w2.cell? ⟨g, 15, none⟩ = some (.int .i64 pt) := by simp [World.cell?, hg2, poRow]
  have y16 : w2.cell? ⟨g, 16, none⟩ = some (.int .i64 pa) := by simp [World.cell?, hg2, poRow]
  have y17 : w2.cell? ⟨g, 17, none⟩ = some (.map (some lm)) := by simp [World.cell?, hg2, poRow]
  have fg : ∀ o, w2.frozen? ⟨g, o, none⟩ = false := fun o => by simp [World.frozen?, hg2]
  have Hg2 := Lib.hid hg2
  have Hfg := Lib.hid fg
  have Hri := Lib.hid hri
  have Hne := Lib.hid hne
  have Hgz := Lib.hid hgz
  have Hlz := Lib.hid hlz
  clear hm2 hg2 fg hri hne h0 hgz hlz
  have Hw1 := Lib.hid hw1.symm
  have Hw2 := Lib.hid hw2.symm
  have HE := Lib.hid hE
  have Hz1 := Lib.hid hz1
  have Hh2 := Lib.hid hh2
  have Hb := Lib.hid hb
  clear hw1 hw2 hE hz1 hh2 hb hb1 hb2
  obtain ⟨rfl, rfl, rfl, rfl, rfl, rfl⟩ := hm
  have hsh := Hri.out.sh
  dsimp only at hsh
  have hPa : PoA w2 g lm ov ⟨pm, pn, pp, i, true, sh, pk, pt, pa, pl⟩ := H.out.only (S := fun k => w.heap.size ≤ k) ⟨Hb.out.os, Hb.out.tape, Hb.out.output, Hb.out.size, fun k hk hn => Hb.out.block k (by have := HE.out; omega)⟩ (by have := Hgz.out; omega) (by have := Hlz.out; omega)
  have hz2 : w2.heap.size = E + 1 + 1 := by
    have e1 := Hw2.out
    have e2 := Hz1.out
    rw [← e1]; simp; exact e2
  have hrb2 : ∀ n, RB (w2.drewN n) da dn (Bts.pack (ansB A)) := fun n => by
    have hbb := Hb.out
    have := RB.below hrb (w' := w2) ⟨hbb.os, hbb.tape, hbb.output, hbb.size, fun k hk => hbb.block k (by have := HE.out; omega)⟩
    exact this.drewN n
  have Hrb2 := Lib.hid hrb2
  have HPa := Lib.hid hPa
  have Hz2 := Lib.hid hz2
  have f4 := Hfg.out 4
  clear hrb hrb2 hPa hz2
  go_enter Try.func49, Try.ntmps49
  go_upto_region 1 with fail
  rw [Hw1.out, Hw2.out, ← HE.out]
  clear Hw1 Hw2
  go_wp2_with fail
  go_quiet (fail)
  go_wp2_with fail
  refine (co_ReadAnswer A da dn dc _ (Hrb2.out _) hA hA7).mono ?_
  rintro e w4 ⟨v, rfl, hv, hb4⟩
  obtain ⟨av, vc, rfl, _, _, _, hv'⟩ := hv.shape _ rfl
  obtain ⟨vn, hvn⟩ : ∃ n, n = A.vals.length := ⟨_, rfl⟩
  rw [← hvn] at hv'
  rw [← hvn]
  have Hvn := Lib.hid hvn
  have hb42 : Below (E + 1 + 1) w2 w4 := by
    rw [← Hz2.out]
    exact ⟨hb4.os, hb4.tape, hb4.output, hb4.size, hb4.block⟩
  have Hb42 := Lib.hid hb42
  have Hv := Lib.hid hv'
  clear hv hv' hb4 hb42 hvn
  obtain ⟨Q, hQ⟩ : ∃ Q, Q = w4.heap.size := ⟨_, rfl⟩
  obtain ⟨C, hC⟩ : ∃ C, C = ansRow A (.slice av vn vc) := ⟨_, rfl⟩
  have hCs : (Try.prog.info? 41).map (·.size) = some C.size := by rw [hC]; exact size_answer
  have hC8 : (#[.int .i64 0, .slice none 0 0, .int .i64 0, .int .i64 0, .int .i64 0, .int .i64 0, .bool false, .int .i64 0] : Array Value).size = C.size := by rw [hC]; rfl
  have hCa : C.all (·.oneCell') = true := by rw [hC]; simp [ansRow, Value.oneCell']
  rw [← hC]
  have HC := Lib.hid hC
  have hq5 : (w4.alloc (.cells #[.int .i64 0, .slice none 0 0, .int .i64 0, .int .i64 0, .int .i64 0, .int .i64 0, .bool false, .int .i64 0] 41)).heap[w4.heap.size]? = some (.cells #[.int .i64 0, .slice none 0 0, .int .i64 0, .int .i64 0, .int .i64 0, .int .i64 0, .bool false, .int .i64 0] 41 (0, 0)) := heap_alloc_new w4 _
  obtain ⟨w6, hw6⟩ : ∃ x, x = (w4.alloc (.cells #[.int .i64 0, .slice none 0 0, .int .i64 0, .int .i64 0, .int .i64 0, .int .i64 0, .bool false, .int .i64 0] 41)).setRow w4.heap.size C := ⟨_, rfl⟩
  have hq6 : w6.heap[Q]? = some (.cells C 41 (0, 0)) := by rw [hw6, hQ]; exact setRow_at hq5
  have hz4 : E + 1 + 1 ≤ w4.heap.size := by have := Hb42.out.size; have := Hz2.out; omega
  have hb46 : Below w4.heap.size w4 w6 := by
    rw [hw6]
    exact ((Below.refl _ _).alloc (Nat.le_refl _) _).trans (setRow_below _ (by simp) (Nat.le_refl _))
  have hb26 : Below (E + 1 + 1) w2 w6 := Hb42.out.trans (hb46.mono hz4)
  have hP6 := HPa.out.keep (w' := w6) (by rw [Hz2.out]; exact hb26)
  have hv6 := Hv.out.below hb46
  obtain ⟨hP7, hO7⟩ := hP6.st4 false
  have hfg : ∀ o, w6.frozen? ⟨g, o, none⟩ = false := hP6.fr
  have y4' : w6.cell? ⟨g, 4, none⟩ = some (.bool true) := hP6.cell 4 rfl
  have f4' := hfg 4
  obtain ⟨w7, hw7⟩ : ∃ x, x = w6.setCell ⟨g, 4, none⟩ (.bool false) := ⟨_, rfl⟩
  rw [← hw7] at hP7 hO7
  have y17' : w7.cell? ⟨g, 17, none⟩ = some (.map (some lm)) := hP7.cell 17 rfl
  have y5' : w7.cell? ⟨g, 5, none⟩ = some (.int .i64 sh) := hP7.cell 5 rfl
  have hb27 : Only (fun k => k = g ∨ E + 1 + 1 ≤ k) w2 w7 := (Only.trans (S := fun k => k = g ∨ E + 1 + 1 ≤ k) ⟨hb26.os, hb26.tape, hb26.output, hb26.size, fun k hk hn => hb26.block k (by omega)⟩ hO7 fun _ _ h => .inl h)
  have m1' : w7.cell? ⟨E, 1, none⟩ = some (.int .i64 fr) := cell_stays hb27 (by have := Hgz.out; have := HE.out; omega) m1
  have hh7 : w7.heap[E + 1]? = some (.cells #[.int .i64 0, .slice none 0 0, .int .i64 0, .int .i64 0, .int .i64 0, .int .i64 0, .bool false, .int .i64 0] 41 (0, 0)) := (hb27.block (E + 1) (by have := Hz2.out; omega) (by have := Hgz.out; have := HE.out; omega)).trans Hh2.out
  have hq7 : w7.heap[Q]? = some (.cells C 41 (0, 0)) := (hO7.block Q (Array.getElem?_eq_some_iff.1 hq6).1 (by have := Hgz.out; have := HE.out; omega)).trans hq6
  have hPd := hP7.heapEq (w' := w7.drew) rfl
  obtain ⟨w8, hup, hm8, ho8⟩ := IMap.store hPd.map (t := 129) Try.underlying129 (by unfold maxLen; decide) (k := sh) (by unfold i64ok; omega) (.int .i64 fr)
  have hP8 := hPd.lead sh fr (by omega) hm8 ho8
  have ho78 : Only (· = lm) w7 w8 := ⟨ho8.os, ho8.tape, ho8.output, ho8.size, ho8.block⟩
  have hne1 : E + 1 ≠ lm := by have := Hlz.out; have := HE.out; omega
  have hQlm : Q ≠ lm := by have := Hlz.out; have := HE.out; omega
  have hh8 := (ho78.block (E + 1) (Array.getElem?_eq_some_iff.1 hh7).1 hne1).trans hh7
  have hq8 := (ho78.block Q (Array.getElem?_eq_some_iff.1 hq7).1 hQlm).trans hq7
  have hall : Only (fun k => k = g ∨ k = lm) w w8 := by
    have o2 : Only (fun k => k = g ∨ k = lm) w w2 := ⟨Hb.out.os, Hb.out.tape, Hb.out.output, Hb.out.size, fun k hk _ => Hb.out.block k (by have := HE.out; omega)⟩
    have hwz : w.heap.size ≤ E + 1 + 1 := by have := HE.out; omega
    exact (o2.trans hb27 fun k hk h => by rcases h with h | h; exact .inl h; omega).trans ho78 fun _ _ h => .inr h
  have hv8 : Own EInt 3 (E + 1 + 1) w8 (.slice av vn vc) A.vals := by
    have hbz : E + 1 + 1 ≤ (w2.drewN nq).heap.size := by show E + 1 + 1 ≤ w2.heap.size; have := Hz2.out; omega
    have h7 : Own EInt 3 (E + 1 + 1) w7 (.slice av vn vc) A.vals := (hv6.base hbz).onlyI hO7 fun k hk => by rw [hk]; have := Hgz.out; have := HE.out; omega
    exact h7.onlyI ho78 fun k hk => by rw [hk]; have := Hlz.out; have := HE.out; omega
  have Hw6 := Lib.hid hw6.symm
  have Hw7 := Lib.hid hw7.symm
  have HQ := Lib.hid hQ
  have Hq5 := Lib.hid hq5
  have Hh8 := Lib.hid hh8
  have Hq8 := Lib.hid hq8
  have HP8 := Lib.hid hP8
  have Hall := Lib.hid hall
  have Hv8 := Lib.hid hv8
  have HC8 := Lib.hid hC8
  clear hC hQ hq5 hw6 hq6 hz4 hb46 hb26 hP6 hv6 hP7 hO7 hfg hw7 hb27 hh7 hq7 hPd hm8 ho8 hP8 ho78 hne1 hQlm hh8 hq8 hall hv8 hC8 Hv Hb42
  go_upto_region 13 with (refine wpList_storeRow rfl _ _ _ rfl w4.heap.size rfl _ _ rfl _ Hq5.out hCs HC8.out hCa ?_)
  rw [Hw6.out, ← HQ.out]
  go_upto_region 16 with fail
  rw [Hw7.out]
  clear y4' f4' Hw6 Hw7
  go_region
  go_wp2_with (first
    | (refine wpList_loadRow rfl _ _ rfl Q rfl _ _ _ _ Hq8.out Try.underlying41 rfl hCs ?_)
    | (refine wpList_storeRow rfl _ _ _ rfl (E + 1) rfl _ _ rfl _ Hh8.out hCs HC8.out hCa ?_))
  refine bodyPost_ret (v := .tuple #[.agg C, .bool true]) (results_cell2 Try.results49 _ _ (E + 1) 41 _ (0, 0) _ rfl (setRow_at Hh8.out) Try.underlying41 rfl hCs) rfl ?_
  have hgE : g ≠ E + 1 := by have := Hgz.out; have := HE.out; omega
  have hlE : lm ≠ E + 1 := by have := Hlz.out; have := HE.out; omega
  have hso := setRow_only w8 (E + 1) C
  have hwz : w.heap.size ≤ E + 1 := by have := HE.out; omega
  refine ⟨.slice av vn vc, by rw [HC.out], ?_, HP8.out.only hso hgE hlE, ?_⟩
  · exact (Hv8.out.onlyI hso fun k hk => by rw [hk]; exact Nat.lt_succ_self _).base (by omega)
  · exact Hall.out.trans hso fun k hk h => by omega
end Go.Proofs.Ytmmgnbdngpkfcaa

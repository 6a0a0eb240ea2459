
/-
  A transaction under way, walked: what is to be asked.
-/
import Derived.Test.YtmmgnbdngpkfcaaCoN
namespace Go.Proofs.Ytmmgnbdngpkfcaa
open Go.RowKit
set_option linter.unusedVariables false

def askRow (A : Co.Ask) (wv rv : Value) : Array Value := #[.int .i64 A.shard, .int .i64 A.kind, .int .i64 A.txn, .int .i64 A.home, .int .i64 A.start, wv, rv, .int .i64 A.e.t, .bool A.e.c, .int .i64 A.e.a]
/-- what is to be asked is handed back -/
def NextPost (B g vm : Nat) (ov : Value) (T : Co.Tx) (E : Nat) (w : World) (e : Ending) (w' : World) : Prop :=
  ∃ wv rv, e = .returned (.tuple #[.agg (askRow (Co.nextA T).1 wv rv), .bool (Co.nextA T).2]) ∧ Own ECOp 47 E w' wv (Co.nextA T).1.writes ∧ Own EInt 3 E w' rv (Co.nextA T).1.reads ∧ (Co.nextA T).1.writes.length ≤ 12 ∧ (Co.nextA T).1.reads.length ≤ 12 ∧ TxA B w' g vm ov (Co.nextT T) ∧ Only (· = g) w w'
theorem size_ask : (Try.prog.info? 37).map (·.size) = some 10 := by kernel_rfl

theorem next_ret {B g vm q : Nat} {ov : Value} {T T' : Co.Tx} {E : Nat} {w w' : World} {tm : Array Value} {A : Co.Ask} {ok : Bool} {wv rv : Value}
    (hA : Co.nextA T = (A, ok)) (hT : Co.nextT T = T') (hp : tm.getD 2 undef = .pointer (some ⟨q, 0, none⟩)) (h3 : tm.getD 3 undef = .bool ok)
    (hq : w'.heap[q]? = some (.cells (askRow A wv rv) 37 (0, 0))) (h1 : Own ECOp 47 E w' wv A.writes) (h2 : Own EInt 3 E w' rv A.reads) (l1 : A.writes.length ≤ 12) (l2 : A.reads.length ≤ 12)
    (h4 : TxA B w' g vm ov T') (h5 : Only (· = g) w w') :
    bodyPost Try.prog Try.f19 (NextPost B g vm ov T E w) .ret ⟨tm, []⟩ w' := by
  refine bodyPost_ret (v := .tuple #[.agg (askRow A wv rv), .bool ok]) ?_ rfl ?_
  · rw [results_cell2 Try.results19 tm w' q 37 (askRow A wv rv) (0, 0) _ hp hq Try.underlying37 rfl size_ask, h3]
  · exact ⟨wv, rv, by rw [hA], by rw [hA]; exact h1, by rw [hA]; exact h2, by rw [hA]; exact l1, by rw [hA]; exact l2, by rw [hT]; exact h4, h5⟩
theorem ask_fin {w : World} {q te : Nat} {fr : Nat × Nat} {o0 o1 o2 o3 o4 o5 o6 o7 o8 o9 : Value} (h : w.heap[q]? = some (.cells #[o0, o1, o2, o3, o4, o5, o6, o7, o8, o9] te fr)) (v0 v1 v2 v3 v4 v5 v6 v7 v8 v9 : Value) :
    ((((((((((w.setCell ⟨q, 0, none⟩ v0).setCell ⟨q, 1, none⟩ v1).setCell ⟨q, 2, none⟩ v2).setCell ⟨q, 3, none⟩ v3).setCell ⟨q, 4, none⟩ v4).setCell ⟨q, 5, none⟩ v5).setCell ⟨q, 6, none⟩ v6).setCell ⟨q, 7, none⟩ v7).setCell ⟨q, 8, none⟩ v8).setCell ⟨q, 9, none⟩ v9).heap[q]? = some (.cells #[v0, v1, v2, v3, v4, v5, v6, v7, v8, v9] te fr) := by
  have h0 := heap_set h 0 v0
  rw [show (#[o0, o1, o2, o3, o4, o5, o6, o7, o8, o9] : Array Value).setIfInBounds 0 v0 = #[v0, o1, o2, o3, o4, o5, o6, o7, o8, o9] from rfl] at h0
  have h1 := heap_set h0 1 v1
  rw [show (#[v0, o1, o2, o3, o4, o5, o6, o7, o8, o9] : Array Value).setIfInBounds 1 v1 = #[v0, v1, o2, o3, o4, o5, o6, o7, o8, o9] from rfl] at h1
  have h2 := heap_set h1 2 v2
  rw [show (#[v0, v1, o2, o3, o4, o5, o6, o7, o8, o9] : Array Value).setIfInBounds 2 v2 = #[v0, v1, v2, o3, o4, o5, o6, o7, o8, o9] from rfl] at h2
  have h3 := heap_set h2 3 v3
  rw [show (#[v0, v1, v2, o3, o4, o5, o6, o7, o8, o9] : Array Value).setIfInBounds 3 v3 = #[v0, v1, v2, v3, o4, o5, o6, o7, o8, o9] from rfl] at h3
  have h4 := heap_set h3 4 v4
  rw [show (#[v0, v1, v2, v3, o4, o5, o6, o7, o8, o9] : Array Value).setIfInBounds 4 v4 = #[v0, v1, v2, v3, v4, o5, o6, o7, o8, o9] from rfl] at h4
  have h5 := heap_set h4 5 v5
  rw [show (#[v0, v1, v2, v3, v4, o5, o6, o7, o8, o9] : Array Value).setIfInBounds 5 v5 = #[v0, v1, v2, v3, v4, v5, o6, o7, o8, o9] from rfl] at h5
  have h6 := heap_set h5 6 v6
  rw [show (#[v0, v1, v2, v3, v4, v5, o6, o7, o8, o9] : Array Value).setIfInBounds 6 v6 = #[v0, v1, v2, v3, v4, v5, v6, o7, o8, o9] from rfl] at h6
  have h7 := heap_set h6 7 v7
  rw [show (#[v0, v1, v2, v3, v4, v5, v6, o7, o8, o9] : Array Value).setIfInBounds 7 v7 = #[v0, v1, v2, v3, v4, v5, v6, v7, o8, o9] from rfl] at h7
  have h8 := heap_set h7 8 v8
  rw [show (#[v0, v1, v2, v3, v4, v5, v6, v7, o8, o9] : Array Value).setIfInBounds 8 v8 = #[v0, v1, v2, v3, v4, v5, v6, v7, v8, o9] from rfl] at h8
  have h9 := heap_set h8 9 v9
  rw [show (#[v0, v1, v2, v3, v4, v5, v6, v7, v8, o9] : Array Value).setIfInBounds 9 v9 = #[v0, v1, v2, v3, v4, v5, v6, v7, v8, v9] from rfl] at h9
  exact h9
theorem drew_at {w : World} {q : Nat} {o : Obj} (h : w.heap[q]? = some o) : w.drew.heap[q]? = some o := h
theorem ask_finD {w : World} {q te : Nat} {fr : Nat × Nat} {o0 o1 o2 o3 o4 o5 o6 o7 o8 o9 : Value} (h : w.heap[q]? = some (.cells #[o0, o1, o2, o3, o4, o5, o6, o7, o8, o9] te fr)) (v0 v1 v2 v3 v4 v5 v6 v7 v8 v9 : Value) :
    ((((((((((w.setCell ⟨q, 0, none⟩ v0).setCell ⟨q, 1, none⟩ v1).setCell ⟨q, 2, none⟩ v2).setCell ⟨q, 3, none⟩ v3).setCell ⟨q, 4, none⟩ v4).setCell ⟨q, 5, none⟩ v5).setCell ⟨q, 6, none⟩ v6).setCell ⟨q, 7, none⟩ v7).setCell ⟨q, 8, none⟩ v8).setCell ⟨q, 9, none⟩ v9).drew.heap[q]? = some (.cells #[v0, v1, v2, v3, v4, v5, v6, v7, v8, v9] te fr) := drew_at (ask_fin h v0 v1 v2 v3 v4 v5 v6 v7 v8 v9)
theorem ask_below {B : Nat} {w0 w : World} {q : Nat} (h : Below B w0 w) (hq : B ≤ q) (v0 v1 v2 v3 v4 v5 v6 v7 v8 v9 : Value) : Below B w0 ((((((((((w.setCell ⟨q, 0, none⟩ v0).setCell ⟨q, 1, none⟩ v1).setCell ⟨q, 2, none⟩ v2).setCell ⟨q, 3, none⟩ v3).setCell ⟨q, 4, none⟩ v4).setCell ⟨q, 5, none⟩ v5).setCell ⟨q, 6, none⟩ v6).setCell ⟨q, 7, none⟩ v7).setCell ⟨q, 8, none⟩ v8).setCell ⟨q, 9, none⟩ v9) :=
  setCell_below (setCell_below (setCell_below (setCell_below (setCell_below (setCell_below (setCell_below (setCell_below (setCell_below (setCell_below h hq 0 v0) hq 1 v1) hq 2 v2) hq 3 v3) hq 4 v4) hq 5 v5) hq 6 v6) hq 7 v7) hq 8 v8) hq 9 v9
theorem ask_other {w : World} {q k : Nat} (hk : k ≠ q) (v0 v1 v2 v3 v4 v5 v6 v7 v8 v9 : Value) : ((((((((((w.setCell ⟨q, 0, none⟩ v0).setCell ⟨q, 1, none⟩ v1).setCell ⟨q, 2, none⟩ v2).setCell ⟨q, 3, none⟩ v3).setCell ⟨q, 4, none⟩ v4).setCell ⟨q, 5, none⟩ v5).setCell ⟨q, 6, none⟩ v6).setCell ⟨q, 7, none⟩ v7).setCell ⟨q, 8, none⟩ v8).setCell ⟨q, 9, none⟩ v9).heap[k]? = w.heap[k]? := by
  rw [heap_setOther _ hk, heap_setOther _ hk, heap_setOther _ hk, heap_setOther _ hk, heap_setOther _ hk, heap_setOther _ hk, heap_setOther _ hk, heap_setOther _ hk, heap_setOther _ hk, heap_setOther _ hk]
theorem drew_same {w w0 : World} {k : Nat} (h : w.heap[k]? = w0.heap[k]?) : w.drew.heap[k]? = w0.heap[k]? := h
theorem ask_otherD {w : World} {q k : Nat} (hk : k ≠ q) (v0 v1 v2 v3 v4 v5 v6 v7 v8 v9 : Value) : ((((((((((w.setCell ⟨q, 0, none⟩ v0).setCell ⟨q, 1, none⟩ v1).setCell ⟨q, 2, none⟩ v2).setCell ⟨q, 3, none⟩ v3).setCell ⟨q, 4, none⟩ v4).setCell ⟨q, 5, none⟩ v5).setCell ⟨q, 6, none⟩ v6).setCell ⟨q, 7, none⟩ v7).setCell ⟨q, 8, none⟩ v8).setCell ⟨q, 9, none⟩ v9).drew.heap[k]? = w.heap[k]? := drew_same (ask_other hk v0 v1 v2 v3 v4 v5 v6 v7 v8 v9)
theorem ask_only {S : Nat → Prop} {w0 w : World} {q : Nat} (h : Only S w0 w) (hq : w0.heap.size ≤ q) (v0 v1 v2 v3 v4 v5 v6 v7 v8 v9 : Value) : Only S w0 ((((((((((w.setCell ⟨q, 0, none⟩ v0).setCell ⟨q, 1, none⟩ v1).setCell ⟨q, 2, none⟩ v2).setCell ⟨q, 3, none⟩ v3).setCell ⟨q, 4, none⟩ v4).setCell ⟨q, 5, none⟩ v5).setCell ⟨q, 6, none⟩ v6).setCell ⟨q, 7, none⟩ v7).setCell ⟨q, 8, none⟩ v8).setCell ⟨q, 9, none⟩ v9) :=
  (((((((((h.setCell (p := ⟨q, 0, none⟩) (.inr hq) v0).setCell (p := ⟨q, 1, none⟩) (.inr hq) v1).setCell (p := ⟨q, 2, none⟩) (.inr hq) v2).setCell (p := ⟨q, 3, none⟩) (.inr hq) v3).setCell (p := ⟨q, 4, none⟩) (.inr hq) v4).setCell (p := ⟨q, 5, none⟩) (.inr hq) v5).setCell (p := ⟨q, 6, none⟩) (.inr hq) v6).setCell (p := ⟨q, 7, none⟩) (.inr hq) v7).setCell (p := ⟨q, 8, none⟩) (.inr hq) v8).setCell (p := ⟨q, 9, none⟩) (.inr hq) v9
theorem OwnC.stay {te base : Nat} {w w' : World} {v : Value} {l : List Co.Op} (h : Own ECOp te base w v l) (hk : ∀ g, v.ownBlock = some g → w'.heap[g]? = w.heap[g]?) : Own ECOp te base w' v l := by
  rcases h with h | ⟨g, cap, cur, rfl, hg, hh, h1, h2, h3, h4⟩
  · exact .inl h
  · refine .inr ⟨g, cap, cur, rfl, hg, by rw [hk g rfl]; exact hh, h1, h2, h3, fun k x hx => ?_⟩
    obtain ⟨cs, hr, hc⟩ := h4 k x hx
    exact ⟨cs, hr, hc⟩
set_option maxRecDepth 4096 in
set_option maxHeartbeats 6400000 in
theorem co_Next {B g vm : Nat} {ov : Value} {T : Co.Tx} (E : Nat) (w : World) (hE : E = w.heap.size) (h : TxA B w g vm ov T) :
    Calls Try.prog 19 #[.pointer (some ⟨g, 0, none⟩)] w (NextPost B g vm ov T E w) := by
  obtain ⟨w1, hw1⟩ : ∃ x, x = w.alloc (.cells #[.int .i64 0, .int .i64 0, .int .i64 0, .int .i64 0, .int .i64 0, .slice none 0 0, .slice none 0 0, .int .i64 0, .bool false, .int .i64 0] 37) := ⟨_, rfl⟩
  have hh1 : w1.heap[w.heap.size]? = some (.cells #[.int .i64 0, .int .i64 0, .int .i64 0, .int .i64 0, .int .i64 0, .slice none 0 0, .slice none 0 0, .int .i64 0, .bool false, .int .i64 0] 37 (0, 0)) := by rw [hw1]; exact heap_alloc_new w _
  have hb1 : Below w.heap.size w w1 := by rw [hw1]; exact alloc_below _ _
  obtain ⟨q, hq⟩ : ∃ q, q = w.heap.size := ⟨_, rfl⟩
  have hz1 : w1.heap.size = q + 1 := by rw [hw1, hq]; simp
  rw [← hq] at hh1
  have h1 := h.keep hb1
  have hgq : g ≠ q := by have := h.lt; omega
  have ho1 : Only (· = g) w w1 := Below.only hb1
  have hqE : q = E := by omega
  have z0 : w1.cell? ⟨q, 0, none⟩ = some (.int .i64 0) := by simp [World.cell?, hh1]
  have z1 : w1.cell? ⟨q, 1, none⟩ = some (.int .i64 0) := by simp [World.cell?, hh1]
  have z2 : w1.cell? ⟨q, 2, none⟩ = some (.int .i64 0) := by simp [World.cell?, hh1]
  have z3 : w1.cell? ⟨q, 3, none⟩ = some (.int .i64 0) := by simp [World.cell?, hh1]
  have z4 : w1.cell? ⟨q, 4, none⟩ = some (.int .i64 0) := by simp [World.cell?, hh1]
  have z5 : w1.cell? ⟨q, 5, none⟩ = some (.slice none 0 0) := by simp [World.cell?, hh1]
  have z6 : w1.cell? ⟨q, 6, none⟩ = some (.slice none 0 0) := by simp [World.cell?, hh1]
  have z7 : w1.cell? ⟨q, 7, none⟩ = some (.int .i64 0) := by simp [World.cell?, hh1]
  have z8 : w1.cell? ⟨q, 8, none⟩ = some (.bool false) := by simp [World.cell?, hh1]
  have z9 : w1.cell? ⟨q, 9, none⟩ = some (.int .i64 0) := by simp [World.cell?, hh1]
  have zf : ∀ o, w1.frozen? ⟨q, o, none⟩ = false := fun o => by simp [World.frozen?, hh1]
  have hw1' : w.alloc (.cells #[.int .i64 0, .int .i64 0, .int .i64 0, .int .i64 0, .int .i64 0, .slice none 0 0, .slice none 0 0, .int .i64 0, .bool false, .int .i64 0] 37) = w1 := hw1.symm
  have Hh1 := Lib.hid hh1
  have Hw1 := Lib.hid hw1'
  have Hq := Lib.hid hq
  have Hb1 := Lib.hid hb1
  have H0 := Lib.hid h
  clear hb1 h hh1 hw1' hw1
  have c11 := h1.c11
  obtain ⟨wt, hwt⟩ : ∃ b, b = T.wait := ⟨_, rfl⟩
  rw [← hwt] at c11
  have Hwt := Lib.hid hwt
  have H1 := Lib.hid h1
  have Ho1 := Lib.hid ho1
  have HqE := Lib.hid hqE
  clear hwt h1 ho1 hE hqE hq
  go_enter Try.func19, Try.ntmps19
  go_upto_region 1 with fail
  rw [Hw1.out, ← Hq.out]
  clear Hw1
  have hfin : ∀ (A : Co.Ask) (ok : Bool) (tm : Array Value), Co.nextA T = (A, ok) → Co.nextT T = T → A.writes = [] → A.reads = [] → tm.getD 2 undef = .pointer (some ⟨q, 0, none⟩) → tm.getD 3 undef = .bool ok → ∀ (w' : World) (row : Array Value), Below w.heap.size w w' → w'.heap[q]? = some (.cells row 37 (0, 0)) → row = askRow A (.slice none 0 0) (.slice none 0 0) →
      bodyPost Try.prog Try.f19 (NextPost B g vm ov T E w) .ret ⟨tm, []⟩ w' := fun A ok tm e1 e2 e3 e4 hp h3 w' row hb hr hrow =>
    next_ret e1 e2 hp h3 (by rw [← hrow]; exact hr) (by rw [e3]; exact Own.nil _ _ _ _) (by rw [e4]; exact Own.nil _ _ _ _) (by rw [e3]; decide) (by rw [e4]; decide) (H0.out.keep hb) (Below.only hb)
  have Hfin := Lib.hid hfin
  clear hfin
  cases wt
  · obtain ⟨w2, hw2⟩ : ∃ x, x = w1.alloc (.cells #[.int .i64 T.id, .int .i64 0, .int .i64 0, .slice none 0 0, .slice none 0 0] 31) := ⟨_, rfl⟩
    have hr2 : w2.heap[q + 1]? = some (.cells #[.int .i64 T.id, .int .i64 0, .int .i64 0, .slice none 0 0, .slice none 0 0] 31 (0, 0)) := by rw [hw2, ← hz1]; exact heap_alloc_new w1 _
    have hb2 : Below w1.heap.size w1 w2 := by rw [hw2]; exact alloc_below _ _
    have c0 := H1.out.c0
    have y0 := cell_thru z0 hb2
    have y1 := cell_thru z1 hb2
    have y2 := cell_thru z2 hb2
    have y3 := cell_thru z3 hb2
    have y4 := cell_thru z4 hb2
    have y5 := cell_thru z5 hb2
    have y6 := cell_thru z6 hb2
    have y7 := cell_thru z7 hb2
    have y8 := cell_thru z8 hb2
    have y9 := cell_thru z9 hb2
    have yf : ∀ o, w2.frozen? ⟨q, o, none⟩ = false := fun o => by rw [hb2.frozen (p := ⟨q, o, none⟩) (by simp; omega)]; exact zf o
    have r0 : w2.cell? ⟨q + 1, 0, none⟩ = some (.int .i64 T.id) := by simp [World.cell?, hr2]
    have r1 : w2.cell? ⟨q + 1, 1, none⟩ = some (.int .i64 0) := by simp [World.cell?, hr2]
    have r2 : w2.cell? ⟨q + 1, 2, none⟩ = some (.int .i64 0) := by simp [World.cell?, hr2]
    have r3 : w2.cell? ⟨q + 1, 3, none⟩ = some (.slice none 0 0) := by simp [World.cell?, hr2]
    have r4 : w2.cell? ⟨q + 1, 4, none⟩ = some (.slice none 0 0) := by simp [World.cell?, hr2]
    have rf : ∀ o, w2.frozen? ⟨q + 1, o, none⟩ = false := fun o => by simp [World.frozen?, hr2]
    have hh2 : w2.heap[q]? = some (.cells #[.int .i64 0, .int .i64 0, .int .i64 0, .int .i64 0, .int .i64 0, .slice none 0 0, .slice none 0 0, .int .i64 0, .bool false, .int .i64 0] 37 (0, 0)) := (hb2.block q (by omega)).trans Hh1.out
    have h2 := H1.out.keep hb2
    have hB2 : Below w.heap.size w w2 := Hb1.out.trans (hb2.mono (by rw [hz1, Hq.out]; omega))
    have hz2 : w2.heap.size = q + 2 := by rw [hw2]; simp; omega
    have Hh2 := Lib.hid hh2
    have Hr2 := Lib.hid hr2
    have H2 := Lib.hid h2
    have HB2 := Lib.hid hB2
    have Hz2 := Lib.hid hz2
    clear hh2 hr2 h2 hB2 hz2 hb2
    go_upto_region 4 with fail
    rw [← hw2]
    clear hw2 c0 c11 z0 z1 z2 z3 z4 z5 z6 z7 z8 z9 zf
    have hfin2 : ∀ (A : Co.Ask) (ok : Bool) (tm : Array Value) (v0 v1 v2 v3 v4 v5 v6 v7 v8 v9 : Value), Co.nextA T = (A, ok) → Co.nextT T = T → A.writes = [] → A.reads = [] → tm.getD 2 undef = .pointer (some ⟨q, 0, none⟩) → tm.getD 3 undef = .bool ok → #[v0, v1, v2, v3, v4, v5, v6, v7, v8, v9] = askRow A (.slice none 0 0) (.slice none 0 0) →
        bodyPost Try.prog Try.f19 (NextPost B g vm ov T E w) .ret ⟨tm, []⟩ ((((((((((w2.setCell ⟨q, 0, none⟩ v0).setCell ⟨q, 1, none⟩ v1).setCell ⟨q, 2, none⟩ v2).setCell ⟨q, 3, none⟩ v3).setCell ⟨q, 4, none⟩ v4).setCell ⟨q, 5, none⟩ v5).setCell ⟨q, 6, none⟩ v6).setCell ⟨q, 7, none⟩ v7).setCell ⟨q, 8, none⟩ v8).setCell ⟨q, 9, none⟩ v9) := fun A ok tm v0 v1 v2 v3 v4 v5 v6 v7 v8 v9 e1 e2 e3 e4 hp h3 hrow =>
      Hfin.out A ok tm e1 e2 e3 e4 hp h3 _ _ (ask_below HB2.out (Nat.le_of_eq Hq.out.symm) _ _ _ _ _ _ _ _ _ _) (ask_fin Hh2.out v0 v1 v2 v3 v4 v5 v6 v7 v8 v9) hrow
    have hfin3 : ∀ (A : Co.Ask) (ok : Bool) (tm : Array Value) (v0 v1 v2 v3 v4 v5 v6 v7 v8 v9 : Value), Co.nextA T = (A, ok) → Co.nextT T = T → A.writes = [] → A.reads = [] → tm.getD 2 undef = .pointer (some ⟨q, 0, none⟩) → tm.getD 3 undef = .bool ok → #[v0, v1, v2, v3, v4, v5, v6, v7, v8, v9] = askRow A (.slice none 0 0) (.slice none 0 0) →
        bodyPost Try.prog Try.f19 (NextPost B g vm ov T E w) .ret ⟨tm, []⟩ ((((((((((w2.setCell ⟨q, 0, none⟩ v0).setCell ⟨q, 1, none⟩ v1).setCell ⟨q, 2, none⟩ v2).setCell ⟨q, 3, none⟩ v3).setCell ⟨q, 4, none⟩ v4).setCell ⟨q, 5, none⟩ v5).setCell ⟨q, 6, none⟩ v6).setCell ⟨q, 7, none⟩ v7).setCell ⟨q, 8, none⟩ v8).setCell ⟨q, 9, none⟩ v9).drew := fun A ok tm v0 v1 v2 v3 v4 v5 v6 v7 v8 v9 e1 e2 e3 e4 hp h3 hrow =>
      Hfin.out A ok tm e1 e2 e3 e4 hp h3 _ _ (ask_below HB2.out (Nat.le_of_eq Hq.out.symm) _ _ _ _ _ _ _ _ _ _).drew (ask_finD Hh2.out v0 v1 v2 v3 v4 v5 v6 v7 v8 v9) hrow
    have Hfin2 := Lib.hid hfin2
    have Hfin3 := Lib.hid hfin3
    clear hfin2 hfin3
    have hfin4 : ∀ (w4 : World) (A : Co.Ask) (ok : Bool) (tm : Array Value) (wv rv v0 v1 v2 v3 v4 v5 v6 v7 v8 v9 : Value), Below w.heap.size w w4 → w4.heap[q]? = some (.cells #[.int .i64 0, .int .i64 0, .int .i64 0, .int .i64 0, .int .i64 0, .slice none 0 0, .slice none 0 0, .int .i64 0, .bool false, .int .i64 0] 37 (0, 0)) → Co.nextA T = (A, ok) → Co.nextT T = T → Own ECOp 47 (q + 1) w4 wv A.writes → Own EInt 3 (q + 1) w4 rv A.reads → A.writes.length ≤ 12 → A.reads.length ≤ 12 → tm.getD 2 undef = .pointer (some ⟨q, 0, none⟩) → tm.getD 3 undef = .bool ok → #[v0, v1, v2, v3, v4, v5, v6, v7, v8, v9] = askRow A wv rv →
        bodyPost Try.prog Try.f19 (NextPost B g vm ov T E w) .ret ⟨tm, []⟩ ((((((((((w4.setCell ⟨q, 0, none⟩ v0).setCell ⟨q, 1, none⟩ v1).setCell ⟨q, 2, none⟩ v2).setCell ⟨q, 3, none⟩ v3).setCell ⟨q, 4, none⟩ v4).setCell ⟨q, 5, none⟩ v5).setCell ⟨q, 6, none⟩ v6).setCell ⟨q, 7, none⟩ v7).setCell ⟨q, 8, none⟩ v8).setCell ⟨q, 9, none⟩ v9).drew := fun w4 A ok tm wv rv v0 v1 v2 v3 v4 v5 v6 v7 v8 v9 hb hh e1 e2 o1 o2 l1 l2 hp h3 hrow => by
      have hbb : Below w.heap.size w ((((((((((w4.setCell ⟨q, 0, none⟩ v0).setCell ⟨q, 1, none⟩ v1).setCell ⟨q, 2, none⟩ v2).setCell ⟨q, 3, none⟩ v3).setCell ⟨q, 4, none⟩ v4).setCell ⟨q, 5, none⟩ v5).setCell ⟨q, 6, none⟩ v6).setCell ⟨q, 7, none⟩ v7).setCell ⟨q, 8, none⟩ v8).setCell ⟨q, 9, none⟩ v9).drew := (ask_below hb (Nat.le_of_eq Hq.out.symm) v0 v1 v2 v3 v4 v5 v6 v7 v8 v9).drew
      have hkk : ∀ k, k ≠ q → ((((((((((w4.setCell ⟨q, 0, none⟩ v0).setCell ⟨q, 1, none⟩ v1).setCell ⟨q, 2, none⟩ v2).setCell ⟨q, 3, none⟩ v3).setCell ⟨q, 4, none⟩ v4).setCell ⟨q, 5, none⟩ v5).setCell ⟨q, 6, none⟩ v6).setCell ⟨q, 7, none⟩ v7).setCell ⟨q, 8, none⟩ v8).setCell ⟨q, 9, none⟩ v9).drew.heap[k]? = w4.heap[k]? := fun k hk => ask_otherD hk v0 v1 v2 v3 v4 v5 v6 v7 v8 v9
      refine next_ret e1 e2 hp h3 (by rw [← hrow]; exact ask_finD hh v0 v1 v2 v3 v4 v5 v6 v7 v8 v9) ?_ ?_ l1 l2 (H0.out.keep hbb) (Below.only hbb)
      · exact (OwnC.stay o1 fun k hk => hkk k (by have := (o1.lt k hk).1; omega)).base (by have := HqE.out; omega)
      · exact (OwnI.stay o2 fun k hk => hkk k (by have := (o2.lt k hk).1; omega)).base (by have := HqE.out; omega)
    have Hfin4 := Lib.hid hfin4
    clear hfin4
    have c5 := H2.out.c5
    obtain ⟨st, hst⟩ : ∃ s, s = T.stage := ⟨_, rfl⟩
    rw [← hst] at c5
    have Hst := Lib.hid hst
    clear hst
    have hor : st = 0 ∨ st = 5 ∨ st = 1 ∨ st = 2 ∨ st = 3 ∨ st = 4 ∨ st = 6 ∨ st = 7 ∨ (st ≠ 0 ∧ st ≠ 5 ∧ st ≠ 1 ∧ st ≠ 2 ∧ st ≠ 3 ∧ st ≠ 4 ∧ st ≠ 6 ∧ st ≠ 7) := by omega
    rcases hor with rfl | rfl | rfl | rfl | rfl | rfl | rfl | rfl | ⟨n0, n5, n1, n2, n3, n4, n6, n7⟩
    · go_wp2_with fail
      refine Hfin2.out { Co.noAsk with kind := 1 } true _ _ _ _ _ _ _ _ _ _ _ ?_ ?_ ?_ ?_ ?_ ?_ ?_
      · simp [Co.nextA, ← Hwt.out, ← Hst.out]
      · simp [Co.nextT, ← Hwt.out, ← Hst.out]
      · rfl
      · rfl
      · rfl
      · rfl
      · rfl
    · go_wp2_with fail
      refine Hfin2.out { Co.noAsk with kind := 1 } true _ _ _ _ _ _ _ _ _ _ _ ?_ ?_ ?_ ?_ ?_ ?_ ?_
      · simp [Co.nextA, ← Hwt.out, ← Hst.out]
      · simp [Co.nextT, ← Hwt.out, ← Hst.out]
      · rfl
      · rfl
      · rfl
      · rfl
      · rfl
    · have c6 := H2.out.c6
      have hgq1 : g ≠ q + 1 := by have := H0.out.lt; have := Hq.out; omega
      have c10 := H2.out.c10
      have HC : RowKit.Hid (Calls Try.prog 68 #[.pointer (some ⟨g, 0, none⟩), .int .i64 T.at_] w2.drew fun e w' => ∃ v, e = .returned v ∧ Own EInt 3 w2.heap.size w' v (Co.reads T.sh T.ops T.at_) ∧ (Co.reads T.sh T.ops T.at_).length ≤ 12 ∧ Below w2.heap.size w2.drew w') :=
        Lib.hid (co_reads T.at_ w2.heap.size w2.drew rfl (H2.out.keep (Below.refl _ _).drew))
      go_upto_region 9 with fail
      go_region_held3 (fun W => W.cell? ⟨g, 6, none⟩ = some (.int .i64 T.start) ∧ W.cell? ⟨g, 10, none⟩ = some (.int .i64 T.at_)) (first | go_keep | exact ⟨cell_thru c6 ((Below.refl _ _).drew.trans hb3), cell_thru c10 ((Below.refl _ _).drew.trans hb3)⟩ | exact ⟨(cell_keep (heap_setOther _ hgq1 _ _)).trans (cell_thru c6 ((Below.refl _ _).drew.trans hb3)), (cell_keep (heap_setOther _ hgq1 _ _)).trans (cell_thru c10 ((Below.refl _ _).drew.trans hb3))⟩ | exact ⟨(cell_keep (heap_setOther _ hgq1 _ _)).trans ((cell_keep (heap_setOther _ hgq1 _ _)).trans (cell_thru c6 ((Below.refl _ _).drew.trans hb3))), (cell_keep (heap_setOther _ hgq1 _ _)).trans ((cell_keep (heap_setOther _ hgq1 _ _)).trans (cell_thru c10 ((Below.refl _ _).drew.trans hb3)))⟩)
        ((first
          | (go_at_call 68
             refine HC.out.mono ?_
             rintro e w3 ⟨rv, rfl, ho3, hl3, hb3⟩
             obtain ⟨ar, cr, rfl, hcr, hmr, hrr, hor⟩ := ho3.shape _ rfl
             have x2 := cell_thru r2 ((Below.refl _ _).drew.trans hb3)
             have x4 := cell_thru r4 ((Below.refl _ _).drew.trans hb3)
             have xf : ∀ o, w3.frozen? ⟨q + 1, o, none⟩ = false := fun o => by rw [((Below.refl _ _).drew.trans hb3).frozen (p := ⟨q + 1, o, none⟩) (by have := Hz2.out; simp; omega)]; exact rf o)))
      all_goals
        obtain ⟨w4, hw4⟩ : ∃ x, x = (w3.setCell ⟨q + 1, 2, none⟩ (.int .i64 T.start)).setCell ⟨q + 1, 4, none⟩ (.slice ar (Co.reads T.sh T.ops T.at_).length cr) := ⟨_, rfl⟩
        have hb23 : Below w2.heap.size w2 w3 := (Below.refl _ _).drew.trans hb3
        have hr4 : w4.heap[q + 1]? = some (.cells #[.int .i64 T.id, .int .i64 0, .int .i64 T.start, .slice none 0 0, .slice ar (Co.reads T.sh T.ops T.at_).length cr] 31 (0, 0)) := by
          rw [hw4]
          exact heap_set (heap_set ((hb23.block (q + 1) (by have := Hz2.out; omega)).trans Hr2.out) 2 _) 4 _
        have hh4 : w4.heap[q]? = some (.cells #[.int .i64 0, .int .i64 0, .int .i64 0, .int .i64 0, .int .i64 0, .slice none 0 0, .slice none 0 0, .int .i64 0, .bool false, .int .i64 0] 37 (0, 0)) := by
          rw [hw4, heap_setOther _ (by omega), heap_setOther _ (by omega)]
          exact (hb23.block q (by have := Hz2.out; omega)).trans Hh2.out
        have hB4 : Below w.heap.size w w4 := by
          rw [hw4]
          exact setCell_below (setCell_below (HB2.out.trans (hb23.mono (by have := Hz2.out; have := Hq.out; omega))) (by have := Hq.out; omega) _ _) (by have := Hq.out; omega) _ _
        have ho4 : Own EInt 3 (q + 1) w4 (.slice ar (Co.reads T.sh T.ops T.at_).length cr) (Co.reads T.sh T.ops T.at_) := by
          rw [hw4]
          exact (own_other (own_other hor (set_only w3 (q + 1) 2 _) (by have := Hz2.out; omega)) (set_only _ (q + 1) 4 _) (by have := Hz2.out; omega)).base (by have := Hz2.out; omega)
        have c10' : w4.cell? ⟨g, 10, none⟩ = some (.int .i64 T.at_) := by
          rw [hw4, cell_keep (heap_setOther _ hgq1 _ _), cell_keep (heap_setOther _ hgq1 _ _)]
          exact cell_thru c10 hb23
        rw [← hw4]
        clear hw4 hb23 hb3 x2 x4 xf hor hrr hcr hmr ho3 HC c6 c10
        have x0 : w4.cell? ⟨q + 1, 0, none⟩ = some (.int .i64 T.id) := by simp [World.cell?, hr4]
        have x1 : w4.cell? ⟨q + 1, 1, none⟩ = some (.int .i64 0) := by simp [World.cell?, hr4]
        have x2 : w4.cell? ⟨q + 1, 2, none⟩ = some (.int .i64 T.start) := by simp [World.cell?, hr4]
        have x3 : w4.cell? ⟨q + 1, 3, none⟩ = some (.slice none 0 0) := by simp [World.cell?, hr4]
        have x4 : w4.cell? ⟨q + 1, 4, none⟩ = some (.slice ar (Co.reads T.sh T.ops T.at_).length cr) := by simp [World.cell?, hr4]
        have u0 : w4.cell? ⟨q, 0, none⟩ = some (.int .i64 0) := by simp [World.cell?, hh4]
        have u1 : w4.cell? ⟨q, 1, none⟩ = some (.int .i64 0) := by simp [World.cell?, hh4]
        have u2 : w4.cell? ⟨q, 2, none⟩ = some (.int .i64 0) := by simp [World.cell?, hh4]
        have u3 : w4.cell? ⟨q, 3, none⟩ = some (.int .i64 0) := by simp [World.cell?, hh4]
        have u4 : w4.cell? ⟨q, 4, none⟩ = some (.int .i64 0) := by simp [World.cell?, hh4]
        have u5 : w4.cell? ⟨q, 5, none⟩ = some (.slice none 0 0) := by simp [World.cell?, hh4]
        have u6 : w4.cell? ⟨q, 6, none⟩ = some (.slice none 0 0) := by simp [World.cell?, hh4]
        have u7 : w4.cell? ⟨q, 7, none⟩ = some (.int .i64 0) := by simp [World.cell?, hh4]
        have u8 : w4.cell? ⟨q, 8, none⟩ = some (.bool false) := by simp [World.cell?, hh4]
        have u9 : w4.cell? ⟨q, 9, none⟩ = some (.int .i64 0) := by simp [World.cell?, hh4]
        have uf : ∀ o, w4.frozen? ⟨q, o, none⟩ = false := fun o => by simp [World.frozen?, hh4]
        have Hh4 := Lib.hid hh4
        have HB4 := Lib.hid hB4
        have Ho4 := Lib.hid ho4
        have Hl3 := Lib.hid hl3
        clear hr4 hh4 hB4 ho4 hl3
        go_wp2_with fail
        go_region
        go_wp2_with fail
        refine Hfin4.out w4 { Co.noAsk with shard := T.at_, kind := 2, txn := T.id, start := T.start, reads := Co.reads T.sh T.ops T.at_ } true _ (.slice none 0 0) (.slice ar (Co.reads T.sh T.ops T.at_).length cr) _ _ _ _ _ _ _ _ _ _ HB4.out Hh4.out ?_ ?_ (Own.nil _ _ _ _) Ho4.out ?_ Hl3.out ?_ ?_ ?_
        · simp [Co.nextA, ← Hwt.out, ← Hst.out]
        · simp [Co.nextT, ← Hwt.out, ← Hst.out]
        · exact Nat.zero_le _
        · rfl
        · rfl
        · rfl
    · have c13 := H2.out.c13
      have c16 := H2.out.c16
      go_wp2_with fail
      go_region
      go_wp2_with fail
      refine Hfin3.out { Co.noAsk with shard := T.home, kind := 4, e := ⟨T.by_.t, false, 0⟩ } true _ _ _ _ _ _ _ _ _ _ _ ?_ ?_ ?_ ?_ ?_ ?_ ?_
      · simp [Co.nextA, ← Hwt.out, ← Hst.out]
      · simp [Co.nextT, ← Hwt.out, ← Hst.out]
      · rfl
      · rfl
      · rfl
      · rfl
      · rfl
    · have c10 := H2.out.c10
      have c13 := H2.out.c13
      have c14 := H2.out.c14
      have c15 := H2.out.c15
      go_wp2_with fail
      go_region
      go_wp2_with fail
      refine Hfin3.out { Co.noAsk with shard := T.at_, kind := 5, e := T.by_ } true _ _ _ _ _ _ _ _ _ _ _ ?_ ?_ ?_ ?_ ?_ ?_ ?_
      · simp [Co.nextA, ← Hwt.out, ← Hst.out]
      · simp [Co.nextT, ← Hwt.out, ← Hst.out]
      · rfl
      · rfl
      · rfl
      · rfl
      · rfl
    · have c6 := H2.out.c6
      have c10 := H2.out.c10
      have hgq1 : g ≠ q + 1 := by have := H0.out.lt; have := Hq.out; omega
      have HC1 : RowKit.Hid (Calls Try.prog 69 #[.pointer (some ⟨g, 0, none⟩)] w2.drew fun e w' => e = .returned (.int .i64 T.where_) ∧ Below w2.heap.size w2.drew w') :=
        Lib.hid (co_where w2.heap.size w2.drew rfl (H2.out.keep (Below.refl _ _).drew))
      have HC2 : RowKit.Hid (∀ w3, Below w2.heap.size w2 w3 → Calls Try.prog 70 #[.pointer (some ⟨g, 0, none⟩), .int .i64 T.at_] w3 fun e w' => ∃ v, e = .returned v ∧ Own ECOp 47 w3.heap.size w' v (Co.writes T.sh T.ops T.at_) ∧ (Co.writes T.sh T.ops T.at_).length ≤ 12 ∧ Below w3.heap.size w3 w') :=
        Lib.hid fun w3 hb => co_writes T.at_ w3.heap.size w3 rfl (H2.out.keep hb)
      have hkk : ∀ (W : World), Below w2.heap.size w2 W → W.cell? ⟨g, 6, none⟩ = some (.int .i64 T.start) ∧ W.cell? ⟨g, 10, none⟩ = some (.int .i64 T.at_) := fun W hb => ⟨cell_thru c6 hb, cell_thru c10 hb⟩
      have hks : ∀ (W : World) (k : Nat) (v : Value), (W.cell? ⟨g, 6, none⟩ = some (.int .i64 T.start) ∧ W.cell? ⟨g, 10, none⟩ = some (.int .i64 T.at_)) → (W.setCell ⟨q + 1, k, none⟩ v).cell? ⟨g, 6, none⟩ = some (.int .i64 T.start) ∧ (W.setCell ⟨q + 1, k, none⟩ v).cell? ⟨g, 10, none⟩ = some (.int .i64 T.at_) := fun W k v h => ⟨(cell_keep (heap_setOther _ hgq1 _ _)).trans h.1, (cell_keep (heap_setOther _ hgq1 _ _)).trans h.2⟩
      have Hkk := Lib.hid hkk
      have Hks := Lib.hid hks
      clear hkk hks
      go_upto_region 16 with fail
      go_region_held3 (fun W => W.cell? ⟨g, 6, none⟩ = some (.int .i64 T.start) ∧ W.cell? ⟨g, 10, none⟩ = some (.int .i64 T.at_)) (first | go_keep | exact Hks.out _ _ _ (Hks.out _ _ _ (Hks.out _ _ _ (Hkk.out _ hb4))) | exact Hks.out _ _ _ (Hks.out _ _ _ (Hkk.out _ hb4)) | exact Hks.out _ _ _ (Hkk.out _ hb4) | exact Hkk.out _ hb4 | exact Hkk.out _ hb3)
        ((first
          | (go_at_call 70
             refine (HC2.out w3 hb3).mono ?_
             rintro e w4 ⟨wv, rfl, ho4, hl4, hb4⟩
             have hz34 : w2.heap.size ≤ w3.heap.size := hb3.size
             obtain ⟨aw, cw, rfl, hcw, hmw, hrw, how⟩ := ho4.shape _ rfl
             have hb4 : Below w2.heap.size w2 w4 := hb3.trans (hb4.mono hb3.size)
             have x1 := cell_thru r1 hb4
             have x2 := cell_thru r2 hb4
             have x3 := cell_thru r3 hb4
             have xf : ∀ o, w4.frozen? ⟨q + 1, o, none⟩ = false := fun o => by rw [hb4.frozen (p := ⟨q + 1, o, none⟩) (by have := Hz2.out; simp; omega)]; exact rf o)
          | (go_at_call 69
             refine HC1.out.mono ?_
             rintro e w3 ⟨rfl, hb3⟩
             have hb3 : Below w2.heap.size w2 w3 := (Below.refl _ _).drew.trans hb3)))
      all_goals
        obtain ⟨w5, hw5⟩ : ∃ x, x = ((w4.setCell ⟨q + 1, 1, none⟩ (.int .i64 T.where_)).setCell ⟨q + 1, 2, none⟩ (.int .i64 T.start)).setCell ⟨q + 1, 3, none⟩ (.slice aw (Co.writes T.sh T.ops T.at_).length cw) := ⟨_, rfl⟩
        have hr5 : w5.heap[q + 1]? = some (.cells #[.int .i64 T.id, .int .i64 T.where_, .int .i64 T.start, .slice aw (Co.writes T.sh T.ops T.at_).length cw, .slice none 0 0] 31 (0, 0)) := by
          rw [hw5]
          exact heap_set (heap_set (heap_set ((hb4.block (q + 1) (by have := Hz2.out; omega)).trans Hr2.out) 1 _) 2 _) 3 _
        have hh5 : w5.heap[q]? = some (.cells #[.int .i64 0, .int .i64 0, .int .i64 0, .int .i64 0, .int .i64 0, .slice none 0 0, .slice none 0 0, .int .i64 0, .bool false, .int .i64 0] 37 (0, 0)) := by
          rw [hw5, heap_setOther _ (by omega), heap_setOther _ (by omega), heap_setOther _ (by omega)]
          exact (hb4.block q (by have := Hz2.out; omega)).trans Hh2.out
        have hB5 : Below w.heap.size w w5 := by
          rw [hw5]
          exact setCell_below (setCell_below (setCell_below (HB2.out.trans (hb4.mono (by have := Hz2.out; have := Hq.out; omega))) (by have := Hq.out; omega) _ _) (by have := Hq.out; omega) _ _) (by have := Hq.out; omega) _ _
        have how5 : Own ECOp 47 (q + 2) w5 (.slice aw (Co.writes T.sh T.ops T.at_).length cw) (Co.writes T.sh T.ops T.at_) := by
          have h0 : Own ECOp 47 (q + 2) w4 (.slice aw (Co.writes T.sh T.ops T.at_).length cw) (Co.writes T.sh T.ops T.at_) := how.base (by have := Hz2.out; omega)
          rw [hw5]
          refine OwnC.stay h0 fun k hk => ?_
          have := (h0.lt k hk).1
          rw [heap_setOther _ (by omega), heap_setOther _ (by omega), heap_setOther _ (by omega)]
        have hz5 : q + 2 ≤ w5.heap.size := by rw [hw5]; simp; have := hb4.size; have := Hz2.out; omega
        rw [← hw5]
        have h5 := H0.out.keep hB5
        have c10' := h5.c10
        have c2' := h5.c2
        obtain ⟨sr, hsr⟩ : ∃ b, b = T.ser := ⟨_, rfl⟩
        rw [← hsr] at c2'
        have Hsr := Lib.hid hsr
        have H5 := Lib.hid h5
        have Hlw := Lib.hid hl4
        clear hw5 hb3 hb4 x1 x2 x3 xf how hrw hcw hmw ho4 HC1 HC2 c6 c10 h5 hsr hl4 hz34
        cases sr
        · have hor5 : Own EInt 3 (q + 1) w5 (.slice none 0 0) [] := Own.nil _ _ _ _
          have how6 := how5.base (base' := q + 1) (by omega)
          clear how5
          have x0 : w5.cell? ⟨q + 1, 0, none⟩ = some (.int .i64 T.id) := by simp [World.cell?, hr5]
          have x1 : w5.cell? ⟨q + 1, 1, none⟩ = some (.int .i64 T.where_) := by simp [World.cell?, hr5]
          have x2 : w5.cell? ⟨q + 1, 2, none⟩ = some (.int .i64 T.start) := by simp [World.cell?, hr5]
          have x3 : w5.cell? ⟨q + 1, 3, none⟩ = some (.slice aw (Co.writes T.sh T.ops T.at_).length cw) := by simp [World.cell?, hr5]
          have x4 : w5.cell? ⟨q + 1, 4, none⟩ = some (.slice none 0 0) := by simp [World.cell?, hr5]
          have u0 : w5.cell? ⟨q, 0, none⟩ = some (.int .i64 0) := by simp [World.cell?, hh5]
          have u1 : w5.cell? ⟨q, 1, none⟩ = some (.int .i64 0) := by simp [World.cell?, hh5]
          have u2 : w5.cell? ⟨q, 2, none⟩ = some (.int .i64 0) := by simp [World.cell?, hh5]
          have u3 : w5.cell? ⟨q, 3, none⟩ = some (.int .i64 0) := by simp [World.cell?, hh5]
          have u4 : w5.cell? ⟨q, 4, none⟩ = some (.int .i64 0) := by simp [World.cell?, hh5]
          have u5 : w5.cell? ⟨q, 5, none⟩ = some (.slice none 0 0) := by simp [World.cell?, hh5]
          have u6 : w5.cell? ⟨q, 6, none⟩ = some (.slice none 0 0) := by simp [World.cell?, hh5]
          have u7 : w5.cell? ⟨q, 7, none⟩ = some (.int .i64 0) := by simp [World.cell?, hh5]
          have u8 : w5.cell? ⟨q, 8, none⟩ = some (.bool false) := by simp [World.cell?, hh5]
          have u9 : w5.cell? ⟨q, 9, none⟩ = some (.int .i64 0) := by simp [World.cell?, hh5]
          have uf : ∀ o, w5.frozen? ⟨q, o, none⟩ = false := fun o => by simp [World.frozen?, hh5]
          have Hhx := Lib.hid hh5
          have HBx := Lib.hid hB5
          have Howx := Lib.hid how6
          have Horx := Lib.hid hor5
          clear hr5 hh5 hB5 how6 hor5
          go_wp2_with fail
          go_region
          go_wp2_with fail
          refine Hfin4.out w5 { Co.noAsk with shard := T.at_, kind := 3, txn := T.id, home := T.where_, start := T.start, writes := Co.writes T.sh T.ops T.at_, reads := [] } true _ (.slice aw (Co.writes T.sh T.ops T.at_).length cw) (.slice none 0 0) _ _ _ _ _ _ _ _ _ _ HBx.out Hhx.out ?_ ?_ Howx.out Horx.out Hlw.out (Nat.zero_le _) ?_ ?_ ?_
          · simp [Co.nextA, ← Hwt.out, ← Hst.out, ← Hsr.out]
          · simp [Co.nextT, ← Hwt.out, ← Hst.out]
          · rfl
          · rfl
          · rfl
        · have HC : RowKit.Hid (Calls Try.prog 68 #[.pointer (some ⟨g, 0, none⟩), .int .i64 T.at_] w5 fun e w' => ∃ v, e = .returned v ∧ Own EInt 3 w5.heap.size w' v (Co.reads T.sh T.ops T.at_) ∧ (Co.reads T.sh T.ops T.at_).length ≤ 12 ∧ Below w5.heap.size w5 w') :=
            Lib.hid (co_reads T.at_ w5.heap.size w5 rfl H5.out)
          have Hr5 := Lib.hid hr5
          have Hh5 := Lib.hid hh5
          have HB5 := Lib.hid hB5
          have How5 := Lib.hid how5
          clear hr5 hh5 hB5 how5
          go_wp2_with fail
          refine HC.out.mono ?_
          rintro e w6 ⟨rv, rfl, ho6, hl6, hb6⟩
          obtain ⟨ar, cr, rfl, hcr, hmr, hrr, hor⟩ := ho6.shape _ rfl
          have hr6 : w6.heap[q + 1]? = _ := (hb6.block (q + 1) (by omega)).trans Hr5.out
          have hh6 : w6.heap[q]? = _ := (hb6.block q (by omega)).trans Hh5.out
          have hB6 : Below w.heap.size w w6 := HB5.out.trans (hb6.mono (by have := Hq.out; omega))
          have how6 := How5.out.below hb6
          have y4 : w6.cell? ⟨q + 1, 4, none⟩ = some (.slice none 0 0) := by simp [World.cell?, hr6]
          have yf4 : w6.frozen? ⟨q + 1, 4, none⟩ = false := by simp [World.frozen?, hr6]
          obtain ⟨w7, hw7⟩ : ∃ x, x = w6.setCell ⟨q + 1, 4, none⟩ (.slice ar (Co.reads T.sh T.ops T.at_).length cr) := ⟨_, rfl⟩
          have hr7 : w7.heap[q + 1]? = some (.cells #[.int .i64 T.id, .int .i64 T.where_, .int .i64 T.start, .slice aw (Co.writes T.sh T.ops T.at_).length cw, .slice ar (Co.reads T.sh T.ops T.at_).length cr] 31 (0, 0)) := by
            rw [hw7]; exact heap_set hr6 4 _
          have hh7 : w7.heap[q]? = some (.cells #[.int .i64 0, .int .i64 0, .int .i64 0, .int .i64 0, .int .i64 0, .slice none 0 0, .slice none 0 0, .int .i64 0, .bool false, .int .i64 0] 37 (0, 0)) := by
            rw [hw7, heap_setOther _ (by omega)]; exact hh6
          have hB7 : Below w.heap.size w w7 := by rw [hw7]; exact setCell_below hB6 (by have := Hq.out; omega) _ _
          have how7 : Own ECOp 47 (q + 1) w7 (.slice aw (Co.writes T.sh T.ops T.at_).length cw) (Co.writes T.sh T.ops T.at_) := by
            rw [hw7]
            exact (OwnC.stay how6 fun k hk => heap_setOther _ (by have := (how6.lt k hk).1; omega) _ _).base (by omega)
          have hor7 : Own EInt 3 (q + 1) w7 (.slice ar (Co.reads T.sh T.ops T.at_).length cr) (Co.reads T.sh T.ops T.at_) := by
            rw [hw7]
            exact (OwnI.stay hor fun k hk => heap_setOther _ (by have := (hor.lt k hk).1; omega) _ _).base (by omega)
          have h7 := H0.out.keep hB7
          have c107 := h7.c10
          have Hl6 := Lib.hid hl6
          clear hr6 hh6 hB6 how6 hor hrr hcr hmr ho6 hb6 HC h7 hl6
          go_upto_region 19 with fail
          rw [← hw7]
          clear hw7 y4 yf4 c10'
          have x0 : w7.cell? ⟨q + 1, 0, none⟩ = some (.int .i64 T.id) := by simp [World.cell?, hr7]
          have x1 : w7.cell? ⟨q + 1, 1, none⟩ = some (.int .i64 T.where_) := by simp [World.cell?, hr7]
          have x2 : w7.cell? ⟨q + 1, 2, none⟩ = some (.int .i64 T.start) := by simp [World.cell?, hr7]
          have x3 : w7.cell? ⟨q + 1, 3, none⟩ = some (.slice aw (Co.writes T.sh T.ops T.at_).length cw) := by simp [World.cell?, hr7]
          have x4 : w7.cell? ⟨q + 1, 4, none⟩ = some (.slice ar (Co.reads T.sh T.ops T.at_).length cr) := by simp [World.cell?, hr7]
          have u0 : w7.cell? ⟨q, 0, none⟩ = some (.int .i64 0) := by simp [World.cell?, hh7]
          have u1 : w7.cell? ⟨q, 1, none⟩ = some (.int .i64 0) := by simp [World.cell?, hh7]
          have u2 : w7.cell? ⟨q, 2, none⟩ = some (.int .i64 0) := by simp [World.cell?, hh7]
          have u3 : w7.cell? ⟨q, 3, none⟩ = some (.int .i64 0) := by simp [World.cell?, hh7]
          have u4 : w7.cell? ⟨q, 4, none⟩ = some (.int .i64 0) := by simp [World.cell?, hh7]
          have u5 : w7.cell? ⟨q, 5, none⟩ = some (.slice none 0 0) := by simp [World.cell?, hh7]
          have u6 : w7.cell? ⟨q, 6, none⟩ = some (.slice none 0 0) := by simp [World.cell?, hh7]
          have u7 : w7.cell? ⟨q, 7, none⟩ = some (.int .i64 0) := by simp [World.cell?, hh7]
          have u8 : w7.cell? ⟨q, 8, none⟩ = some (.bool false) := by simp [World.cell?, hh7]
          have u9 : w7.cell? ⟨q, 9, none⟩ = some (.int .i64 0) := by simp [World.cell?, hh7]
          have uf : ∀ o, w7.frozen? ⟨q, o, none⟩ = false := fun o => by simp [World.frozen?, hh7]
          have Hhx := Lib.hid hh7
          have HBx := Lib.hid hB7
          have Howx := Lib.hid how7
          have Horx := Lib.hid hor7
          clear hr7 hh7 hB7 how7 hor7
          go_wp2_with fail
          go_region
          go_wp2_with fail
          refine Hfin4.out w7 { Co.noAsk with shard := T.at_, kind := 3, txn := T.id, home := T.where_, start := T.start, writes := Co.writes T.sh T.ops T.at_, reads := Co.reads T.sh T.ops T.at_ } true _ (.slice aw (Co.writes T.sh T.ops T.at_).length cw) (.slice ar (Co.reads T.sh T.ops T.at_).length cr) _ _ _ _ _ _ _ _ _ _ HBx.out Hhx.out ?_ ?_ Howx.out Horx.out Hlw.out Hl6.out ?_ ?_ ?_
          · simp [Co.nextA, ← Hwt.out, ← Hst.out, ← Hsr.out]
          · simp [Co.nextT, ← Hwt.out, ← Hst.out]
          · rfl
          · rfl
          · rfl
    · have c19 := H2.out.c19
      have c8 := H2.out.c8
      have f19 := H2.out.fr 19
      obtain ⟨dv, hdv⟩ : ∃ b, b = T.doubt := ⟨_, rfl⟩
      obtain ⟨cv, hcv⟩ : ∃ b, b = T.e.c := ⟨_, rfl⟩
      rw [← hdv] at c19
      rw [← hcv] at c8
      obtain ⟨w3, hw3⟩ : ∃ x, x = w2.setCell ⟨g, 19, none⟩ (.bool (dv || cv)) := ⟨_, rfl⟩
      have hh3 : w3.heap[q]? = some (.cells #[.int .i64 0, .int .i64 0, .int .i64 0, .int .i64 0, .int .i64 0, .slice none 0 0, .slice none 0 0, .int .i64 0, .bool false, .int .i64 0] 37 (0, 0)) := by rw [hw3, heap_setOther _ (Ne.symm hgq)]; exact Hh2.out
      have hT3 : TxA B w3 g vm ov { T with doubt := T.doubt || T.e.c } := by rw [hw3, hdv, hcv]; exact H2.out.st19 _
      have ho3 : Only (· = g) w w3 := by rw [hw3]; exact (Below.only HB2.out).and (set_only _ g 19 _)
      have hz3 : w3.heap.size = q + 2 := by rw [hw3]; simp; exact Hz2.out
      have HT3 := Lib.hid hT3
      have Ho3 := Lib.hid ho3
      have Hh3 := Lib.hid hh3
      have Hz3 := Lib.hid hz3
      have Hdv := Lib.hid hdv
      have Hcv := Lib.hid hcv
      clear hT3 ho3 hh3 hz3 hdv hcv
      go_upto_region 21 with fail
      go_cut [] from 113 to 125 (fun wx => wx = w3)
      case first =>
        cases dv
        · go_wp2_with fail
          go_meet
          exact hw3.symm
        · go_wp2_with fail
          go_meet
          exact hw3.symm
      obtain ⟨wy, hwy⟩ : ∃ x, x = wc := ⟨_, rfl⟩
      subst hwy
      have hcut' : wy = w3 := hcut
      subst hcut'
      clear c19 c8 f19 hw3 hcut
      have d7 : wy.cell? ⟨g, 7, none⟩ = some (.int .i64 T.e.t) := HT3.out.c7
      have d8 : wy.cell? ⟨g, 8, none⟩ = some (.bool T.e.c) := HT3.out.c8
      have d9 : wy.cell? ⟨g, 9, none⟩ = some (.int .i64 T.e.a) := HT3.out.c9
      have HC : RowKit.Hid (Calls Try.prog 69 #[.pointer (some ⟨g, 0, none⟩)] wy.drew fun e w' => e = .returned (.int .i64 T.where_) ∧ Below wy.heap.size wy.drew w') :=
        Lib.hid (co_where (T := { T with doubt := T.doubt || T.e.c }) wy.heap.size wy.drew rfl (HT3.out.keep (Below.refl _ _).drew))
      go_upto_region 22 with fail
      go_region_law ((go_simp; go_at_call 69; refine HC.out.mono ?_; rintro e w4 ⟨rfl, hb4⟩; have hb4 : Below wy.heap.size wy w4 := (Below.refl _ _).drew.trans hb4; have e7 := cell_thru d7 hb4; have e8 := cell_thru d8 hb4; have e9 := cell_thru d9 hb4; have hh4 : w4.heap[q]? = some (.cells #[.int .i64 0, .int .i64 0, .int .i64 0, .int .i64 0, .int .i64 0, .slice none 0 0, .slice none 0 0, .int .i64 0, .bool false, .int .i64 0] 37 (0, 0)) := (hb4.block q (by have := Hz3.out; omega)).trans Hh3.out; have u0 : w4.cell? ⟨q, 0, none⟩ = some (.int .i64 0) := (by simp [World.cell?, hh4]); have u1 : w4.cell? ⟨q, 1, none⟩ = some (.int .i64 0) := (by simp [World.cell?, hh4]); have u2 : w4.cell? ⟨q, 2, none⟩ = some (.int .i64 0) := (by simp [World.cell?, hh4]); have u3 : w4.cell? ⟨q, 3, none⟩ = some (.int .i64 0) := (by simp [World.cell?, hh4]); have u4 : w4.cell? ⟨q, 4, none⟩ = some (.int .i64 0) := (by simp [World.cell?, hh4]); have u5 : w4.cell? ⟨q, 5, none⟩ = some (.slice none 0 0) := (by simp [World.cell?, hh4]); have u6 : w4.cell? ⟨q, 6, none⟩ = some (.slice none 0 0) := (by simp [World.cell?, hh4]); have u7 : w4.cell? ⟨q, 7, none⟩ = some (.int .i64 0) := (by simp [World.cell?, hh4]); have u8 : w4.cell? ⟨q, 8, none⟩ = some (.bool false) := (by simp [World.cell?, hh4]); have u9 : w4.cell? ⟨q, 9, none⟩ = some (.int .i64 0) := (by simp [World.cell?, hh4]); have uf : ∀ o, w4.frozen? ⟨q, o, none⟩ = false := fun o => (by simp [World.frozen?, hh4])))
      all_goals
        have hrow4 : w4.heap[g]? = some (.cells (txRow { T with doubt := T.doubt || T.e.c } ov vm) 131 (0, 0)) := (hb4.block g HT3.out.lt).trans HT3.out.row
        have honly4 : Only (· = g) w w4 := Ho3.out.and (Below.only hb4)
        have Hrow4 := Lib.hid hrow4
        have Honly4 := Lib.hid honly4
        have Hh4 := Lib.hid hh4
        clear hrow4 honly4 hh4 HC hb4
        go_wp2_with fail
        go_simp
        have hgen : ∀ (tm : Array Value) (v0 v1 v2 v3 v4 v5 v6 v7 v8 v9 : Value), tm.getD 2 undef = .pointer (some ⟨q, 0, none⟩) → tm.getD 3 undef = .bool true → #[v0, v1, v2, v3, v4, v5, v6, v7, v8, v9] = askRow { Co.noAsk with shard := T.where_, kind := 4, e := T.e } (.slice none 0 0) (.slice none 0 0) →
            bodyPost Try.prog Try.f19 (NextPost B g vm ov T E w) .ret ⟨tm, []⟩ ((((((((((w4.setCell ⟨q, 0, none⟩ v0).setCell ⟨q, 1, none⟩ v1).setCell ⟨q, 2, none⟩ v2).setCell ⟨q, 3, none⟩ v3).setCell ⟨q, 4, none⟩ v4).setCell ⟨q, 5, none⟩ v5).setCell ⟨q, 6, none⟩ v6).setCell ⟨q, 7, none⟩ v7).setCell ⟨q, 8, none⟩ v8).setCell ⟨q, 9, none⟩ v9) := fun tm v0 v1 v2 v3 v4 v5 v6 v7 v8 v9 hp h3 hrow => by
          have ho := ask_only Honly4.out (Nat.le_of_eq Hq.out.symm) v0 v1 v2 v3 v4 v5 v6 v7 v8 v9
          have hr : _ = _ := (ask_other hgq v0 v1 v2 v3 v4 v5 v6 v7 v8 v9).trans Hrow4.out
          refine next_ret (A := { Co.noAsk with shard := T.where_, kind := 4, e := T.e }) (ok := true) (T' := { T with doubt := T.doubt || T.e.c }) (wv := .slice none 0 0) (rv := .slice none 0 0) ?_ ?_ hp h3 (by rw [← hrow]; exact ask_fin Hh4.out v0 v1 v2 v3 v4 v5 v6 v7 v8 v9) (Own.nil _ _ _ _) (Own.nil _ _ _ _) (Nat.zero_le _) (Nat.zero_le _) (H0.out.set ho hr rfl rfl ?_) ho
          · simp [Co.nextA, ← Hwt.out, ← Hst.out]
          · simp [Co.nextT, ← Hwt.out, ← Hst.out]
          · exact ⟨H0.out.right.ops, H0.out.right.many, H0.out.right.sh, H0.out.right.at_, H0.out.right.waited, H0.out.right.vals⟩
        refine hgen _ _ _ _ _ _ _ _ _ _ _ ?_ ?_ ?_
        · rfl
        · rfl
        · rfl
    · have c10 := H2.out.c10
      have c7 := H2.out.c7
      have c8 := H2.out.c8
      have c9 := H2.out.c9
      go_wp2_with fail
      go_region
      go_wp2_with fail
      refine Hfin3.out { Co.noAsk with shard := T.at_, kind := 5, e := T.e } true _ _ _ _ _ _ _ _ _ _ _ ?_ ?_ ?_ ?_ ?_ ?_ ?_
      · simp [Co.nextA, ← Hwt.out, ← Hst.out]
      · simp [Co.nextT, ← Hwt.out, ← Hst.out]
      · rfl
      · rfl
      · rfl
      · rfl
      · rfl
    · go_wp2_with fail
      refine Hfin2.out Co.noAsk false _ _ _ _ _ _ _ _ _ _ _ ?_ ?_ ?_ ?_ ?_ ?_ ?_
      · unfold Co.nextA
        rw [← Hwt.out, ← Hst.out]
        simp [n0, n5, n1, n2, n3, n4, n6, n7]
      · unfold Co.nextT
        rw [← Hwt.out, ← Hst.out]
        simp [n6]
      · rfl
      · rfl
      · rfl
      · rfl
      · rfl
  · go_wp2_with fail
    refine Hfin.out Co.noAsk false _ (by simp [Co.nextA, ← Hwt.out]) (by simp [Co.nextT, ← Hwt.out]) rfl rfl rfl rfl _ _ (ask_below Hb1.out (Nat.le_of_eq Hq.out.symm) _ _ _ _ _ _ _ _ _ _) (ask_fin Hh1.out (.int .i64 0) (.int .i64 0) (.int .i64 0) (.int .i64 0) (.int .i64 0) (.slice none 0 0) (.slice none 0 0) (.int .i64 0) (.bool false) (.int .i64 0)) ?_
    rfl
end Go.Proofs.Ytmmgnbdngpkfcaa


/-
  The reference's disk: one step: its plain law and memory.
-/
import Derived.Test.YtennjoegjghlaaaDiskR
import Derived.Laws.CopyOwn
namespace Go.Proofs.Ytennjoegjghlaaa
open Go.RowKit
set_option linter.unusedVariables false

namespace Dk
/-- one step: the disk behind it, the bytes, the error -/
def dstep (D : Dsk) (o : DStep) : Dsk × List (BitVec 8) × Int :=
  if o.1 = 4 then (fuse D o.2.2.1, [], 0)
  else if o.1 = 5 then (crash D o.2.2.2.2, [], 0)
  else if o.1 = 0 then ((app D o.2.1 o.2.2.2.1).1, [], (app D o.2.1 o.2.2.2.1).2)
  else if o.1 = 1 then ((clear D o.2.1).1, [], (clear D o.2.1).2)
  else if o.1 = 2 then ((flush D o.2.1).1, [], (flush D o.2.1).2)
  else if o.1 = 3 then (D, (read D o.2.1).1, (read D o.2.1).2)
  else (D, [], 0)
end Dk

/-- the results' lemma of the step -/
theorem results_cell3 {P : Program} {fn : Func} {p u v : Tmp} {ty : TypeId} (h : fn.results = #[.cell p ty, .tmp u, .tmp v]) (tmps : Array Value) (w : World) (g : Nat) (t : TypeId) (cs : Array Value) (fr : Nat × Nat) (d : TypeDesc)
    (hp : tmps.getD p undef = .pointer (some ⟨g, 0, none⟩)) (hg : w.heap[g]? = some (.cells cs t fr))
    (hu : P.underlying ty = some d) (hd : (match d with | .struct _ | .array _ _ => true | _ => false) = true) (hi : (P.info? ty).map (·.size) = some cs.size) :
    (results fn tmps).run P w = .ok (.tuple #[.agg cs, tmps.getD u undef, tmps.getD v undef]) w := by
  have hp' : tmps[p]?.getD undef = .pointer (some ⟨g, 0, none⟩) := by simpa using hp
  simp [results, h, hp', asAddr, run_loadVar_row w g t ty cs fr d hg hu hd hi]

def zrow : Array Value := #[.slice none 0 0, .bool false, .slice none 0 0, .slice none 0 0, .bool false, .slice none 0 0, .slice none 0 0, .bool false, .slice none 0 0, .slice none 0 0, .bool false, .slice none 0 0, .int .i64 0, .int .i64 0, .int .i64 0, .bool false]
/-- the memory of a step: the disk's copy, the step's, the result's -/
structure DoM (w0 w : World) (s : Nat) (C : Array Value) (O : Array Value) : Prop where
  size : s + 3 ≤ w.heap.size
  below : Below s w0 w
  d : w.heap[s]? = some (.cells C 52 (0, 0))
  o : w.heap[s + 1]? = some (.cells O 45 (0, 0))
  z : w.heap[s + 1 + 1]? = some (.cells zrow 52 (0, 0))
theorem alloc_size (w : World) (o : Obj) : (w.alloc o).heap.size = w.heap.size + 1 := by show (w.heap.push o).size = _; simp
theorem do_mem (w : World) (s : Nat) (hs : s = w.heap.size) (C O : Array Value) (wz : World) (hwz : wz = ((w.alloc (.cells C 52)).alloc (.cells O 45)).alloc (.cells zrow 52)) : DoM w wz s C O := by
  subst hs hwz
  have e1 := alloc_size w (.cells C 52)
  have e2 := alloc_size (w.alloc (.cells C 52)) (.cells O 45)
  have e3 := alloc_size ((w.alloc (.cells C 52)).alloc (.cells O 45)) (.cells zrow 52)
  refine ⟨by omega, ((alloc_below w _).trans ((alloc_below _ _).mono (by omega))).trans ((alloc_below _ _).mono (by omega)), ?_, ?_, ?_⟩
  · rw [heap_alloc_old _ _ (by omega), heap_alloc_old _ _ (by omega)]; exact heap_alloc_new w _
  · rw [heap_alloc_old _ _ (by omega), ← e1]; exact heap_alloc_new _ _
  · have : w.heap.size + 1 + 1 = ((w.alloc (.cells C 52)).alloc (.cells O 45)).heap.size := by omega
    rw [this]; exact heap_alloc_new _ _
theorem row_load {P : Program} (w : World) (s n : Nat) (C : Array Value) (t : TypeId) (fr : Nat × Nat) (hh : w.heap[s]? = some (.cells C t fr)) (hn : C.size = n) : (loadCellsFrom ⟨s, 0, none⟩ 0 n #[]).run P w = .ok C w := by
  subst hn
  have := run_loadCells_list (P := P) w ⟨s, 0, none⟩ C.toList (fun j v hv => by
    have hadd : (⟨s, 0, none⟩ : Addr).add j = ⟨s, j, none⟩ := by unfold Addr.add; split <;> simp_all
    rw [hadd, cell_of_row _ _ j C t fr hh]
    simpa using hv)
  simpa [loadCells] using this
theorem row_store {P : Program} (w : World) (g : Nat) (old C : Array Value) (t : TypeId) (hh : w.heap[g]? = some (.cells old t (0, 0))) (ho : old.size = C.size) (h1 : C.all (·.oneCell') = true) :
    (storeCells ⟨g, 0, none⟩ C.toList 0).run P w = .ok () (w.setRow g C) :=
  run_storeCells_from (P := P) g t C.toList 0 old w hh (by simp; omega) (fun v hv => (Array.all_eq_true_iff_forall_mem.1 h1) v (by simpa using hv))

theorem RfM.one {ok : Nat → Prop} {w : World} {vs us : Nat → Value} {D : Dk.Dsk} (h : RfM ok w vs us D) : (Dk.rcells vs us D).all (·.oneCell') = true := by
  obtain ⟨a0, c0, e0, _⟩ := h.sa 0 (by decide)
  obtain ⟨a1, c1, e1, _⟩ := h.sa 1 (by decide)
  obtain ⟨a2, c2, e2, _⟩ := h.sa 2 (by decide)
  obtain ⟨a3, c3, e3, _⟩ := h.sa 3 (by decide)
  obtain ⟨b0, d0, f0, _⟩ := h.mo 0 (by decide)
  obtain ⟨b1, d1, f1, _⟩ := h.mo 1 (by decide)
  obtain ⟨b2, d2, f2, _⟩ := h.mo 2 (by decide)
  obtain ⟨b3, d3, f3, _⟩ := h.mo 3 (by decide)
  unfold Dk.rcells
  rw [e0, e1, e2, e3, f0, f1, f2, f3]
  simp [Value.oneCell']
/-- what is copied out in the end -/
theorem DoM.done {w0 w : World} {s : Nat} {C O : Array Value} (h : DoM w0 w s C O) :
    (w.setRow (s + 1 + 1) C).heap[s + 1 + 1]? = some (.cells C 52 (0, 0)) ∧ Below s w0 (w.setRow (s + 1 + 1) C) :=
  ⟨setRow_heap w (s + 1 + 1) _ C _ _ h.z, below_setRow h.below (by omega) C⟩
theorem DoM.set {w0 w : World} {s : Nat} {C O : Array Value} (h : DoM w0 w s C O) (k : Nat) (v : Value) : DoM w0 (w.setCell ⟨s, k, none⟩ v) s (C.setIfInBounds k v) O := by
  have ho : Only (· = s) w (w.setCell ⟨s, k, none⟩ v) := Only.setCell (S := (· = s)) (Only.refl _ _) (p := ⟨s, k, none⟩) (.inl rfl) _
  have hz := h.size
  exact ⟨Nat.le_trans hz ho.size, h.below.trans (ho.below (by omega) fun k hk => by subst hk; exact Nat.le_refl _), heap_set h.d k v, by rw [ho.block (s + 1) (by omega) (by omega)]; exact h.o, by rw [ho.block (s + 1 + 1) (by omega) (by omega)]; exact h.z⟩
theorem DoM.keep {w0 w w' : World} {s : Nat} {C O : Array Value} (h : DoM w0 w s C O) (hb : Below w.heap.size w w') : DoM w0 w' s C O := by
  have hz := h.size
  exact ⟨Nat.le_trans hz hb.size, h.below.trans (hb.mono (by omega)), by rw [hb.block s (by omega)]; exact h.d, by rw [hb.block (s + 1) (by omega)]; exact h.o, by rw [hb.block (s + 1 + 1) (by omega)]; exact h.z⟩
theorem wpList_loadRow {P : Program} {w : World} {ops : Array Oper} {rest : List Oper} {o : Oper} {a : Act} {Q : Exit → Act → World → Prop} (hgd : o.guard = none) (x : Operand) (ty : TypeId) (ho : o.op = .load ty x) (g : Nat) (hx : a.eval x = .pointer (some ⟨g, 0, none⟩))
    (cs : Array Value) (t : TypeId) (fr : Nat × Nat) (d : TypeDesc) (hg : w.heap[g]? = some (.cells cs t fr)) (hu : P.underlying ty = some d) (hd : (match d with | .struct _ | .array _ _ => true | _ => false) = true) (hi : (P.info? ty).map (·.size) = some cs.size)
    (h : wpList P ops Q rest (a.put o.dst (.agg cs)) w) : wpList P ops Q (o :: rest) a w := by
  refine wpList_plain hgd fun K hK => ?_
  unfold Oper.wp
  simp [execOp, ho, hx, Instr.loadAt, Instr.sureAddr, run_loadVar_row w g t ty cs fr d hg hu hd hi, Result.andThen]
  exact hK _ _ h
theorem wpList_storeRow {P : Program} {w : World} {ops : Array Oper} {rest : List Oper} {o : Oper} {a : Act} {Q : Exit → Act → World → Prop} (hgd : o.guard = none) (x y : Operand) (ty : TypeId) (ho : o.op = .store ty x y) (g : Nat) (hx : a.eval x = .pointer (some ⟨g, 0, none⟩))
    (old cs : Array Value) (hy : a.eval y = .agg cs) (t : TypeId) (hg : w.heap[g]? = some (.cells old t (0, 0))) (hi : (P.info? ty).map (·.size) = some cs.size) (hz : old.size = cs.size) (h1 : cs.all (·.oneCell') = true)
    (h : wpList P ops Q rest (a.put o.dst undef) (w.setRow g cs)) : wpList P ops Q (o :: rest) a w := by
  refine wpList_plain hgd fun K hK => ?_
  unfold Oper.wp
  simp [execOp, ho, hx, hy, Instr.storeAt, Instr.sureAddr, run_storeVar_row w g t ty old cs hg hi hz h1, Result.andThen]
  exact hK _ _ h
theorem step_loadRow {P : Program} {w : World} {o : Oper} {a : Act} {K : Act → World → Prop} {Q : Exit → Act → World → Prop} (x : Operand) (ty : TypeId) (ho : o.op = .load ty x) (g : Nat) (hx : a.eval x = .pointer (some ⟨g, 0, none⟩))
    (cs : Array Value) (t : TypeId) (fr : Nat × Nat) (d : TypeDesc) (hg : w.heap[g]? = some (.cells cs t fr)) (hu : P.underlying ty = some d) (hd : (match d with | .struct _ | .array _ _ => true | _ => false) = true) (hi : (P.info? ty).map (·.size) = some cs.size)
    (h : K (a.put o.dst (.agg cs)) w) : o.wp P a w K Q := by
  unfold Oper.wp
  simp [execOp, ho, hx, Instr.loadAt, Instr.sureAddr, run_loadVar_row w g t ty cs fr d hg hu hd hi, Result.andThen]
  exact h
theorem step_storeRow {P : Program} {w : World} {o : Oper} {a : Act} {K : Act → World → Prop} {Q : Exit → Act → World → Prop} (x y : Operand) (ty : TypeId) (ho : o.op = .store ty x y) (g : Nat) (hx : a.eval x = .pointer (some ⟨g, 0, none⟩))
    (old cs : Array Value) (hy : a.eval y = .agg cs) (t : TypeId) (hg : w.heap[g]? = some (.cells old t (0, 0))) (hi : (P.info? ty).map (·.size) = some cs.size) (hz : old.size = cs.size) (h1 : cs.all (·.oneCell') = true)
    (h : K (a.put o.dst undef) (w.setRow g cs)) : o.wp P a w K Q := by
  unfold Oper.wp
  simp [execOp, ho, hx, hy, Instr.storeAt, Instr.sureAddr, run_storeVar_row w g t ty old cs hg hi hz h1, Result.andThen]
  exact h
theorem DoM.sure {w0 w : World} {s : Nat} {C : Array Value} {kk tt nn : Int} {vB vK : Value} (h : DoM w0 w s C #[.int .i64 kk, .int .i64 tt, .int .i64 nn, vB, vK]) :
    w.cell? ⟨s + 1, 0, none⟩ = some (.int .i64 kk) ∧ w.cell? ⟨s + 1, 1, none⟩ = some (.int .i64 tt) ∧ w.cell? ⟨s + 1, 2, none⟩ = some (.int .i64 nn) ∧ w.cell? ⟨s + 1, 3, none⟩ = some vB ∧ w.cell? ⟨s + 1, 4, none⟩ = some vK := by
  refine ⟨?_, ?_, ?_, ?_, ?_⟩ <;> simp [World.cell?, h.o]

/-- blocks that a step leaves alone, and new ones -/
def okx (ok : Nat → Prop) (s : Nat) (k : Nat) : Prop := (ok k ∧ k < s) ∨ s + 3 ≤ k
theorem RfM.set0 {ok : Nat → Prop} {s : Nat} {w : World} {vs us : Nat → Value} {D : Dk.Dsk} (h : RfM (okx ok s) w vs us D) (k : Nat) (v : Value) : RfM (okx ok s) (w.setCell ⟨s, k, none⟩ v) vs us D :=
  h.mono fun q hq hlt => ⟨(Only.setCell (S := (· = s)) (Only.refl _ w) (p := ⟨s, k, none⟩) (.inl rfl) v).block q hlt (by rcases hq with h | h <;> omega), hq⟩
theorem Dk.dstep_err (D : Dk.Dsk) (kk tt nn : Int) (bs : List (BitVec 8)) (ks : List Int) (h : kk = 0 ∨ kk = 1 ∨ kk = 2 ∨ kk = 3) (he : Dk.err D tt ≠ 0) : Dk.dstep D (kk, tt, nn, bs, ks) = (D, [], Dk.err D tt) := by
  unfold Dk.dstep Dk.app Dk.clear Dk.flush Dk.read
  rcases h with rfl | rfl | rfl | rfl <;> simp [he]
def DoPost (ok : Nat → Prop) (w : World) (D : Dk.Dsk) (o : DStep) (e : Ending) (w' : World) : Prop :=
  ∃ vs us vb, e = .returned (.tuple #[.agg (Dk.rcells vs us (Dk.dstep D o).1), vb, .int .i64 (Dk.dstep D o).2.2]) ∧ RfM (fun k => ok k ∨ w.heap.size ≤ k) w' vs us (Dk.dstep D o).1 ∧ Bt (fun _ => True) w' vb (Dk.dstep D o).2.1 ∧ Below w.heap.size w w'

end Go.Proofs.Ytennjoegjghlaaa

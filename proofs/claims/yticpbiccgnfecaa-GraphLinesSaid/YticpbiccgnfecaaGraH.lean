
/-
  Arcs that come in, and arcs written out.
-/
import Derived.Test.YticpbiccgnfecaaGraA
import Derived.Test.YticpbiccgnfecaaOpen
namespace Go.Proofs.Yticpbiccgnfecaa
open Go.RowKit Go.ChangeShapes Go.WideShapes Go.ChangeAt
set_option linter.unusedVariables false

theorem reads_pair : Reads Try.prog 27 EArc (fun _ => 1) := by
  intro H enc w fuel cs d ps hd
  obtain ⟨xs, m, _, _, hlen, hxl, hel⟩ := DataW.trod_array Try.underlying27 hd
  rw [show Try.prog.cellsOf 27 = 2 by kernel_rfl] at hlen
  have each : ∀ i, i < 2 → ∃ c : Int, cs[i]? = some (.int .i64 c) ∧ -9223372036854775808 ≤ c ∧ c ≤ 9223372036854775807 := fun i hi => by
    have h1 := hel i hi
    rw [show Try.prog.cellsOf 3 = 1 by kernel_rfl, Nat.mul_one] at h1
    obtain ⟨y, hy⟩ : ∃ y, xs[i]? = some y := ⟨xs[i]'(by omega), List.getElem?_eq_getElem (by omega)⟩
    rw [hy] at h1
    obtain ⟨x, hr, _⟩ := reads_int Try.underlying3 (d := y.1) (ps := y.2) h1
    have hr' : (cs.drop i).take 1 = [.int .i64 x] := hr.1
    refine ⟨x, ?_, hr.2⟩
    have h3 := congrArg (fun l => l[0]?) hr'
    simpa [List.getElem?_take, List.getElem?_drop] using h3
  obtain ⟨x, hx, rx⟩ := each 0 (by decide)
  obtain ⟨y, hy, ry⟩ := each 1 (by decide)
  refine ⟨(x, y), ?_, bulk_pos _⟩
  have e : cs = [.int .i64 x, .int .i64 y] := by
    match cs, hlen, hx, hy with
    | [a, b], _, hx, hy =>
      have hx' : some a = some (Value.int .i64 x) := hx
      have hy' : some b = some (Value.int .i64 y) := hy
      injection hx' with hx'; injection hy' with hy'
      rw [hx', hy']
  rw [e]; exact arc_mk rx ry
theorem reads_pairs : Reads Try.prog 22 (ESlice EArc (by decide)) (bulkL (fun _ => 1)) := reads_slice (by decide) Try.underlying22 (by kernel_rfl) reads_pair
theorem reads_gints : Reads Try.prog 23 EInts (bulkL (fun _ => 1)) := reads_slice (by decide) Try.underlying23 (by kernel_rfl) (reads_int Try.underlying3)

/-- arcs in a block's cells -/
theorem sl_pairs {w : World} {g te : Nat} {fr : Nat × Nat} {cs : Array Value} (l : List (Int × Int)) (h : w.heap[g]? = some (.cells cs te fr)) (hr : ∀ p ∈ l, (-9223372036854775808 ≤ p.1 ∧ p.1 ≤ 9223372036854775807) ∧ (-9223372036854775808 ≤ p.2 ∧ p.2 ≤ 9223372036854775807))
    (hc : ∀ (k : Nat) (p : Int × Int), l[k]? = some p → cs[k * 2]? = some (Value.int .i64 p.1) ∧ cs[k * 2 + 1]? = some (Value.int .i64 p.2)) : Sl EArc (fun _ => True) w (some ⟨g, 0, none⟩) l := by
  intro k p hp
  obtain ⟨h1, h2⟩ := hc k p hp
  have hm : p ∈ l := List.mem_of_getElem? hp
  refine ⟨g, 0, rfl, trivial, [.int .i64 p.1, .int .i64 p.2], arc_mk (hr p hm).1 (hr p hm).2, fun j v hj => ?_⟩
  have hj2 : j < 2 := by have := (List.getElem?_eq_some_iff.1 hj).1; simpa using this
  have hz : EArc.sz = 2 := rfl
  rw [hz]
  have e : j = 0 ∨ j = 1 := by omega
  rcases e with rfl | rfl
  · simp at hj; subst hj; simp [World.cell?, h, h1]
  · simp at hj; subst hj; simp [World.cell?, h, h2]
theorem sl_nums {w : World} {g te : Nat} {fr : Nat × Nat} {cs : Array Value} (l : List Int) (h : w.heap[g]? = some (.cells cs te fr)) (hr : ∀ p ∈ l, -9223372036854775808 ≤ p ∧ p ≤ 9223372036854775807)
    (hc : ∀ (k : Nat) (p : Int), l[k]? = some p → cs[k]? = some (Value.int .i64 p)) : Sl EInt (fun _ => True) w (some ⟨g, 0, none⟩) l := by
  intro k p hp
  have h1 := hc k p hp
  have hm : p ∈ l := List.mem_of_getElem? hp
  refine ⟨g, 0, rfl, trivial, [.int .i64 p], ⟨rfl, hr p hm⟩, fun j v hj => ?_⟩
  have hj0 : j = 0 := by have := (List.getElem?_eq_some_iff.1 hj).1; simp at this; exact this
  subst hj0
  simp at hj; subst hj
  simp [World.cell?, h, EInt, h1]
theorem Sl.deep {α : Type} {E : Enc α} {w w' : World} {a : Option Addr} {l : List α} (hs : 0 < E.sz) (h : Sl E (fun _ => True) w a l) (hb : Below w.heap.size w w') : Sl E (fun _ => True) w' a l := h.below hs hb
end Go.Proofs.Yticpbiccgnfecaa


/-
  The walk of the law 'FrameReads'.
-/
import Derived.Test.YtmmgnbdngpkfcaaFrameRead
namespace Go.Proofs.Ytmmgnbdngpkfcaa
open Go.RowKit
set_option linter.unusedVariables false

/-- a frame in cells of its own -/
def FrAt (B : Nat) (w : World) (g : Nat) (k : Int) (d : List (BitVec 8)) : Prop :=
  B ≤ g ∧ ∃ a c, w.heap[g]? = some (.cells #[.int .i64 k, .slice a d.length c] 150 (0, 0)) ∧ Sl EU8 (fun b => B ≤ b) w a d ∧ d.length ≤ c ∧ c ≤ maxLen

theorem FrAt.below {B : Nat} {w w' : World} {g : Nat} {k : Int} {d : List (BitVec 8)} (h : FrAt B w g k d) (hb : Below w.heap.size w w') : FrAt B w' g k d := by
  obtain ⟨h1, a, c, hh, hs, hr⟩ := h
  exact ⟨h1, a, c, by rw [hb.block _ (Array.getElem?_eq_some_iff.1 hh).1]; exact hh, hs.below (by decide) hb, hr⟩

theorem FrAt.base {B B' : Nat} {w : World} {g : Nat} {k : Int} {d : List (BitVec 8)} (h : FrAt B w g k d) (hb : B' ≤ B) : FrAt B' w g k d := by
  obtain ⟨h1, a, c, hh, hs, hr⟩ := h
  exact ⟨by omega, a, c, hh, hs.mono (by decide) fun k hk _ => ⟨rfl, by omega⟩, hr⟩

/-- what lies there -/
theorem FrAt.at {B : Nat} {w : World} {g : Nat} {k : Int} {d : List (BitVec 8)} (h : FrAt B w g k d) :
    ∃ a c, w.cell? ⟨g, 0, none⟩ = some (.int .i64 k) ∧ w.cell? ⟨g, 1, none⟩ = some (.slice a d.length c) ∧ (∀ o, w.frozen? ⟨g, o, none⟩ = false) ∧ SB w a d ∧ d.length ≤ c ∧ c ≤ maxLen := by
  obtain ⟨h1, a, c, hh, hs, h2, h3⟩ := h
  exact ⟨a, c, by simp [World.cell?, hh], by simp [World.cell?, hh], fun o => by simp [World.frozen?, hh], hs.any (by decide), h2, h3⟩

/-- the same, with the content's place -/
theorem FrAt.at' {B : Nat} {w : World} {g : Nat} {k : Int} {d : List (BitVec 8)} (h : FrAt B w g k d) :
    ∃ a c, w.cell? ⟨g, 0, none⟩ = some (.int .i64 k) ∧ w.cell? ⟨g, 1, none⟩ = some (.slice a d.length c) ∧ (∀ o, w.frozen? ⟨g, o, none⟩ = false) ∧ Sl EU8 (fun b => B ≤ b) w a d ∧ d.length ≤ c ∧ c ≤ maxLen := by
  obtain ⟨h1, a, c, hh, hs, h2, h3⟩ := h
  exact ⟨a, c, by simp [World.cell?, hh], by simp [World.cell?, hh], fun o => by simp [World.frozen?, hh], hs, h2, h3⟩

/-- a call's frame laid into cells: the call first -/
theorem frAt_first {B : Nat} {w : World} {k : Int} {d : List (BitVec 8)} {a : Option Addr} {c : Nat} (h1 : B ≤ w.heap.size) (hs : Sl EU8 (fun b => B ≤ b) w a d) (hc : d.length ≤ c) (hm : c ≤ maxLen) :
    FrAt B (w.alloc (.cells #[.int .i64 k, .slice a d.length c] 150)) w.heap.size k d :=
  ⟨h1, a, c, heap_alloc_new w _, hs.below (by decide) ((Below.refl _ _).alloc (Nat.le_refl _) _), hc, hm⟩

/-- the cells first -/
theorem frAt_later {B g : Nat} {w : World} {k : Int} {d : List (BitVec 8)} {a : Option Addr} {c : Nat} {u v : Value} (h1 : B ≤ g) (hg : w.heap[g]? = some (.cells #[u, v] 150 (0, 0))) (hs : Sl EU8 (fun b => g + 1 ≤ b) w a d) (hc : d.length ≤ c) (hm : c ≤ maxLen) :
    FrAt B ((w.setCell ⟨g, 0, none⟩ (.int .i64 k)).setCell ⟨g, 1, none⟩ (.slice a d.length c)) g k d :=
  ⟨h1, a, c, heap_set (heap_set hg 0 _) 1 _, hs.mono (by decide) (fun k hk _ => ⟨by rw [Below.heap_setCell _ _ _ _ (by simp; omega), Below.heap_setCell _ _ _ _ (by simp; omega)], by omega⟩), hc, hm⟩

/-- what stands behind cells that were laid first -/
theorem behind_new {w W W5 : World} {n : Nat} {x : Obj} (hW : W.heap = (w.alloc x).heap) (h0 : Below w.heap.size w W) (h : Below (w.heap.size + 1) W W5) : Below w.heap.size w W5 ∧ W5.heap[w.heap.size]? = some x :=
  ⟨h0.trans (h.mono (by omega)), by rw [h.block _ (by omega), hW]; exact heap_alloc_new w x⟩

end Go.Proofs.Ytmmgnbdngpkfcaa

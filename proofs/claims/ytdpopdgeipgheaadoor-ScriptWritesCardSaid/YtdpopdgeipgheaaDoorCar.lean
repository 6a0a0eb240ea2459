
/-
  Bytes that are gathered by appending what callees hand over, while one block besides is kept.
-/
import Derived.Test.YtdpopdgeipgheaaDoorBtsPut
import Derived.Test.YtdpopdgeipgheaaDoorBtsLaws
namespace Go.Proofs.YtdpopdgeipgheaaDoor
open Go.RowKit
set_option linter.unusedVariables false

/-- the bytes gathered so far, and a block that is kept -/
structure Car (B : Nat) (W : World) (s : Nat) (obj : Obj) (w : World) (v : Value) (l : List (BitVec 8)) : Prop where
  own : Own EU8 5 B w v l
  below : Below B W w
  blk : w.heap[s]? = some obj
  ne : v.ownBlock ≠ some s
  size : B ≤ w.heap.size
theorem Car.lt {B : Nat} {W : World} {s : Nat} {obj : Obj} {w : World} {v : Value} {l : List (BitVec 8)} (h : Car B W s obj w v l) : s < w.heap.size := (Array.getElem?_eq_some_iff.1 h.blk).1
theorem Car.start {B : Nat} {W : World} {obj : Obj} {w : World} {v : Value} {l : List (BitVec 8)} (h : Own EU8 5 B w v l) (hb : Below B W w) (hB : W.heap.size = B) : Car B W w.heap.size obj (w.alloc obj) v l := by
  have hs : B ≤ w.heap.size := by rw [← hB]; exact hb.size
  exact ⟨h.below ((Below.refl _ _).alloc (Nat.le_refl _) _), hb.alloc hs _, heap_alloc_new w _, fun e => h.fresh e.symm, by simp; omega⟩
theorem Car.call {B : Nat} {W : World} {s : Nat} {obj : Obj} {w w' : World} {v v' : Value} {l l2 : List (BitVec 8)} (h : Car B W s obj w v l) (hb : Below w.heap.size w w') (h2 : Own EU8 5 w.heap.size w' v' l2) :
    ∃ a c, v' = .slice a l2.length c ∧ Sl EU8 (fun b => some b ≠ v.ownBlock) w' a l2 ∧ Car B W s obj w' v l := by
  obtain ⟨a, c, rfl, hc, hm, hr, ho⟩ := h2.shape l2.length rfl
  refine ⟨a, c, rfl, ho.slB.mono (by decide) fun q hq _ => ⟨rfl, fun e => by have := (h.own.lt q e.symm).2; omega⟩, h.own.below hb, h.below.trans (hb.mono h.size), ?_, h.ne, Nat.le_trans h.size hb.size⟩
  rw [hb.block s h.lt]; exact h.blk
theorem Car.app {B : Nat} {W : World} {s : Nat} {obj : Obj} {w w' : World} {v v' : Value} {l l2 : List (BitVec 8)} (h : Car B W s obj w v l) (ho : Own EU8 5 B w' v' l2) (hg : w.grownBy w' v.ownBlock) (hv : v'.ownBlock = v.ownBlock ∨ ∃ g, v'.ownBlock = some g ∧ w.heap.size ≤ g) (hb : Below B w w') : Car B W s obj w' v' l2 := by
  refine ⟨ho, h.below.trans hb, ?_, ?_, Nat.le_trans h.size hb.size⟩
  · rw [hg.block s h.lt fun e => h.ne e.symm]; exact h.blk
  · rcases hv with e | ⟨g, e, hgs⟩
    · rw [e]; exact h.ne
    · rw [e]; intro e2; injection e2 with e2; have := h.lt; omega
theorem Car.cell {B : Nat} {W : World} {s : Nat} {cs : Array Value} {t : TypeId} {fr : Nat × Nat} {w : World} {v : Value} {l : List (BitVec 8)} (h : Car B W s (.cells cs t fr) w v l) (i : Nat) (u : Value) (hi : cs[i]? = some u) : w.cell? ⟨s, i, none⟩ = some u := by
  simp [World.cell?, h.blk, hi]
theorem app_max {a b : Nat} (h1 : a ≤ 2000000) (h2 : b ≤ 1000) : a + b ≤ maxLen := by unfold maxLen; omega
theorem app_bytes {a b : Nat} (h1 : a ≤ 2000000) (h2 : b ≤ 1000) : (a + b) * 1 ≤ 140737488355328 := by omega
theorem put_asB (x : BitVec 64) (n : Int) : (Bts.asB (Bts.put x n)).length ≤ 64 := by rw [Bts.asB_len]; unfold Bts.put; rw [Bts.low_len]; exact Bts.clamp_le n
theorem num_asB (x : BitVec 64) : (Bts.asB (Bts.num x)).length ≤ 129 := by
  rw [Bts.asB_len]; obtain ⟨z, h, hz⟩ := Bts.num_len x; omega
end Go.Proofs.YtdpopdgeipgheaaDoor


/-
  The head of the laws on disks.
-/
import Derived.Test.YtmmgnbdngpkfcaaDiskE
namespace Go.Proofs.Ytmmgnbdngpkfcaa
open Go.RowKit
set_option linter.unusedVariables false

/-- a disk of the law's own: all its blocks lie from B on -/
structure DkOwn (B : Nat) (F : Nat → Prop) (w : World) (g : Nat) (D : Dk.Dsk) : Prop where
  at_ : DkAt F w g D
  ok : Dk.Ok D
  base : ∀ k, F k → B ≤ k
theorem DkOwn.size {B : Nat} {F : Nat → Prop} {w : World} {g : Nat} {D : Dk.Dsk} (h : DkOwn B F w g D) : B ≤ w.heap.size := by
  obtain ⟨vs, os, hm⟩ := h.at_
  have h1 := hm.flt g hm.fg
  have h2 := h.base g hm.fg
  omega
theorem DkOwn.flt {B : Nat} {F : Nat → Prop} {w : World} {g : Nat} {D : Dk.Dsk} (h : DkOwn B F w g D) : ∀ k, F k → k < w.heap.size := by
  obtain ⟨vs, os, hm⟩ := h.at_
  exact hm.flt
theorem DkOwn.keep {B : Nat} {F : Nat → Prop} {w w' : World} {g : Nat} {D : Dk.Dsk} (h : DkOwn B F w g D) (hb : Below w.heap.size w w') : DkOwn B F w' g D := ⟨h.at_.keep hb, h.ok, h.base⟩
theorem DkOwn.turn {B : Nat} {F F' : Nat → Prop} {w w' : World} {g : Nat} {D D' : Dk.Dsk} (h : DkOwn B F w g D) (ht : Turns F w F' w') (ha : DkAt F' w' g D') (hok : Dk.Ok D') : DkOwn B F' w' g D' ∧ Below B w w' :=
  ⟨⟨ha, hok, fun k hk => by
    rcases ht.foot k hk with h1 | h1
    · exact h.base k h1
    · exact Nat.le_trans h.size h1⟩, ht.only.below h.size fun k hk => h.base k hk⟩
theorem DkOwn.outside {B : Nat} {F : Nat → Prop} {w w0 : World} {g : Nat} {D : Dk.Dsk} {a : Option Addr} {α : Type} {E : Enc α} {l : List α} (h : DkOwn B F w g D) (hE : 0 < E.sz) (hs : Sl E (fun _ => True) w0 a l) (hB : w0.heap.size = B) (hb : Below B w0 w) : Sl E (fun k => ¬ F k) w a l :=
  hs.mono hE fun k _ hk => ⟨hb.block k (by omega), fun hF => by have := h.base k hF; omega⟩
theorem DkOwn.new_lit {B : Nat} {F : Nat → Prop} {w w' : World} {g : Nat} {D : Dk.Dsk} {te : Nat} {fr : Nat × Nat} {cs : Array Value} {l : List (BitVec 8)} (h : DkOwn B F w g D) (hh : w'.heap[w.heap.size]? = some (.cells cs te fr)) (hc : cs.toList = l.map fun c => Value.int .u8 (bv c)) : Sl EU8 (fun k => ¬ F k) w' (some ⟨w.heap.size, 0, none⟩) l :=
  sl_cells hh hc fun hF => by have := h.flt _ hF; omega

theorem alloc_below (w : World) (o : Obj) : Below w.heap.size w (w.alloc o) := (Below.refl _ _).alloc (Nat.le_refl _) _

namespace Dk
def h1 : Dsk := (app (new 100) 0 [97#8, 98#8]).1
def h2 : Dsk := (flush h1 0).1
def h3 : Dsk := (app h2 0 [99#8, 100#8]).1
def h4 : Dsk := crash h3 [1]
theorem e1 : (app (new 100) 0 [97#8, 98#8]).2 = 0 := by decide +kernel
theorem e2 : (flush h1 0).2 = 0 := by decide +kernel
theorem e3 : (app h2 0 [99#8, 100#8]).2 = 0 := by decide +kernel
theorem e4 : read h4 0 = ([97#8, 98#8, 99#8], 0) := by decide +kernel
theorem e5 : safe h4 0 = 3 := by decide +kernel
theorem ok1 : Ok h1 := ok_app (ok_new 100) _ _
theorem ok2 : Ok h2 := ok_flush ok1 _
theorem ok3 : Ok h3 := ok_app ok2 _ _
theorem ok4 : Ok h4 := ok_crash ok3 _
end Dk

end Go.Proofs.Ytmmgnbdngpkfcaa

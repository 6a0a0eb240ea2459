
/-
  The head of the laws on disks.
-/
import Derived.Test.YtennjoegjghlaaaDiskE
namespace Go.Proofs.Ytennjoegjghlaaa
open Go.RowKit
set_option linter.unusedVariables false

/-- a disk of the law's own: all its blocks lie from B on -/
structure DkOwn (B : Nat) (F : Nat → Prop) (w : World) (g : Nat) (D : Dk.Dsk) : Prop where
  at_ : DkAt F w g D
  ok : Dk.Ok D
  base : ∀ k, F k → B ≤ k
theorem DkOwn.size {B : Nat} {F : Nat → Prop} {w : World} {g : Nat} {D : Dk.Dsk} (h : DkOwn B F w g D) : B ≤ w.heap.size := by
  obtain ⟨vs, os, hm⟩ := h.at_
  have h1 := hm.flt g hm.fg
  have h2 := h.base g hm.fg
  omega
theorem DkOwn.flt {B : Nat} {F : Nat → Prop} {w : World} {g : Nat} {D : Dk.Dsk} (h : DkOwn B F w g D) : ∀ k, F k → k < w.heap.size := by
  obtain ⟨vs, os, hm⟩ := h.at_
  exact hm.flt
theorem DkOwn.keep {B : Nat} {F : Nat → Prop} {w w' : World} {g : Nat} {D : Dk.Dsk} (h : DkOwn B F w g D) (hb : Below w.heap.size w w') : DkOwn B F w' g D := ⟨h.at_.keep hb, h.ok, h.base⟩
theorem DkOwn.turn {B : Nat} {F F' : Nat → Prop} {w w' : World} {g : Nat} {D D' : Dk.Dsk} (h : DkOwn B F w g D) (ht : Turns F w F' w') (ha : DkAt F' w' g D') (hok : Dk.Ok D') : DkOwn B F' w' g D' ∧ Below B w w' :=
  ⟨⟨ha, hok, fun k hk => by
    rcases ht.foot k hk with h1 | h1
    · exact h.base k h1
    · exact Nat.le_trans h.size h1⟩, ht.only.below h.size fun k hk => h.base k hk⟩
theorem DkOwn.outside {B : Nat} {F : Nat → Prop} {w w0 : World} {g : Nat} {D : Dk.Dsk} {a : Option Addr} {α : Type} {E : Enc α} {l : List α} (h : DkOwn B F w g D) (hE : 0 < E.sz) (hs : Sl E (fun _ => True) w0 a l) (hB : w0.heap.size = B) (hb : Below B w0 w) : Sl E (fun k => ¬ F k) w a l :=
  hs.mono hE fun k _ hk => ⟨hb.block k (by omega), fun hF => by have := h.base k hF; omega⟩
theorem DkOwn.new_lit {B : Nat} {F : Nat → Prop} {w w' : World} {g : Nat} {D : Dk.Dsk} {te : Nat} {fr : Nat × Nat} {cs : Array Value} {l : List (BitVec 8)} (h : DkOwn B F w g D) (hh : w'.heap[w.heap.size]? = some (.cells cs te fr)) (hc : cs.toList = l.map fun c => Value.int .u8 (bv c)) : Sl EU8 (fun k => ¬ F k) w' (some ⟨w.heap.size, 0, none⟩) l :=
  sl_cells hh hc fun hF => by have := h.flt _ hF; omega

theorem alloc_below (w : World) (o : Obj) : Below w.heap.size w (w.alloc o) := (Below.refl _ _).alloc (Nat.le_refl _) _

namespace Dk
def h1 : Dsk := (app (new 100) 0 [97#8, 98#8]).1
def h2 : Dsk := (flush h1 0).1
def h3 : Dsk := (app h2 0 [99#8, 100#8]).1
def h4 : Dsk := crash h3 [1]
theorem e1 : (app (new 100) 0 [97#8, 98#8]).2 = 0 := by decide +kernel
theorem e2 : (flush h1 0).2 = 0 := by decide +kernel
theorem e3 : (app h2 0 [99#8, 100#8]).2 = 0 := by decide +kernel
theorem e4 : read h4 0 = ([97#8, 98#8, 99#8], 0) := by decide +kernel
theorem e5 : safe h4 0 = 3 := by decide +kernel
theorem ok1 : Ok h1 := ok_app (ok_new 100) _ _
theorem ok2 : Ok h2 := ok_flush ok1 _
theorem ok3 : Ok h3 := ok_app ok2 _ _
theorem ok4 : Ok h4 := ok_crash ok3 _
end Dk

set_option maxRecDepth 100000 in
set_option maxHeartbeats 1600000 in
theorem law16_head (w : World) :
    Calls Try.prog 17 #[] w fun e w' => e = .returned (.bool true) ∧ Below w.heap.size w w' := by
  have kc := fun (w : World) (C : Array Value) (n c : Nat) => Lib.run_convert_bytes_const (P := Try.prog) w 25 5 C n c Try.underlying25 Try.underlying5
  go_enter Try.func17, Try.ntmps17
  go_wp2_with fail
  refine (disk_New 100 w.heap.size _ (by rfl) (by decide)).mono ?_
  rintro e w1 ⟨rfl, hd1, hb1, hz1⟩
  have hD1 : DkOwn w.heap.size (· = w.heap.size) w1 w.heap.size (Dk.new 100) := ⟨hd1, Dk.ok_new _, fun k hk => by omega⟩
  clear hd1 hz1
  go_wp2_with fail
  have hx := alloc_below w1 (.cells #[.int .u8 97, .int .u8 98] 5 (2, 3))
  have hD2 := hD1.keep hx
  refine (disk_Append w.heap.size (Dk.new 100) 0 _ 2 2 [97#8, 98#8] _ hD2.at_ hD2.ok (by decide) (by rfl) (hD1.new_lit (heap_alloc_new w1 _) (by rfl)) (by decide)).mono ?_
  rintro e w2 ⟨rfl, F2, ha2, ht2⟩
  rw [Dk.e1]
  obtain ⟨hD3, hb3⟩ := hD2.turn ht2 ha2 Dk.ok1
  have hbw2 := (hb1.trans (hx.mono hb1.size)).trans hb3
  clear hD1 hD2 hx ht2 ha2 hb1 hb3
  go_wp2_with fail
  refine (disk_Flush w.heap.size Dk.h1 0 _ hD3.at_ hD3.ok (by decide +kernel)).mono ?_
  rintro e w3 ⟨rfl, ha3, ho3⟩
  rw [Dk.e2]
  obtain ⟨hD4, hb4⟩ := hD3.turn ⟨ho3, fun k hk => .inl hk⟩ ha3 Dk.ok2
  have hbw3 := hbw2.trans hb4
  clear hD3 ho3 ha3 hb4 hbw2
  go_wp2_with fail
  have hx := alloc_below w3 (.cells #[.int .u8 99, .int .u8 100] 5 (2, 3))
  have hD5 := hD4.keep hx
  refine (disk_Append w.heap.size Dk.h2 0 _ 2 2 [99#8, 100#8] _ hD5.at_ hD5.ok (by decide +kernel) (by rfl) (hD4.new_lit (heap_alloc_new w3 _) (by rfl)) (by decide)).mono ?_
  rintro e w4 ⟨rfl, F4, ha4, ht4⟩
  rw [Dk.e3]
  obtain ⟨hD6, hb6⟩ := hD5.turn ht4 ha4 Dk.ok3
  have hbw4 := (hbw3.trans (hx.mono hbw3.size)).trans hb6
  clear hD4 hD5 hx ht4 ha4 hbw3 hb6
  go_wp2_with fail
  have hx := alloc_below w4 (.cells #[.int .i64 1] 3)
  have hD7 := hD6.keep hx
  have hk7 : Sl EInt (fun k => ¬ F4 k) (w4.alloc (.cells #[.int .i64 1] 3)) (some ⟨w4.heap.size, 0, none⟩) [1] := sl_one (heap_alloc_new w4 _) ⟨rfl, by decide, by decide⟩ fun hF => by have := hD6.flt _ hF; omega
  refine (disk_Crash w.heap.size Dk.h3 _ 1 1 [1] _ hD7.at_ hD7.ok (by rfl) hk7).mono ?_
  rintro e w5 ⟨rfl, F5, ha5, ht5⟩
  obtain ⟨hD8, hb8⟩ := hD7.turn ht5 ha5 Dk.ok4
  have hbw5 := (hbw4.trans (hx.mono hbw4.size)).trans hb8
  clear hD6 hD7 hx ht5 ha5 hbw4 hb8 hk7
  go_wp2_with fail
  refine (disk_Read w.heap.size Dk.h4 0 w5.heap.size _ (by rfl) hD8.at_ hD8.ok).mono ?_
  rw [Dk.e4]
  rintro e w6 ⟨v6, rfl, ho6, hb6⟩
  obtain ⟨a6, c6, rfl, hc6, hm6, hr6, _⟩ := ho6.shape 3 (by rfl)
  have hD9 := hD8.keep hb6
  have hbw6 := hbw5.trans (hb6.mono hbw5.size)
  have hts : (convert 25 9 (.slice a6 3 c6)).run Try.prog w6 = .ok (.string (strOf [97#8, 98#8, 99#8])) w6 := run_tostr (P := Try.prog) (w := w6) (c := c6) Try.underlying25 Try.underlying5 Try.underlying9 hr6.2
  have hstr : strOf [97#8, 98#8, 99#8] = ⟨#[97, 98, 99]⟩ := by rfl
  rw [hstr] at hts
  clear hD8 hbw5 hb6 ho6 hstr
  go_wp2_with fail
  refine (disk_Safe w.heap.size Dk.h4 0 _ hD9.at_).mono ?_
  rw [Dk.e5]
  rintro e w7 ⟨rfl, rfl⟩
  go_wp2_with fail
  go_ret
  exact ⟨rfl, hbw6⟩
end Go.Proofs.Ytennjoegjghlaaa

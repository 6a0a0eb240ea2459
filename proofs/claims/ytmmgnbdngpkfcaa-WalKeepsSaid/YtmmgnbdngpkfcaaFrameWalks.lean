
/-
  What the small functions of frames compute.
-/
import Derived.Test.YtmmgnbdngpkfcaaCrcHead
import Derived.Test.YtmmgnbdngpkfcaaFrame
namespace Go.Proofs.Ytmmgnbdngpkfcaa
open Go.RowKit
set_option linter.unusedVariables false

/-- four bytes as an array's value -/
def av4 (l : List (BitVec 8)) : Value := .agg #[.int .u8 (bv (l.getD 0 0#8)), .int .u8 (bv (l.getD 1 0#8)), .int .u8 (bv (l.getD 2 0#8)), .int .u8 (bv (l.getD 3 0#8))]

set_option maxHeartbeats 400000 in
theorem frame_four (B : Nat) (x : BitVec 32) (w : World) (hB : w.heap.size = B) :
    Calls Try.prog 147 #[.int .u32 (bv x)] w fun e w' => e = .returned (.agg #[.int .u8 (bv ((x >>> 24).setWidth 8)), .int .u8 (bv ((x >>> 16).setWidth 8)), .int .u8 (bv ((x >>> 8).setWidth 8)), .int .u8 (bv (x.setWidth 8))]) ∧ Below B w w' := by
  subst hB
  go_enter Try.func147, Try.ntmps147
  go_wp2
  refine bodyPost_ret (v := .agg #[.int .u8 (bv ((x >>> 24).setWidth 8)), .int .u8 (bv ((x >>> 16).setWidth 8)), .int .u8 (bv ((x >>> 8).setWidth 8)), .int .u8 (bv (x.setWidth 8))]) (by simp [results, Try.results147, go_sem]) rfl ⟨rfl, (Below.refl _ _).alloc (Nat.le_refl _) _⟩

set_option maxHeartbeats 400000 in
theorem frame_put (base : Nat) (v : Value) (l : List (BitVec 8)) (x : BitVec 32) (w : World) (ho : Own EU8 5 base w v l) (hl : l.length + 4 ≤ 140737488355328) (hb : base ≤ w.heap.size) :
    Calls Try.prog 123 #[v, .int .u32 (bv x)] w fun e w' => ∃ v', e = .returned v' ∧ Own EU8 5 base w' v' (l ++ Frm.be x) ∧ Below base w w' := by
  go_enter Try.func123, Try.ntmps123
  go_wp2_with fail
  refine (frame_four _ x _ rfl).mono ?_
  rintro e w1 ⟨rfl, hb1⟩
  have ho1 := ho.below hb1
  have hb1' : Below base w w1 := hb1.mono hb
  have hsz := hb1.size
  go_wp2_with (refine wpList_app (l2 := Frm.be x) (m := 4) EU8 rfl rfl rfl rfl ti_bytes (ho1.below ((Below.refl _ _).alloc (Nat.le_refl _) _)) rfl (by exact sl_cells (heap_alloc_new w1 _) rfl ho1.fresh) ?_ ?_ ?_ ?_)
  · simp [Frm.be, maxLen]; omega
  · simp [Frm.be]; omega
  · simp; omega
  · intro v' w' ho' hg hv hb'
    go_wp2
    go_ret
    exact ⟨_, rfl, ho', (hb1'.alloc (by omega) _).trans hb'⟩

theorem frame_putn (base n m : Nat) (v : Value) (l : List (BitVec 8)) (x : BitVec 32) (w : World) (ho : Own EU8 5 base w v l) (hn : n = l.length) (hm : m = n + 4) (hl : n + 4 ≤ 140737488355328) (hb : base ≤ w.heap.size) :
    Calls Try.prog 123 #[v, .int .u32 (bv x)] w fun e w' => ∃ a c, e = .returned (.slice a m c) ∧ RB w' a m (l ++ Frm.be x) ∧ Own EU8 5 base w' (.slice a m c) (l ++ Frm.be x) ∧ Below base w w' := by
  refine (frame_put base v l x w ho (by omega) hb).mono ?_
  rintro e w' ⟨v', rfl, ho', hb'⟩
  obtain ⟨a, c, rfl, _, _, hr, ho2⟩ := ho'.shape m (by rw [List.length_append, Frm.be_len]; omega)
  exact ⟨a, c, rfl, hr, ho2, hb'⟩

set_option maxHeartbeats 400000 in
theorem frame_get (a : Option Addr) (n c : Nat) (l : List (BitVec 8)) (w : World) (hr : RB w a n l) (h4 : 4 ≤ n) :
    Calls Try.prog 152 #[.slice a n c] w fun e w' => e = .returned (.int .u32 (bv (Frm.getBE l))) ∧ ∃ k, w' = w.drewN k := by
  obtain ⟨rfl, hs⟩ := hr
  obtain ⟨b, o, rfl, hc⟩ := SB.all hs (by omega)
  have g : ∀ k (hk : k < l.length), l[k] = l.getD k 0#8 := fun k hk => by simp [List.getD, hk]
  have h0 : w.cell? ⟨b, o, none⟩ = some (.int .u8 (bv (l.getD 0 0#8))) := by rw [← g 0 (by omega)]; exact hc 0 (by omega)
  have h1 : w.cell? ⟨b, o + 1, none⟩ = some (.int .u8 (bv (l.getD 1 0#8))) := by rw [← g 1 (by omega)]; exact hc 1 (by omega)
  have h2 : w.cell? ⟨b, o + 2, none⟩ = some (.int .u8 (bv (l.getD 2 0#8))) := by rw [← g 2 (by omega)]; exact hc 2 (by omega)
  have h3 : w.cell? ⟨b, o + 3, none⟩ = some (.int .u8 (bv (l.getD 3 0#8))) := by rw [← g 3 (by omega)]; exact hc 3 (by omega)
  clear hc g hs
  have i0 : (0 : Int) < (l.length : Int) := by omega
  have i1 : (1 : Int) < (l.length : Int) := by omega
  have i2 : (2 : Int) < (l.length : Int) := by omega
  have i3 : (3 : Int) < (l.length : Int) := by omega
  go_enter Try.func152, Try.ntmps152
  go_wp2_with fail
  go_quiet (fail)
  go_wp2_with fail
  go_ret
  exact ⟨by simp [Frm.getBE], _, rfl⟩
end Go.Proofs.Ytmmgnbdngpkfcaa

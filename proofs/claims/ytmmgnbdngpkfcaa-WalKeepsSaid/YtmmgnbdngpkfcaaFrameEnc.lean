
/-
  How a frame is written.
-/
import Derived.Test.YtmmgnbdngpkfcaaFrameWalks
namespace Go.Proofs.Ytmmgnbdngpkfcaa
open Go.RowKit
set_option linter.unusedVariables false

set_option maxHeartbeats 400000 in
theorem frame_Encode_kind (k : Int) (a : Option Addr) (n c : Nat) (w : World) (hk : k < 0 ∨ 255 < k) :
    Calls Try.prog 84 #[.agg #[.int .i64 k, .slice a n c]] w fun e w' => e = .returned (.tuple #[.slice none 0 0, .int .i64 14]) ∧ Below w.heap.size w w' := by
  by_cases h : k < 0
  · have hg : decide (k < 0) = true := by simpa using h
    go_enter Try.func84, Try.ntmps84
    go_wp2
    go_ret2
    exact ⟨rfl, (Below.refl _ _).alloc (Nat.le_refl _) _⟩
  · have hg : decide (k < 0) = false := by simpa using h
    have h2 : 255 < k := by omega
    have hg2 : decide (255 < k) = true := by simpa using h2
    go_enter Try.func84, Try.ntmps84
    go_wp2
    go_ret2
    exact ⟨rfl, (Below.refl _ _).alloc (Nat.le_refl _) _⟩

set_option maxHeartbeats 400000 in
theorem frame_Encode_long (k : Int) (a : Option Addr) (n c : Nat) (w : World) (hk : 0 ≤ k ∧ k ≤ 255) (hn : 65536 < n) :
    Calls Try.prog 84 #[.agg #[.int .i64 k, .slice a n c]] w fun e w' => e = .returned (.tuple #[.slice none 0 0, .int .i64 3]) ∧ Below w.heap.size w w' := by
  have hg : decide (k < 0) = false := by simp; omega
  have hg2 : decide (255 < k) = false := by simp; omega
  have hn' : (65536 : Int) < (n : Int) := by omega
  go_enter Try.func84, Try.ntmps84
  go_wp2
  go_ret2
  exact ⟨rfl, (Below.refl _ _).alloc (Nat.le_refl _) _⟩

set_option maxHeartbeats 1600000 in
theorem frame_Encode_ok (k : Int) (a : Option Addr) (n c : Nat) (d : List (BitVec 8)) (w : World) (hk : 0 ≤ k ∧ k ≤ 255) (hn : n ≤ 65536) (hr : RB w a n d) :
    Calls Try.prog 84 #[.agg #[.int .i64 k, .slice a n c]] w fun e w' => ∃ v, e = .returned (.tuple #[v, .int .i64 0]) ∧ Own EU8 5 w.heap.size w' v (Frm.enc k d) ∧ Below w.heap.size w w' := by
  have hg : decide (k < 0) = false := by simp; omega
  have hg2 : decide (255 < k) = false := by simp; omega
  have hn' : ¬ (65536 : Int) < (n : Int) := by omega
  obtain ⟨w0, hw0⟩ : ∃ w0, w0 = w.alloc (.cells #[.int .i64 k, .slice a n c] 150) := ⟨_, rfl⟩
  obtain ⟨B, hB⟩ : ∃ B, w.heap.size = B := ⟨_, rfl⟩
  have hsz : w0.heap.size = B + 1 := by subst hw0; simp [hB]
  have hb0 : Below B w w0 := by subst hw0; exact (Below.refl _ _).alloc (by omega) _
  have c0 : w0.cell? ⟨B, 0, none⟩ = some (.int .i64 k) := by subst hw0; subst hB; simp
  have c1 : w0.cell? ⟨B, 1, none⟩ = some (.slice a n c) := by subst hw0; subst hB; simp
  have r0 : RB w0 a n d := by subst hB; exact hr.below hb0
  have Hsz := Lib.hid hsz
  clear hsz
  go_enter Try.func84, Try.ntmps84
  go_wp2_with fail
  rw [← hw0]
  have HB := Lib.hid hB
  clear hw0 hB
  refine (frame_putn (B + 1) 0 4 _ [] _ _ (Own.nil _ _ _ _) rfl rfl (by omega) (by rw [Hsz.out]; exact Nat.le_refl _)).mono ?_
  rintro e w1 ⟨a1, n1, rfl, r1, ho1, hb1⟩
  have c11 : w1.cell? ⟨B, 1, none⟩ = some (.slice a n c) := by rw [hb1.cell (p := ⟨B, 1, none⟩) (by simp)]; exact c1
  go_wp2_with fail
  refine (crc_Sum _ _ _ (Frm.enc1 k n) _ r1 (by unfold maxLen; omega)).mono ?_
  rintro e w' ⟨rfl, rfl⟩
  go_wp2_with fail
  refine (frame_putn (B + 1) 4 8 _ (Frm.enc1 k n) _ _ ho1 rfl rfl (by omega) (by have := hb1.size; have := Hsz.out; omega)).mono ?_
  rintro e w2 ⟨a2, n2, rfl, r2, ho2, hb2⟩
  have c12 : w2.cell? ⟨B, 1, none⟩ = some (.slice a n c) := by rw [hb2.cell (p := ⟨B, 1, none⟩) (by simp)]; exact c11
  have hlt := cell_lt c12
  have hS2 : B + 1 ≤ w2.heap.size := by omega
  have rd2 : RB w2 a n d := r0.below ((hb1.trans hb2).mono (by have := Hsz.out; omega))
  have hm : n ≤ maxLen := by unfold maxLen; omega
  clear c0 c1 c11
  go_wp2_with fail
  go_region_held3 (fun W => W.cell? ⟨B, 1, none⟩ = some (.slice a n c))
    (first | go_keep | (rw [hb3.cell (p := ⟨B, 1, none⟩) (by simp)]; assumption))
    ((first
      | (go_at_call 124; refine (crc_Sum _ _ _ (Frm.enc2 k n) _ (by exact r2) (by unfold maxLen; omega)).mono ?_; rintro e w' ⟨rfl, rfl⟩)
      | (go_at_call 125; refine (crc_More _ _ _ _ d _ (by exact rd2) hm).mono ?_; rintro e w' ⟨rfl, rfl⟩)
      | (go_at_call 123; refine (frame_putn (B + 1) 8 12 _ (Frm.enc2 k n) _ _ (by exact ho2) rfl rfl (by omega) (by exact hS2)).mono ?_; rintro e w3 ⟨a3, n3, rfl, r3, ho3, hb3⟩)))
  have hb03 : Below (B + 1) w0 w3 := (hb1.trans hb2).drew.trans hb3
  have hbw3 : Below w.heap.size w w3 := by rw [HB.out]; exact hb0.trans (hb03.mono (by omega))
  have hs3 : Sl EU8 (fun b => some b ≠ (Value.slice a3 12 n3).ownBlock) w3 a d := hr.2.foreign (by decide) hbw3 ho3 (by rw [HB.out]; omega)
  have hl3 : (Frm.enc2 k n ++ Frm.be (Crc.more (Crc.sum (Frm.enc2 k n)) d)).length = 12 := rfl
  have hdn : n = d.length := hr.1
  have Hdn := Lib.hid hdn
  have Hl3 := Lib.hid hl3
  clear hdn hl3 c12
  go_wp2_with (refine wpList_app (l2 := d) (m := n) EU8 rfl rfl rfl rfl ti_bytes ho3 Hdn.out hs3 ?_ ?_ ?_ ?_)
  · rw [Hl3.out, ← Hdn.out]; unfold maxLen; omega
  · rw [Hl3.out, ← Hdn.out]; omega
  · have h23 : w2.heap.size ≤ w3.heap.size := hb3.size
    omega
  · intro v' w' ho' hg hv hb'
    go_wp2_with fail
    go_ret2
    refine ⟨_, rfl, ?_, ?_⟩
    · have e : Frm.enc k d = (Frm.enc2 k n ++ Frm.be (Crc.more (Crc.sum (Frm.enc2 k n)) d)) ++ d := by
        unfold Frm.enc Frm.enc3; rw [Hdn.out]
      rw [e, HB.out]
      exact ho'.base (by omega)
    · exact hbw3.trans (hb'.mono (by rw [HB.out]; omega))
end Go.Proofs.Ytmmgnbdngpkfcaa

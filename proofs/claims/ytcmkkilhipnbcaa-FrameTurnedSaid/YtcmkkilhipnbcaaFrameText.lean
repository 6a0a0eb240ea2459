/-
  A frame's bytes, as the statements make them.
-/
import Derived.Test.YtcmkkilhipnbcaaFrameRef
namespace Go.Proofs.Ytcmkkilhipnbcaa
open Go.RowKit
set_option linter.unusedVariables false

set_option maxHeartbeats 1600000 in
theorem law4_text (B : Nat) (k : Int) (a : Option Addr) (n c : Nat) (d : List (BitVec 8)) (w : World) (hB : w.heap.size = B) (hk : 0 ≤ k ∧ k ≤ 255) (hn : n ≤ 65536) (hr : RB w a n d) :
    Calls Try.prog 26 #[.agg #[.int .i64 k, .slice a n c]] w fun e w' => ∃ v, e = .returned v ∧ Own EU8 5 B w' v (Frm.enc k d) ∧ Below B w w' := by
  have hn' : ¬ (65536 : Int) < (n : Int) := by omega
  obtain ⟨w0, hw0⟩ : ∃ w0, w0 = w.alloc (.cells #[.int .i64 k, .slice a n c] 40) := ⟨_, rfl⟩
  have hsz : w0.heap.size = B + 1 := by subst hw0; simp [hB]
  have hb0 : Below B w w0 := by subst hw0; exact (Below.refl _ _).alloc (by omega) _
  have c0 : w0.cell? ⟨B, 0, none⟩ = some (.int .i64 k) := by subst hw0; subst hB; simp
  have c1 : w0.cell? ⟨B, 1, none⟩ = some (.slice a n c) := by subst hw0; subst hB; simp
  have Hsz := Lib.hid hsz
  have Hh := Lib.hid (Frm.hd_64 k n hk hn)
  clear hsz
  go_enter Try.func26, Try.ntmps26
  go_wp2_with fail
  rw [← hw0]
  have HB := Lib.hid hB
  clear hw0 hB
  refine (law4_four (B + 1) _ _ Hsz.out).mono ?_
  rintro e w1 ⟨a1, n1, rfl, r1, ho1, hb1⟩
  rw [Hh.out, Frm.q4_be] at r1 ho1
  have c11 : w1.cell? ⟨B, 1, none⟩ = some (.slice a n c) := by rw [hb1.cell (p := ⟨B, 1, none⟩) (by simp)]; exact c1
  have hs1 : B + 1 ≤ w1.heap.size := by have := cell_lt c11; omega
  go_wp2_with fail
  refine (ref_Sum _ _ _ (Frm.enc1 k n) _ r1 (by unfold maxLen; omega)).mono ?_
  rintro e w' ⟨rfl, rfl⟩
  go_wp2_with fail
  refine (law4_four w1.heap.size _ _ rfl).mono ?_
  rintro e w2 ⟨a2, n2, rfl, r2, ho2, hb2⟩
  rw [Frm.q4_be] at r2 ho2
  have c12 : w2.cell? ⟨B, 1, none⟩ = some (.slice a n c) := cell_thru c11 hb2
  have ho1b : Own EU8 5 (B + 1) w2 (.slice a1 4 n1) (Frm.enc1 k n) := ho1.below hb2
  have hsrc : Sl EU8 (fun b => some b ≠ (Value.slice a1 4 n1).ownBlock) w2 a2 (Frm.be (Crc.sum (Frm.enc1 k n))) := ho2.slB.mono (by decide) fun q hq _ => ⟨rfl, fun e => by have := (ho1.lt _ e.symm).2; omega⟩
  go_wp2_with (refine wpList_app (l2 := Frm.be (Crc.sum (Frm.enc1 k n))) (m := 4) EU8 rfl rfl rfl rfl ti_bytes ho1b rfl hsrc ?_ ?_ ?_ ?_)
  · simp [Frm.enc1, Frm.be, maxLen]
  · simp [Frm.enc1, Frm.be]
  · have := hb2.size; omega
  intro v3 w3 ho3 hg3 hv3 hb3
  obtain ⟨a3, n3, rfl, _, _, r3, ho3'⟩ := ho3.shape 8 rfl
  have c13 : w3.cell? ⟨B, 1, none⟩ = some (.slice a n c) := by rw [hb3.cell (p := ⟨B, 1, none⟩) (by simp)]; exact c12
  have hb13 : Below (B + 1) w0 w3 := (hb1.trans (hb2.mono (by omega))).trans hb3
  have hbw3 : Below B w w3 := hb0.trans (hb13.mono (by omega))
  have rd : RB w3 a n d := hr.below (by rw [HB.out]; exact hbw3)
  have hs3 : B + 1 ≤ w3.heap.size := by have := cell_lt c13; omega
  have hm : n ≤ maxLen := by unfold maxLen; omega
  have hdn : n = d.length := hr.1
  have Hdn := Lib.hid hdn
  clear c0 c1 c11 c12 ho3 hdn
  go_upto_region 3 with fail
  go_cut [3] (fun s wx => Own EU8 5 (B + 1) wx s (Frm.enc3 k d) ∧ Below (B + 1) w3 wx)
  case first =>
    have hsum := Lib.hid (Crc.sum_app (Frm.enc2 k n) d)
    have hl2 : (Frm.enc2 k n).length = 8 := rfl
    have hl2d : 8 + n = (Frm.enc2 k n ++ d).length := by rw [List.length_append, ← Hdn.out, hl2]
    have Hl2 := Lib.hid hl2
    have Hl2d := Lib.hid hl2d
    have hd1 : ∀ W4 : World, Below w3.heap.size w3.drew W4 → Below w.heap.size w W4 := fun W4 h => by rw [HB.out]; exact hbw3.drew.trans (h.mono (by omega))
    have hBw : w.heap.size ≤ w3.heap.size := by rw [HB.out]; omega
    clear hl2 hl2d
    go_region_held3 (fun W => W.cell? ⟨B, 1, none⟩ = some (.slice a n c))
      (first | go_keep | exact cell_thru c13 ((Below.refl _ _).drew.trans hb4) | exact cell_thru c13 (((Below.refl _ _).drew.trans hb4).trans hb5) | exact cell_thru c13 ((((Below.refl _ _).drew.trans hb4).trans hb5).trans (hb6.mono hz5)) | (rw [hb7.cell (p := ⟨B, 1, none⟩) (by simp)]; exact cell_thru c13 ((((Below.refl _ _).drew.trans hb4).trans hb5).trans (hb6.mono hz5))))
      ((first
        | (go_at_call 15; refine (ref_Copy_at w3.heap.size _ _ _ (Frm.enc2 k n) _ (by rfl) (by exact r3) (by omega)).mono ?_; rintro e w4 ⟨v4, rfl, ho4, hb4⟩)
        | (refine step_app (l2 := d) (m := n) EU8 (by rfl) (by rfl) (by rfl) ti_bytes ho4 Hdn.out (by exact hr.2.foreign (by decide) (hd1 _ hb4) ho4 hBw) (by rw [Hl2.out, ← Hdn.out]; unfold maxLen; omega) (by rw [Hl2.out, ← Hdn.out]; omega) (by exact hb4.size) ?_; intro v5 w5 ho5 hg5 hv5 hb5)
        | (go_at_call 17; obtain ⟨a5, n5, rfl, _, _, r5, _⟩ := ho5.shape (8 + n) Hl2d.out; have hz5 : w3.heap.size ≤ w5.heap.size := Nat.le_trans hb4.size hb5.size; refine (ref_Sum _ _ _ (Frm.enc2 k n ++ d) _ (by exact r5) (by unfold maxLen; omega)).mono ?_; rintro e w' ⟨rfl, rfl⟩)
        | (go_at_call 34; refine (law4_four w5.heap.size _ _ (by rfl)).mono ?_; rintro e w6 ⟨a6, n6, rfl, r6, ho6, hb6⟩; rw [Frm.q4_be] at ho6)
        | (refine step_app (l2 := Frm.be (Crc.sum (Frm.enc2 k n ++ d))) (m := 4) EU8 (by rfl) (by rfl) (by rfl) ti_bytes (ho3'.below ((((Below.refl _ _).drew.trans hb4).trans hb5).trans (hb6.mono hz5))) (by rfl) (by exact ho6.slB.mono (by decide) fun q hq _ => ⟨rfl, fun e => by have := (ho3'.lt _ e.symm).2; omega⟩) (by simp [Frm.enc2, Frm.enc1, Frm.be, maxLen]) (by simp [Frm.enc2, Frm.enc1, Frm.be]) (by have := hb6.size; omega) ?_; intro v7 w7 ho7 hg7 hv7 hb7)))
    all_goals
      go_wp2_with fail
      go_meet
      refine ⟨?_, ?_⟩
      · rw [hsum.out] at ho7
        unfold Frm.enc3; rw [← Hdn.out]; exact ho7
      · exact ((((Below.refl _ _).drew.trans (hb4.mono hs3)).trans (hb5.mono hs3)).trans (hb6.mono (by omega))).trans hb7
  obtain ⟨ho3c, hbc⟩ := hcut
  have cc : wc.cell? ⟨B, 1, none⟩ = some (.slice a n c) := by rw [hbc.cell (p := ⟨B, 1, none⟩) (by simp)]; exact c13
  have hbwc : Below B w wc := hbw3.trans (hbc.mono (by omega))
  have hsd : Sl EU8 (fun b => some b ≠ u3.ownBlock) wc a d := hr.2.foreign (by decide) (by rw [HB.out]; exact hbwc) ho3c (by rw [HB.out]; omega)
  have hsc : B + 1 ≤ wc.heap.size := by have := cell_lt cc; omega
  clear c13 r3 rd
  go_wp2_with (refine wpList_app (l2 := d) (m := n) EU8 rfl rfl rfl rfl ti_bytes ho3c Hdn.out hsd ?_ ?_ ?_ ?_)
  · rw [Frm.enc3_len, ← Hdn.out]; unfold maxLen; omega
  · rw [Frm.enc3_len, ← Hdn.out]; omega
  · exact hsc
  · intro v' w' ho' hg hv hb'
    go_wp2_with fail
    go_ret
    exact ⟨_, rfl, ho'.base (by omega), hbwc.trans (hb'.mono (by omega))⟩
end Go.Proofs.Ytcmkkilhipnbcaa

/-
  How the statements read a frame.
-/
import Derived.Test.YtcmkkilhipnbcaaFrameText
import Derived.Test.YtcmkkilhipnbcaaFrameDec
import Derived.Test.YtcmkkilhipnbcaaFramePlain
namespace Go.Proofs.Ytcmkkilhipnbcaa
open Go.RowKit
set_option linter.unusedVariables false

set_option maxHeartbeats 3200000 in
theorem law4_read (B : Nat) (a : Option Addr) (n c : Nat) (l : List (BitVec 8)) (w : World) (hB : w.heap.size = B) (hr : RB w a n l) (hnc : n ≤ c) (hcm : c ≤ maxLen) :
    Calls Try.prog 28 #[.slice a n c] w (GotIs B w (Frm.dec l)) := by
  obtain ⟨rfl, hs⟩ := hr
  unfold maxLen at hcm
  by_cases h8 : l.length < 8
  · subst hB
    rw [Frm.dec_short h8]
    have hlt : (l.length : Int) < 8 := by omega
    go_enter Try.func28, Try.ntmps28
    go_wp2
    refine bodyPost_ret (v := .tuple #[.agg #[.int .i64 0, .slice none 0 0], .int .i64 0, .int .i64 10]) (by simp [results, Try.results28, go_sem]) rfl (gotIs_bad ?_)
    exact (Below.refl _ _).alloc (by omega) _
  · have hge : ¬ (l.length : Int) < 8 := by omega
    obtain ⟨W0, hW0⟩ : ∃ W0, W0 = w.alloc (.cells #[.int .i64 0, .slice none 0 0] 40) := ⟨_, rfl⟩
    have hb0 : Below B w W0 := by subst hW0; exact (Below.refl _ _).alloc (by omega) _
    have hsz0 : W0.heap.size = B + 1 := by subst hW0; simp [hB]
    have hh0 : W0.heap[B]? = some (.cells #[.int .i64 0, .slice none 0 0] 40 (0, 0)) := by subst hW0; rw [← hB]; exact heap_alloc_new w _
    have hs0 : SB W0 a l := hs.below (by decide) (by rw [hB]; exact hb0)
    obtain ⟨q1, hq1⟩ : ∃ q, q = Frm.sumA l := ⟨_, rfl⟩
    have hsame := Frm.sumA_same l h8
    rw [← hq1] at hsame
    have Hsame := Lib.hid hsame
    have Hq1 := Lib.hid hq1
    have HB := Lib.hid hB
    have Hsz0 := Lib.hid hsz0
    have Hh0 := Lib.hid hh0
    have i1 : (4 : Int) ≤ (c : Int) := by omega
    have i2 : (8 : Int) ≤ (c : Int) := by omega
    have r4 : RB W0.drew a 4 (l.take 4) := RB.take (hs0.heap (w' := W0.drew) (by decide) rfl) (by omega)
    obtain ⟨b, o, rfl, _⟩ := SB.at hs0 0 (by omega)
    have r48 : RB W0.drew (some ⟨b, o + 4, none⟩) 4 ((l.drop 4).take 4) := RB.sub (hs0.heap (w' := W0.drew) (by decide) rfl) 4 4 (by omega)
    have hz : W0.drew.heap.size = B + 1 := hsz0
    have Hz := Lib.hid hz
    clear hq1 hsame hsz0 hh0 hz
    go_enter Try.func28, Try.ntmps28
    go_upto_region 3 with fail
    rw [← hW0]
    clear hB hW0
    go_cut [19] (fun s wx => s = .bool (!q1) ∧ Below (B + 1) W0 wx)
    case first =>
      go_region_held3 (fun W => True) (trivial)
        ((first
          | (go_at_call 17; refine (ref_Sum _ _ _ (l.take 4) _ (by exact r4) (by unfold maxLen; omega)).mono ?_; rintro e w' ⟨rfl, rfl⟩)
          | (go_at_call 34; refine (law4_four (B + 1) _ _ (by exact Hz.out)).mono ?_; rintro e w1 ⟨a1, n1, rfl, r1, ho1, hb1⟩; rw [Frm.q4_be] at r1)
          | (go_at_call 20; refine (ref_Same _ _ _ _ _ _ (Frm.be (Crc.sum (l.take 4))) ((l.drop 4).take 4) _ (by exact r1) (by exact r48.below (by rw [Hz.out]; exact hb1))).mono ?_; rintro e w' ⟨rfl, rfl⟩; rw [Hsame.out])))
      all_goals (go_wp2_with fail; go_meet; exact ⟨rfl, (Below.refl (B + 1) W0).drew.trans hb1⟩)
    obtain ⟨hs19, hb1⟩ := hcut
    subst hs19
    obtain ⟨w1, hw1⟩ : ∃ w1, w1 = wc := ⟨_, rfl⟩
    subst hw1
    have hh1 : w1.heap[B]? = some (.cells #[.int .i64 0, .slice none 0 0] 40 (0, 0)) := by rw [hb1.block B (by omega)]; exact Hh0.out
    have d0 : w1.cell? ⟨B, 0, none⟩ = some (.int .i64 0) := by simp [World.cell?, hh1]
    have d1 : w1.cell? ⟨B, 1, none⟩ = some (.slice none 0 0) := by simp [World.cell?, hh1]
    have f0 : ∀ o, w1.frozen? ⟨B, o, none⟩ = false := fun o => by simp [World.frozen?, hh1]
    have hbw1 : Below B w w1 := hb0.trans (hb1.mono (by omega))
    have hs1 : SB w1 (some ⟨b, o, none⟩) l := hs.below (by decide) (by rw [HB.out]; exact hbw1)
    clear hh1 r4 r48 hs0 hs
    cases q1
    · simp only [Bool.not_false]
      go_wp2
      refine bodyPost_ret (v := .tuple #[.agg #[.int .i64 0, .slice none 0 0], .int .i64 0, .int .i64 13]) (by simp [results, Try.results28, go_sem, d0, d1]) rfl ?_
      rw [Frm.dec_sumA h8 Hq1.out.symm]
      refine gotIs_bad ?_
      exact (hbw1.setCell (by simp) _).setCell (by simp) _
    · simp only [Bool.not_true]
      obtain ⟨b', o', e8, hc8⟩ := SB.all hs1 (show 0 < l.length by omega)
      simp only [Option.some.injEq, Addr.mk.injEq, and_true] at e8
      obtain ⟨rfl, rfl⟩ := e8
      have g := Frm.ith_eq l
      have j0 : w1.cell? ⟨b, o, none⟩ = some (.int .u8 (bv (Frm.ith l 0))) := by rw [← g 0 (by omega)]; exact hc8 0 (by omega)
      have j1 : w1.cell? ⟨b, o + 1, none⟩ = some (.int .u8 (bv (Frm.ith l 1))) := by rw [← g 1 (by omega)]; exact hc8 1 (by omega)
      have j2 : w1.cell? ⟨b, o + 2, none⟩ = some (.int .u8 (bv (Frm.ith l 2))) := by rw [← g 2 (by omega)]; exact hc8 2 (by omega)
      have j3 : w1.cell? ⟨b, o + 3, none⟩ = some (.int .u8 (bv (Frm.ith l 3))) := by rw [← g 3 (by omega)]; exact hc8 3 (by omega)
      clear hc8 g
      obtain ⟨m, hm⟩ : ∃ m, m = Frm.len24 l := ⟨_, rfl⟩
      have hmb := Frm.len24_int l
      rw [← hm] at hmb
      have hm1 : m ≤ 16777215 := by rw [hm]; exact Frm.len24_le l
      have Hm := Lib.hid hm
      have p1 := bv_nonneg (Frm.ith l 1)
      have p2 := bv_nonneg (Frm.ith l 2)
      have p3 := bv_nonneg (Frm.ith l 3)
      have s1 := bv8_lt (Frm.ith l 1)
      have s2 := bv8_lt (Frm.ith l 2)
      have s3 := bv8_lt (Frm.ith l 3)
      have k1 : (1 : Int) < (l.length : Int) := by omega
      have k2 : (2 : Int) < (l.length : Int) := by omega
      have k3 : (3 : Int) < (l.length : Int) := by omega
      clear hm
      go_wp2_with fail
      go_quiet (fail)
      have hE : Below B w (w1.drewN nq) := below_drewN hbw1 nq
      have hsz1 : B + 1 ≤ (w1.drewN nq).heap.size := by rw [drewN_heap]; have := cell_lt d0; omega
      rw [← drewN_cell w1 nq] at d0 d1 j0
      have f0' : ∀ o, (w1.drewN nq).frozen? ⟨B, o, none⟩ = false := fun o => by rw [drewN_frozen]; exact f0 o
      have hsk : SB (w1.drewN nq) (some ⟨b, o, none⟩) l := hs1.heap (by decide) (drewN_heap w1 nq)
      generalize w1.drewN nq = wk at *
      clear hmb p1 p2 p3 s1 s2 s3 k1 k2 k3 j1 j2 j3 f0 hs1
      by_cases hlong : 65536 < m
      · go_wp2
        refine bodyPost_ret (v := .tuple #[.agg #[.int .i64 0, .slice none 0 0], .int .i64 0, .int .i64 3]) (by simp [results, Try.results28, go_sem, d0, d1]) rfl ?_
        rw [Frm.dec_long h8 Hq1.out.symm (by rw [← Hm.out]; exact hlong)]
        refine gotIs_bad ?_
        exact (hE.setCell (by simp) _).setCell (by simp) _
      · by_cases hshort : l.length < 12 + m
        · go_wp2
          refine bodyPost_ret (v := .tuple #[.agg #[.int .i64 0, .slice none 0 0], .int .i64 0, .int .i64 10]) (by simp [results, Try.results28, go_sem, d0, d1]) rfl ?_
          rw [Frm.dec_cut h8 Hq1.out.symm (by rw [← Hm.out]; exact hlong) (by rw [← Hm.out]; exact hshort)]
          refine gotIs_bad ?_
          exact (hE.setCell (by simp) _).setCell (by simp) _
        · have i3 : (12 : Int) + (m : Int) ≤ (c : Int) := by omega
          have i4 : (12 : Int) ≤ (c : Int) := by omega
          have i5 : (0 : Int) < (l.length : Int) := by omega
          have hbl : m = (Frm.body l).length := by unfold Frm.body; rw [← Hm.out]; simp; omega
          have i6 : 0 < l.length := by omega
          have hq12 : (12 : Int) ≤ 12 + (m : Int) := by omega
          have hw12 : IntKind.i64.wrap (12 + (m : Int)) = 12 + (m : Int) := IntWalk.i64_in _ (by omega)
          obtain ⟨a7, hrun7, rbd⟩ := slice_lh ti_bytes (a := some ⟨b, o, none⟩) (n := l.length) (c := c) (i := 12) (j := 12 + m) (l := l) (w := wk) ⟨rfl, hsk⟩ (by omega) (by omega) hnc
          rw [show ((12 + m : Nat) : Int) = 12 + (m : Int) from rfl] at hrun7
          rw [show 12 + m - 12 = m by omega] at hrun7 rbd
          rw [show ((12 : Nat) : Int) = (12 : Int) from rfl] at hrun7
          have rbd : RB wk a7 m (Frm.body l) := by unfold Frm.body; rw [← Hm.out]; exact rbd
          have rA : RB wk.drew a7 m (Frm.body l) := rbd.below (below_drewN (Below.refl _ _) 1)
          have rB : RB (wk.alloc (.cells #[.int .i64 0, .slice none 0 0] 40)).drew a7 m (Frm.body l) := rbd.below ((Below.refl _ _).alloc (Nat.le_refl _) _).drew
          have hzB : (wk.alloc (.cells #[.int .i64 0, .slice none 0 0] 40)).drew.heap.size = wk.heap.size + 1 := by rw [drew_size]; simp
          have HzB := Lib.hid hzB
          clear hzB
          have hN : ∀ W5, Below (wk.heap.size + 1) (wk.alloc (.cells #[.int .i64 0, .slice none 0 0] 40)).drew W5 → Below wk.heap.size wk W5 ∧ W5.heap[wk.heap.size]? = some (.cells #[.int .i64 0, .slice none 0 0] 40 (0, 0)) := fun W5 h =>
            ⟨((Below.refl _ _).alloc (Nat.le_refl _) _).drew.trans (h.mono (by omega)), by rw [h.block _ (by omega)]; exact heap_alloc_new wk _⟩
          have Hbl := Lib.hid hbl
          clear hbl
          go_upto_region 10 with fail
          go_cut [6] (fun s wx => ∃ g a' c', s = .pointer (some ⟨g, 0, none⟩) ∧ wx.heap[g]? = some (.cells #[.int .i64 (bv (Frm.ith l 0)), .slice a' m c'] 40 (0, 0)) ∧ wk.heap.size ≤ g ∧ Sl EU8 (fun b => wk.heap.size ≤ b) wx a' (Frm.body l) ∧ m ≤ c' ∧ c' ≤ maxLen ∧ Below wk.heap.size wk wx)
          case first =>
            go_region_held3 (fun W => W.cell? ⟨b, o, none⟩ = some (.int .u8 (bv (Frm.ith l 0))))
              (first | go_keep | exact cell_thru j0 ((Below.refl wk.heap.size wk).drew.trans hb5) | exact cell_thru j0 (((Below.refl wk.heap.size wk).drew.trans hb5).alloc hb5.size _) | exact cell_thru j0 (hN _ hb5).1 | exact cell_thru j0 (((hN _ hb5).1.setCell (by simp) _).setCell (by simp) _))
              ((first
                | (go_at_call 15; refine (ref_Copy_at wk.heap.size _ _ _ (Frm.body l) _ (by rfl) (by exact rA) (by omega)).mono ?_; rintro e w5 ⟨v5, rfl, ho5, hb5⟩; obtain ⟨a5, c5, rfl, hc5, hm5, hr5, ho5'⟩ := ho5.shape m Hbl.out)
                | (go_at_call 15; refine (ref_Copy_at (wk.heap.size + 1) _ _ _ (Frm.body l) _ (by exact HzB.out) (by exact rB) (by omega)).mono ?_; rintro e w5 ⟨v5, rfl, ho5, hb5⟩; obtain ⟨a5, c5, rfl, hc5, hm5, hr5, ho5'⟩ := ho5.shape m Hbl.out; have bx0 : w5.cell? ⟨wk.heap.size, 0, none⟩ = some (.int .i64 0) := (by simp [World.cell?, (hN _ hb5).2]); have bx1 : w5.cell? ⟨wk.heap.size, 1, none⟩ = some (.slice none 0 0) := (by simp [World.cell?, (hN _ hb5).2]); have bxf : ∀ o, w5.frozen? ⟨wk.heap.size, o, none⟩ = false := fun o => (by simp [World.frozen?, (hN _ hb5).2]))))
            all_goals
              go_wp2_with fail
              go_meet
            · exact ⟨_, a5, c5, rfl, heap_alloc_new w5 _, hb5.size, ((ho5'.slB).below (by decide) ((Below.refl _ _).alloc (Nat.le_refl _) _)), hc5, hm5, ((Below.refl wk.heap.size wk).drew.trans hb5).alloc hb5.size _⟩
            · refine ⟨_, a5, c5, rfl, heap_set (heap_set (hN _ hb5).2 0 _) 1 _, Nat.le_refl _, ?_, hc5, hm5, ((hN _ hb5).1.setCell (by simp) _).setCell (by simp) _⟩
              refine (ho5'.slB).mono (by decide) fun k hk hk' => ⟨?_, by omega⟩
              rw [Below.heap_setCell _ _ _ _ (by simp; omega), Below.heap_setCell _ _ _ _ (by simp; omega)]
          obtain ⟨g, a6, c6, hs6, hg6, hgl, hr6, hc6, hm6, hb6⟩ := hcut
          subst hs6
          have e0 : wc.cell? ⟨g, 0, none⟩ = some (.int .i64 (bv (Frm.ith l 0))) := by simp [World.cell?, hg6]
          have e1 : wc.cell? ⟨g, 1, none⟩ = some (.slice a6 m c6) := by simp [World.cell?, hg6]
          have hbc : Below B w wc := hE.trans (hb6.mono (by omega))
          have hszc : wk.heap.size ≤ wc.heap.size := hb6.size
          have d0c := cell_thru d0 hb6
          have d1c := cell_thru d1 hb6
          have fc : ∀ o, wc.frozen? ⟨B, o, none⟩ = false := fun o => by rw [(bcell hb6).2 _ _ (by omega)]; exact f0' o
          have hsc := hsk.below (by decide) hb6
          clear hN hrun7 rbd rA rB d0 d1 f0' j0 hb6 hg6
          obtain ⟨q2, hq2⟩ : ∃ q, q = Frm.sumB l := ⟨_, rfl⟩
          have hts := Frm.text_same l h8 Hq1.out.symm (by rw [← Hm.out]; omega)
          rw [← hq2, ← Hm.out] at hts
          have Hts := Lib.hid hts
          have Hq2 := Lib.hid hq2
          clear hts hq2
          have hkb : 0 ≤ bv (Frm.ith l 0) ∧ bv (Frm.ith l 0) ≤ 255 := ⟨bv_nonneg _, by have := bv8_lt (Frm.ith l 0); omega⟩
          have r6 : RB wc a6 m (Frm.body l) := ⟨Hbl.out, hr6.any (by decide)⟩
          have k0 : (0 : Int) ≤ 12 + (m : Int) := by omega
          have k1 : (12 + (m : Int)).toNat = 12 + m := by omega
          go_upto_region 11 with fail
          go_cut [63] (fun s wx => s = .bool (!q2) ∧ Below wc.heap.size wc wx)
          case first =>
            go_region_held3 (fun W => W.cell? ⟨g, 0, none⟩ = some (.int .i64 (bv (Frm.ith l 0))) ∧ W.cell? ⟨g, 1, none⟩ = some (.slice a6 m c6))
              (first | go_keep | exact ⟨cell_thru e0 ((Below.refl wc.heap.size wc).drew.trans hb7), cell_thru e1 ((Below.refl wc.heap.size wc).drew.trans hb7)⟩)
              ((first
                | (go_at_call 26; refine (law4_text wc.heap.size _ _ _ _ (Frm.body l) _ (by rfl) (by exact hkb) (by omega) (by exact r6)).mono ?_; rintro e w7 ⟨v7, rfl, ho7, hb7⟩; obtain ⟨a7, c7, rfl, hc7, hm7, hr7, ho7'⟩ := ho7.shape _ rfl)
                | (go_at_call 20; refine (ref_Same _ _ _ _ _ _ (Frm.enc (bv (Frm.ith l 0)) (Frm.body l)) (l.take (12 + m)) _ (by exact hr7) (by exact RB.take (hsc.below (by decide) ((Below.refl wc.heap.size wc).drew.trans hb7)) (by omega))).mono ?_; rintro e w' ⟨rfl, rfl⟩; rw [Hts.out])))
            all_goals (go_wp2_with fail; go_meet; exact ⟨rfl, (Below.refl wc.heap.size wc).drew.trans hb7⟩)
          obtain ⟨hs63, hb8⟩ := hcut
          subst hs63
          obtain ⟨wd, hwd⟩ : ∃ wd, wd = wc := ⟨_, rfl⟩
          subst hwd
          have hbd : Below B w wd := hbc.trans (hb8.mono (by omega))
          have d0d := cell_thru d0c hb8
          have d1d := cell_thru d1c hb8
          have e0d := cell_thru e0 hb8
          have e1d := cell_thru e1 hb8
          have fd : ∀ o, wd.frozen? ⟨B, o, none⟩ = false := fun o => by rw [(bcell hb8).2 _ _ (by have := cell_lt d0c; omega)]; exact fc o
          have hrd := hr6.below (by decide) hb8
          clear d0c d1c e0 e1 fc hr6 r6 hsc
          cases q2
          · simp only [Bool.not_false]
            go_wp2
            refine bodyPost_ret (v := .tuple #[.agg #[.int .i64 0, .slice none 0 0], .int .i64 0, .int .i64 13]) (by simp [results, Try.results28, go_sem, d0d, d1d]) rfl ?_
            rw [Frm.dec_sumB h8 Hq1.out.symm (by rw [← Hm.out]; exact hlong) (by rw [← Hm.out]; exact hshort) Hq2.out.symm]
            refine gotIs_bad ?_
            exact (hbd.setCell (by simp) _).setCell (by simp) _
          · simp only [Bool.not_true]
            go_wp2
            refine bodyPost_ret (v := .tuple #[.agg #[.int .i64 (bv (Frm.ith l 0)), .slice a6 m c6], .int .i64 (12 + m), .int .i64 0]) (by simp [results, Try.results28, go_sem, d0d, d1d]) rfl ?_
            rw [Frm.dec_ok h8 Hq1.out.symm (by rw [← Hm.out]; exact hlong) (by rw [← Hm.out]; exact hshort) Hq2.out.symm]
            have hbe : Below B w ((wd.setCell ⟨B, 0, none⟩ (.int .i64 (bv (Frm.ith l 0)))).setCell ⟨B, 1, none⟩ (.slice a6 m c6)) := (hbd.setCell (by simp) _).setCell (by simp) _
            refine ⟨a6, c6, ?_, ?_, by simp only; rw [← Hbl.out]; exact hc6, hm6, hbe⟩
            · simp only
              rw [← Hbl.out, ← Hm.out, Frm.kind_eq]; rfl
            · refine hrd.mono (by decide) fun k hk hk' => ⟨?_, by omega⟩
              rw [Below.heap_setCell _ _ _ _ (by simp; omega), Below.heap_setCell _ _ _ _ (by simp; omega)]
end Go.Proofs.Ytcmkkilhipnbcaa

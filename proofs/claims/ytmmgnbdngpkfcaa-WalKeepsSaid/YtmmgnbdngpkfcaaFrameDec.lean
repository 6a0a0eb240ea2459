
/-
  How a frame is read.
-/
import Derived.Test.YtmmgnbdngpkfcaaFrameWalks
namespace Go.Proofs.Ytmmgnbdngpkfcaa
open Go.RowKit
set_option linter.unusedVariables false

/-- what a decoding hands back -/
def GotIs (B : Nat) (w : World) (g : Frm.Got) (e : Ending) (w' : World) : Prop :=
  ∃ a c, e = .returned (.tuple #[.agg #[.int .i64 g.kind, .slice a g.data.length c], .int .i64 g.n, .int .i64 g.err]) ∧ Sl EU8 (fun b => B ≤ b) w' a g.data ∧ g.data.length ≤ c ∧ c ≤ maxLen ∧ Below B w w'

theorem gotIs_bad {B : Nat} {w w' : World} {e : Int} (hb : Below B w w') : GotIs B w (Frm.bad e) (.returned (.tuple #[.agg #[.int .i64 0, .slice none 0 0], .int .i64 0, .int .i64 e])) w' :=
  ⟨none, 0, rfl, Sl.nil _ _ _ _, Nat.le_refl _, Nat.zero_le _, hb⟩

theorem arr_at (b o c : Nat) (W : World) : (Instr.arrayAt 198 (.slice (some ⟨b, o, none⟩) 4 c)).run Try.prog W = .ok (.pointer (some ⟨b, o, none⟩)) W := by kernel_rfl

set_option maxRecDepth 100000 in
set_option maxHeartbeats 3200000 in
theorem frame_Decode (B : Nat) (a : Option Addr) (n c : Nat) (l : List (BitVec 8)) (w : World) (hB : w.heap.size = B) (hr : RB w a n l) (hnc : n ≤ c) (hcm : c ≤ maxLen) :
    Calls Try.prog 143 #[.slice a n c] w (GotIs B w (Frm.dec l)) := by
  obtain ⟨rfl, hs⟩ := hr
  unfold maxLen at hcm
  by_cases h8 : l.length < 8
  · subst hB
    rw [Frm.dec_short h8]
    have hlt : (l.length : Int) < 8 := by omega
    go_enter Try.func143, Try.ntmps143
    go_wp2
    refine bodyPost_ret (v := .tuple #[.agg #[.int .i64 0, .slice none 0 0], .int .i64 0, .int .i64 10]) (by simp [results, Try.results143, go_sem]) rfl (gotIs_bad ?_)
    exact (Below.refl _ _).alloc (by omega) _
  · have hge : ¬ (l.length : Int) < 8 := by omega
    obtain ⟨b, o, rfl, hc⟩ := SB.all hs (by omega)
    have g := Frm.ith_eq l
    have h4 : w.cell? ⟨b, o + 4, none⟩ = some (.int .u8 (bv (Frm.ith l 4))) := by rw [← g 4 (by omega)]; exact hc 4 (by omega)
    have h5 : w.cell? ⟨b, o + 5, none⟩ = some (.int .u8 (bv (Frm.ith l 5))) := by rw [← g 5 (by omega)]; exact hc 5 (by omega)
    have h6 : w.cell? ⟨b, o + 6, none⟩ = some (.int .u8 (bv (Frm.ith l 6))) := by rw [← g 6 (by omega)]; exact hc 6 (by omega)
    have h7 : w.cell? ⟨b, o + 7, none⟩ = some (.int .u8 (bv (Frm.ith l 7))) := by rw [← g 7 (by omega)]; exact hc 7 (by omega)
    obtain ⟨q1, hq1⟩ : ∃ q, q = Frm.sumA l := ⟨_, rfl⟩
    have hbl : b < B := by rw [← hB]; exact cell_lt h4
    have heq : ∀ W, (Op.equalIn 10000 198 (.agg #[.int .u8 (bv (Frm.ith l 4)), .int .u8 (bv (Frm.ith l 5)), .int .u8 (bv (Frm.ith l 6)), .int .u8 (bv (Frm.ith l 7))])
        (.agg #[.int .u8 (bv ((Crc.sum (l.take 4) >>> 24).setWidth 8)), .int .u8 (bv ((Crc.sum (l.take 4) >>> 16).setWidth 8)), .int .u8 (bv ((Crc.sum (l.take 4) >>> 8).setWidth 8)), .int .u8 (bv ((Crc.sum (l.take 4)).setWidth 8))])).run Try.prog W = .ok q1 W := fun W => by
      rw [hq1]; exact eq_arr4 _ _ _ _ _ _ _ _ W
    have r4 : ∀ W, W.heap = (w.alloc (.cells #[.int .i64 0, .slice none 0 0] 150)).heap → RB W (some ⟨b, o, none⟩) 4 (l.take 4) := fun W hW => by
      have := RB.take ((hs.below (by decide) ((Below.refl _ _).alloc (Nat.le_refl _) _)).heap (w' := W) (by decide) hW) (k := 4) (by omega)
      exact this
    have Hq1 := Lib.hid hq1
    have harr := arr_at
    have i1 : (4 : Int) ≤ (c : Int) := by omega
    have i2 : (8 : Int) ≤ (c : Int) := by omega
    have hbW : ∀ W1, Below (B + 1) (w.alloc (.cells #[.int .i64 0, .slice none 0 0] 150)).drew W1 → Below B w W1 := fun W1 h =>
      ((Below.refl _ _).alloc (by rw [hB]; exact Nat.le_refl _) _).drew.trans (h.mono (by omega))
    have k4 : ∀ W1, Below (B + 1) (w.alloc (.cells #[.int .i64 0, .slice none 0 0] 150)).drew W1 → W1.cell? ⟨b, o + 4, none⟩ = some (.int .u8 (bv (Frm.ith l 4))) ∧ W1.cell? ⟨b, o + 5, none⟩ = some (.int .u8 (bv (Frm.ith l 5))) ∧ W1.cell? ⟨b, o + 6, none⟩ = some (.int .u8 (bv (Frm.ith l 6))) ∧ W1.cell? ⟨b, o + 7, none⟩ = some (.int .u8 (bv (Frm.ith l 7))) := fun W1 h => by
      have hb := hbW W1 h
      rw [← hB] at hb
      exact ⟨cell_thru h4 hb, cell_thru h5 hb, cell_thru h6 hb, cell_thru h7 hb⟩
    have HB := Lib.hid hB
    clear hq1 hc g
    go_enter Try.func143, Try.ntmps143
    go_upto_region 3 with fail
    clear hB
    go_cut [20] (fun s wx => s = .bool (!q1) ∧ Below (B + 1) (w.alloc (.cells #[.int .i64 0, .slice none 0 0] 150)).drew wx)
    case first =>
      go_region_held3 (fun W => W.cell? ⟨b, o + 4, none⟩ = some (.int .u8 (bv (Frm.ith l 4))) ∧ W.cell? ⟨b, o + 5, none⟩ = some (.int .u8 (bv (Frm.ith l 5))) ∧ W.cell? ⟨b, o + 6, none⟩ = some (.int .u8 (bv (Frm.ith l 6))) ∧ W.cell? ⟨b, o + 7, none⟩ = some (.int .u8 (bv (Frm.ith l 7))))
        (first | go_keep | exact k4 _ hb1)
        ((first
          | (go_at_call 124; refine (crc_Sum _ _ _ (l.take 4) _ (by exact r4 _ (by rfl)) (by unfold maxLen; omega)).mono ?_; rintro e w' ⟨rfl, rfl⟩)
          | (go_at_call 147; refine (frame_four (B + 1) _ _ (by simp [HB.out])).mono ?_; rintro e w1 ⟨rfl, hb1⟩)))
      all_goals (go_wp2_with fail; go_meet; exact ⟨rfl, hb1⟩)
    obtain ⟨hs20, hb1⟩ := hcut
    subst hs20
    obtain ⟨w1, hw1⟩ : ∃ w1, w1 = wc := ⟨_, rfl⟩
    subst hw1
    have hh1 : w1.heap[B]? = some (.cells #[.int .i64 0, .slice none 0 0] 150 (0, 0)) := by
      rw [hb1.block B (by omega)]
      show (w.alloc (.cells #[.int .i64 0, .slice none 0 0] 150)).heap[B]? = _
      rw [← HB.out]; exact heap_alloc_new w _
    have d0 : w1.cell? ⟨B, 0, none⟩ = some (.int .i64 0) := by simp [World.cell?, hh1]
    have d1 : w1.cell? ⟨B, 1, none⟩ = some (.slice none 0 0) := by simp [World.cell?, hh1]
    have f0 : ∀ o, w1.frozen? ⟨B, o, none⟩ = false := fun o => by simp [World.frozen?, hh1]
    have Hh1 := Lib.hid hh1
    have hbw1 := hbW w1 hb1
    clear hh1
    cases q1
    · simp only [Bool.not_false]
      go_wp2
      refine bodyPost_ret (v := .tuple #[.agg #[.int .i64 0, .slice none 0 0], .int .i64 0, .int .i64 13]) (by simp [results, Try.results143, go_sem, d0, d1]) rfl ?_
      rw [Frm.dec_sumA h8 Hq1.out.symm]
      refine gotIs_bad ?_
      exact (hbw1.setCell (by simp) _).setCell (by simp) _
    · have rg : RB w1 (some ⟨b, o, none⟩) l.length l := ⟨rfl, hs.below (by decide) (by rw [HB.out]; exact hbw1)⟩
      go_wp2_with fail
      refine (frame_get _ _ _ _ _ rg (by omega)).mono ?_
      rintro e w2 ⟨rfl, k, rfl⟩
      obtain ⟨m, hm⟩ : ∃ m, m = Frm.len24 l := ⟨_, rfl⟩
      have hmb : bv (Frm.getBE l &&& 16777215#32) = (m : Int) := by rw [hm]; rfl
      have hm1 : m ≤ 16777215 := by rw [hm]; exact Frm.len24_le l
      have Hm := Lib.hid hm
      clear hm
      by_cases hlong : 65536 < m
      · go_wp2
        refine bodyPost_ret (v := .tuple #[.agg #[.int .i64 0, .slice none 0 0], .int .i64 0, .int .i64 3]) (by simp [results, Try.results143, go_sem, d0, d1]) rfl ?_
        rw [Frm.dec_long h8 Hq1.out.symm (by rw [← Hm.out]; exact hlong)]
        refine gotIs_bad ?_
        exact ((below_drewN hbw1 _).setCell (by simp) _).setCell (by simp) _
      · by_cases hcut : l.length < 12 + m
        · go_wp2
          refine bodyPost_ret (v := .tuple #[.agg #[.int .i64 0, .slice none 0 0], .int .i64 0, .int .i64 10]) (by simp [results, Try.results143, go_sem, d0, d1]) rfl ?_
          rw [Frm.dec_cut h8 Hq1.out.symm (by rw [← Hm.out]; exact hlong) (by rw [← Hm.out]; exact hcut)]
          refine gotIs_bad ?_
          exact ((below_drewN hbw1 _).setCell (by simp) _).setCell (by simp) _
        · have i3 : (12 : Int) + (m : Int) ≤ (c : Int) := by omega
          have i4 : (12 : Int) ≤ (c : Int) := by omega
          have g8 := SB.all rg.2 (show 0 < l.length by omega)
          obtain ⟨b', o', e8, hc8⟩ := g8
          simp only [Option.some.injEq, Addr.mk.injEq, and_true] at e8
          obtain ⟨rfl, rfl⟩ := e8
          have g := Frm.ith_eq l
          have j8 : w1.cell? ⟨b, o + 8, none⟩ = some (.int .u8 (bv (Frm.ith l 8))) := by rw [← g 8 (by omega)]; exact hc8 8 (by omega)
          have j9 : w1.cell? ⟨b, o + 9, none⟩ = some (.int .u8 (bv (Frm.ith l 9))) := by rw [← g 9 (by omega)]; exact hc8 9 (by omega)
          have j10 : w1.cell? ⟨b, o + 10, none⟩ = some (.int .u8 (bv (Frm.ith l 10))) := by rw [← g 10 (by omega)]; exact hc8 10 (by omega)
          have j11 : w1.cell? ⟨b, o + 11, none⟩ = some (.int .u8 (bv (Frm.ith l 11))) := by rw [← g 11 (by omega)]; exact hc8 11 (by omega)
          clear hc8 g
          obtain ⟨q2, hq2⟩ : ∃ q, q = Frm.sumB l := ⟨_, rfl⟩
          have heq2 : ∀ W, (Op.equalIn 10000 198 (.agg #[.int .u8 (bv (Frm.ith l 8)), .int .u8 (bv (Frm.ith l 9)), .int .u8 (bv (Frm.ith l 10)), .int .u8 (bv (Frm.ith l 11))])
              (.agg #[.int .u8 (bv ((Crc.more (Crc.sum (l.take 8)) (Frm.body l) >>> 24).setWidth 8)), .int .u8 (bv ((Crc.more (Crc.sum (l.take 8)) (Frm.body l) >>> 16).setWidth 8)), .int .u8 (bv ((Crc.more (Crc.sum (l.take 8)) (Frm.body l) >>> 8).setWidth 8)), .int .u8 (bv ((Crc.more (Crc.sum (l.take 8)) (Frm.body l)).setWidth 8))])).run Try.prog W = .ok q2 W := fun W => by
            rw [hq2]; exact eq_arr4 _ _ _ _ _ _ _ _ W
          have Hq2 := Lib.hid hq2
          clear hq2 heq
          have r8 : RB w1 (some ⟨b, o, none⟩) 8 (l.take 8) := RB.take rg.2 (by omega)
          have rbd : RB w1 (if c = 12 then some ⟨b, o, none⟩ else some ⟨b, o + 12, none⟩) (12 + m - 12) (Frm.body l) := by
            have h12 := RB.sub rg.2 12 m (by omega)
            unfold Frm.body; rw [← Hm.out, show 12 + m - 12 = m by omega]
            split
            · have : m = 0 := by omega
              subst this
              simp only [List.take_zero]; exact RB.nil _ _
            · exact h12
          have hE : Below B w (w1.drewN k) := below_drewN hbw1 k
          have hsz1 : B + 1 ≤ w1.heap.size := by have := cell_lt d0; omega
          rw [← drewN_cell w1 k] at j8 j9 j10 j11 d0 d1
          have f0' : ∀ o, (w1.drewN k).frozen? ⟨B, o, none⟩ = false := fun o => by rw [drewN_frozen]; exact f0 o
          have r8' := RB.drewN r8 k
          have rbd' := RB.drewN rbd k
          have hsz' : B + 1 ≤ (w1.drewN k).heap.size := by rw [drewN_heap]; exact hsz1
          have hh' : (w1.drewN k).heap[B]? = some (.cells #[.int .i64 0, .slice none 0 0] 150 (0, 0)) := by rw [drewN_heap]; exact Hh1.out
          generalize w1.drewN k = wk at *
          clear r8 rbd f0 rg h4 h5 h6 h7 Hh1
          have Hh' := Lib.hid hh'
          clear hh'
          have hkk : ∀ W1, Below wk.heap.size wk.drew W1 → W1.cell? ⟨b, o + 8, none⟩ = some (.int .u8 (bv (Frm.ith l 8))) ∧ W1.cell? ⟨b, o + 9, none⟩ = some (.int .u8 (bv (Frm.ith l 9))) ∧ W1.cell? ⟨b, o + 10, none⟩ = some (.int .u8 (bv (Frm.ith l 10))) ∧ W1.cell? ⟨b, o + 11, none⟩ = some (.int .u8 (bv (Frm.ith l 11))) := fun W1 h => by
            have hb := (Below.refl wk.heap.size wk).drew.trans h
            exact ⟨cell_thru j8 hb, cell_thru j9 hb, cell_thru j10 hb, cell_thru j11 hb⟩
          go_upto_region 12 with fail
          generalize (if c = 12 then (some ⟨b, o, none⟩ : Option Addr) else some ⟨b, o + 12, none⟩) = a7 at rbd' ⊢
          rw [show 12 + m - 12 = m by omega] at rbd' ⊢
          go_cut [52] (fun s wx => s = .bool (!q2) ∧ Below wk.heap.size wk wx)
          case first =>
            go_region_held3 (fun W => W.cell? ⟨b, o + 8, none⟩ = some (.int .u8 (bv (Frm.ith l 8))) ∧ W.cell? ⟨b, o + 9, none⟩ = some (.int .u8 (bv (Frm.ith l 9))) ∧ W.cell? ⟨b, o + 10, none⟩ = some (.int .u8 (bv (Frm.ith l 10))) ∧ W.cell? ⟨b, o + 11, none⟩ = some (.int .u8 (bv (Frm.ith l 11))))
              (first | go_keep | exact hkk _ hb5)
              ((first
                | (go_at_call 124; refine (crc_Sum _ _ _ (l.take 8) _ (by exact r8') (by unfold maxLen; omega)).mono ?_; rintro e w' ⟨rfl, rfl⟩)
                | (go_at_call 125; refine (crc_More _ _ _ _ (Frm.body l) _ (by exact rbd') (by unfold maxLen; omega)).mono ?_; rintro e w' ⟨rfl, rfl⟩)
                | (go_at_call 147; refine (frame_four wk.heap.size _ _ (by rfl)).mono ?_; rintro e w5 ⟨rfl, hb5⟩)))
            all_goals (go_wp2_with fail; go_meet; exact ⟨rfl, (Below.refl wk.heap.size wk).drew.trans hb5⟩)
          obtain ⟨hs52, hb5⟩ := hcut
          subst hs52
          have hB2 := hb5.mono hsz'
          have e0 : wc.cell? ⟨B, 0, none⟩ = some (.int .i64 0) := cell_thru d0 hb5
          have e1 : wc.cell? ⟨B, 1, none⟩ = some (.slice none 0 0) := cell_thru d1 hb5
          have ef : ∀ o, wc.frozen? ⟨B, o, none⟩ = false := fun o => by rw [hb5.frozen (p := ⟨B, o, none⟩) (by show B < _; omega)]; exact f0' o
          have hEc : Below B w wc := hE.trans (hB2.mono (by omega))
          clear d0 d1 f0' j8 j9 j10 j11 heq2
          cases q2
          · simp only [Bool.not_false]
            go_wp2
            refine bodyPost_ret (v := .tuple #[.agg #[.int .i64 0, .slice none 0 0], .int .i64 0, .int .i64 13]) (by simp [results, Try.results143, go_sem, e0, e1]) rfl ?_
            rw [Frm.dec_sumB h8 Hq1.out.symm (by rw [← Hm.out]; exact hlong) (by rw [← Hm.out]; exact hcut) Hq2.out.symm]
            refine gotIs_bad ?_
            exact (hEc.setCell (by simp) _).setCell (by simp) _
          · have hlen : m = (Frm.body l).length := rbd'.1
            have hsrc : Sl EU8 (fun b => some b ≠ (Value.slice none 0 0).ownBlock) wc a7 (Frm.body l) := (rbd'.2.below (by decide) hb5).mono (by decide) fun k _ _ => ⟨rfl, by simp [Value.ownBlock]⟩
            have Hlen := Lib.hid hlen
            clear hlen
            simp only [Bool.not_true]
            go_wp2_with (refine wpList_app (base := wc.heap.size) (l2 := Frm.body l) (m := m) EU8 rfl rfl rfl rfl ti_bytes (Own.nil EU8 5 wc.heap.size wc) Hlen.out hsrc ?_ ?_ ?_ ?_)
            · rw [← Hlen.out]; simp [maxLen]; omega
            · rw [← Hlen.out]; simp; omega
            · exact Nat.le_refl _
            · intro v' w6 ho6 hg6 hv6 hb6
              obtain ⟨a8, c8, rfl, hc8, hm8, hr8, ho8⟩ := ho6.shape m (by simpa using Hlen.out)
              have x0 : w6.cell? ⟨B, 0, none⟩ = some (.int .i64 0) := cell_thru e0 hb6
              have x1 : w6.cell? ⟨B, 1, none⟩ = some (.slice none 0 0) := cell_thru e1 hb6
              have hBc : B < wc.heap.size := cell_lt e0
              have xf : ∀ o, w6.frozen? ⟨B, o, none⟩ = false := fun o => by rw [hb6.frozen (p := ⟨B, o, none⟩) hBc]; exact ef o
              have hE6 : Below B w w6 := hEc.trans (hb6.mono (by omega))
              have hsl := ho8.slB
              have HBc := Lib.hid hBc
              clear e0 e1 ef hBc
              go_wp2
              refine bodyPost_ret (v := .tuple #[.agg #[.int .i64 (bv (Frm.getBE l >>> 24)), .slice a8 m c8], .int .i64 (12 + (m : Int)), .int .i64 0]) (by simp [results, Try.results143, go_sem, x0, x1]) rfl ?_
              rw [Frm.dec_ok h8 Hq1.out.symm (by rw [← Hm.out]; exact hlong) (by rw [← Hm.out]; exact hcut) Hq2.out.symm]
              refine ⟨a8, c8, ?_, ?_, ?_, hm8, (hE6.setCell (by simp) _).setCell (by simp) _⟩
              · simp only [← Hm.out, ← Hlen.out]; simp
              · have hBc := HBc.out
                exact hsl.mono (by decide) fun k hk _ => ⟨by rw [Below.heap_setCell _ _ _ _ (by show k ≠ B; omega), Below.heap_setCell _ _ _ _ (by show k ≠ B; omega)], by omega⟩
              · simp only [← Hlen.out]; exact hc8
end Go.Proofs.Ytmmgnbdngpkfcaa

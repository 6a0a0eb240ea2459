/-
  The walk of the law 'FrameWrites'.
-/
import Derived.Test.YtcmkkilhipnbcaaFrameReadsWalk
import Derived.Test.YtcmkkilhipnbcaaZeros
import Derived.Test.YtcmkkilhipnbcaaFrameOpen
namespace Go.Proofs.Ytcmkkilhipnbcaa
open Go.RowKit
set_option linter.unusedVariables false

/-- the zero byte -/
theorem zero_u8 : ∀ i z, Try.prog.info? 5 = some i → i.zero = some z → ∀ ok W, EU8.rep ok W z.cells.toList (0#8) := by
  have hk : (Try.prog.info? 5).map (fun i => i.zero) = some (some (.int .u8 0)) := by kernel_rfl
  intro i z hi hz ok W
  rw [hi] at hk
  simp only [Option.map_some, Option.some.injEq] at hk
  rw [hz] at hk
  injection hk with hk
  subst hk
  simp [EU8, Value.cells, bv]
set_option maxRecDepth 4096 in
set_option maxHeartbeats 3200000 in
theorem law_FrameWrites (cs : Array Value) (x : Int × List (BitVec 8)) (long : Int) (w : World) (hx : EFrame.rep (fun _ => True) w cs.toList x) (hk : mFrame x ≤ 1048576) (hlong : -9223372036854775808 ≤ long ∧ long ≤ 9223372036854775807) :
    Calls Try.prog 9 #[.agg cs, .int .i64 long] w fun e w' => e = .returned (.bool true) ∧ Below w.heap.size w w' := by
  have hk := mFrame_len hk
  obtain ⟨k, d⟩ := x
  obtain ⟨a, c, hcs, hc, hcm, hs⟩ := frame_rep hx
  obtain rfl : cs = #[.int .i64 k, .slice a d.length c] := by apply Array.ext'; simpa using hcs
  clear hx hcs
  simp only at hc hs hk
  obtain ⟨w1, hw1⟩ : ∃ w1, w1 = w.alloc (.cells #[.int .i64 k, .slice a d.length c] 40) := ⟨_, rfl⟩
  have hb1 : Below w.heap.size w w1 := by subst hw1; exact (Below.refl _ _).alloc (Nat.le_refl _) _
  have hh1 : w1.heap[w.heap.size]? = some (.cells #[.int .i64 k, .slice a d.length c] 40 (0, 0)) := by subst hw1; exact heap_alloc_new w _
  obtain ⟨g, hg⟩ : ∃ g, g = w.heap.size := ⟨_, rfl⟩
  go_enter Try.func9, Try.ntmps9
  go_upto_region 1 with fail
  rw [← hw1, ← hg]
  rw [← hg] at hh1
  clear hw1
  go_wp2_with fail
  refine (law4_head _).mono ?_
  rintro e w2 ⟨rfl, hb2⟩
  have hh2 : w2.heap[g]? = some (.cells #[.int .i64 k, .slice a d.length c] 40 (0, 0)) := by rw [hb2.block _ (Array.getElem?_eq_some_iff.1 hh1).1]; exact hh1
  have hbw2 : Below w.heap.size w w2 := hb1.trans (hb2.mono hb1.size)
  have hs2 : SB w2 a d := hs.below (by decide) hbw2
  have hs2g : Sl EU8 (fun b => b ≠ g) w2 a d := hs.mono (by decide) fun b _ hb => ⟨hbw2.block b hb, by omega⟩
  have d0 : w2.cell? ⟨g, 0, none⟩ = some (.int .i64 k) := by simp [World.cell?, hh2]
  have d1 : w2.cell? ⟨g, 1, none⟩ = some (.slice a d.length c) := by simp [World.cell?, hh2]
  have df : ∀ o, w2.frozen? ⟨g, o, none⟩ = false := fun o => by simp [World.frozen?, hh2]
  have Hg := Lib.hid hg
  have Hk := Lib.hid hk
  clear hg hb1 hb2 hh1 hs hlong hk
  go_upto_region 3 with fail
  go_cut [18] (fun s wx => s = .bool (decide (0 < long ∧ long < 4)) ∧ wx = w2)
  case first =>
    by_cases h1 : 0 < long
    · have h1' : decide (0 < long) = true := by simpa using h1
      by_cases h2 : long < 4
      · have h2' : decide (long < 4) = true := by simpa using h2
        go_wp2_with fail
        go_meet
        exact ⟨by simp [h1, h2], rfl⟩
      · have h2' : decide (long < 4) = false := by simpa using h2
        go_wp2_with fail
        go_meet
        exact ⟨congrArg Value.bool (decide_eq_false (by omega)).symm, rfl⟩
    · have h1' : decide (0 < long) = false := by simpa using h1
      go_wp2_with fail
      go_meet
      exact ⟨congrArg Value.bool (decide_eq_false (by omega)).symm, rfl⟩
  obtain ⟨hs18, hwc⟩ := hcut
  subst hs18 hwc
  obtain ⟨wb, hwb⟩ : ∃ x, x = wc := ⟨_, rfl⟩
  subst hwb
  go_upto_if 18 with fail
  go_cut [] (fun wx => ∃ a' c' d', d'.length ≤ 1114111 ∧ wx.heap[g]? = some (.cells #[.int .i64 k, .slice a' d'.length c'] 40 (0, 0)) ∧ d'.length ≤ c' ∧ c' ≤ maxLen ∧ Sl EU8 (fun b => b ≠ g) wx a' d' ∧ Below w.heap.size w wx)
  case first =>
    cases hq : decide (0 < long ∧ long < 4)
    · go_wp2_with fail
      go_meet
      exact ⟨a, c, d, by have := Hk.out; omega, hh2, hc, hcm, hs2g, hbw2⟩
    · obtain ⟨m, hm⟩ : ∃ m : Nat, (65535 : Int) = m := ⟨65535, rfl⟩
      go_wp2_with fail
      refine (ref_Copy_at wb.heap.size _ _ _ d _ (by rfl) ⟨rfl, hs2⟩ (by have := Hk.out; omega)).mono ?_
      rintro e w3 ⟨v3, rfl, ho3, hb3⟩
      have hh3 : w3.heap[g]? = some (.cells #[.int .i64 k, .slice a d.length c] 40 (0, 0)) := by rw [hb3.block _ (Array.getElem?_eq_some_iff.1 hh2).1]; exact hh2
      have e1 : w3.cell? ⟨g, 1, none⟩ = some (.slice a d.length c) := by simp [World.cell?, hh3]
      have ef : ∀ o, w3.frozen? ⟨g, o, none⟩ = false := fun o => by simp [World.frozen?, hh3]
      have Hm := Lib.hid hm
      clear hm
      go_wp2_with (first
        | (refine wpList_app0 EU8 (m := m) rfl (by rfl) (by rfl) (by rfl) Hm.out ti_bytes Try.underlying3 zero_u8 ho3 (by have := Hm.out; omega) (by have := Hk.out; have := Hm.out; unfold maxLen; omega) (by have := Hk.out; have := Hm.out; omega) hb3.size ?_
           intro v4 w4 ho4 hg4 hv4 hb4
           obtain ⟨a4, c4, rfl, hc4, hm4, hr4, ho4'⟩ := ho4.shape (d.length + m) (by simp)
           have hh4 : w4.heap[g]? = some (.cells #[.int .i64 k, .slice a d.length c] 40 (0, 0)) := (by rw [hb4.block _ (Array.getElem?_eq_some_iff.1 hh2).1]; exact hh3)
           have q1 : w4.cell? ⟨g, 1, none⟩ = some (.slice a d.length c) := (by simp [World.cell?, hh4])
           have qf : ∀ o, w4.frozen? ⟨g, o, none⟩ = false := fun o => (by simp [World.frozen?, hh4])))
      go_meet
      have hgl := (Array.getElem?_eq_some_iff.1 hh2).1
      refine ⟨a4, c4, d ++ List.replicate m 0#8, by simp; have := Hk.out; have := Hm.out; omega, ?_, by simpa using hc4, hm4, ?_, ?_⟩
      · have := heap_set hh4 1 (.slice a4 (d.length + m) c4)
        simpa using this
      · refine (ho4'.slB).mono (by decide) fun b hb _ => ⟨Below.heap_setCell _ _ _ _ (by simp; omega), by omega⟩
      · exact ((hbw2.trans (hb3.mono hbw2.size)).trans (hb4.mono hbw2.size)).setCell (by simp; rw [Hg.out]; exact Nat.le_refl _) _
  obtain ⟨a2, c2, d2, hlen, hh, hc2, hm2, hsg, hbw⟩ := hcut
  obtain ⟨wt, hwt⟩ : ∃ x, x = wc := ⟨_, rfl⟩
  subst hwt
  have e0 : wt.cell? ⟨g, 0, none⟩ = some (.int .i64 k) := by simp [World.cell?, hh]
  have e1 : wt.cell? ⟨g, 1, none⟩ = some (.slice a2 d2.length c2) := by simp [World.cell?, hh]
  have hst : SB wt a2 d2 := hsg.any (by decide)
  have hgl := (Array.getElem?_eq_some_iff.1 hh).1
  have Hlen := Lib.hid hlen
  clear d0 d1 df hh2 hbw2 hs2 hs2g hlen hc hcm
  by_cases hbig : 70000 < d2.length
  · have hgb : decide (70000 < (d2.length : Int)) = true := by simp; omega
    go_wp2
    go_ret
    exact ⟨rfl, hbw⟩
  have hgb : decide (70000 < (d2.length : Int)) = false := by simp; omega
  have hzB : (wt.alloc (.cells #[.int .i64 0, .slice none 0 0] 40)).drew.heap.size = wt.heap.size + 1 := by rw [drew_size]; simp
  have HzB := Lib.hid hzB
  clear hzB
  have rA : RB wt.drew a2 d2.length d2 := ⟨rfl, hst.below (by decide) (Below.refl _ _).drew⟩
  have rB : RB (wt.alloc (.cells #[.int .i64 0, .slice none 0 0] 40)).drew a2 d2.length d2 := ⟨rfl, hst.below (by decide) ((Below.refl _ _).alloc (Nat.le_refl _) _).drew⟩
  go_upto_region 7 with fail
  go_cut [5] (fun s wx => ∃ h, s = .pointer (some ⟨h, 0, none⟩) ∧ FrAt wt.heap.size wx h k d2 ∧ Below wt.heap.size wt wx)
  case first =>
    go_region_held3 (fun W => W.cell? ⟨g, 0, none⟩ = some (.int .i64 k) ∧ W.cell? ⟨g, 1, none⟩ = some (.slice a2 d2.length c2))
      (first | go_keep | exact ⟨cell_thru e0 ((Below.refl wt.heap.size wt).drew.trans hb5), cell_thru e1 ((Below.refl wt.heap.size wt).drew.trans hb5)⟩ | exact ⟨cell_thru e0 (((Below.refl wt.heap.size wt).drew.trans hb5).alloc hb5.size _), cell_thru e1 (((Below.refl wt.heap.size wt).drew.trans hb5).alloc hb5.size _)⟩ | exact ⟨cell_thru e0 hN.1, cell_thru e1 hN.1⟩ | exact ⟨cell_thru e0 ((hN.1.setCell (by simp) _).setCell (by simp) _), cell_thru e1 ((hN.1.setCell (by simp) _).setCell (by simp) _)⟩)
      ((first
        | (go_at_call 15; refine (ref_Copy_at wt.heap.size _ _ _ d2 _ (by rfl) (by exact rA) (by omega)).mono ?_; rintro e w5 ⟨v5, rfl, ho5, hb5⟩; obtain ⟨a5, c5, rfl, hc5, hm5, hr5, ho5'⟩ := ho5.shape _ rfl)
        | (go_at_call 15; refine (ref_Copy_at (wt.heap.size + 1) _ _ _ d2 _ (by exact HzB.out) (by exact rB) (by omega)).mono ?_; rintro e w5 ⟨v5, rfl, ho5, hb5⟩; obtain ⟨a5, c5, rfl, hc5, hm5, hr5, ho5'⟩ := ho5.shape _ rfl; have hN := behind_new (w := wt) (n := 0) (by rfl) ((Below.refl _ _).alloc (Nat.le_refl _) _).drew hb5; have bx0 : w5.cell? ⟨wt.heap.size, 0, none⟩ = some (.int .i64 0) := (by simp [World.cell?, hN.2]); have bx1 : w5.cell? ⟨wt.heap.size, 1, none⟩ = some (.slice none 0 0) := (by simp [World.cell?, hN.2]); have bxf : ∀ o, w5.frozen? ⟨wt.heap.size, o, none⟩ = false := fun o => (by simp [World.frozen?, hN.2]))))
    all_goals
      go_wp2_with fail
      go_meet
      first
      | exact ⟨_, rfl, frAt_first hb5.size ho5'.slB hc5 hm5, ((Below.refl _ _).drew.trans hb5).alloc hb5.size _⟩
      | exact ⟨_, rfl, frAt_later (Nat.le_refl _) hN.2 ho5'.slB hc5 hm5, (hN.1.setCell (by simp) _).setCell (by simp) _⟩
  obtain ⟨h, rfl, hf, hbu⟩ := hcut
  obtain ⟨wu, hwu⟩ : ∃ x, x = wc := ⟨_, rfl⟩
  subst hwu
  have e0u := cell_thru e0 hbu
  have e1u := cell_thru e1 hbu
  have hsu := hst.below (by decide) hbu
  have hbwu := hbw.trans (hbu.mono hbw.size)
  obtain ⟨a6, c6, p1, p2, p3, p4, p5, p6⟩ := hf.at
  clear e0 e1 rA rB hst hbw hbu hh hsg hgl
  by_cases hkind : k < 0 ∨ 255 < k
  · go_wp2_with fail
    refine (frame_Encode_kind k _ _ _ _ hkind).mono ?_
    rintro e w7 ⟨rfl, hb7⟩
    have q0 := cell_thru e0u hb7
    have q1 := cell_thru e1u hb7
    have q2 := cell_thru p2 hb7
    have hs7 := hsu.below (by decide) hb7
    have hs7' := p4.below (by decide) hb7
    have hbw7 := hbwu.trans (hb7.mono hbwu.size)
    clear e0u e1u p1 p2 p3 hf
    go_wp2_with fail
    refine (ref_Same _ _ _ _ _ _ d2 d2 _ ⟨rfl, hs7'⟩ ⟨rfl, hs7⟩).mono ?_
    rintro e w8 ⟨rfl, rfl⟩
    rw [show (d2 == d2) = true by simp]
    by_cases hk0 : k < 0
    · have hd0 : decide (k < 0) = true := by simpa using hk0
      go_wp2
      go_ret
      exact ⟨rfl, hbw7⟩
    · have hd0 : decide (k < 0) = false := by simp; omega
      have hd1 : decide (255 < k) = true := by simp; omega
      go_wp2
      go_ret
      exact ⟨rfl, hbw7⟩
  · have hd0 : decide (k < 0) = false := by simp; omega
    have hd1 : decide (255 < k) = false := by simp; omega
    have hkk : 0 ≤ k ∧ k ≤ 255 := by omega
    by_cases hlong : 65536 < d2.length
    · have hgl : decide (65536 < (d2.length : Int)) = true := by simp; omega
      go_wp2_with fail
      refine (frame_Encode_long k _ _ _ _ hkk hlong).mono ?_
      rintro e w7 ⟨rfl, hb7⟩
      have q0 := cell_thru e0u hb7
      have q1 := cell_thru e1u hb7
      have q2 := cell_thru p2 hb7
      have hs7 := hsu.below (by decide) hb7
      have hs7' := p4.below (by decide) hb7
      have hbw7 := hbwu.trans (hb7.mono hbwu.size)
      clear e0u e1u p1 p2 p3 hf
      go_wp2_with fail
      refine (ref_Same _ _ _ _ _ _ d2 d2 _ ⟨rfl, hs7'⟩ ⟨rfl, hs7⟩).mono ?_
      rintro e w8 ⟨rfl, rfl⟩
      rw [show (d2 == d2) = true by simp]
      go_wp2
      go_ret
      exact ⟨rfl, hbw7⟩
    · have hgl : decide (65536 < (d2.length : Int)) = false := by simp; omega
      go_wp2_with fail
      refine (frame_Encode_ok k _ _ _ d2 _ hkk (by omega) ⟨rfl, p4⟩).mono ?_
      rintro e w7 ⟨v7, rfl, ho7, hb7⟩
      obtain ⟨a7, c7, rfl, hc7, hm7, hr7, ho7'⟩ := ho7.shape (12 + d2.length) (by rw [Frm.enc_len])
      have q0 := cell_thru e0u hb7
      have q1 := cell_thru e1u hb7
      have q2 := cell_thru p2 hb7
      have hs7 := hsu.below (by decide) hb7
      have hs7' := p4.below (by decide) hb7
      have hbw7 := hbwu.trans (hb7.mono hbwu.size)
      clear e0u e1u p1 p2 p3 hf
      go_wp2_with fail
      refine (ref_Same _ _ _ _ _ _ d2 d2 _ ⟨rfl, hs7'⟩ ⟨rfl, hs7⟩).mono ?_
      rintro e w8 ⟨rfl, rfl⟩
      rw [show (d2 == d2) = true by simp]
      go_wp2_with fail
      refine (frame_Decode w7.heap.size _ _ _ (Frm.enc k d2) _ (by rfl) hr7 hc7 hm7).mono ?_
      rw [show Frm.dec (Frm.enc k d2) = ⟨k, d2, 12 + d2.length, 0⟩ by simpa using Frm.dec_enc k d2 [] hkk (by omega)]
      rintro e w9 ⟨a9, c9, rfl, hs9, hc9, hm9, hb9⟩
      dsimp only
      obtain ⟨w10, hw10⟩ : ∃ x, x = w9.alloc (.cells #[.int .i64 k, .slice a9 d2.length c9] 40) := ⟨_, rfl⟩
      have hf10 : FrAt w7.heap.size w10 w9.heap.size k d2 := by subst hw10; exact frAt_first hb9.size hs9 hc9 hm9
      have hb10 : Below w7.heap.size w7 w10 := by subst hw10; exact hb9.alloc hb9.size _
      obtain ⟨a10, c10, s1, s2, s3, s4, s5, s6⟩ := hf10.at
      have t0 := cell_thru q0 hb10
      have t1 := cell_thru q1 hb10
      have hs10 := hs7.below (by decide) hb10
      have hr10 := RB.below hr7 hb10
      have hbw10 := hbw7.trans (hb10.mono hbw7.size)
      clear q0 q1 q2 hf10 hb10
      go_upto_region 16 with fail
      rw [← hw10]
      clear hw10
      go_wp2_with fail
      refine (law4_text w10.heap.size k _ _ _ d2 _ (by rfl) hkk (by omega) ⟨rfl, hs10⟩).mono ?_
      rintro e w11 ⟨v11, rfl, ho11, hb11⟩
      obtain ⟨a11, c11, rfl, hc11, hm11, hr11, ho11'⟩ := ho11.shape (12 + d2.length) (by rw [Frm.enc_len])
      have u0 := cell_thru t0 hb11
      have u1 := cell_thru t1 hb11
      have v0 := cell_thru s1 hb11
      have v1 := cell_thru s2 hb11
      have hs11 := hs10.below (by decide) hb11
      have hs11' := s4.below (by decide) hb11
      have hr11' := RB.below hr10 hb11
      have hbw11 := hbw10.trans (hb11.mono hbw10.size)
      clear t0 t1 s1 s2 s3 hb11
      go_wp2_with fail
      refine (ref_Same _ _ _ _ _ _ (Frm.enc k d2) (Frm.enc k d2) _ hr11' hr11).mono ?_
      rintro e w12 ⟨rfl, rfl⟩
      rw [show (Frm.enc k d2 == Frm.enc k d2) = true by simp]
      go_wp2_with fail
      refine (law4_same k _ _ _ d2 k _ _ _ d2 _ ⟨rfl, hs11⟩ ⟨rfl, hs11'⟩).mono ?_
      rintro e w13 ⟨rfl, hb13⟩
      rw [show (k == k && d2 == d2) = true by simp]
      go_wp2
      go_ret
      exact ⟨rfl, hbw11.trans (hb13.mono hbw11.size)⟩
end Go.Proofs.Ytcmkkilhipnbcaa

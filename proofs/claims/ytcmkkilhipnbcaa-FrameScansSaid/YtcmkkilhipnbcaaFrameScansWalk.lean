/-
  The walk of the law 'FrameScans'.
-/
import Derived.Test.YtcmkkilhipnbcaaFrameAll
namespace Go.Proofs.Ytcmkkilhipnbcaa
open Go.RowKit
set_option linter.unusedVariables false

/-- where the statement's own scan stands -/
def ScanAt (l : List (BitVec 8)) (out : List (Int × List (BitVec 8))) (k : Nat) (er : Int) : Prop :=
  (er = 0 → Frm.scan l = ⟨out ++ (Frm.scan (l.drop k)).fs, k + (Frm.scan (l.drop k)).upto, (Frm.scan (l.drop k)).err⟩) ∧ (er ≠ 0 → Frm.scan l = ⟨out, k, er⟩)

set_option maxRecDepth 4096 in
set_option maxHeartbeats 6400000 in
theorem law_FrameScans (a : Option Addr) (c : Nat) (l : List (BitVec 8)) (w : World) (hs : SB w a l) (hc : l.length ≤ c) (hm : c ≤ maxLen) :
    Calls Try.prog 11 #[.slice a l.length c] w fun e w' => e = .returned (.bool true) ∧ Below w.heap.size w w' := by
  by_cases hbig : 5000 < l.length
  · have hg : decide (5000 < (l.length : Int)) = true := by simp; omega
    go_enter Try.func11, Try.ntmps11
    go_wp2_with fail
    refine (law4_head _).mono ?_
    rintro e w1 ⟨rfl, hb⟩
    go_wp2
    go_ret
    exact ⟨rfl, hb⟩
  · have hg : decide (5000 < (l.length : Int)) = false := by simp; omega
    obtain ⟨sc, hsc⟩ : ∃ s, s = Frm.scan l := ⟨_, rfl⟩
    have hte := Frm.scan_tells l.length l (Nat.le_refl _)
    rw [← hsc] at hte
    obtain ⟨t1, t2, t3, t4⟩ := hte
    have Hsc := Lib.hid hsc
    have Ht1 := Lib.hid t1
    have Ht3 := Lib.hid t3
    clear hsc t1 t3
    go_enter Try.func11, Try.ntmps11
    go_wp2_with fail
    refine (law4_head _).mono ?_
    rintro e w1 ⟨rfl, hb1⟩
    have hs1 : SB w1 a l := hs.below (by decide) hb1
    go_wp2_with fail
    refine (ref_Copy_at w1.heap.size _ _ _ l _ (by rfl) ⟨rfl, hs1⟩ (by omega)).mono ?_
    rintro e w2 ⟨v2, rfl, ho2, hb2⟩
    obtain ⟨a2, c2, rfl, hc2, hm2, hr2, ho2'⟩ := ho2.shape _ rfl
    have hs2 : SB w2 a l := hs1.below (by decide) hb2
    have hbw : Below w.heap.size w w2 := hb1.trans (hb2.mono hb1.size)
    go_wp2_with fail
    refine (frame_Scan w2.heap.size _ _ _ l _ (by rfl) hr2 hc2 hm2 (by omega)).mono ?_
    rintro e w3 ⟨v3, rfl, ho3, hb3⟩
    rw [← Hsc.out] at ho3
    rw [← Hsc.out]
    have hbw3 : Below w.heap.size w w3 := hbw.trans (hb3.mono hbw.size)
    have hs3 : SB w3 a l := hs2.below (by decide) hb3
    obtain ⟨a3, c3, rfl, hc3, hm3, hr3, ho3'⟩ := ho3.shape _ rfl
    obtain ⟨w4, hw4⟩ : ∃ x, x = w3.alloc (.cells #[] 40) := ⟨_, rfl⟩
    have hb4 : Below w3.heap.size w3 w4 := by subst hw4; exact (Below.refl _ _).alloc (Nat.le_refl _) _
    have ho4 : OwnF w3.heap.size w4 (.slice (some ⟨w3.heap.size, 0, none⟩) 0 0) [] := by subst hw4; exact own_empty EFrame 40 w3 (by decide)
    go_upto_region 7 with fail
    rw [← hw4]
    clear hw4 ho2 ho2' hr2 hb1 hb2 hb3 hs1
    go_wp2
    go_loopw [6, 7, 8] (fun v i z wr => ∃ (k : Nat) (out : List (Int × List (BitVec 8))) (er : Int), k ≤ l.length ∧ i = .int .i64 k ∧ z = .int .i64 er ∧ OwnF w3.heap.size wr v out ∧ 12 * out.length ≤ k ∧ ScanAt l out k er ∧ Below w3.heap.size w3 wr) (fun _ i z _ => (l.length - (intOf i).toNat) + (1 - (intOf z).natAbs))
    case atStart =>
      exact ⟨0, [], 0, Nat.zero_le _, rfl, rfl, ho4, Nat.le_refl _, ⟨fun _ => by simp, fun h => absurd rfl h⟩, hb4⟩
    case round =>
      obtain ⟨k, out, er, hk, rfl, rfl, ho, hol, hinv, hb⟩ := hrel
      have Hinv := Lib.hid hinv
      clear hinv
      go_upto_region 9 with fail
      go_cut [35] (fun s wx => s = .bool (decide (k < l.length ∧ er = 0)) ∧ wx = wr)
      case first =>
        by_cases h1 : k < l.length
        · have h1' : (k : Int) < (l.length : Int) := by omega
          by_cases h2 : er = 0
          · subst h2
            go_wp2_with fail
            go_meet
            exact ⟨by simp [h1], rfl⟩
          · go_wp2_with fail
            go_meet
            exact ⟨by simp [h2], rfl⟩
        · have h1' : ¬ ((k : Int) < (l.length : Int)) := by omega
          go_wp2_with fail
          go_meet
          exact ⟨by simp [h1], rfl⟩
      obtain ⟨hs35, hwc⟩ := hcut
      subst hs35
      obtain ⟨wy, hwy⟩ : ∃ x, x = wc := ⟨_, rfl⟩
      subst hwy
      rw [hwc]
      clear hwc
      have hsr : SB wr a l := hs3.below (by decide) hb
      by_cases hgo : k < l.length ∧ er = 0
      · rw [decide_eq_true hgo]
        obtain ⟨hlt, rfl⟩ := hgo
        obtain ⟨a5, hrun, r5⟩ := slice_l ti_bytes (c := c) (i := k) ⟨rfl, hsr⟩ (by omega) hc
        have hki : (k : Int) ≤ (l.length : Int) := by omega
        go_wp2_with fail
        refine (law4_read wr.heap.size _ _ _ (l.drop k) _ (by rfl) r5 (by omega) (by omega)).mono ?_
        rintro e w5 ⟨a6, c6, rfl, hs6, hc6, hm6, hb6⟩
        obtain ⟨g, hg⟩ : ∃ g, g = Frm.dec (l.drop k) := ⟨_, rfl⟩
        have Hg := Lib.hid hg
        rw [← hg] at hs6 hc6 ⊢
        clear hg
        obtain ⟨kd, dt, nn, er⟩ := g
        dsimp only at hs6 hc6 ⊢
        obtain ⟨w6, hw6⟩ : ∃ x, x = w5.alloc (.cells #[.int .i64 kd, .slice a6 dt.length c6] 40) := ⟨_, rfl⟩
        have hf6 : FrAt wr.heap.size w6 w5.heap.size kd dt := by subst hw6; exact frAt_first hb6.size hs6 hc6 hm6
        have hb7 : Below wr.heap.size wr w6 := by subst hw6; exact hb6.alloc hb6.size _
        have hbw6 := hb.trans (hb7.mono hb.size)
        have ho6 := ho.below hb7
        go_upto_region 11 with fail
        rw [← hw6]
        clear hw6
        by_cases he : er = 0
        · subst he
          obtain ⟨a4, c4, p1, p2, p3, hs4, p5, p6⟩ := hf6.at'
          have hfine := Frm.dec_fine (l.drop k) (by rw [← Hg.out])
          rw [← Hg.out] at hfine
          simp only [List.length_drop] at hfine
          obtain ⟨f1, f2, f3, f4, f5, f6⟩ := hfine
          clear f6 p3 hf6
          obtain ⟨w7, hw7⟩ : ∃ x, x = w6.alloc (.cells #[.int .i64 kd, .slice a4 dt.length c4] 40) := ⟨_, rfl⟩
          have hb8 : Below w6.heap.size w6 w7 := by subst hw7; exact (Below.refl _ _).alloc (Nat.le_refl _) _
          have hh7 : w7.heap[w6.heap.size]? = some (.cells #[.int .i64 kd, .slice a4 dt.length c4] 40 (0, 0)) := by subst hw7; exact heap_alloc_new w6 _
          have ho7 := ho6.below hb8
          have hsl : Sl EFrame (fun b => some b ≠ (u6).ownBlock) w7 (some ⟨w6.heap.size, 0, none⟩) [(kd, dt)] := by
            refine sl_one hh7 (frame_mk ⟨by omega, by omega⟩ p5 p6 ((hs4.below (by decide) hb8).mono (by decide) fun b hb' _ => ⟨rfl, ?_⟩)) ?_
            · intro e; have := (ho.lt _ e.symm).2; omega
            · intro e; have := (ho.lt _ e.symm).2; have := hb7.size; omega
          have hbw7 := hbw6.trans (hb8.mono hbw6.size)
          go_wp2_with (first
            | (rw [← hw7]
               refine wpList_app EFrame (l2 := [(kd, dt)]) rfl rfl (by rfl) (by rfl) ti_frames ho7 rfl hsl (by unfold maxLen; simp; omega) (by simp; omega) hbw7.size ?_
               intro v8 w8 ho8 hg8 hv8 hb9))
          refine ⟨⟨k + (12 + dt.length), out ++ [(kd, dt)], 0, by omega, by go_num, rfl, ho8, by simp; omega, ⟨fun _ => ?_, fun h => absurd rfl h⟩, hbw7.trans hb9⟩, by simp [intOf]; omega⟩
          have hst := Frm.scan_step (l := l) (out := out) (k := k) hlt (Hinv.out.1 rfl) (by rw [← Hg.out])
          rw [← Hg.out] at hst
          simp only [f4] at hst
          exact hst
        · have hb1 := Frm.scan_bad (l := l.drop k) (by simp; omega) (by rw [← Hg.out]; exact he)
          rw [← Hg.out] at hb1
          have Hb1 := Lib.hid hb1
          clear hb1 hf6
          go_wp2
          go_roundw
          case rel => exact ⟨k, out, er, hk, rfl, rfl, ho6, hol, ⟨fun h => absurd h he, fun _ => by rw [Hinv.out.1 rfl, Hb1.out]; simp⟩, hbw6⟩
          case measure => simp [intOf]; omega
      · rw [decide_eq_false hgo]
        have hfin : sc = ⟨out, k, er⟩ := by
          rw [Hsc.out]
          by_cases he : er = 0
          · have hkl : k = l.length := by omega
            have := Hinv.out.1 he
            rw [this, hkl]; simp [Frm.scan_nil, he]
          · exact Hinv.out.2 he
        subst hfin
        dsimp only at t2 t4 hr3 hc3 Ht1 Ht3 ⊢
        clear hc3 hm3 ho3 ho3' ho4 hb4 Hsc
        obtain ⟨a6, c6, rfl, hc6, hm6, hr6, ho6'⟩ := ho.shape _ rfl
        have hbwr := hbw3.trans (hb.mono hbw3.size)
        have hr3r : RS EFrame wr a3 out.length out := hr3.below (by decide) hb
        clear hr3 Hinv ho ho6' hb
        obtain ⟨wq, hwq⟩ : ∃ x, x = wr := ⟨_, rfl⟩
        subst hwq
        go_upto_region 17 with fail
        go_wp2_with fail
        go_loopw [71] (fun i wz => ∃ j : Nat, j ≤ out.length ∧ i = .int .i64 j ∧ Below wq.heap.size wq wz) (fun i _ => out.length - (intOf i).toNat)
        case atStart => exact ⟨0, Nat.zero_le _, rfl, Below.refl _ _⟩
        case round =>
          obtain ⟨j, hj, rfl, hbz⟩ := hrel
          have hr3z : Sl EFrame (fun _ => True) wr a3 out := hr3r.2.below (by decide) hbz
          have hr6z : Sl EFrame (fun _ => True) wr a6 out := hr6.2.below (by decide) hbz
          by_cases hlt : j < out.length
          · have hji : (j : Int) < (out.length : Int) := by omega
            obtain ⟨b3, o3, x3, y3, rfl, p1, p2, p3, p4, p5⟩ := sl_frame hr3z j hlt
            obtain ⟨b6, o6, x6, y6, rfl, q1, q2, q3, q4, q5⟩ := sl_frame hr6z j hlt
            obtain ⟨x, hx⟩ : ∃ x, x = out[j] := ⟨_, rfl⟩
            rw [← hx] at p1 p2 p3 p5 q1 q2 q3 q5
            clear hx
            obtain ⟨kd, dt⟩ := x
            dsimp only at p1 p2 p3 p5 q1 q2 q3 q5
            go_upto_region 20 with fail
            go_cut [83] (fun s wx => s = .bool false ∧ Below wr.heap.size wr wx)
            case first =>
              go_region_held3 (fun W => W.cell? ⟨b3, o3 + j * 2, none⟩ = some (.int .i64 kd) ∧ W.cell? ⟨b3, o3 + j * 2 + 1, none⟩ = some (.slice x3 dt.length y3) ∧ W.cell? ⟨b6, o6 + j * 2, none⟩ = some (.int .i64 kd) ∧ W.cell? ⟨b6, o6 + j * 2 + 1, none⟩ = some (.slice x6 dt.length y6))
                (first | go_keep | exact ⟨cell_thru p1 ((Below.refl wr.heap.size wr).drew.trans hb8), cell_thru p2 ((Below.refl wr.heap.size wr).drew.trans hb8), cell_thru q1 ((Below.refl wr.heap.size wr).drew.trans hb8), cell_thru q2 ((Below.refl wr.heap.size wr).drew.trans hb8)⟩)
                ((first
                  | (go_at_call 27; refine (law4_same kd _ _ _ dt kd _ _ _ dt _ ⟨rfl, (by exact p5.below (by decide) (Below.refl wr.heap.size wr).drew)⟩ ⟨rfl, (by exact q5.below (by decide) (Below.refl wr.heap.size wr).drew)⟩).mono ?_; rintro e w8 ⟨rfl, hb8⟩; rw [show (kd == kd && dt == dt) = true by simp])))
              all_goals (go_wp2_with fail; go_meet; exact ⟨rfl, (Below.refl wr.heap.size wr).drew.trans hb8⟩)
            obtain ⟨rfl, hb9⟩ := hcut
            go_wp2
            go_roundw
            case rel => exact ⟨j + 1, by omega, by go_num, hbz.trans (hb9.mono hbz.size)⟩
            case measure => simp [intOf]; omega
          · have hsz : SB wr a l := (hsr.below (by decide) hbz)
            have hbwz := hbwr.trans (hbz.mono hbwr.size)
            have hfa : Frm.faults out = 0 := Frm.faults_fine.2 Ht3.out
            have hlen : (Frm.encs out).length ≤ 1099511627776 := by rw [Ht1.out]; simp; omega
            have r9 : RB wr a k (l.take k) := RB.take hsz t2
            have hkc : (k : Int) ≤ (c : Int) := by omega
            go_wp2_with fail
            refine (frame_All _ _ _ out _ ⟨rfl, hr3z⟩ hlen (by omega)).mono ?_
            rw [hfa, if_pos rfl, Ht1.out]
            rintro e w8 ⟨v8, rfl, ho8, hb8⟩
            obtain ⟨a8, c8, rfl, hc8, hm8, hr8, ho8'⟩ := ho8.shape k (by simp; omega)
            have r10 := RB.below r9 hb8
            go_wp2_with fail
            refine (ref_Same _ _ _ _ _ _ (l.take k) (l.take k) _ hr8 r10).mono ?_
            rintro e w9 ⟨rfl, rfl⟩
            rw [show (l.take k == l.take k) = true by simp]
            go_wp2
            go_ret
            exact ⟨rfl, hbwz.trans (hb8.mono hbwz.size)⟩
end Go.Proofs.Ytcmkkilhipnbcaa

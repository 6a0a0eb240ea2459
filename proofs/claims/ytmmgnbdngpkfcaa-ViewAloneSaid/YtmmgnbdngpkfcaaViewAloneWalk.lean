
/-
  The law ViewAlone, walked.
-/
import Derived.Test.YtmmgnbdngpkfcaaVaS
import Derived.Test.YtmmgnbdngpkfcaaVwW
import Derived.Test.YtmmgnbdngpkfcaaVwY
namespace Go.Proofs.Ytmmgnbdngpkfcaa
open Go.RowKit
set_option linter.unusedVariables false

theorem vw_Leader50 (w : World) : Calls Try.prog 63 #[.int .i64 5, .int .i64 0] w fun e w' => e = .returned (.int .i64 1) ∧ w = w' := by
  have hm : max (0 : Int) 1 = 1 := by decide
  have hr : (5 : Int).tmod 1 = 0 := by decide
  go_enter Try.func63, Try.ntmps63
  go_wp2_with fail
  go_ret
  exact ⟨rfl, rfl⟩
theorem vw_Leader73 (w : World) : Calls Try.prog 63 #[.int .i64 7, .int .i64 3] w fun e w' => e = .returned (.int .i64 2) ∧ w = w' :=
  vw_Leader 7 3 w (by decide) (by decide)
/-- the law's state at the head of its loop -/
def VaRel (B q : Nat) (w0 w : World) (g : Nat) (ha : Option Addr) (hn hc : Nat) (j : Nat) : Prop :=
  ∃ M c had ka kp, VaSt B q w0 w M g c (.slice ha hn hc) had had ka kp ∧ Vw.AlOk c had j ∧ hn = had.length ∧ (hn ≤ hc ∧ hc ≤ maxLen) ∧ had.length ≤ j ∧ (∀ b ∈ had, b.length ≤ 4000)
set_option maxRecDepth 100000 in
set_option maxHeartbeats 0 in
theorem law_ViewAlone0 (a0 : Option Addr) (dn dc : Nat) (ds : List Vw.Bs) (a1 : Option Addr) (an ac : Nat) (ags : List Bool) (w : World) (hd : Sl EBytes (fun _ => True) w a0 ds) (hdn : dn = ds.length) (hdc : dn ≤ dc) (hdm : dc ≤ maxLen)
    (ha : Sl EBool (fun _ => True) w a1 ags) (han : an = ags.length) (hac : an ≤ ac) (ham : ac ≤ maxLen) :
    Calls Try.prog 12 #[.slice a0 dn dc, .slice a1 an ac] w fun e w' => e = .returned (.bool true) ∧ Below w.heap.size w w' := by
  unfold maxLen at hdm ham
  obtain ⟨B, hB⟩ : ∃ B, B = w.heap.size := ⟨_, rfl⟩
  have HB := Lib.hid hB
  have Hd : RowKit.Hid (∀ wr, Below B w wr → Sl EBytes (fun b => b < B) wr a0 ds) := Lib.hid fun wr hb => hd.mono (by decide) fun k _ hk => ⟨hb.block k (by rw [hB]; exact hk), by rw [hB]; exact hk⟩
  have Ha : RowKit.Hid (∀ wr, Below B w wr → Sl EBool (fun b => b < B) wr a1 ags) := Lib.hid fun wr hb => ha.mono (by decide) fun k _ hk => ⟨hb.block k (by rw [hB]; exact hk), by rw [hB]; exact hk⟩
  have Hdn := Lib.hid hdn
  have Han := Lib.hid han
  have HH := Lib.hid (law20_head w)
  rw [← hB]
  clear hB hd ha hdn han
  go_enter Try.func12, Try.ntmps12
  go_wp2_with fail
  refine HH.out.mono ?_
  rintro e w1 ⟨rfl, hb1⟩
  rw [← HB.out] at hb1
  have hB1 : B ≤ w1.heap.size := by rw [HB.out]; exact hb1.size
  have Hb1 := Lib.hid hb1
  clear hb1
  obtain ⟨w2, hw2⟩ : ∃ x, x = w1.alloc (.cells #[.int .i64 0, .int .i64 0, .slice none 0 0] 95) := ⟨_, rfl⟩
  have hb2 : Below w1.heap.size w1 w2 := by rw [hw2]; exact alloc_below _ _
  have hh2 : w2.heap[w1.heap.size]? = some (.cells #[.int .i64 0, .int .i64 0, .slice none 0 0] 95 (0, 0)) := by rw [hw2]; exact heap_alloc_new w1 _
  obtain ⟨q, hq⟩ : ∃ q, q = w1.heap.size := ⟨_, rfl⟩
  have hz2 : w2.heap.size = q + 1 := by rw [hw2, hq]; simp
  rw [← hq] at hh2
  have hBw2 : Below B w w2 := Hb1.out.trans (hb2.mono hB1)
  have y0 : w2.cell? ⟨q, 0, none⟩ = some (.int .i64 0) := by simp [World.cell?, hh2]
  have y1 : w2.cell? ⟨q, 1, none⟩ = some (.int .i64 0) := by simp [World.cell?, hh2]
  have y2 : w2.cell? ⟨q, 2, none⟩ = some (.slice none 0 0) := by simp [World.cell?, hh2]
  have hNew := vw_NewO (fun b => b < q) 1 1 0 3 ⟨0, 0, []⟩ none 0 0 w2 (by decide) (by decide) (by decide) ⟨Int.le_refl 0, by show (0 : Int) ≤ 1099511627776; decide⟩ ⟨Int.le_refl 0, Int.le_refl 0⟩ h0_small rfl ⟨Nat.le_refl _, Nat.zero_le _⟩ (Sl.nil _ _ _ _)
  have Hw2 := Lib.hid hw2.symm
  have Hq := Lib.hid hq.symm
  have Hh2 := Lib.hid hh2
  have Hz2 := Lib.hid hz2
  have HBw2 := Lib.hid hBw2
  have HN := Lib.hid hNew
  clear hw2 hq hh2 hz2 hBw2 hNew hb2
  go_upto_region 4 with fail
  rw [Hw2.out, Hq.out]
  clear Hw2
  go_wp2_with fail
  refine HN.out.mono ?_
  rintro e w3 ⟨g, rfl, M, hv3, hM3, hb3⟩
  clear HN y0 y1 y2
  -- the list of what was handed in
  obtain ⟨w4, hw4⟩ : ∃ x, x = w3.alloc (.cells #[] 49) := ⟨_, rfl⟩
  have hb4 : Below w3.heap.size w3 w4 := by rw [hw4]; exact alloc_below _ _
  have hh4 : w4.heap[w3.heap.size]? = some (.cells #[] 49 (0, 0)) := by rw [hw4]; exact heap_alloc_new w3 _
  have hz4 : w4.heap.size = w3.heap.size + 1 := by rw [hw4]; simp
  obtain ⟨h, hh⟩ : ∃ h, h = w3.heap.size := ⟨_, rfl⟩
  have hqz : q < w3.heap.size := by have := hb3.size; have := Hz2.out; omega
  have hR0 : VaRel B q w w4 g (some ⟨h, 0, none⟩) 0 0 0 := by
    obtain ⟨M4, hM4⟩ : ∃ M4 : Col, M4 = fun k => if k = h then 9 else M k := ⟨_, rfl⟩
    have hold : ∀ k, k < w3.heap.size → M4 k = M k := fun k hk => by rw [hM4]; simp only; rw [if_neg (by omega)]
    refine ⟨M4, _, [], none, 0, ⟨hv3.keep (fun k hk _ => ⟨hb4.block k hk, hold k hk⟩) fun k hk => ?_, fun b hb => ?_, ?_, by have := Hq.out; omega, ?_, ?_, ⟨Nat.le_refl _, Nat.zero_le _⟩, Sl.nil _ _ _ _, own_at _ _ _ (by rw [hh]; exact hh4) (by omega), fun b e => ?_⟩, Vw.AlOk.start, rfl, ⟨Nat.le_refl _, Nat.zero_le _⟩, Nat.le_refl _, fun b hb => by cases hb⟩
    · rw [hM4] at hk
      simp only at hk
      split at hk
      · omega
      · have := hv3.dom k hk; omega
    · rw [hold b (by have := Hq.out; omega)]
      exact (hM3 b (by have := Hz2.out; have := Hq.out; omega)).1 (by show b < q; have := Hq.out; omega)
    · exact HBw2.out.trans ((hb3.mono (by have := Hz2.out; have := Hq.out; omega)).trans (hb4.mono (by have := Hq.out; omega)))
    · exact (hb4.block q hqz).trans ((hb3.block q (by have := Hz2.out; omega)).trans Hh2.out)
    · rw [hold q hqz]
      exact (hM3 q (by have := Hz2.out; omega)).2 (by show ¬ q < q; omega)
    · simp [Value.ownBlock] at e
      rw [hM4]; simp [e]
  have HR0 := Lib.hid hR0
  have Hw4 := Lib.hid hw4.symm
  have Hh := Lib.hid hh.symm
  have Hqz := Lib.hid hqz
  clear hR0 hw4 hh hqz hb4 hh4 hz4 hv3 hM3 hb3
  go_upto_region 8 with fail
  rw [Hw4.out, Hh.out]
  clear Hw4
  go_wp2_with fail
  go_loopg [6, 8, 9] dn (fun gn s6 s8 i wr => ∃ (j g : Nat) (ha : Option Addr) (hn hc : Nat), RowKit.Hid (gn = dn - j) ∧ j ≤ dn ∧ j ≤ 30 ∧ s6 = .pointer (some ⟨g, 0, none⟩) ∧ s8 = .slice ha hn hc ∧ i = .int .i64 j ∧ RowKit.Hid (VaRel B q w wr g ha hn hc j))
  case atStart => exact ⟨0, g, some ⟨h, 0, none⟩, 0, 0, Lib.hid rfl, Nat.zero_le _, Nat.zero_le _, rfl, rfl, rfl, HR0⟩
  case round =>
    obtain ⟨j, g, ha, hn, hc, hgn, hj, hj30, rfl, rfl, rfl, hR⟩ := hrel
    clear HR0
    obtain ⟨M, c, had, ka, kp, hSt, hOk, hnl, hnc, hlj, hsm⟩ := hR.out
    have hds := Hd.out wr hSt.below
    have y0 : wr.cell? ⟨q, 0, none⟩ = some (.int .i64 0) := by simp [World.cell?, hSt.kq]
    have y1 : wr.cell? ⟨q, 1, none⟩ = some (.int .i64 0) := by simp [World.cell?, hSt.kq]
    have y2 : wr.cell? ⟨q, 2, none⟩ = some (.slice ka had.length kp) := by simp [World.cell?, hSt.kq]
    by_cases hgo : j < dn ∧ j < 30
    · obtain ⟨hlt, h30⟩ := hgo
      have hji : (j : Int) < (dn : Int) := by omega
      have h30i : (j : Int) < 30 := by omega
      have hadd : IntKind.i64.wrap ((j : Int) + 1) = (j : Int) + 1 := IntWalk.i64_in _ (by omega)
      have hjd : j < ds.length := by rw [← Hdn.out]; exact hlt
      obtain ⟨b, o, da, dc', rfl, hbB, e1, hdc', s1⟩ := byts_atG hds j hjd
      obtain ⟨D, hD⟩ : ∃ D, D = ds[j] := ⟨_, rfl⟩
      rw [← hD] at e1 hdc' s1
      obtain ⟨N, hN⟩ : ∃ N, N = D.length := ⟨_, rfl⟩
      rw [← hN] at e1 hdc'
      have hrt := hSt.vat.right
      have HSt := Lib.hid hSt
      have HOk := Lib.hid hOk
      have Hnl := Lib.hid hnl
      have Hs1 := Lib.hid s1
      have HsD : RowKit.Hid (∀ X, Below B w X → Sl EU8 (fun b => b < B) X da D) := Lib.hid fun X hX => s1.mono (by decide) fun k hk _ => ⟨(hX.block k hk).trans (hSt.below.block k hk).symm, hk⟩
      have HN := Lib.hid hN
      have Hsm := Lib.hid hsm
      have Hnc := Lib.hid hnc
      unfold maxLen at hdc'
      clear hSt hOk hnl s1 hds hD hN hsm hR hnc hrt
      by_cases hbig : 4000 < N
      · have hbi : (4000 : Int) < (N : Int) := by omega
        have hP := vw_Propose wr HSt.out.vat da N dc' D HN.out (Hs1.out.mono (by decide) fun k hk _ => ⟨rfl, HSt.out.low k hk⟩) (by rw [HOk.out.recs]; decide) (by rw [HOk.out.msgs]; decide) (by rw [HOk.out.done]; decide) (by have := hdc'.1; have := hdc'.2; omega)
        have hp : c.propose D = (c, 3) := by
          unfold Vw.Core.propose
          rw [HOk.out.al.leads, if_neg (by simp), if_pos (by rw [← HN.out]; exact hbig)]
        have HP := Lib.hid hP
        have Hp := Lib.hid hp
        clear hP hp y0 y1 y2
        go_wp2_with fail
        refine HP.out.mono ?_
        rintro e w5 hp5
        unfold ProTo at hp5
        rw [Hp.out, if_neg (by show ¬ (3 : Int) = 0; decide)] at hp5
        obtain ⟨rfl, M5, hv5, f5⟩ := hp5
        have hS5 := HSt.out.fr f5 hv5
        have hb6 := alloc_below w5 (.cells #[.slice none 0 0, .slice none 0 0, .slice none 0 0] 107)
        obtain ⟨w6, hw6⟩ : ∃ x, x = w5.alloc (.cells #[.slice none 0 0, .slice none 0 0, .slice none 0 0] 107) := ⟨_, rfl⟩
        rw [← hw6] at hb6
        have hR6 : VaRel B q w w6 g ha hn hc (j + 1) := ⟨M5, c, had, ka, kp, hS5.next hb6, HOk.out.mono, Hnl.out, Hnc.out, by omega, Hsm.out⟩
        have HR6 := Lib.hid hR6
        have Hw6 := Lib.hid hw6.symm
        clear hS5 hb6 hR6 hw6 hv5 f5
        go_upto_region 13 with fail
        rw [Hw6.out]
        clear Hw6
        go_wp2_with fail
        go_roundg (dn - (j + 1))
        case measure => rw [hgn.out]; omega
        case rel => exact ⟨j + 1, g, ha, hn, hc, Lib.hid rfl, by omega, by omega, rfl, rfl, by go_num, HR6⟩
      · have hbi : ¬ (4000 : Int) < (N : Int) := by omega
        have hhl : had.length < 2000 := by omega
        have hDl : D.length ≤ 4000 := by rw [← HN.out]; omega
        have hCp := ref_Copy da N dc' D wr ⟨HN.out, Hs1.out.any (by decide)⟩ (by omega)
        obtain ⟨st1, st2, st3, st4, st5, st6⟩ := HOk.out.step hDl hhl
        have HCp := Lib.hid hCp
        have St := Lib.hid (And.intro st1 (And.intro st2 (And.intro st3 (And.intro st4 (And.intro st5 st6)))))
        clear hCp st1 st2 st3 st4 st5 st6 y0 y1 y2
        go_wp2_with fail
        refine HCp.out.mono ?_
        rintro e w5 ⟨v5, rfl, ho5, hb5⟩
        obtain ⟨a5, c5, rfl, hc5, hcm5, _⟩ := ho5.sl
        rw [← HN.out] at hc5 ho5 ⊢
        have hS5 := HSt.out.next hb5
        have hP := vw_Propose w5 hS5.vat a5 N c5 D HN.out (ho5.slB.mono (by decide) fun k hk _ => ⟨rfl, HSt.out.vat.new hk⟩) (by rw [HOk.out.recs]; decide) (by rw [HOk.out.msgs]; decide) (by rw [HOk.out.done]; decide) (by omega)
        have e1' := cell_thru e1 hb5
        have HP := Lib.hid hP
        have HS5 := Lib.hid hS5
        clear hP ho5 hc5 hcm5 hb5 hS5 HCp e1
        go_wp2_with fail
        refine HP.out.mono ?_
        rintro e w6 hp6
        unfold ProTo at hp6
        rw [if_pos St.out.1] at hp6
        obtain ⟨v1, v2, v3, rfl, t6⟩ := hp6
        obtain ⟨M6, r1, o1, p1, a2, p2, b3, o3, p3, a4, p4, a5', p5, rfl, rfl, rfl, hv6, f6, hO6⟩ := va_out t6 St.out.2.1 St.out.2.2.1 St.out.2.2.2.1
        have hS6 := HS5.out.fr f6 hv6
        obtain ⟨w7, hw7⟩ : ∃ x, x = w6.alloc (.cells #[.slice (some ⟨r1, o1, none⟩) 1 p1, .slice a2 0 p2, .slice (some ⟨b3, o3, none⟩) 1 p3] 107) := ⟨_, rfl⟩
        have hb7 : Below w6.heap.size w6 w7 := by rw [hw7]; exact alloc_below _ _
        rw [← hw7] at hO6
        obtain ⟨p, hp⟩ : ∃ p, p = w6.heap.size := ⟨_, rfl⟩
        rw [← hp, ← HN.out] at hO6
        have hS7 := hS6.next hb7
        obtain ⟨n8, hn8⟩ : ∃ n8, n8 = hn + 1 := ⟨_, rfl⟩
        have hlen : (c.propose D).1.keep.log.length = n8 := by rw [St.out.2.2.2.2.1, hn8]; show (had ++ [D]).length = hn + 1; rw [List.length_append, ← Hnl.out]; rfl
        rw [hlen]
        have Hn8 := Lib.hid hn8
        have e7 : w7.cell? ⟨b, o + j, none⟩ = some (.slice da N dc') := by
          have hb0 : b < w5.heap.size := cell_lt e1'
          exact cell_thru ((cell_keep (f6.block hb0 (HS5.out.low b hbB))).trans e1') hb7
        have hX := hS7.next (alloc_below w7 (.cells #[.slice da N dc'] 49))
        have hOX := hO6.keep (M' := M6) (w' := w7.alloc (.cells #[.slice da N dc'] 49)) fun k hk hm => ⟨(alloc_below w7 _).block k hk, hm⟩
        have hs1X : Sl EU8 (fun x => x < B) (w7.alloc (.cells #[.slice da N dc'] 49)) da D := HsD.out _ hX.below
        have hslX : Sl (EHad B) (fun b => some b ≠ (Value.slice ha hn hc).ownBlock) (w7.alloc (.cells #[.slice da N dc'] 49)) (some ⟨w7.heap.size, 0, none⟩) [D] := by
          have hne : some w7.heap.size ≠ (Value.slice ha hn hc).ownBlock := fun e => by
            have := (hS7.own.lt _ e.symm).2; omega
          refine sl_one (heap_alloc_new w7 _) ⟨da, dc', by rw [← HN.out], by rw [← HN.out]; omega, by unfold maxLen; omega, hs1X.mono (by decide) fun k hk hlt => ⟨rfl, fun e => ?_, hk⟩⟩ hne
          have h1 := (hS7.own.lt _ e.symm).1
          have h2 := hS7.bq
          have h3 : k < B := hk
          omega
        have HX := Lib.hid hX
        have HslX := Lib.hid hslX
        have HOX := Lib.hid hOX
        have Hw7 := Lib.hid hw7.symm
        have Hp := Lib.hid hp.symm
        have Hlj : RowKit.Hid (had.length ≤ j) := Lib.hid hlj
        have e7X := cell_thru e7 (alloc_below w7 (.cells #[.slice da N dc'] 49))
        clear hX hslX hOX hs1X hw7 hb7 hp hS7 hS6 hO6 hv6 f6 t6 e1' HP HS5 HSt hlen hn8
        go_upto_region 16 with fail
        rw [Hw7.out, Hp.out]
        clear Hw7
        go_wp2_with (first
          | (refine wpList_app (l := had) (l2 := [D]) (base := q + 1) (EHad B) rfl rfl (by rfl) (by rfl) (ti_res _) HX.out.own rfl HslX.out (by have := Hlj.out; unfold maxLen; simp; omega) (by have := Hlj.out; simp; omega) (by have := HX.out.qlt; omega) ?_
             intro v8 w8 ho8 hg8 hv8 hb8))
        obtain ⟨M8, hS8, hk8⟩ := HX.out.grow hg8 hv8 ho8
        have hO8 := HOX.out.keep hk8
        obtain ⟨a8, c8, rfl, hc8, hcm8, _⟩ := ho8.sl
        have hl8 : (had ++ [D]).length = n8 := by rw [List.length_append, ← Hnl.out, Hn8.out]; rfl
        rw [hl8] at hc8 hS8 ⊢
        have f1 : w8.cell? ⟨p, 1, none⟩ = some (.slice a2 0 p2) := by simp [World.cell?, hO8.box]
        have f2 : w8.cell? ⟨p, 2, none⟩ = some (.slice (some ⟨b3, o3, none⟩) 1 p3) := by simp [World.cell?, hO8.box]
        have f3 : w8.cell? ⟨b3, o3, none⟩ = some (.slice a5' N p5) := hO8.d0
        have f4 : w8.cell? ⟨b, o + j, none⟩ = some (.slice da N dc') := by
          have hb0 := cell_lt e7X
          exact (cell_keep (hk8 b hb0 (HX.out.low b hbB)).1).trans e7X
        have f0 : w8.cell? ⟨p, 0, none⟩ = some (.slice (some ⟨r1, o1, none⟩) 1 p1) := by simp [World.cell?, hO8.box]
        have hSame : ∀ W : World, W.heap = w8.heap → Calls Try.prog 58 #[.slice a5' N p5, .slice da N dc'] W fun e w' => e = .returned (.bool true) ∧ W = w' := by
          intro W hW
          refine (ref_Same a5' da N N p5 dc' D D W ⟨HN.out, (hO8.s5.any (by decide)).heap (by decide) hW⟩ ⟨HN.out, ((HsD.out w8 hS8.below).any (by decide)).heap (by decide) hW⟩).mono ?_
          intro e w' h
          simpa using h
        have hCm : ∀ W : World, W.heap = w8.heap → Calls Try.prog 59 #[.pointer (some ⟨g, 0, none⟩)] W fun e w' => e = .returned (.int .i64 n8) ∧ W = w' := by
          intro W hW
          have hv : VwAt M8 W g (c.propose D).1.clear := hS8.vat.keep (fun k hk _ => ⟨by rw [hW], rfl⟩) fun k hk => by rw [hW]; exact hS8.vat.dom k hk
          have := vw_Commit W hv
          rw [St.out.2.2.2.2.2.commit, hl8] at this
          exact this
        have hnn : ((n8 : Int) != (n8 : Int)) = false := by simp
        have hw0 : IntKind.i64.wrap ((1 : Int) - 1) = 0 := by decide
        have hw00 : IntKind.i64.wrap 0 = 0 := by decide
        have HSame := Lib.hid hSame
        have HCm := Lib.hid hCm
        have HS8 := Lib.hid hS8
        have HO8 := Lib.hid hO8
        have Hl8 := Lib.hid hl8
        have Hc8 := Lib.hid (And.intro hc8 hcm8)
        clear hSame hCm hS8 hO8 hl8 hc8 hcm8 ho8 hg8 hv8 hb8 hk8 HX HOX HslX e7 e7X
        go_wp2_with fail
        go_region_held3 (fun W => W.cell? ⟨p, 1, none⟩ = some (.slice a2 0 p2) ∧ W.cell? ⟨p, 2, none⟩ = some (.slice (some ⟨b3, o3, none⟩) 1 p3) ∧ W.cell? ⟨b3, o3, none⟩ = some (.slice a5' N p5) ∧ W.cell? ⟨b, o + j, none⟩ = some (.slice da N dc'))
          (first | exact ⟨f1, f2, f3, f4⟩ | go_keep)
          ((first | (go_at_call 58; refine (HSame.out w8.drew rfl).mono ?_; rintro e w9 ⟨rfl, rfl⟩) | (go_at_call 59; refine (HCm.out w8.drew rfl).mono ?_; rintro e w9 ⟨rfl, rfl⟩)))
        go_wp2_with fail
        have hLp0 : VaLp B q w w8.drew g (c.propose D).1.clear (.slice a8 n8 c8) (had ++ [D]) had p r1 o1 p1 a2 p2 b3 o3 p3 a4 p4 a5' p5 N D :=
          ⟨M8, ka, kp, HS8.out.next (Below.refl _ _).drew, HO8.out.keep fun k _ hm => ⟨rfl, hm⟩⟩
        have HLp0 := Lib.hid hLp0
        have hp1 : 1 ≤ p1 := HO8.out.b1.1
        clear hLp0 f0 f1 f2 f3 f4 HSame HCm HS8 HO8 hnn hw0 hw00
        go_loopg [124] 1 (fun gn i wr => ∃ jr : Nat, RowKit.Hid (gn = 1 - jr) ∧ jr ≤ 1 ∧ i = .int .i64 jr ∧ RowKit.Hid (VaLp B q w wr g (c.propose D).1.clear (.slice a8 n8 c8) (had ++ [D]) (if jr = 0 then had else had ++ [D]) p r1 o1 p1 a2 p2 b3 o3 p3 a4 p4 a5' p5 N D))
        case atStart => exact ⟨0, Lib.hid rfl, by decide, rfl, HLp0⟩
        case round =>
          obtain ⟨jr, hgn2, hjr, rfl, hLp⟩ := hrel
          clear HLp0
          obtain ⟨M9, kb, kq, hS9, hO9⟩ := hLp.out
          by_cases hj1 : jr < 1
          · have hj1i : (jr : Int) < 1 := by omega
            have hjr0 : jr = 0 := by omega
            rw [if_pos hjr0] at hS9
            have hqp : q ≠ p := fun e => by have := hO9.col.1; rw [← e, hS9.qM] at this; omega
            have e0 : wr.cell? ⟨r1, o1 + jr * 4, none⟩ = some (.int .i64 2) := by rw [hjr0]; simpa using hO9.k0
            have e1 : wr.cell? ⟨r1, o1 + jr * 4 + 1, none⟩ = some (.int .i64 0) := by rw [hjr0]; simpa using hO9.k1
            have e2 : wr.cell? ⟨r1, o1 + jr * 4 + 2, none⟩ = some (.int .i64 0) := by rw [hjr0]; simpa using hO9.k2
            have e3 : wr.cell? ⟨r1, o1 + jr * 4 + 3, none⟩ = some (.slice a4 N p4) := by rw [hjr0]; simpa using hO9.k3
            obtain ⟨wA, hwA⟩ : ∃ x, x = wr.alloc (.cells #[.int .i64 2, .int .i64 0, .int .i64 0, .slice a4 N p4] 98) := ⟨_, rfl⟩
            have hbA : Below wr.heap.size wr wA := by rw [hwA]; exact alloc_below _ _
            have hhA : wA.heap[wr.heap.size]? = some (.cells #[.int .i64 2, .int .i64 0, .int .i64 0, .slice a4 N p4] 98 (0, 0)) := by rw [hwA]; exact heap_alloc_new wr _
            obtain ⟨pr, hpr⟩ : ∃ pr, pr = wr.heap.size := ⟨_, rfl⟩
            rw [← hpr] at hhA
            have hSA := hS9.next hbA
            have hOA := hO9.keep (M' := M9) (w' := wA) fun k hk hm => ⟨hbA.block k hk, hm⟩
            have hLay := va_Lay (M := M9) (w := wA) (n8 := n8) Hnl.out (by rw [Hnl.out]; exact hSA.kcap) hSA.kl HN.out hOA.b4 hOA.s4 (fun k hk => hSA.vat.new hk) (by have := Hlj.out; rw [Hnl.out]; omega) Hl8.out
            have y0 : wA.cell? ⟨q, 0, none⟩ = some (.int .i64 0) := by simp [World.cell?, hSA.kq]
            have y1 : wA.cell? ⟨q, 1, none⟩ = some (.int .i64 0) := by simp [World.cell?, hSA.kq]
            have y2 : wA.cell? ⟨q, 2, none⟩ = some (.slice kb hn kq) := by rw [Hnl.out]; simp [World.cell?, hSA.kq]
            have z0 : wA.cell? ⟨pr, 0, none⟩ = some (.int .i64 2) := by simp [World.cell?, hhA]
            have z1 : wA.cell? ⟨pr, 1, none⟩ = some (.int .i64 0) := by simp [World.cell?, hhA]
            have z2 : wA.cell? ⟨pr, 2, none⟩ = some (.int .i64 0) := by simp [World.cell?, hhA]
            have z3 : wA.cell? ⟨pr, 3, none⟩ = some (.slice a4 N p4) := by simp [World.cell?, hhA]
            have HwA := Lib.hid hwA.symm
            have Hpr := Lib.hid hpr.symm
            have HSA := Lib.hid hSA
            have HOA := Lib.hid hOA
            have HLay := Lib.hid hLay
            have Hjr0 := Lib.hid hjr0
            clear hwA hpr hSA hOA hLay hjr0 hbA hhA hS9 hO9 hqp hLp
            go_upto_region 22 with fail
            rw [HwA.out, Hpr.out]
            clear HwA e0 e1 e2 e3
            go_wp2_with fail
            refine HLay.out.mono ?_
            rintro e wC ⟨la, lc, rfl, hlc, hls, hbC⟩
            have hSC := HSA.out.next hbC
            have hOC := HOA.out.keep (M' := M9) (w' := wC) fun k hk hm => ⟨hbC.block k hk, hm⟩
            have k0 : wC.cell? ⟨q, 0, none⟩ = some (.int .i64 0) := by simp [World.cell?, hSC.kq]
            have k1 : wC.cell? ⟨q, 1, none⟩ = some (.int .i64 0) := by simp [World.cell?, hSC.kq]
            have k2 : wC.cell? ⟨q, 2, none⟩ = some (.slice kb hn kq) := by rw [Hnl.out]; simp [World.cell?, hSC.kq]
            have kf : ∀ o, wC.frozen? ⟨q, o, none⟩ = false := fun o => by simp [World.frozen?, hSC.kq]
            obtain ⟨wD, hwD⟩ : ∃ x, x = ((wC.setCell ⟨q, 0, none⟩ (.int .i64 0)).setCell ⟨q, 1, none⟩ (.int .i64 0)).setCell ⟨q, 2, none⟩ (.slice la n8 lc) := ⟨_, rfl⟩
            have hoD : Only (· = q) wC wD := by rw [hwD]; exact setg (S := (· = q)) (setg (S := (· = q)) (setg (S := (· = q)) (Only.refl _ wC) rfl 0 _) rfl 1 _) rfl 2 _
            have hqD : wD.heap[q]? = some (.cells #[.int .i64 0, .int .i64 0, .slice la n8 lc] 95 (0, 0)) := by rw [hwD, heap_set (heap_set (heap_set hSC.kq 0 _) 1 _) 2 _]; rfl
            have hSD : VaSt B q w wD M9 g (c.propose D).1.clear (.slice a8 n8 c8) (had ++ [D]) (had ++ [D]) la lc := hSC.store hoD (by rw [Hl8.out]; exact hqD) (by rw [Hl8.out]; exact hlc) hls
            have hOD := hOC.keep (M' := M9) (w' := wD) fun k hk hm => ⟨hoD.block k hk (fun e => by rw [e, hSC.qM] at hm; omega), hm⟩
            have HLp : RowKit.Hid (VaLp B q w wD g (c.propose D).1.clear (.slice a8 n8 c8) (had ++ [D]) (if jr + 1 = 0 then had else had ++ [D]) p r1 o1 p1 a2 p2 b3 o3 p3 a4 p4 a5' p5 N D) := Lib.hid (by rw [if_neg (by omega)]; exact ⟨M9, la, lc, hSD, hOD⟩)
            have HwD := Lib.hid hwD.symm
            clear hSC hOC hwD hoD hqD hSD hOD hlc hls hbC HLay HSA HOA y0 y1 y2 z0 z1 z2 z3
            go_upto_region 23 with fail
            rw [HwD.out]
            clear HwD k0 k1 k2 kf
            go_wp2_with fail
            go_roundg 0
            case measure => rw [hgn2.out]; omega
            case rel => exact ⟨jr + 1, Lib.hid (by have := Hjr0.out; omega), by have := Hjr0.out; omega, by go_num, HLp⟩
          · have hj1i : ¬ (jr : Int) < 1 := by omega
            rw [if_neg (by omega)] at hS9
            have hOk2 := St.out.2.2.2.2.2
            obtain ⟨c1, hc1⟩ : ∃ c1, c1 = (c.propose D).1.clear := ⟨_, rfl⟩
            rw [← hc1] at hS9 hOk2
            obtain ⟨had2, hh2⟩ : ∃ had2, had2 = had ++ [D] := ⟨_, rfl⟩
            have hl2 : n8 = had2.length := by rw [hh2]; exact Hl8.out.symm
            have hsm2 : ∀ b ∈ had2, b.length ≤ 4000 := fun b hb => by
              rw [hh2] at hb
              rcases List.mem_append.1 hb with hb | hb
              · exact Hsm.out b hb
              · simp at hb; rw [hb]; exact hDl
            rw [← hh2] at hS9 hOk2
            have hlj2 : had2.length ≤ j + 1 := by rw [← hl2, Hn8.out, Hnl.out]; have := Hlj.out; omega
            have HS9 := Lib.hid hS9
            have HOk2 := Lib.hid hOk2
            have Hl2 := Lib.hid hl2
            have Hsm2 := Lib.hid hsm2
            have Hlj2 := Lib.hid hlj2
            clear hS9 hO9 hOk2 hc1 hh2 hl2 hsm2 hlj2 HOk Hnl HN Hsm Hnc St Hp Hlj Hl8 hLp hDl hhl HsD Hs1
            have hrel2 : ∀ (W : World) (g2 : Nat) (M2 : Col) (c2 : Vw.Core) (ka2 : Option Addr) (kp2 : Nat), VaSt B q w W M2 g2 c2 (.slice a8 n8 c8) had2 had2 ka2 kp2 → Vw.AlOk c2 had2 (j + 1) → VaRel B q w W g2 a8 n8 c8 (j + 1) := fun W g2 M2 c2 ka2 kp2 h1 h2 => ⟨M2, c2, had2, ka2, kp2, h1, h2, Hl2.out, Hc8.out, Hlj2.out, Hsm2.out⟩
            have Hrel2 := Lib.hid hrel2
            clear hrel2
            by_cases hag : j < an
            · have hagi : (j : Int) < (an : Int) := by omega
              have hja : j < ags.length := by rw [← Han.out]; exact hag
              have hAt := Ha.out wr HS9.out.below j ags[j] (List.getElem?_eq_getElem hja)
              obtain ⟨ab, ao, rfl, _, acs, hacs, hacc⟩ := hAt
              have hacs : acs = [.bool ags[j]] := hacs
              subst hacs
              obtain ⟨z, hz⟩ : ∃ z, z = ags[j] := ⟨_, rfl⟩
              rw [← hz] at hacc
              have hac1 : wr.cell? ⟨ab, ao + j, none⟩ = some (.bool z) := by simpa [EBool] using hacc 0 _ rfl
              clear hacc hz hja hacs
              cases z with
              | false =>
                go_wp2_with fail
                go_roundg (dn - (j + 1))
                case measure => rw [hgn.out]; omega
                case rel => exact ⟨j + 1, g, a8, n8, c8, Lib.hid rfl, by omega, by omega, rfl, rfl, by go_num, Lib.hid (Hrel2.out _ _ _ _ _ _ HS9.out HOk2.out)⟩
              | true =>
                obtain ⟨ag1, ag2, ag3, ag4, ag5⟩ := Vw.AlOk.again had2 j
                have hsmall : Vw.Small had2 := ⟨by have := Hlj2.out; omega, Hsm2.out⟩
                have hNw := vw_NewO (Im M9) 1 1 0 3 ⟨0, 0, had2⟩ kb n8 kq wr (by decide) (by decide) (by decide) ⟨Int.le_refl 0, by show (0 : Int) ≤ 1099511627776; decide⟩ ⟨Int.le_refl 0, Int.le_refl 0⟩ hsmall Hl2.out (by rw [Hl2.out]; exact HS9.out.kcap) HS9.out.kl
                have y0 : wr.cell? ⟨q, 0, none⟩ = some (.int .i64 0) := by simp [World.cell?, HS9.out.kq]
                have y1 : wr.cell? ⟨q, 1, none⟩ = some (.int .i64 0) := by simp [World.cell?, HS9.out.kq]
                have y2 : wr.cell? ⟨q, 2, none⟩ = some (.slice kb n8 kq) := by rw [Hl2.out]; simp [World.cell?, HS9.out.kq]
                have HNw := Lib.hid hNw
                have Hag := Lib.hid (And.intro ag1 (And.intro ag2 (And.intro ag3 (And.intro ag4 ag5))))
                clear hNw ag1 ag2 ag3 ag4 ag5 hsmall
                go_wp2_with fail
                refine HNw.out.mono ?_
                rintro e w10 ⟨g2, rfl, hn10⟩
                obtain ⟨M10, hS10, _⟩ := HS9.out.new hn10
                have hLd := vw_Leads w10 hS10.vat
                rw [Hag.out.1] at hLd
                have HS10 := Lib.hid hS10
                have HLd := Lib.hid hLd
                clear hS10 hLd hn10 HNw y0 y1 y2 HS9 hac1
                go_wp2_with fail
                refine HLd.out.mono ?_
                rintro e w11 ⟨rfl, hb11⟩
                have hS11 := HS10.out.next hb11
                have hTk := vw_Tick_lead w11 hS11.vat Hag.out.1 (by show 0 ≤ 100000; decide) (by show 0 ≤ 100000; decide) (by show 0 ≤ 100000; decide) (by show (0 : Int) < 1000000000000; decide)
                have HS11 := Lib.hid hS11
                have HTk := Lib.hid hTk
                clear hS11 hTk hb11 HLd HS10
                go_wp2_with fail
                refine HTk.out.mono ?_
                rintro e w12 ⟨x1, n1, d1, x2, n2, d2, x3, n3, d3, rfl, t12⟩
                obtain ⟨M12, rfl, hd3, hv12, f12, hs12⟩ := va_tick t12 Hag.out.2.1 Hl2.out
                have hS12 := HS11.out.fr f12 hv12
                obtain ⟨wE, hwE⟩ : ∃ x, x = w12.alloc (.cells #[.slice x1 n1 d1, .slice x2 n2 d2, .slice x3 n8 d3] 107) := ⟨_, rfl⟩
                have hbE : Below w12.heap.size w12 wE := by rw [hwE]; exact alloc_below _ _
                have hhE : wE.heap[w12.heap.size]? = some (.cells #[.slice x1 n1 d1, .slice x2 n2 d2, .slice x3 n8 d3] 107 (0, 0)) := by rw [hwE]; exact heap_alloc_new w12 _
                obtain ⟨pE, hpE⟩ : ∃ x, x = w12.heap.size := ⟨_, rfl⟩
                rw [← hpE] at hhE
                have hSE := hS12.next hbE
                have hsE := hs12.below (by decide) hbE
                have u2 : wE.cell? ⟨pE, 2, none⟩ = some (.slice x3 n8 d3) := by simp [World.cell?, hhE]
                have hcm := vw_Commit wE hSE.vat
                rw [Hag.out.2.2.2.2.commit, ← Hl2.out] at hcm
                have hnn : ((n8 : Int) != (n8 : Int)) = false := by simp
                have HSE := Lib.hid hSE
                have HsE := Lib.hid hsE
                have Hcm := Lib.hid hcm
                have HwE := Lib.hid hwE.symm
                have HpE := Lib.hid hpE.symm
                clear hSE hsE hcm hwE hpE hhE hbE hS12 hs12 hv12 f12 t12 HTk HS11
                go_upto_region 30 with fail
                rw [HwE.out, HpE.out]
                clear HwE
                go_wp2_with fail
                refine Hcm.out.mono ?_
                rintro e w13 ⟨rfl, rfl⟩
                go_wp2_with fail
                go_loopg [172] n8 (fun gn i wr => ∃ jr : Nat, RowKit.Hid (gn = n8 - jr) ∧ jr ≤ n8 ∧ i = .int .i64 jr ∧ RowKit.Hid (Below wE.heap.size wE wr))
                case atStart => exact ⟨0, Lib.hid rfl, Nat.zero_le _, rfl, Lib.hid (Below.refl _ _)⟩
                case round =>
                  obtain ⟨j3, hgn3, hj3, rfl, hb3⟩ := hrel
                  have hS := HSE.out.next hb3.out
                  have hs := HsE.out.below (by decide) hb3.out
                  have u3 : wr.cell? ⟨pE, 2, none⟩ = some (.slice x3 n8 d3) := cell_thru u2 hb3.out
                  by_cases hlt3 : j3 < n8
                  · have hlt3i : (j3 : Int) < (n8 : Int) := by omega
                    have hlt3l : j3 < had2.length := by rw [← Hl2.out]; exact hlt3
                    have hn8b : n8 ≤ 31 := by rw [Hl2.out]; have := Hlj2.out; omega
                    have hadd3 : IntKind.i64.wrap ((j3 : Int) + 1) = (j3 : Int) + 1 := IntWalk.i64_in _ (by omega)
                    obtain ⟨xb, xo, aX, pX, rfl, _, v1, _, sX⟩ := byts_atG hs j3 hlt3l
                    obtain ⟨a8', c8', q8, _, _, hs8⟩ := hS.own.sl
                    injection q8 with q81 q82 q83
                    subst q81
                    obtain ⟨yb, yo, aY, pY, rfl, _, v2, _, sY⟩ := byts_atG (ERes.out hs8) j3 hlt3l
                    obtain ⟨E, hE⟩ : ∃ E, E = had2[j3] := ⟨_, rfl⟩
                    rw [← hE] at v1 v2 sX sY
                    obtain ⟨NE, hNE⟩ : ∃ N, N = E.length := ⟨_, rfl⟩
                    rw [← hNE] at v1 v2
                    have hC : ∀ W : World, W.heap = wr.heap → Calls Try.prog 58 #[.slice aX NE pX, .slice aY NE pY] W fun e w' => e = .returned (.bool true) ∧ W = w' := by
                      intro W hW
                      refine (ref_Same aX aY NE NE pX pY E E W ⟨hNE, (sX.any (by decide)).heap (by decide) hW⟩ ⟨hNE, (sY.any (by decide)).heap (by decide) hW⟩).mono ?_
                      intro e w' h
                      simpa using h
                    have HC := Lib.hid hC
                    clear hC hS hs sX sY hs8 q82 q83 hE hNE u2
                    go_wp2_with fail
                    go_region_held3 (fun W => W.cell? ⟨pE, 2, none⟩ = some (.slice (some ⟨xb, xo, none⟩) n8 d3) ∧ W.cell? ⟨xb, xo + j3, none⟩ = some (.slice aX NE pX) ∧ W.cell? ⟨yb, yo + j3, none⟩ = some (.slice aY NE pY))
                      (first | exact ⟨u3, v1, v2⟩ | go_keep)
                      ((go_at_call 58; refine (HC.out wr.drew rfl).mono ?_; rintro e w4 ⟨rfl, rfl⟩))
                    have Hb4 : RowKit.Hid (Below wE.heap.size wE wr.drew) := Lib.hid hb3.out.drew
                    go_wp2_with fail
                    go_roundg (n8 - (j3 + 1))
                    case measure => rw [hgn3.out]; omega
                    case rel => exact ⟨j3 + 1, Lib.hid rfl, by omega, by go_num, Hb4⟩
                  · have hlt3i : ¬ (j3 : Int) < (n8 : Int) := by omega
                    have HR := Lib.hid (Hrel2.out _ _ _ _ _ _ hS Hag.out.2.2.2.2)
                    clear hS hs u2 u3
                    go_wp2_with fail
                    go_roundg (dn - (j + 1))
                    case measure => rw [hgn.out]; omega
                    case rel => exact ⟨j + 1, g2, a8, n8, c8, Lib.hid rfl, by omega, by omega, rfl, rfl, by go_num, HR⟩
            · have hagi : ¬ (j : Int) < (an : Int) := by omega
              go_wp2_with fail
              go_roundg (dn - (j + 1))
              case measure => rw [hgn.out]; omega
              case rel => exact ⟨j + 1, g, a8, n8, c8, Lib.hid rfl, by omega, by omega, rfl, rfl, by go_num, Lib.hid (Hrel2.out _ _ _ _ _ _ HS9.out HOk2.out)⟩
    · have hgo2 : ¬ (j : Int) < (dn : Int) ∨ ((j : Int) < (dn : Int) ∧ ¬ (j : Int) < 30) := by omega
      have hrt := hSt.vat.right
      have HK : RowKit.Hid (∀ W : World, W.heap = wr.heap → Calls Try.prog 62 #[.pointer (some ⟨g, 0, none⟩)] W fun e w' => ∃ a' c', e = .returned (.agg #[.int .i64 0, .int .i64 0, .slice a' hn c']) ∧ ((hn ≤ c' ∧ c' ≤ maxLen) ∧ Sl EBytes (fun _ => True) w' a' had) ∧ Below W.heap.size W w') := Lib.hid (by
        intro W hW
        have hv : VwAt M W g c := hSt.vat.keep (fun k hk _ => ⟨by rw [hW], rfl⟩) fun k hk => by rw [hW]; exact hSt.vat.dom k hk
        refine (vw_Keeps W hv).mono ?_
        rintro e w' ⟨a', c', e1, e2, e3⟩
        rw [hOk.keep] at e1 e2
        dsimp only at e1 e2
        rw [← hnl] at e1 e2
        exact ⟨a', c', e1, e2, e3⟩)
      have HSm : RowKit.Hid (∀ (W : World) (a' : Option Addr) (c' : Nat), Below wr.heap.size wr W → (hn ≤ c' ∧ c' ≤ maxLen) → Sl EBytes (fun _ => True) W a' had → Calls Try.prog 55 #[.agg #[.int .i64 0, .int .i64 0, .slice a' hn c'], .agg #[.int .i64 0, .int .i64 0, .slice ka hn kp]] W fun e w' => e = .returned (.bool true) ∧ Below W.heap.size W w') := Lib.hid (by
        intro W a' c' hb hc' hs'
        exact law20_same 0 0 had a' hn c' ka kp W hs' ((hSt.kl.below (by decide) hb).any (by decide)) hnl hc'.1 (by rw [hnl]; exact hSt.kcap.1) (by omega))
      have hz : B ≤ wr.heap.size := by have := hSt.qlt; have := hSt.bq; omega
      have HBr : RowKit.Hid (Below B w wr ∧ B ≤ wr.heap.size) := Lib.hid ⟨hSt.below, hz⟩
      rw [← hnl] at y2
      have hee : ((hn : Int) == (hn : Int)) = true := by simp
      clear hrt hSt hOk hnl hnc hlj hsm hds hz hgo hR
      rcases hgo2 with hg1 | ⟨hg1, hg2⟩
      all_goals
        go_wp2_with fail
        go_region_held3 (fun W => W.cell? ⟨q, 0, none⟩ = some (.int .i64 0) ∧ W.cell? ⟨q, 1, none⟩ = some (.int .i64 0) ∧ W.cell? ⟨q, 2, none⟩ = some (.slice ka hn kp))
          (first | exact ⟨y0, y1, y2⟩ | exact ⟨k0, k1, k2⟩ | exact ⟨m0, m1, m2⟩ | go_keep)
          ((first
            | (go_at_call 62; refine (HK.out wr.drew rfl).mono ?_; rintro e w5 ⟨a', c', rfl, ⟨hc5, hs5⟩, hb5⟩; have hB5 : RowKit.Hid (Below wr.heap.size wr w5) := Lib.hid ((Below.refl _ _).drew.trans hb5); have k0 := cell_thru y0 hB5.out; have k1 := cell_thru y1 hB5.out; have k2 := cell_thru y2 hB5.out; have Hc5 := Lib.hid hc5; have Hs5 := Lib.hid hs5; clear hc5 hs5 hb5)
            | (go_at_call 55; refine (HSm.out w5 a' c' hB5.out Hc5.out Hs5.out).mono ?_; rintro e w6 ⟨rfl, hb6⟩; have hB6 : RowKit.Hid (Below wr.heap.size wr w6) := Lib.hid (hB5.out.trans (hb6.mono hB5.out.size)); have m0 := cell_thru y0 hB6.out; have m1 := cell_thru y1 hB6.out; have m2 := cell_thru y2 hB6.out; clear hb6)
            | (go_at_call 63; refine (vw_Leader73 _).mono ?_; rintro e w7 ⟨rfl, rfl⟩)
            | (go_at_call 63; refine (vw_Leader50 _).mono ?_; rintro e w7 ⟨rfl, rfl⟩)))
        go_wp2_with fail
        go_ret
        exact ⟨rfl, HBr.out.1.trans (hB6.out.mono HBr.out.2)⟩
theorem reads_bools : Reads Try.prog 102 (ESlice EBool (by decide)) (bulkL (fun _ => 1)) := reads_slice (by decide) Try.underlying102 (by kernel_rfl) (reads_bool Try.underlying4)
theorem law_ViewAlone (a0 : Option Addr) (c0 : Nat) (ds : List Vw.Bs) (a1 : Option Addr) (c1 : Nat) (ags : List Bool) (w : World) (hd : Sl EBytes (fun _ => True) w a0 ds) (hc0 : ds.length ≤ c0) (hm0 : c0 ≤ maxLen) (ha : Sl EBool (fun _ => True) w a1 ags) (hc1 : ags.length ≤ c1) (hm1 : c1 ≤ maxLen) :
    Calls Try.prog 12 #[.slice a0 ds.length c0, .slice a1 ags.length c1] w fun e w' => e = .returned (.bool true) ∧ Below w.heap.size w w' :=
  law_ViewAlone0 a0 _ c0 ds a1 _ c1 ags w hd rfl hc0 hm0 ha rfl hc1 hm1
end Go.Proofs.Ytmmgnbdngpkfcaa

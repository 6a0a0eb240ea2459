
/-
  The law ViewLays, walked.
-/
import Derived.Test.YtmmgnbdngpkfcaaVwT
namespace Go.Proofs.Ytmmgnbdngpkfcaa
open Go.RowKit
set_option linter.unusedVariables false

theorem rec_at {ok : Nat → Prop} {w : World} {a : Option Addr} {l : List Vw.Rc} (h : Sl ERecI ok w a l) (k : Nat) (hk : k < l.length) :
    ∃ b o da dc, a = some ⟨b, o, none⟩ ∧ ok b ∧ w.cell? ⟨b, o + k * 4, none⟩ = some (.int .i64 l[k].kind) ∧ w.cell? ⟨b, o + k * 4 + 1, none⟩ = some (.int .i64 l[k].a) ∧ w.cell? ⟨b, o + k * 4 + 2, none⟩ = some (.int .i64 l[k].b) ∧ w.cell? ⟨b, o + k * 4 + 3, none⟩ = some (.slice da l[k].data.length dc) ∧
      (l[k].data.length ≤ dc ∧ dc ≤ maxLen) ∧ Sl EU8 ok w da l[k].data ∧ (-9223372036854775808 ≤ l[k].a ∧ l[k].a ≤ 9223372036854775807) := by
  obtain ⟨b, o, rfl, hb, cs, ⟨⟨da, dc, rfl, h1, h2⟩, h3⟩, hc⟩ := h k l[k] (List.getElem?_eq_getElem hk)
  have hz : ERecI.sz = 4 := rfl
  rw [hz] at hc
  refine ⟨b, o, da, dc, rfl, hb, ?_, ?_, ?_, ?_, h1, h2, h3⟩
  · simpa [recRow] using hc 0 _ rfl
  · rw [Nat.add_assoc]; exact hc 1 _ rfl
  · rw [Nat.add_assoc]; exact hc 2 _ rfl
  · rw [Nat.add_assoc]; exact hc 3 _ rfl
theorem vl_keep {X w6 : World} {g0 gD : Nat} {v6 : Value} {C : Obj} (hg : X.grownBy w6 (Value.slice (some ⟨g0, 0, none⟩) 0 0).ownBlock) (hv : v6.ownBlock = (Value.slice (some ⟨g0, 0, none⟩) 0 0).ownBlock ∨ ∃ g, v6.ownBlock = some g ∧ X.heap.size ≤ g) (hD : X.heap[gD]? = some C) (hne : gD ≠ g0) : w6.heap[gD]? = some C ∧ some gD ≠ v6.ownBlock := by
  have hlt : gD < X.heap.size := (Array.getElem?_eq_some_iff.1 hD).1
  have h0 : (Value.slice (some ⟨g0, 0, none⟩) 0 0).ownBlock = some g0 := rfl
  rw [h0] at hg hv
  refine ⟨(hg.block gD hlt (fun e => hne (by injection e))).trans hD, ?_⟩
  rcases hv with e | ⟨g, e, hge⟩
  · rw [e]; intro e2; injection e2 with e2; exact hne e2
  · rw [e]; intro e2; injection e2 with e2; omega
namespace Vw
def lays (k : Keep) (rs : List Rc) : Keep := rs.foldl lay k
theorem lays_succ (k : Keep) (rs : List Rc) (j : Nat) (h : j < rs.length) : lays k (rs.take (j + 1)) = lay (lays k (rs.take j)) rs[j] := by
  unfold lays
  rw [List.take_add_one, List.foldl_append, List.getElem?_eq_getElem h]
  rfl
theorem lay_len (k : Keep) (r : Rc) : (lay k r).log.length ≤ k.log.length + 1 := by
  unfold lay
  split
  · simp
  · split
    · simp
    · split
      · simp; omega
      · simp
theorem lays_len (k : Keep) (rs : List Rc) : ∀ j, (lays k (rs.take j)).log.length ≤ k.log.length + j
  | 0 => by simp [lays]
  | j + 1 => by
    by_cases h : j < rs.length
    · rw [lays_succ k rs j h]
      have := lay_len (lays k (rs.take j)) rs[j]
      have := lays_len k rs j
      omega
    · have e : rs.take (j + 1) = rs.take j := by rw [List.take_of_length_le (by omega), List.take_of_length_le (by omega)]
      rw [e]
      have := lays_len k rs j
      omega
end Vw
set_option maxRecDepth 16384 in
set_option maxHeartbeats 12800000 in
theorem law_ViewLays0 (hhead : ∀ w : World, Calls Try.prog 53 #[] w fun e w' => e = .returned (.bool true) ∧ Below w.heap.size w w') (K : Vw.Keep) (la : Option Addr) (ln lc : Nat) (ra : Option Addr) (rn rc : Nat) (rs : List Vw.Rc) (w : World) (hl : Sl EBytes (fun _ => True) w la K.log) (hln : ln = K.log.length) (hlc : ln ≤ lc ∧ lc ≤ maxLen) (hr : Sl ERecI (fun _ => True) w ra rs) (hrn : rn = rs.length) (hrc : rn ≤ rc) (hln2 : lc ≤ maxLen) (hrn2 : rc ≤ maxLen) :
    Calls Try.prog 11 #[.agg #[.int .i64 K.view, .int .i64 K.normal, .slice la ln lc], .slice ra rn rc] w fun e w' => e = .returned (.bool true) ∧ Below w.heap.size w w' := by
  unfold maxLen at hln2 hrn2
  obtain ⟨w1, hw1⟩ : ∃ x, x = w.alloc (.cells #[.int .i64 K.view, .int .i64 K.normal, .slice la ln lc] 95) := ⟨_, rfl⟩
  have hb1 : Below w.heap.size w w1 := by rw [hw1]; exact alloc_below _ _
  have hh1 : w1.heap[w.heap.size]? = some (.cells #[.int .i64 K.view, .int .i64 K.normal, .slice la ln lc] 95 (0, 0)) := by rw [hw1]; exact heap_alloc_new w _
  obtain ⟨q, hq⟩ : ∃ q, q = w.heap.size := ⟨_, rfl⟩
  have hz1 : w1.heap.size = q + 1 := by rw [hw1, hq]; simp
  rw [← hq] at hh1 hb1 ⊢
  have Hw1 := Lib.hid hw1.symm
  have Hq := Lib.hid hq.symm
  have Hb1 := Lib.hid hb1
  have Hh1 := Lib.hid hh1
  have Hz1 := Lib.hid hz1
  have Hl : RowKit.Hid (Sl EBytes (fun b => b ≠ q) w1 la K.log) := Lib.hid (hl.mono (by decide) fun k _ hk => ⟨hb1.block k (by omega), by omega⟩)
  have Hr : RowKit.Hid (Sl ERecI (fun b => b < q) w1 ra rs) := Lib.hid (hr.mono (by decide) fun k _ hk => ⟨hb1.block k (by omega), by omega⟩)
  have Hln := Lib.hid hln
  have Hrn := Lib.hid hrn
  have HH := Lib.hid (hhead w1)
  clear hw1 hq hb1 hh1 hz1 hl hr hln hrn
  go_enter Try.func11, Try.ntmps11
  go_upto_region 1 with fail
  rw [Hw1.out, Hq.out]
  clear Hw1
  go_wp2_with fail
  refine HH.out.mono ?_
  rintro e w2 ⟨rfl, hb2⟩
  have hq2 : w2.heap[q]? = _ := (hb2.block q (by have := Hz1.out; omega)).trans Hh1.out
  have x0 : w2.cell? ⟨q, 0, none⟩ = some (.int .i64 K.view) := by simp [World.cell?, hq2]
  have x1 : w2.cell? ⟨q, 1, none⟩ = some (.int .i64 K.normal) := by simp [World.cell?, hq2]
  have x2 : w2.cell? ⟨q, 2, none⟩ = some (.slice la ln lc) := by simp [World.cell?, hq2]
  have Hb2 := Lib.hid hb2
  have Hq2 := Lib.hid hq2
  have Hbw : RowKit.Hid (Below q w w2) := Lib.hid (Hb1.out.trans (hb2.mono (by have := Hz1.out; omega)))
  clear hb2 hq2 HH
  by_cases hbig : rn ≤ 60 ∧ ln ≤ 30
  · obtain ⟨hr60, hl30⟩ := hbig
    have hri : ¬ ((60 : Int) < (rn : Int)) := by omega
    have hli : ¬ ((30 : Int) < (ln : Int)) := by omega
    have Hl2 : RowKit.Hid (Sl EBytes (fun b => b ≠ q) (w2.alloc (.cells #[] 49)) la K.log) := Lib.hid (((Hl.out.below (by decide) Hb2.out)).alloc (by decide) _)
    have x0A := cell_thru x0 (alloc_below w2 (.cells #[] 49))
    have x1A := cell_thru x1 (alloc_below w2 (.cells #[] 49))
    have x2A := cell_thru x2 (alloc_below w2 (.cells #[] 49))
    go_wp2_with (first
      | (refine wpList_app_copy (ok := fun b => b ≠ q) EBytes rfl rfl (by rfl) (by rfl) ti_texts Hln.out Hl2.out (fun k hk => by have := Hz1.out; have := Hb2.out.size; simp at hk; omega) (by rw [← Hln.out]; unfold maxLen; omega) (by rw [← Hln.out]; omega) ?_
         intro a8 c8 w8 hc8 hs8 hb8
         have z0 := cell_thru x0A hb8
         have z1 := cell_thru x1A hb8))
    have hb28 : Below w2.heap.size w2 w8 := (alloc_below w2 (.cells #[] 49)).trans (hb8.mono (by simp))
    have hq8 : w8.heap[q]? = _ := (hb28.block q (by have := Hz1.out; have := Hb2.out.size; omega)).trans Hq2.out
    have Hs8 := Lib.hid hs8
    have Hc8 := Lib.hid hc8
    have Hq8 := Lib.hid hq8
    have Hbw8 : RowKit.Hid (Below q w w8) := Lib.hid (Hbw.out.trans (hb28.mono (by have := Hz1.out; have := Hb2.out.size; omega)))
    have Hl8 : RowKit.Hid (Sl EBytes (fun b => b ≠ q) w8 la K.log) := Lib.hid ((Hl.out.below (by decide) Hb2.out).below (by decide) hb28)
    have Hr8 : RowKit.Hid (∀ wr, Below q w wr → Sl ERecI (fun b => b < q) wr ra rs) := Lib.hid (fun wr hb => by
      have h0 : Sl ERecI (fun b => b < q) w1 ra rs := Hr.out
      refine h0.mono (by decide) fun k hk _ => ⟨(hb.block k hk).trans (Hb1.out.block k hk).symm, hk⟩)
    clear hs8 hc8 hq8 hb28 hb8 Hl2 x0 x1 x2 x0A x1A x2A z0 z1
    go_loopg [5, 6, 7, 34] rn (fun gn s5 s6 s7 i wr => ∃ (j : Nat) (a1 : Option Addr) (p1 : Nat) (a2 : Option Addr) (p2 : Nat), RowKit.Hid (gn = rn - j) ∧ j ≤ rn ∧ i = .int .i64 j ∧ s5 = .slice a2 (Vw.lays K (rs.take j)).log.length p2 ∧ s6 = .int .i64 (Vw.lays K (rs.take j)).view ∧ s7 = .int .i64 (Vw.lays K (rs.take j)).normal ∧
      RowKit.Hid (wr.heap[q]? = some (.cells #[.int .i64 (Vw.lays K (rs.take j)).view, .int .i64 (Vw.lays K (rs.take j)).normal, .slice a1 (Vw.lays K (rs.take j)).log.length p1] 95 (0, 0))) ∧
      RowKit.Hid (((Vw.lays K (rs.take j)).log.length ≤ p1 ∧ p1 ≤ maxLen) ∧ Sl EBytes (fun b => b ≠ q) wr a1 (Vw.lays K (rs.take j)).log) ∧ RowKit.Hid (((Vw.lays K (rs.take j)).log.length ≤ p2 ∧ p2 ≤ maxLen) ∧ Sl EBytes (fun b => b ≠ q) wr a2 (Vw.lays K (rs.take j)).log) ∧ RowKit.Hid (Below q w wr) ∧ RowKit.Hid (q < wr.heap.size))
    case atStart => exact ⟨0, la, lc, a8, c8, Lib.hid rfl, Nat.zero_le _, rfl, by rw [Hln.out]; rfl, rfl, rfl, Lib.hid (by rw [Hq8.out, Hln.out]; rfl), Lib.hid ⟨by rw [Hln.out] at hlc; exact hlc, Hl8.out⟩, Lib.hid ⟨by have := Hc8.out; rw [Hln.out] at this; exact this, Hs8.out⟩, Hbw8, Lib.hid (Array.getElem?_eq_some_iff.1 Hq8.out).1⟩
    case round =>
      obtain ⟨j, a1, p1, a2, p2, hgn, hj, rfl, rfl, rfl, rfl, hqr, hs1, hs2, hbw, hqz⟩ := hrel
      have hlen := Vw.lays_len K rs j
      by_cases hlt : j < rn
      · have hji : (j : Int) < (rn : Int) := by omega
        have hjr : j < rs.length := by rw [← Hrn.out]; exact hlt
        have hsucc := Vw.lays_succ K rs j hjr
        obtain ⟨b, o, da, dc, rfl, hbq, r0, r1, r2, r3, hdc, hds, hra⟩ := rec_at (Hr8.out wr hbw.out) j hjr
        obtain ⟨r, hre⟩ : ∃ r, r = rs[j] := ⟨_, rfl⟩
        rw [← hre] at r0 r1 r2 r3 hdc hds hra hsucc
        obtain ⟨kk, hkk⟩ : ∃ kk, kk = Vw.lays K (rs.take j) := ⟨_, rfl⟩
        rw [← hkk] at hqr hs1 hs2 hlen hsucc ⊢
        have hLay := vw_Lay (fun b => b ≠ q) kk r a1 kk.log.length p1 da r.data.length dc
        obtain ⟨kv, kn, kl⟩ := kk
        obtain ⟨rk, r_a, r_b, rd⟩ := r
        dsimp only at r0 r1 r2 r3 hdc hds hra hqr hs1 hs2 hlen hLay ⊢
        obtain ⟨kN, hkN⟩ : ∃ kN, kN = kl.length := ⟨_, rfl⟩
        obtain ⟨dn, hdn⟩ : ∃ dn, dn = rd.length := ⟨_, rfl⟩
        rw [← hkN] at hqr hs1 hs2 hlen hLay ⊢
        rw [← hdn] at r3 hdc hLay
        have y0 : wr.cell? ⟨q, 0, none⟩ = some (.int .i64 kv) := by simp [World.cell?, hqr.out]
        have y1 : wr.cell? ⟨q, 1, none⟩ = some (.int .i64 kn) := by simp [World.cell?, hqr.out]
        have y2 : wr.cell? ⟨q, 2, none⟩ = some (.slice a1 kN p1) := by simp [World.cell?, hqr.out]
        obtain ⟨wA, hwA⟩ : ∃ x, x = wr.alloc (.cells #[.int .i64 rk, .int .i64 r_a, .int .i64 r_b, .slice da dn dc] 98) := ⟨_, rfl⟩
        have hbA : Below wr.heap.size wr wA := by rw [hwA]; exact alloc_below _ _
        have hhA : wA.heap[wr.heap.size]? = some (.cells #[.int .i64 rk, .int .i64 r_a, .int .i64 r_b, .slice da dn dc] 98 (0, 0)) := by rw [hwA]; exact heap_alloc_new wr _
        have zA : wA.heap.size = wr.heap.size + 1 := by rw [hwA]; simp
        obtain ⟨p9, hp9⟩ : ∃ p9, p9 = wr.heap.size := ⟨_, rfl⟩
        rw [← hp9] at hbA hhA zA
        have yA0 := cell_thru y0 (by rw [← hp9]; exact hbA)
        have yA1 := cell_thru y1 (by rw [← hp9]; exact hbA)
        have yA2 := cell_thru y2 (by rw [← hp9]; exact hbA)
        have HqrA := Lib.hid ((hbA.block q (by rw [hp9]; exact hqz.out)).trans hqr.out)
        have HwA := Lib.hid hwA.symm
        have HhA := Lib.hid hhA
        have HbA := Lib.hid hbA
        have HzA := Lib.hid zA
        have Hp9 := Lib.hid hp9.symm
        have Hds := Lib.hid hds
        have Hhdc := Lib.hid hdc
        have Hra := Lib.hid hra
        have HLay := Lib.hid hLay
        have Hsucc := Lib.hid hsucc
        have Hre := Lib.hid hre
        have Hkk := Lib.hid hkk
        have HkN := Lib.hid hkN
        have Hdn := Lib.hid hdn
        clear hwA hhA hbA zA hp9 hds hdc hra hLay hsucc hre hkk hkN hdn y0 y1 y2
        go_upto_region 11 with fail
        rw [HwA.out, Hp9.out]
        clear HwA r0 r1 r2 r3
        obtain ⟨wB, hwB⟩ : ∃ x, x = wA.alloc (.cells #[.int .i64 kv, .int .i64 kn, .slice a1 kN p1] 95) := ⟨_, rfl⟩
        have hbB : Below wA.heap.size wA wB := by rw [hwB]; exact alloc_below _ _
        have hhB : wB.heap[wA.heap.size]? = some (.cells #[.int .i64 kv, .int .i64 kn, .slice a1 kN p1] 95 (0, 0)) := by rw [hwB]; exact heap_alloc_new wA _
        obtain ⟨pB, hpB⟩ : ∃ pB, pB = wA.heap.size := ⟨_, rfl⟩
        have zB : wB.heap.size = pB + 1 := by rw [hwB, hpB]; simp
        have yB0 := cell_thru yA0 hbB
        have yB1 := cell_thru yA1 hbB
        have yB2 := cell_thru yA2 hbB
        have h9B : wB.heap[p9]? = _ := (hbB.block p9 (by have := HzA.out; omega)).trans HhA.out
        have g0 : wB.cell? ⟨p9, 0, none⟩ = some (.int .i64 rk) := by simp [World.cell?, h9B]
        have g1 : wB.cell? ⟨p9, 1, none⟩ = some (.int .i64 r_a) := by simp [World.cell?, h9B]
        have g2 : wB.cell? ⟨p9, 2, none⟩ = some (.int .i64 r_b) := by simp [World.cell?, h9B]
        have g3 : wB.cell? ⟨p9, 3, none⟩ = some (.slice da dn dc) := by simp [World.cell?, h9B]
        have HqB := Lib.hid ((hbB.block q (by have := HzA.out; have := Hp9.out; have := hqz.out; omega)).trans HqrA.out)
        rw [← hpB] at hhB
        have HwB := Lib.hid hwB.symm
        have HhB := Lib.hid hhB
        have HpB := Lib.hid hpB.symm
        have HzB := Lib.hid zB
        have H9B := Lib.hid h9B
        have HbB : RowKit.Hid (Below p9 wr wB) := Lib.hid (HbA.out.trans (hbB.mono (by have := HzA.out; omega)))
        clear hwB hbB hhB hpB zB h9B
        go_upto_region 12 with fail
        rw [HwB.out, HpB.out]
        clear HwB yA0 yA1 yA2
        have hL := HLay.out wB rfl (by have := hs1.out.1; rw [HkN.out] at this ⊢; exact this) (hs1.out.2.below (by decide) (by rw [← Hp9.out] at *; exact HbB.out)) rfl (by have := Hhdc.out; rw [Hdn.out] at this ⊢; exact this) ((Hds.out.mono (by decide) fun k hk hlt => ⟨HbB.out.block k (by rw [← Hp9.out]; exact hlt), by show k ≠ q; omega⟩)) (fun k hk => by have := HzB.out; have := HpB.out; have := HzA.out; have := Hp9.out; have := hqz.out; show k ≠ q; omega) (by have := Hln.out; omega) Hra.out
        have HL := Lib.hid hL
        clear hL
        go_wp2_with fail
        refine HL.out.mono ?_
        rintro e wC ⟨l1, lc1, rfl, hC1, hC2, hbC⟩
        obtain ⟨KK, hKK⟩ : ∃ KK, KK = Vw.lay ⟨kv, kn, kl⟩ ⟨rk, r_a, r_b, rd⟩ := ⟨_, rfl⟩
        rw [← hKK] at hC1 hC2 ⊢
        have HKK := Lib.hid hKK
        obtain ⟨v', n', l'⟩ := KK
        dsimp only at hC1 hC2 ⊢
        obtain ⟨lN, hlN⟩ : ∃ lN, lN = l'.length := ⟨_, rfl⟩
        rw [← hlN] at hC1 ⊢
        have HlN := Lib.hid hlN
        have hqC : wC.heap[q]? = _ := (hbC.block q (by have := HzB.out; have := HpB.out; have := HzA.out; have := Hp9.out; have := hqz.out; omega)).trans HqB.out
        have h9C : wC.heap[p9]? = _ := (hbC.block p9 (by have := HzB.out; have := HpB.out; have := HzA.out; omega)).trans H9B.out
        have hBC : wC.heap[pB]? = _ := (hbC.block pB (by have := HzB.out; omega)).trans HhB.out
        have k0 : wC.cell? ⟨q, 0, none⟩ = some (.int .i64 kv) := by simp [World.cell?, hqC]
        have k1 : wC.cell? ⟨q, 1, none⟩ = some (.int .i64 kn) := by simp [World.cell?, hqC]
        have k2 : wC.cell? ⟨q, 2, none⟩ = some (.slice a1 kN p1) := by simp [World.cell?, hqC]
        have kf : ∀ o, wC.frozen? ⟨q, o, none⟩ = false := fun o => by simp [World.frozen?, hqC]
        obtain ⟨wD, hwD⟩ : ∃ x, x = ((wC.setCell ⟨q, 0, none⟩ (.int .i64 v')).setCell ⟨q, 1, none⟩ (.int .i64 n')).setCell ⟨q, 2, none⟩ (.slice l1 lN lc1) := ⟨_, rfl⟩
        have hoD : Only (· = q) wC wD := by rw [hwD]; exact setg (S := (· = q)) (setg (S := (· = q)) (setg (S := (· = q)) (Only.refl _ wC) rfl 0 _) rfl 1 _) rfl 2 _
        have hqD : wD.heap[q]? = some (.cells #[.int .i64 v', .int .i64 n', .slice l1 lN lc1] 95 (0, 0)) := by rw [hwD, heap_set (heap_set (heap_set hqC 0 _) 1 _) 2 _]; rfl
        have hzC : q < p9 ∧ p9 < pB ∧ pB < wC.heap.size := by have := HzB.out; have := HpB.out; have := HzA.out; have := Hp9.out; have := hqz.out; have := hbC.size; omega
        have h9D : wD.heap[p9]? = _ := (hoD.block p9 (by omega) (by omega)).trans h9C
        have hBD : wD.heap[pB]? = _ := (hoD.block pB (by omega) (by omega)).trans hBC
        have hb2D : Below p9 wr wC := HbB.out.trans (hbC.mono (by have := HzB.out; have := HpB.out; have := HzA.out; omega))
        have hl1 : Sl EBytes (fun b => b ≠ q) wD l1 l' := hC2.mono (by decide) fun k hk hlt => ⟨hoD.block k hlt hk, hk⟩
        have hl2 : Sl EBytes (fun b => b ≠ q) wD a2 kl := (hs2.out.2.below (by decide) (by rw [Hp9.out]; exact hb2D)).mono (by decide) fun k hk hlt => ⟨hoD.block k hlt hk, hk⟩
        have hd2 : Sl EU8 (fun b => b ≠ q) wD da rd := (Hds.out.mono (by decide) fun k hk hlt => ⟨hb2D.block k (by rw [← Hp9.out]; exact hlt), by show k ≠ q; omega⟩ : Sl EU8 (fun b => b ≠ q) wC da rd).mono (by decide) fun k hk hlt => ⟨hoD.block k hlt hk, hk⟩
        have hbwD : Below q w wD := hbw.out.trans ((hb2D.mono (by omega)).trans (hoD.below (by omega) fun k hk => by omega))
        have hzD : wC.heap.size ≤ wD.heap.size := hoD.size
        have g0 : wD.cell? ⟨p9, 0, none⟩ = some (.int .i64 rk) := by simp [World.cell?, h9D]
        have g1 : wD.cell? ⟨p9, 1, none⟩ = some (.int .i64 r_a) := by simp [World.cell?, h9D]
        have g2 : wD.cell? ⟨p9, 2, none⟩ = some (.int .i64 r_b) := by simp [World.cell?, h9D]
        have g3 : wD.cell? ⟨p9, 3, none⟩ = some (.slice da dn dc) := by simp [World.cell?, h9D]
        have m0 : wD.cell? ⟨q, 0, none⟩ = some (.int .i64 v') := by simp [World.cell?, hqD]
        have m1 : wD.cell? ⟨q, 1, none⟩ = some (.int .i64 n') := by simp [World.cell?, hqD]
        have m2 : wD.cell? ⟨q, 2, none⟩ = some (.slice l1 lN lc1) := by simp [World.cell?, hqD]
        have mB : wD.cell? ⟨pB, 2, none⟩ = some (.slice a1 kN p1) := by simp [World.cell?, hBD]
        -- what is looked at in the end, from whatever came of the list
        have hlN2 : lN ≤ 91 := by
          have h1 := Vw.lay_len ⟨kv, kn, kl⟩ ⟨rk, r_a, r_b, rd⟩
          rw [← HKK.out] at h1
          have h2 : l'.length ≤ kl.length + 1 := h1
          have := HkN.out
          have := Hln.out
          omega
        have htail : ∀ (wE : World) (aT : Option Addr) (cT : Nat), Below wD.heap.size wD wE → (lN ≤ cT ∧ cT ≤ maxLen) → Sl EBytes (fun b => b ≠ q) wE aT l' →
            (Calls Try.prog 55 #[.agg #[.int .i64 v', .int .i64 n', .slice l1 lN lc1], .agg #[.int .i64 v', .int .i64 n', .slice aT lN cT]] wE fun e w' => e = .returned (.bool true) ∧ Below wE.heap.size wE w') ∧
            (∀ wF, Below wE.heap.size wE wF → wF.heap[q]? = some (.cells #[.int .i64 v', .int .i64 n', .slice l1 lN lc1] 95 (0, 0)) ∧ Sl EBytes (fun b => b ≠ q) wF l1 l' ∧ Sl EBytes (fun b => b ≠ q) wF aT l' ∧ Below q w wF ∧ q < wF.heap.size ∧ wF.cell? ⟨pB, 2, none⟩ = some (.slice a1 kN p1)) := by
          intro wE aT cT hbE hcT hsT
          have hl1E : Sl EBytes (fun b => b ≠ q) wE l1 l' := hl1.below (by decide) hbE
          refine ⟨law20_same v' n' l' l1 lN lc1 aT cT wE (hl1E.any (by decide)) (hsT.any (by decide)) HlN.out hC1.1 hcT.1 (by omega), fun wF hbF => ?_⟩
          have hDF : Below wD.heap.size wD wF := hbE.trans (hbF.mono hbE.size)
          exact ⟨(hDF.block q (by omega)).trans hqD, hl1E.below (by decide) hbF, hsT.below (by decide) hbF, hbwD.trans (hDF.mono (by omega)), by have := hDF.size; omega, cell_thru mB hDF⟩
        have Htail := Lib.hid htail
        have HwD := Lib.hid hwD.symm
        have HC1 := Lib.hid hC1
        have Hl2 := Lib.hid hl2
        have hd3 : Sl EU8 (fun b => b < q) wD da rd := (Hds.out.mono (by decide) fun k hk hlt => ⟨hb2D.block k (by rw [← Hp9.out]; exact hlt), hk⟩ : Sl EU8 (fun b => b < q) wC da rd).mono (by decide) fun k hk hlt => ⟨hoD.block k hlt (by show k ≠ q; omega), hk⟩
        have Hd3 := Lib.hid hd3
        have HzD : RowKit.Hid (q < wD.heap.size) := Lib.hid (by omega)
        have HmB := Lib.hid mB
        have HcD := Lib.hid (And.intro m0 (And.intro m1 (And.intro m2 (And.intro g0 (And.intro g1 (And.intro g2 g3))))))
        have Hp2 := Lib.hid hs2.out.1
        have hk2 : (kN ≤ p2) := hs2.out.1.1
        clear htail hwD hC1 hl1 hl2 hd2 hd3 hC2 hqC h9C hBC hqD h9D hBD hb2D hbwD hoD hKK hbC hlN
        by_cases e1 : rk = 1
        · subst e1
          have hk := HKK.out
          injection hk with i1 i2 i3
          have f1 : v' = r_a := i1
          have f2 : n' = r_b := i2
          have f3 : l' = kl := i3
          clear i1 i2 i3
          subst f1; subst f2; subst f3
          have hNk : kN = lN := HkN.out.trans HlN.out.symm
          subst hNk
          go_upto_region 14 with fail
          rw [HwD.out]
          clear k0 k1 k2 kf
          go_wp2_with fail
          refine (Htail.out wD a2 p2 (Below.refl _ _) Hp2.out Hl2.out).1.mono ?_
          rintro e wF ⟨rfl, hbF⟩
          obtain ⟨t1, t2, t3, t4, t5, t6⟩ := (Htail.out wD a2 p2 (Below.refl _ _) Hp2.out Hl2.out).2 wF hbF
          have T1 := Lib.hid t1
          have T2 := Lib.hid t2
          have T3 := Lib.hid t3
          have T4 := Lib.hid t4
          have T5 := Lib.hid t5
          clear t1 t2 t3 t4 t5 hbF
          go_wp2_with fail
          go_roundg (rn - (j + 1))
          case measure => rw [hgn.out]; omega
          case rel =>
            refine ⟨j + 1, l1, lc1, a2, p2, Lib.hid rfl, by omega, by go_num, ?_⟩
            rw [Hsucc.out, ← HKK.out]
            dsimp only
            rw [← HlN.out]
            exact ⟨rfl, rfl, rfl, Lib.hid T1.out, Lib.hid ⟨HC1.out, T2.out⟩, Lib.hid ⟨Hp2.out, T3.out⟩, T4, T5⟩
        · by_cases e2 : rk = 2
          · subst e2
            have hk := HKK.out
            have hk2' : Vw.Keep.mk v' n' l' = ⟨kv, kn, kl ++ [rd]⟩ := hk
            injection hk2' with i1 i2 i3
            clear hk
            subst i1; subst i2; subst i3
            have hNk : lN = kN + 1 := by rw [HlN.out, HkN.out, List.length_append]; rfl
            have hfacts : ∀ X : World, Below wD.heap.size wD X → X.cell? ⟨q, 0, none⟩ = some (.int .i64 v') ∧ X.cell? ⟨q, 1, none⟩ = some (.int .i64 n') ∧ X.cell? ⟨q, 2, none⟩ = some (.slice l1 lN lc1) ∧ X.cell? ⟨p9, 3, none⟩ = some (.slice da dn dc) := fun X hX => ⟨cell_thru HcD.out.1 hX, cell_thru HcD.out.2.1 hX, cell_thru HcD.out.2.2.1 hX, cell_thru HcD.out.2.2.2.2.2.2 hX⟩
            have hbX : ∀ (X : World) (o : Obj), Below wD.heap.size wD X → Below wD.heap.size wD (X.alloc o) := fun X o hX => hX.alloc hX.size o
            -- the list as it is taken over
            have hinn : ∀ (X : World) (g0 : Nat), Below wD.heap.size wD X → wD.heap.size ≤ g0 → X.heap[g0]? = some (.cells #[] 49 (0, 0)) → Own (ERes (fun b => b ≠ q) EBytes) 49 wD.heap.size X (.slice (some ⟨g0, 0, none⟩) 0 0) [] ∧ Sl (ERes (fun b => b ≠ q) EBytes) (fun b => some b ≠ (Value.slice (some ⟨g0, 0, none⟩) 0 0).ownBlock) X a2 kl := by
              intro X g0 hX hg hh
              refine ⟨own_at _ _ _ hh hg, ERes.of_sl (Hl2.out.mono (by decide) fun k hk hlt => ⟨hX.block k hlt, ?_, hk⟩)⟩
              simp [Value.ownBlock]; omega
            have hout : ∀ (X : World) (v6 : Value) (gD : Nat) (l : List Vw.Bs), Below wD.heap.size wD X → Own (ERes (fun b => b ≠ q) EBytes) 49 wD.heap.size X v6 l → X.heap[gD]? = some (.cells #[.slice da dn dc] 49 (0, 0)) → some gD ≠ v6.ownBlock → Sl (ERes (fun b => b ≠ q) EBytes) (fun b => some b ≠ v6.ownBlock) X (some ⟨gD, 0, none⟩) [rd] := by
              intro X v6 gD l hX ho hh hne
              refine sl_one hh ?_ hne
              refine ⟨da, dc, by rw [← Hdn.out], by rw [← Hdn.out]; exact Hhdc.out.1, Hhdc.out.2, Hd3.out.mono (by decide) fun k hk hlt => ⟨hX.block k hlt, ?_, by omega⟩⟩
              intro e
              have := (ho.lt k e.symm).1
              omega
            have hkN9 : kN ≤ 91 := by omega
            have Hfacts := Lib.hid hfacts
            have HbX := Lib.hid hbX
            have Hinn := Lib.hid hinn
            have Hout := Lib.hid hout
            have HNk := Lib.hid hNk
            have hA1 := (hfacts _ (hbX _ (.cells #[] 49) (Below.refl _ _))).2.2.2
            have hA2 := (hfacts _ (hbX _ (.cells #[] 49) (Below.refl _ _))).2.2.2
            have HbA := Lib.hid (hbX _ (.cells #[] 49) (Below.refl _ _))
            have HhA' := Lib.hid (heap_alloc_new wD (.cells #[] 49))
            have HbD := Lib.hid (hbX _ (.cells #[.slice da dn dc] 49) (Below.refl _ _))
            have HbAD := Lib.hid (hbX _ (.cells #[.slice da dn dc] 49) (hbX _ (.cells #[] 49) (Below.refl _ _)))
            have HhAD := Lib.hid ((Below.heap_alloc (wD.alloc (.cells #[] 49)) (.cells #[.slice da dn dc] 49) wD.heap.size (by simp)).trans (heap_alloc_new wD (.cells #[] 49)))
            have HhAD2 : RowKit.Hid (((wD.alloc (.cells #[] 49)).alloc (.cells #[.slice da dn dc] 49)).heap[wD.heap.size + 1]? = some (.cells #[.slice da dn dc] 49 (0, 0))) := Lib.hid (by rw [← alloc_size wD (.cells #[] 49)]; exact heap_alloc_new (wD.alloc (.cells #[] 49)) (.cells #[.slice da dn dc] 49))
            have HbDA := Lib.hid (hbX _ (.cells #[] 49) (hbX _ (.cells #[.slice da dn dc] 49) (Below.refl _ _)))
            have HhDA := Lib.hid ((Below.heap_alloc (wD.alloc (.cells #[.slice da dn dc] 49)) (.cells #[] 49) wD.heap.size (by simp)).trans (heap_alloc_new wD (.cells #[.slice da dn dc] 49)))
            have HhDA2 : RowKit.Hid (((wD.alloc (.cells #[.slice da dn dc] 49)).alloc (.cells #[] 49)).heap[wD.heap.size + 1]? = some (.cells #[] 49 (0, 0))) := Lib.hid (by rw [← alloc_size wD (.cells #[.slice da dn dc] 49)]; exact heap_alloc_new (wD.alloc (.cells #[.slice da dn dc] 49)) (.cells #[] 49))
            have P1 := Lib.hid (hinn (wD.alloc (.cells #[] 49)) wD.heap.size HbA.out (by simp) HhA'.out)
            have P1d := Lib.hid (hinn (wD.alloc (.cells #[] 49)).drew wD.heap.size HbA.out.drew (by simp) HhA'.out)
            have P2 := Lib.hid (hinn ((wD.alloc (.cells #[] 49)).alloc (.cells #[.slice da dn dc] 49)) wD.heap.size HbAD.out (by simp) HhAD.out)
            have P2d := Lib.hid (hinn ((wD.alloc (.cells #[] 49)).alloc (.cells #[.slice da dn dc] 49)).drew wD.heap.size HbAD.out.drew (by simp) HhAD.out)
            have P3 := Lib.hid (hinn ((wD.alloc (.cells #[.slice da dn dc] 49)).alloc (.cells #[] 49)) (wD.heap.size + 1) HbDA.out (by omega) HhDA2.out)
            have P3d := Lib.hid (hinn ((wD.alloc (.cells #[.slice da dn dc] 49)).alloc (.cells #[] 49)).drew (wD.heap.size + 1) HbDA.out.drew (by omega) HhDA2.out)
            clear hfacts hbX hinn hout hNk hA2
            go_upto_region 14 with fail
            rw [HwD.out]
            clear k0 k1 k2 kf
            go_wp2_with fail
            go_region_law ((first
              | (rw [if_pos (by simp [Region.wanted])]
                 first
                   | refine step_app (l := []) (l2 := kl) (base := wD.heap.size) (ERes (fun b => b ≠ q) EBytes) (by rfl) (by rfl) (by rfl) (ti_res _) P1.out.1 HkN.out P1.out.2 (by rw [← HkN.out]; unfold maxLen; simp; omega) (by rw [← HkN.out]; simp; omega) (by simp; try omega) ?_
                   | refine step_app (l := []) (l2 := kl) (base := wD.heap.size) (ERes (fun b => b ≠ q) EBytes) (by rfl) (by rfl) (by rfl) (ti_res _) P1d.out.1 HkN.out P1d.out.2 (by rw [← HkN.out]; unfold maxLen; simp; omega) (by rw [← HkN.out]; simp; omega) (by simp; try omega) ?_
                   | refine step_app (l := []) (l2 := kl) (base := wD.heap.size) (ERes (fun b => b ≠ q) EBytes) (by rfl) (by rfl) (by rfl) (ti_res _) P2.out.1 HkN.out P2.out.2 (by rw [← HkN.out]; unfold maxLen; simp; omega) (by rw [← HkN.out]; simp; omega) (by simp; try omega) ?_
                   | refine step_app (l := []) (l2 := kl) (base := wD.heap.size) (ERes (fun b => b ≠ q) EBytes) (by rfl) (by rfl) (by rfl) (ti_res _) P2d.out.1 HkN.out P2d.out.2 (by rw [← HkN.out]; unfold maxLen; simp; omega) (by rw [← HkN.out]; simp; omega) (by simp; try omega) ?_
                   | refine step_app (l := []) (l2 := kl) (base := wD.heap.size) (ERes (fun b => b ≠ q) EBytes) (by rfl) (by rfl) (by rfl) (ti_res _) P3.out.1 HkN.out P3.out.2 (by rw [← HkN.out]; unfold maxLen; simp; omega) (by rw [← HkN.out]; simp; omega) (by simp; try omega) ?_
                   | refine step_app (l := []) (l2 := kl) (base := wD.heap.size) (ERes (fun b => b ≠ q) EBytes) (by rfl) (by rfl) (by rfl) (ti_res _) P3d.out.1 HkN.out P3d.out.2 (by rw [← HkN.out]; unfold maxLen; simp; omega) (by rw [← HkN.out]; simp; omega) (by simp; try omega) ?_
                 all_goals
                   intro v6 w6 ho6 hg6 hv6 hb6
                   have HbD6 : RowKit.Hid (Below wD.heap.size wD w6) := Lib.hid (by first | exact HbA.out.trans hb6 | exact HbA.out.drew.trans hb6 | exact HbAD.out.trans hb6 | exact HbAD.out.drew.trans hb6 | exact HbDA.out.trans hb6 | exact HbDA.out.drew.trans hb6)
                   rw [List.nil_append] at ho6
                   have g36 := (Hfacts.out w6 HbD6.out).2.2.2)
              | (rw [if_pos (by simp [Region.wanted])]
                 first
                   | refine step_app (l := kl) (l2 := [rd]) (base := wD.heap.size) (ERes (fun b => b ≠ q) EBytes) (by rfl) (by rfl) (by rfl) (ti_res _) (ho6.below (alloc_below w6 (.cells #[.slice da dn dc] 49))) rfl (Hout.out _ v6 w6.heap.size kl (HbX.out _ (.cells #[.slice da dn dc] 49) HbD6.out) (ho6.below (alloc_below w6 (.cells #[.slice da dn dc] 49))) (heap_alloc_new w6 _) ho6.fresh) (by rw [← HkN.out]; unfold maxLen; simp; omega) (by rw [← HkN.out]; simp; omega) (by have := HbD6.out.size; simp; omega) ?_
                   | refine step_app (l := kl) (l2 := [rd]) (base := wD.heap.size) (ERes (fun b => b ≠ q) EBytes) (by rfl) (by rfl) (by rfl) (ti_res _) (ho6.below (alloc_below w6 (.cells #[.slice da dn dc] 49)).drew) rfl (Hout.out _ v6 w6.heap.size kl (HbX.out _ (.cells #[.slice da dn dc] 49) HbD6.out).drew (ho6.below (alloc_below w6 (.cells #[.slice da dn dc] 49)).drew) (heap_alloc_new w6 _) ho6.fresh) (by rw [← HkN.out]; unfold maxLen; simp; omega) (by rw [← HkN.out]; simp; omega) (by have := HbD6.out.size; simp; omega) ?_
                   | refine step_app (l := kl) (l2 := [rd]) (base := wD.heap.size) (ERes (fun b => b ≠ q) EBytes) (by rfl) (by rfl) (by rfl) (ti_res _) ho6 rfl (Hout.out w6 v6 (wD.heap.size + 1) kl HbD6.out ho6 (vl_keep hg6 hv6 HhAD2.out (by simp)).1 (vl_keep hg6 hv6 HhAD2.out (by simp)).2) (by rw [← HkN.out]; unfold maxLen; simp; omega) (by rw [← HkN.out]; simp; omega) HbD6.out.size ?_
                   | refine step_app (l := kl) (l2 := [rd]) (base := wD.heap.size) (ERes (fun b => b ≠ q) EBytes) (by rfl) (by rfl) (by rfl) (ti_res _) ho6 rfl (Hout.out w6 v6 wD.heap.size kl HbD6.out ho6 (vl_keep hg6 hv6 HhDA.out (by simp)).1 (vl_keep hg6 hv6 HhDA.out (by simp)).2) (by rw [← HkN.out]; unfold maxLen; simp; omega) (by rw [← HkN.out]; simp; omega) HbD6.out.size ?_
                 all_goals
                   intro v7 w7 ho7 hg7 hv7 hb7
                   have HbD7 : RowKit.Hid (Below wD.heap.size wD w7) := Lib.hid (by first | exact HbD6.out.trans hb7 | exact (HbX.out _ (.cells #[.slice da dn dc] 49) HbD6.out).trans hb7 | exact (HbX.out _ (.cells #[.slice da dn dc] 49) HbD6.out).drew.trans hb7))))
            all_goals
              obtain ⟨a7, c7, rfl, hc7, hs7⟩ := ho7.sl_res (fun k hk => by have := HzD.out; omega)
              rw [← HlN.out] at hc7 ⊢
              obtain ⟨n0, n1, n2, n3⟩ := Hfacts.out w7 HbD7.out
              have Hc7 := Lib.hid hc7
              have Hs7 := Lib.hid hs7
              clear hc7 hs7 ho7 hg7 hv7 hb7 ho6 hg6 hv6 hb6 g36 n3
              go_wp2_with fail
              refine (Htail.out w7 a7 c7 HbD7.out Hc7.out Hs7.out).1.mono ?_
              rintro e wF ⟨rfl, hbF⟩
              obtain ⟨t1, t2, t3, t4, t5, t6⟩ := (Htail.out w7 a7 c7 HbD7.out Hc7.out Hs7.out).2 wF hbF
              have T1 := Lib.hid t1
              have T2 := Lib.hid t2
              have T3 := Lib.hid t3
              have T4 := Lib.hid t4
              have T5 := Lib.hid t5
              clear t1 t2 t3 t4 t5 hbF
              go_wp2_with fail
              go_roundg (rn - (j + 1))
              case measure => rw [hgn.out]; omega
              case rel =>
                refine ⟨j + 1, l1, lc1, a7, c7, Lib.hid rfl, by omega, by go_num, ?_⟩
                rw [Hsucc.out, ← HKK.out]
                dsimp only
                rw [← HlN.out]
                exact ⟨rfl, rfl, rfl, Lib.hid T1.out, Lib.hid ⟨HC1.out, T2.out⟩, Lib.hid ⟨Hc7.out, T3.out⟩, T4, T5⟩
          · by_cases e3 : rk = 3
            · subst e3
              have hjd : ∃ jj : Nat, (min (max r_a 0) (kl.length : Int)).toNat = jj ∧ jj ≤ kN ∧ ((r_a < 0 ∧ jj = 0) ∨ (0 ≤ r_a ∧ (r_a : Int) ≤ kN ∧ jj = r_a.toNat) ∨ (0 ≤ r_a ∧ (kN : Int) < r_a ∧ jj = kN)) := by
                have h0 := HkN.out
                refine ⟨_, rfl, by omega, ?_⟩
                rcases Int.lt_or_le r_a 0 with h | h
                · exact .inl ⟨h, by omega⟩
                · rcases Int.lt_or_le (kN : Int) r_a with h2 | h2
                  · exact .inr (.inr ⟨h, h2, by omega⟩)
                  · exact .inr (.inl ⟨h, h2, by omega⟩)
              obtain ⟨jj, hjj, hjk, hjc⟩ := hjd
              have hk := HKK.out
              have hk2' : Vw.Keep.mk v' n' l' = ⟨kv, kn, kl.take jj⟩ := by
                rw [hk]
                show Vw.Keep.mk kv kn (kl.take (min (max r_a 0) (kl.length : Int)).toNat) = _
                rw [hjj]
              injection hk2' with i1 i2 i3
              clear hk
              subst i1; subst i2; subst i3
              have hNk : lN = jj := by rw [HlN.out, List.length_take, ← HkN.out]; omega
              subst hNk
              have HSl : RowKit.Hid (Sl EBytes (fun b => b ≠ q) (wD.alloc (.cells #[] 49)) a2 (kl.take lN)) := Lib.hid (by
                intro i x hx
                rw [List.getElem?_take] at hx
                split at hx
                · exact (Hl2.out.alloc (by decide) _) i x hx
                · cases hx)
              have HokA : RowKit.Hid (∀ k, (wD.alloc (.cells #[] 49)).heap.size ≤ k → k ≠ q) := Lib.hid (fun k hk => by have := HzD.out; simp at hk; omega)
              have HbA2 : RowKit.Hid (Below wD.heap.size wD (wD.alloc (.cells #[] 49))) := Lib.hid (alloc_below _ _)
              have Hjj := Lib.hid hjj
              clear hjj
              rcases hjc with ⟨h1, rfl⟩ | ⟨h1, h2, rfl⟩ | ⟨h1, h2, rfl⟩
              all_goals
                go_upto_region 14 with fail
                rw [HwD.out]
                clear k0 k1 k2 kf
                go_wp2_with (first
                  | (refine wpList_app_copy (ok := fun b => b ≠ q) EBytes rfl rfl (by rfl) (by rfl) ti_texts HlN.out HSl.out HokA.out (by rw [← HlN.out]; unfold maxLen; omega) (by rw [← HlN.out]; omega) ?_
                     intro aE cE wE hcE hsE hbE
                     have hbDE := HbA2.out.trans (hbE.mono HbA2.out.size)
                     have mE0 := cell_thru HcD.out.1 hbDE
                     have mE1 := cell_thru HcD.out.2.1 hbDE
                     have mE2 := cell_thru HcD.out.2.2.1 hbDE
                     have HbDE := Lib.hid hbDE
                     have HcE := Lib.hid hcE
                     have HsE := Lib.hid hsE
                     clear hbDE hcE hsE hbE))
                refine (Htail.out wE aE cE HbDE.out HcE.out HsE.out).1.mono ?_
                rintro e wF ⟨rfl, hbF⟩
                obtain ⟨t1, t2, t3, t4, t5, t6⟩ := (Htail.out wE aE cE HbDE.out HcE.out HsE.out).2 wF hbF
                have T1 := Lib.hid t1
                have T2 := Lib.hid t2
                have T3 := Lib.hid t3
                have T4 := Lib.hid t4
                have T5 := Lib.hid t5
                clear t1 t2 t3 t4 t5 hbF
                go_wp2_with fail
                go_roundg (rn - (j + 1))
                case measure => rw [hgn.out]; omega
                case rel =>
                  refine ⟨j + 1, l1, lc1, aE, cE, Lib.hid rfl, by omega, by go_num, ?_⟩
                  rw [Hsucc.out, ← HKK.out]
                  dsimp only
                  rw [← HlN.out]
                  exact ⟨rfl, rfl, rfl, Lib.hid T1.out, Lib.hid ⟨HC1.out, T2.out⟩, Lib.hid ⟨HcE.out, T3.out⟩, T4, T5⟩
            · have f := HKK.out
              have hk : Vw.Keep.mk v' n' l' = ⟨kv, kn, kl⟩ := by rw [f]; unfold Vw.lay; simp [e1, e2, e3]
              injection hk with f1 f2 f3
              subst f1; subst f2; subst f3
              have hNk : kN = lN := HkN.out.trans HlN.out.symm
              subst hNk
              have b1 : (rk == 1) = false := by simpa using e1
              have b2 : (rk == 2) = false := by simpa using e2
              have b3 : (rk == 3) = false := by simpa using e3
              clear f
              go_upto_region 14 with fail
              rw [HwD.out]
              clear k0 k1 k2 kf
              go_wp2_with fail
              refine (Htail.out wD a2 p2 (Below.refl _ _) Hp2.out Hl2.out).1.mono ?_
              rintro e wF ⟨rfl, hbF⟩
              obtain ⟨t1, t2, t3, t4, t5, t6⟩ := (Htail.out wD a2 p2 (Below.refl _ _) Hp2.out Hl2.out).2 wF hbF
              have T1 := Lib.hid t1
              have T2 := Lib.hid t2
              have T3 := Lib.hid t3
              have T4 := Lib.hid t4
              have T5 := Lib.hid t5
              clear t1 t2 t3 t4 t5 hbF
              go_wp2_with fail
              go_roundg (rn - (j + 1))
              case measure => rw [hgn.out]; omega
              case rel =>
                refine ⟨j + 1, l1, lc1, a2, p2, Lib.hid rfl, by omega, by go_num, ?_⟩
                rw [Hsucc.out, ← HKK.out]
                dsimp only
                rw [← HlN.out]
                exact ⟨rfl, rfl, rfl, Lib.hid T1.out, Lib.hid ⟨HC1.out, T2.out⟩, Lib.hid ⟨Hp2.out, T3.out⟩, T4, T5⟩
      · have hji : ¬ ((j : Int) < (rn : Int)) := by omega
        go_wp2_with fail
        go_ret
        exact ⟨rfl, hbw.out⟩
  · by_cases h60 : rn ≤ 60
    · have h30 : (30 : Int) < (ln : Int) := by omega
      have hri : ¬ ((60 : Int) < (rn : Int)) := by omega
      clear hbig
      go_wp2_with fail
      go_ret
      exact ⟨rfl, Hbw.out⟩
    · have hri : ((60 : Int) < (rn : Int)) := by omega
      clear hbig
      go_wp2_with fail
      go_ret
      exact ⟨rfl, Hbw.out⟩
end Go.Proofs.Ytmmgnbdngpkfcaa

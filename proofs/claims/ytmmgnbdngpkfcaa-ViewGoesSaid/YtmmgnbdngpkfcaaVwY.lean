/-
  What lasts of a member now, walked.
-/
import Derived.Test.YtmmgnbdngpkfcaaVaS
namespace Go.Proofs.Ytmmgnbdngpkfcaa
open Go.RowKit
set_option linter.unusedVariables false

theorem own_res_only {α : Type} {s : Nat → Prop} {E : Enc α} {te base p : Nat} {w w' : World} {v : Value} {l : List α} (h : Own (ERes s E) te base w v l) (ho : Only (· = p) w w') (hs : ¬ s p) (hp : p < base) : Own (ERes s E) te base w' v l := by
  rcases h with h | ⟨g, cap, cur, hv, hg, hh, h1, h2, h3, h4⟩
  · exact .inl h
  · refine .inr ⟨g, cap, cur, hv, hg, (ho.block g (Array.getElem?_eq_some_iff.1 hh).1 (by omega)).trans hh, h1, h2, h3, fun k x hx => ?_⟩
    obtain ⟨cs, hr, hc⟩ := h4 k x hx
    exact ⟨cs, E.mono hr fun b hb hlt => ⟨ho.block b hlt (fun e => hs (by rw [← e]; exact hb.2)), hb⟩, hc⟩
set_option maxRecDepth 16384 in
set_option maxHeartbeats 6400000 in
theorem vw_Keeps {M : Col} {g : Nat} {c : Vw.Core} (w : World) (h : VwAt M w g c) :
    Calls Try.prog 62 #[.pointer (some ⟨g, 0, none⟩)] w fun e w' => ∃ a' c', e = .returned (.agg #[.int .i64 c.keep.view, .int .i64 c.keep.normal, .slice a' c.keep.log.length c']) ∧ ((c.keep.log.length ≤ c' ∧ c' ≤ maxLen) ∧ Sl EBytes (fun _ => True) w' a' c.keep.log) ∧ Below w.heap.size w w' := by
  obtain ⟨L, h⟩ := h
  obtain ⟨w1, hw1⟩ : ∃ x, x = w.alloc (.cells #[.int .i64 0, .int .i64 0, .slice none 0 0] 95) := ⟨_, rfl⟩
  have hb1 : Below w.heap.size w w1 := by rw [hw1]; exact alloc_below _ _
  have hh1 : w1.heap[w.heap.size]? = some (.cells #[.int .i64 0, .int .i64 0, .slice none 0 0] 95 (0, 0)) := by rw [hw1]; exact heap_alloc_new w _
  have h1 := h.below hb1
  obtain ⟨q, hq⟩ : ∃ q, q = w.heap.size := ⟨_, rfl⟩
  have hz1 : w1.heap.size = q + 1 := by rw [hw1, hq]; simp
  rw [← hq] at hh1 hb1 ⊢
  have hgq : g < q := by rw [hq]; exact h.lt
  have y5 := h1.c5
  have y6 := h1.c6
  have y5A := cell_thru y5 (alloc_below w1 (.cells #[.int .i64 0, .int .i64 0, .slice none 0 0] 95))
  have y6A := cell_thru y6 (alloc_below w1 (.cells #[.int .i64 0, .int .i64 0, .slice none 0 0] 95))
  have Hw1 := Lib.hid hw1.symm
  have Hq := Lib.hid hq.symm
  have H := Lib.hid h
  have H1 := Lib.hid h1
  have Hh1 := Lib.hid hh1
  have Hz1 := Lib.hid hz1
  have Hb1 := Lib.hid hb1
  clear hw1 hq h h1 hh1 hz1 hb1
  go_enter Try.func62, Try.ntmps62
  go_upto_region 1 with fail
  rw [Hw1.out, Hq.out]
  clear Hw1
  go_wp2_with fail
  go_region
  obtain ⟨w2, hw2⟩ : ∃ x, x = (w1.alloc (.cells #[.int .i64 c.keep.view, .int .i64 c.keep.normal, .slice none 0 0] 95)).drew := ⟨_, rfl⟩
  have hb2 : Below w1.heap.size w1 w2 := by rw [hw2]; exact (alloc_below w1 _).drew
  have hh2 : w2.heap[w1.heap.size]? = some (.cells #[.int .i64 c.keep.view, .int .i64 c.keep.normal, .slice none 0 0] 95 (0, 0)) := by rw [hw2]; exact heap_alloc_new w1 _
  have hz2 : w2.heap.size = q + 2 := by rw [hw2]; show (w1.alloc _).heap.size = _; rw [alloc_size, Hz1.out]
  obtain ⟨p, hp⟩ : ∃ p, p = w1.heap.size := ⟨_, rfl⟩
  have hpq : p = q + 1 := by rw [hp, Hz1.out]
  have h2 := H1.out.below hb2
  rw [← hw2]
  rw [← hp] at hh2 ⊢
  obtain ⟨LN, hLN⟩ : ∃ LN, LN = c.keep.log.length := ⟨_, rfl⟩
  have y7 : w2.cell? ⟨g, 7, none⟩ = some (.slice L.la LN L.lc) := by rw [hLN]; exact h2.c7
  have hl2 : LN ≤ 2000 := by rw [hLN]; exact h2.right.log.1
  have hlog : Sl EBytes (fun b => b < q) w2 L.la c.keep.log := by
    refine H.out.p.log.mono (by decide) fun k _ hk => ⟨?_, by have := Hq.out; omega⟩
    have e1 := Hb1.out.block k (by have := Hq.out; omega)
    exact (hb2.block k (by have := Hz1.out; have := Hq.out; omega)).trans e1
  have Hsmall := Lib.hid h2.right.log.2
  have hq2 : w2.heap[q]? = some (.cells #[.int .i64 0, .int .i64 0, .slice none 0 0] 95 (0, 0)) := (hb2.block q (by have := Hz1.out; omega)).trans Hh1.out
  have hbq : Below q w w2 := Hb1.out.trans (hb2.mono (by have := Hz1.out; omega))
  obtain ⟨LA, hLA⟩ : ∃ LA, LA = L.la := ⟨_, rfl⟩
  rw [← hLA] at y7 hlog
  have Hlog := Lib.hid hlog
  have Hh2 := Lib.hid hh2
  have Hq2 := Lib.hid hq2
  have Hbq := Lib.hid hbq
  have HLN := Lib.hid hLN
  have Hz2 := Lib.hid hz2
  have Hpq := Lib.hid hpq
  clear hw2 hb2 hh2 hz2 hp hpq h2 hLN hlog hq2 hbq hLA y5 y6 y5A y6A
  go_wp2_with fail
  go_loopg [26] LN (fun gn i wr => ∃ (j : Nat) (a : Option Addr) (n cc : Nat), RowKit.Hid (gn = LN - j) ∧ j ≤ LN ∧ i = .int .i64 j ∧ RowKit.Hid (Own (ERes (fun b => b ≠ q ∧ b ≠ p) EBytes) 49 (q + 2) wr (.slice a n cc) (c.keep.log.take j)) ∧ RowKit.Hid (wr.heap[p]? = some (.cells #[.int .i64 c.keep.view, .int .i64 c.keep.normal, .slice a n cc] 95 (0, 0))) ∧ RowKit.Hid (Only (· = p) w2 wr))
  case atStart => exact ⟨0, none, 0, 0, Lib.hid rfl, Nat.zero_le _, rfl, Lib.hid (Own.nil _ _ _ _), Hh2, Lib.hid (Only.refl _ _)⟩
  case round =>
    obtain ⟨j, a, n, cc, hgn, hj, rfl, ho, hpr, honly⟩ := hrel
    have hzr := honly.out.size
    have hlogr : Sl EBytes (fun b => b < q) wr LA c.keep.log := Hlog.out.mono (by decide) fun k hk hlt => ⟨honly.out.block k hlt (by have := Hpq.out; omega), hk⟩
    have hqr : wr.heap[q]? = some (.cells #[.int .i64 0, .int .i64 0, .slice none 0 0] 95 (0, 0)) := (honly.out.block q (by have := Hz2.out; omega) (by have := Hpq.out; omega)).trans Hq2.out
    have p0 : wr.cell? ⟨p, 0, none⟩ = some (.int .i64 c.keep.view) := by simp [World.cell?, hpr.out]
    have p1 : wr.cell? ⟨p, 1, none⟩ = some (.int .i64 c.keep.normal) := by simp [World.cell?, hpr.out]
    have p2 : wr.cell? ⟨p, 2, none⟩ = some (.slice a n cc) := by simp [World.cell?, hpr.out]
    by_cases hlt : j < LN
    · have hji : (j : Int) < (LN : Int) := by omega
      have hjn : j < c.keep.log.length := by rw [← HLN.out]; exact hlt
      obtain ⟨b, o, a2, c2, rfl, hbq', hcell, hc2, hs2⟩ := byts_atG hlogr j hjn
      have hsm := Hsmall.out _ (List.getElem_mem hjn)
      obtain ⟨E, hE⟩ : ∃ E, E = c.keep.log[j] := ⟨_, rfl⟩
      rw [← hE] at hcell hc2 hs2 hsm
      have hown := ho.out.lt
      have hok : ∀ k, wr.heap.size ≤ k → (some k ≠ (Value.slice a n cc).ownBlock ∧ k ≠ q ∧ k ≠ p) := fun k hk => by
        refine ⟨fun e => ?_, by have := Hz2.out; omega, by have := Hz2.out; have := Hpq.out; omega⟩
        have := (hown k e.symm).2; omega
      have hCl := vw_cloneB (fun k => some k ≠ (Value.slice a n cc).ownBlock ∧ k ≠ q ∧ k ≠ p) a2 E.length c2 E wr.drew rfl (hs2.mono (by decide) fun k hk hlt => ⟨rfl, fun e => by have := (hown k e.symm).1; omega, by omega, by have := Hpq.out; omega⟩) hok (Nat.le_trans hsm (by decide))
      have hitem : ∀ (w4 : World) (a5 : Option Addr) (c5 : Nat), Below wr.heap.size wr w4 → (E.length ≤ c5 ∧ c5 ≤ maxLen) → Sl EU8 (fun k => some k ≠ (Value.slice a n cc).ownBlock ∧ k ≠ q ∧ k ≠ p) w4 a5 E → ∀ X : World, (X = (w4.alloc (.cells #[.slice a5 E.length c5] 49)) ∨ X = (w4.alloc (.cells #[.slice a5 E.length c5] 49)).drew) →
          Own (ERes (fun b => b ≠ q ∧ b ≠ p) EBytes) 49 (q + 2) X (.slice a n cc) (c.keep.log.take j) ∧ Sl (ERes (fun b => b ≠ q ∧ b ≠ p) EBytes) (fun b => some b ≠ (Value.slice a n cc).ownBlock) X (some ⟨w4.heap.size, 0, none⟩) [E] ∧ q + 2 ≤ X.heap.size ∧ X.cell? ⟨p, 2, none⟩ = some (.slice a n cc) ∧ X.frozen? ⟨p, 2, none⟩ = false ∧ Below wr.heap.size wr X := by
        intro w4 a5 c5 hb4 hc5 hs5 X hX
        have hbX : Below w4.heap.size w4 X := by rcases hX with rfl | rfl; exact alloc_below _ _; exact (alloc_below _ _).drew
        have hhX : X.heap[w4.heap.size]? = some (.cells #[.slice a5 E.length c5] 49 (0, 0)) := by rcases hX with rfl | rfl; exact heap_alloc_new w4 _; exact heap_alloc_new w4 _
        have hall : Below wr.heap.size wr X := hb4.trans (hbX.mono hb4.size)
        have hpX : X.heap[p]? = _ := (hall.block p (Array.getElem?_eq_some_iff.1 hpr.out).1).trans hpr.out
        exact ⟨ho.out.below hall, sl_one hhX ⟨a5, c5, rfl, hc5.1, hc5.2, hs5.below (by decide) hbX⟩ (hok _ hb4.size).1, by have := hall.size; have := Hz2.out; omega, by simp [World.cell?, hpX], by simp [World.frozen?, hpX], hall⟩
      have HCl := Lib.hid hCl
      have Hitem := Lib.hid hitem
      have HE := Lib.hid hE
      have Hthru := Lib.hid (fun (w4 : World) (hb : Below wr.heap.size wr w4) => cell_thru p2 hb)
      have HthruA := Lib.hid (fun (w4 : World) (o : Obj) (hb : Below wr.heap.size wr w4) => cell_thru (cell_thru p2 hb) (alloc_below w4 o))
      have hjlen : (c.keep.log.take j).length = j := by rw [List.length_take]; omega
      have Hjlen := Lib.hid hjlen
      clear hCl hitem hE hown hok hs2 hc2 hsm hbq' hjlen p0 p1 hqr hlogr
      go_wp2_with fail
      go_region_law ((first
        | (go_simp
           go_at_call 95
           refine HCl.out.mono ?_
           rintro e w4 ⟨a5, c5, rfl, hc5, hs5, hb5⟩
           have Hb4 : RowKit.Hid (Below wr.heap.size wr w4) := Lib.hid ((Below.refl _ wr).drew.trans hb5)
           have k4 := Hthru.out w4 Hb4.out
           have k4A := HthruA.out w4 (.cells #[.slice a5 E.length c5] 49) Hb4.out)
        | (rw [if_pos (by simp [Region.wanted])]
           refine step_app (l := c.keep.log.take j) (l2 := [E]) (base := q + 2) (ERes (fun b => b ≠ q ∧ b ≠ p) EBytes) (by rfl) (by rfl) (by rfl) (ti_res _) (Hitem.out w4 a5 c5 Hb4.out hc5 hs5 _ (by first | exact .inl rfl | exact .inr rfl)).1 rfl (Hitem.out w4 a5 c5 Hb4.out hc5 hs5 _ (by first | exact .inl rfl | exact .inr rfl)).2.1 (by rw [Hjlen.out]; unfold maxLen; simp; omega) (by rw [Hjlen.out]; simp; omega) (Hitem.out w4 a5 c5 Hb4.out hc5 hs5 _ (by first | exact .inl rfl | exact .inr rfl)).2.2.1 ?_
           intro v6 w6 ho6 hg6 hv6 hb6
           obtain ⟨n6, hn6⟩ : ∃ n6, n6 = (c.keep.log.take j ++ [E]).length := ⟨_, rfl⟩
           obtain ⟨a6, c6, rfl, _, _, _, ho7⟩ := ho6.shape n6 hn6
           clear hn6 ho6
           have hX6 : ∃ X, (X = (w4.alloc (.cells #[.slice a5 E.length c5] 49)) ∨ X = (w4.alloc (.cells #[.slice a5 E.length c5] 49)).drew) ∧ Below (q + 2) X w6 := ⟨_, by first | exact .inl rfl | exact .inr rfl, hb6⟩
           have k6 : w6.cell? ⟨p, 2, none⟩ = some (.slice a n cc) := by
             obtain ⟨X, e, hb⟩ := hX6
             rw [hb.cell (p := ⟨p, 2, none⟩) (by show p < q + 2; have := Hpq.out; omega)]
             exact (Hitem.out w4 a5 c5 Hb4.out hc5 hs5 X e).2.2.2.1
           have kf6 : w6.frozen? ⟨p, 2, none⟩ = false := by
             obtain ⟨X, e, hb⟩ := hX6
             rw [hb.frozen (p := ⟨p, 2, none⟩) (by show p < q + 2; have := Hpq.out; omega)]
             exact (Hitem.out w4 a5 c5 Hb4.out hc5 hs5 X e).2.2.2.2.1)))
      all_goals
        have hp6 : w6.heap[p]? = some (.cells #[.int .i64 c.keep.view, .int .i64 c.keep.normal, .slice a n cc] 95 (0, 0)) ∧ Only (· = p) w2 w6 := by
          obtain ⟨X, e, hb⟩ := hX6
          have hall := (Hitem.out w4 a5 c5 Hb4.out hc5 hs5 X e).2.2.2.2.2
          have hpX : X.heap[p]? = _ := (hall.block p (Array.getElem?_eq_some_iff.1 hpr.out).1).trans hpr.out
          refine ⟨(hb.block p (by have := Hpq.out; omega)).trans hpX, ?_⟩
          have o1 : Only (fun k => q + 2 ≤ k) X w6 := ⟨hb.os, hb.tape, hb.output, hb.size, fun k hk hn => hb.block k (by omega)⟩
          exact (honly.out.trans (Below.only (S := fun _ => False) hall) fun _ _ h => h.elim).trans o1 fun k hk h => by have := Hz2.out; omega
        have hrel2 : RowKit.Hid (Own (ERes (fun b => b ≠ q ∧ b ≠ p) EBytes) 49 (q + 2) (w6.setCell ⟨p, 2, none⟩ (.slice a6 n6 c6)) (.slice a6 n6 c6) (c.keep.log.take (j + 1)) ∧ (w6.setCell ⟨p, 2, none⟩ (.slice a6 n6 c6)).heap[p]? = some (.cells #[.int .i64 c.keep.view, .int .i64 c.keep.normal, .slice a6 n6 c6] 95 (0, 0)) ∧ Only (· = p) w2 (w6.setCell ⟨p, 2, none⟩ (.slice a6 n6 c6))) := Lib.hid (by
          have op := setg (S := (· = p)) (Only.refl _ w6) rfl 2 (.slice a6 n6 c6)
          refine ⟨?_, by rw [heap_set hp6.1 2 _]; rfl, hp6.2.trans op fun _ _ h => h⟩
          have e : c.keep.log.take (j + 1) = c.keep.log.take j ++ [E] := by rw [List.take_add_one, List.getElem?_eq_getElem hjn, HE.out]; rfl
          rw [e]
          exact own_res_only ho7 op (fun h => h.2 rfl) (by have := Hpq.out; omega))
        have hadd : IntKind.i64.wrap ((j : Int) + 1) = (j : Int) + 1 := IntWalk.i64_in _ (by omega)
        clear hp6 ho7 hX6 k6 kf6 k4 k4A hg6 hv6 hb6 hc5 hs5 hb5 ho
        go_wp2_with fail
        go_roundg (LN - (j + 1))
        case measure => rw [hgn.out]; omega
        case rel => exact ⟨j + 1, a6, n6, c6, Lib.hid rfl, by omega, by go_num, Lib.hid hrel2.out.1, Lib.hid hrel2.out.2.1, Lib.hid hrel2.out.2.2⟩
    · have hji : ¬ ((j : Int) < (LN : Int)) := by omega
      have hjl : c.keep.log.take j = c.keep.log := List.take_of_length_le (by rw [← HLN.out]; omega)
      obtain ⟨a', c', e, hc', hs'⟩ := ho.out.sl_res (fun k hk => by have := Hpq.out; omega)
      rw [hjl] at e hc' hs'
      injection e with e1 e2 e3
      subst e1; subst e2; subst e3
      have q0 : wr.cell? ⟨q, 0, none⟩ = some (.int .i64 0) := by simp [World.cell?, hqr]
      have q1 : wr.cell? ⟨q, 1, none⟩ = some (.int .i64 0) := by simp [World.cell?, hqr]
      have q2 : wr.cell? ⟨q, 2, none⟩ = some (.slice none 0 0) := by simp [World.cell?, hqr]
      have qf : ∀ o, wr.frozen? ⟨q, o, none⟩ = false := fun o => by simp [World.frozen?, hqr]
      have hW : ∀ W, W = (((wr.setCell ⟨q, 0, none⟩ (.int .i64 c.keep.view)).setCell ⟨q, 1, none⟩ (.int .i64 c.keep.normal)).setCell ⟨q, 2, none⟩ (.slice a c.keep.log.length cc)) → W.heap[q]? = some (.cells #[.int .i64 c.keep.view, .int .i64 c.keep.normal, .slice a c.keep.log.length cc] 95 (0, 0)) ∧ Sl EBytes (fun _ => True) W a c.keep.log ∧ Below q w W := by
        rintro W rfl
        have oq := setg (S := (· = q)) (setg (S := (· = q)) (setg (S := (· = q)) (Only.refl _ wr) rfl 0 (.int .i64 c.keep.view)) rfl 1 (.int .i64 c.keep.normal)) rfl 2 (.slice a c.keep.log.length cc)
        refine ⟨by rw [heap_set (heap_set (heap_set hqr 0 _) 1 _) 2 _]; rfl, hs'.mono (by decide) fun k hk hlt => ⟨oq.block k hlt hk.1, trivial⟩, ?_⟩
        exact Hbq.out.trans ((honly.out.below (B := q) (by have := Hz2.out; omega) fun k hk => by have := Hpq.out; omega).trans (oq.below (B := q) (by have := Hz2.out; omega) fun k hk => by omega))
      have HW := Lib.hid hW
      have Hc' := Lib.hid hc'
      clear hW hc' hs' ho hqr hlogr hpr hjl
      go_wp2_with fail
      obtain ⟨g1, g2, g3⟩ := HW.out _ rfl
      refine bodyPost_ret (v := .agg #[.int .i64 c.keep.view, .int .i64 c.keep.normal, .slice a c.keep.log.length cc]) (results_cell_row Try.results62 _ _ q 95 _ (0, 0) _ rfl g1 Try.underlying95 rfl (by kernel_rfl)) rfl ?_
      exact ⟨a, cc, rfl, ⟨Hc'.out, g2⟩, g3⟩
end Go.Proofs.Ytmmgnbdngpkfcaa

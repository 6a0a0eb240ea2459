/-
  A member knows that entries are done, walked.
-/
import Derived.Test.YtmmgnbdngpkfcaaVwE
namespace Go.Proofs.Ytmmgnbdngpkfcaa
open Go.RowKit
set_option linter.unusedVariables false

theorem byts_atG {ok : Nat → Prop} {w : World} {a : Option Addr} {l : List (List (BitVec 8))} (h : Sl EBytes ok w a l) (k : Nat) (hk : k < l.length) :
    ∃ b o a2 c2, a = some ⟨b, o, none⟩ ∧ ok b ∧ w.cell? ⟨b, o + k, none⟩ = some (.slice a2 l[k].length c2) ∧ (l[k].length ≤ c2 ∧ c2 ≤ maxLen) ∧ Sl EU8 ok w a2 l[k] := by
  obtain ⟨b, o, rfl, hb, cs, hr, hc⟩ := h k l[k] (List.getElem?_eq_getElem hk)
  obtain ⟨a2, c2, rfl, h1, h2, h3⟩ := hr
  refine ⟨b, o, a2, c2, rfl, hb, ?_, ⟨h1, h2⟩, h3⟩
  have := hc 0 _ rfl
  simpa [EBytes, ESlice] using this
theorem done_end {M M1 : Col} {X w1 : World} {g : Nat} {c : Vw.Core} {L : Lo} {v : Value} {l : List Vw.Bs} (h : VwL M X g c L) (t : Turn 7 M X M1 w1) (ho : OwnV M1 7 EBytes 49 w1 v l) :
    (VwL M1 (w1.setCell ⟨g, 16, none⟩ v) g { c with done := l } { L with dv := v }) ∧ Fr M X M1 (w1.setCell ⟨g, 16, none⟩ v) := by
  have hp := h.p.turn7 t ho
  have hr : w1.heap[g]? = _ := (t.block h.lt (by rw [h.gc]; decide)).trans h.row
  have hg : M1 g = 1 := (t.old g h.lt).trans h.gc
  have t1 : Turn 1 M1 w1 M1 (w1.setCell ⟨g, 16, none⟩ v) := Turn.of_only (turn_dom h.p.dom t) (setg (S := (· = g)) (Only.refl _ w1) rfl 16 v) fun k hk => by rw [hk]; exact hg
  exact ⟨⟨by rw [heap_set hr 16 v]; rfl, hg, hp.turn1 t1, ⟨h.right.n, h.right.me, h.right.pat, h.right.view, h.right.log, h.right.commit, h.right.idle, h.right.begun, h.right.dos, h.right.has⟩⟩, (t.fr (by decide)).trans (t1.fr (by decide))⟩
theorem commit_fold {M : Col} {w : World} {g : Nat} {c : Vw.Core} {L : Lo} (k : Nat) (h : VwL M w g c L) (hk : k ≤ 2000) :
    VwL M (w.setCell ⟨g, 9, none⟩ (.int .i64 k)) g { c with commit := k } L ∧ Fr M w M (w.setCell ⟨g, 9, none⟩ (.int .i64 k)) :=
  h.put (setg (S := (· = g)) (Only.refl _ w) rfl 9 _) (by rw [heap_set h.row 9 _]; rfl) ⟨h.p.dom, h.p.lc, h.p.log, h.p.hc, h.p.has, h.p.bc, h.p.begun, h.p.dc, h.p.dos, h.p.recs, h.p.msgs, h.p.done⟩ ⟨h.right.n, h.right.me, h.right.pat, h.right.view, h.right.log, hk, h.right.idle, h.right.begun, h.right.dos, h.right.has⟩
namespace Vw
/-- behind j entries -/
def Core.reachTo (c : Core) (j : Nat) : Core := { c with commit := j, done := c.done ++ (c.keep.log.take j).drop c.commit }
theorem Core.reach_eq (c : Core) (k : Int) : c.reach k = c.reachTo (max c.commit (min k (c.keep.log.length : Int)).toNat) := rfl
theorem Core.reachTo_self (c : Core) : c.reachTo c.commit = c := by
  unfold Core.reachTo
  rw [List.drop_eq_nil_of_le (by simp; omega), List.append_nil]
theorem Core.reachTo_succ (c : Core) (j : Nat) (h1 : c.commit ≤ j) (h2 : j < c.keep.log.length) : (c.reachTo (j + 1)) = { (c.reachTo j) with commit := j + 1, done := (c.reachTo j).done ++ [c.keep.log[j]] } := by
  unfold Core.reachTo
  simp only [List.append_assoc]
  congr 2
  rw [List.take_add_one, List.drop_append_of_le_length (by simp; omega)]
  simp [h2]
end Vw
set_option maxRecDepth 4096 in
set_option maxHeartbeats 12800000 in
theorem vw_reach {M : Col} {g : Nat} {c : Vw.Core} (w : World) (h : VwAt M w g c) (k : Int) (hlen : c.done.length ≤ 1000000) :
    Calls Try.prog 133 #[.pointer (some ⟨g, 0, none⟩), .int .i64 k] w fun e w' => e = .returned (.tuple #[]) ∧ VwTo M w w' g (c.reach k) := by
  obtain ⟨J, hJ⟩ : ∃ J, J = max c.commit (min k (c.keep.log.length : Int)).toNat := ⟨_, rfl⟩
  have hJc : c.commit ≤ J := by omega
  have hl2 : c.keep.log.length ≤ 2000 := by obtain ⟨L, h⟩ := h; exact h.right.log.1
  rw [c.reach_eq, ← hJ]
  have H := Lib.hid h
  have HJ := Lib.hid hJ
  have Hlen := Lib.hid hlen
  have Hl2 := Lib.hid hl2
  clear h hlen hl2
  go_enter Try.func133, Try.ntmps133
  go_wp2_with fail
  go_loopg [] (J - c.commit) (fun gn wr => ∃ j : Nat, RowKit.Hid (gn = J - j) ∧ c.commit ≤ j ∧ j ≤ J ∧ RowKit.Hid (VwTo M w wr g (c.reachTo j)))
  case atStart => exact ⟨c.commit, Lib.hid rfl, Nat.le_refl _, hJc, Lib.hid (by rw [c.reachTo_self]; exact ⟨M, H.out, Fr.refl _ _⟩)⟩
  case round =>
    obtain ⟨j, hgn, hj1, hj2, hv⟩ := hrel
    obtain ⟨M1, ⟨L, h1⟩, f1⟩ := hv.out
    clear hv
    have hkeep : (c.reachTo j).keep = c.keep := rfl
    obtain ⟨mk, hmk⟩ : ∃ mk : Int, min k (c.keep.log.length : Int) = mk := ⟨_, rfl⟩
    have hite : (if (c.keep.log.length : Int) < k then (c.keep.log.length : Int) else k) = mk := by rw [← hmk]; split <;> omega
    have Hite := Lib.hid hite
    clear hite
    have y7 : wr.cell? ⟨g, 7, none⟩ = some (.slice L.la c.keep.log.length L.lc) := h1.c7
    have y9 : wr.cell? ⟨g, 9, none⟩ = some (.int .i64 (j : Int)) := h1.c9
    have Hh0 := Lib.hid h1
    clear h1
    go_wp2_with fail
    go_region
    simp only [Hite.out]
    obtain ⟨wa, hwa⟩ : ∃ x, x = wr.drew := ⟨_, rfl⟩
    rw [← hwa]
    have h1 : VwL M1 wa g (c.reachTo j) L := by rw [hwa]; exact Hh0.out.drew
    have f1 : Fr M w M1 wa := by rw [hwa]; exact f1.drew
    clear y7 y9 Hh0 hwa
    have y7 : wa.cell? ⟨g, 7, none⟩ = some (.slice L.la c.keep.log.length L.lc) := h1.c7
    have y9 : wa.cell? ⟨g, 9, none⟩ = some (.int .i64 (j : Int)) := h1.c9
    by_cases hlt : j < J
    · have hjm : (j : Int) < mk := by rw [← hmk]; have := HJ.out; omega
      have hjn : j < c.keep.log.length := by have := HJ.out; omega
      have hji : (j : Int) < (c.keep.log.length : Int) := by omega
      obtain ⟨b, o, a2, c2, hla, hokb, hcell, hc2, hs2⟩ := byts_atG (show Sl EBytes (Im M1) wa L.la c.keep.log from h1.p.log) j hjn
      have hsmall := h1.right.log.2 _ (List.getElem_mem hjn)
      obtain ⟨E, hE⟩ : ∃ E, E = c.keep.log[j] := ⟨_, rfl⟩
      rw [← hE] at hcell hc2 hs2
      have hC := vw_cloneB (Im M1) a2 E.length c2 E wa.drew rfl (hs2.heap (by decide) rfl) (fun k hk => dom_new h1 hk) (by rw [hE]; exact Nat.le_trans hsmall (by decide))
      rw [hla] at y7
      obtain ⟨av, cv, hrv, hcv, hmv⟩ := h1.p.done.shape
      obtain ⟨dn, hdn⟩ : ∃ dn, dn = (c.reachTo j).done.length := ⟨_, rfl⟩
      have y16 : wa.cell? ⟨g, 16, none⟩ = some (.slice av dn cv) := by rw [hdn, ← hrv]; exact h1.c16
      have hthru : ∀ w4 : World, Below wa.heap.size wa w4 → w4.cell? ⟨g, 16, none⟩ = some (.slice av dn cv) := fun w4 hb => cell_thru y16 hb
      have hitem : ∀ (w4 : World) (a5 : Option Addr) (c5 : Nat), Below wa.heap.size wa w4 → (E.length ≤ c5 ∧ c5 ≤ maxLen) → Sl EU8 (Im M1) w4 a5 E → ∀ X : World, (X = (w4.alloc (.cells #[.slice a5 E.length c5] 49)) ∨ X = (w4.alloc (.cells #[.slice a5 E.length c5] 49)).drew) →
          OwnV M1 7 EBytes 49 X (.slice av dn cv) (c.reachTo j).done ∧ (∀ k, M1 k ≠ 0 → k < X.heap.size) ∧ Sl EBytes (Im M1) X (some ⟨w4.heap.size, 0, none⟩) [E] := by
        intro w4 a5 c5 hb4 hc5 hs5 X hX
        have hbX : Below w4.heap.size w4 X := by rcases hX with rfl | rfl; exact alloc_below _ _; exact (alloc_below _ _).drew
        have hhX : X.heap[w4.heap.size]? = some (.cells #[.slice a5 E.length c5] 49 (0, 0)) := by rcases hX with rfl | rfl; exact heap_alloc_new w4 _; exact heap_alloc_new w4 _
        have hX5 := (h1.below hb4).below hbX
        exact ⟨by rw [hdn, ← hrv]; exact hX5.p.done, hX5.p.dom, sl_one hhX ⟨a5, c5, rfl, hc5.1, hc5.2, hs5.below (by decide) hbX⟩ (dom_new (h1.below hb4) (Nat.le_refl _))⟩
      have hX6 : ∀ (w4 : World) (a5 : Option Addr) (c5 : Nat), Below wa.heap.size wa w4 → ∀ (X w6 : World) (M6 : Col), Turn 7 M1 X M6 w6 → (X = (w4.alloc (.cells #[.slice a5 E.length c5] 49)) ∨ X = (w4.alloc (.cells #[.slice a5 E.length c5] 49)).drew) →
          (Fr M w M1 X ∧ VwL M1 X g (c.reachTo j) L) ∧ w6.cell? ⟨g, 16, none⟩ = some (.slice av dn cv) ∧ w6.frozen? ⟨g, 16, none⟩ = false := by
        intro w4 a5 c5 hb4 X w6 M6 t hX
        have hbX : Below w4.heap.size w4 X := by rcases hX with rfl | rfl; exact alloc_below _ _; exact (alloc_below _ _).drew
        have hbX' : Below wa.heap.size wa X := hb4.trans (hbX.mono hb4.size)
        have hX5 := h1.below hbX'
        have hb6 := t.block hX5.lt (by rw [hX5.gc]; decide)
        exact ⟨⟨f1.trans (Fr.of_below hbX'), hX5⟩, (cell_keep hb6).trans (cell_thru y16 hbX'), (World.frozen?_of_block (a := ⟨g, 16, none⟩) hb6).trans (hX5.fz 16)⟩
      have hAk : ∀ (w4 : World) (o : Obj), Below wa.heap.size wa w4 → (w4.alloc o).cell? ⟨g, 16, none⟩ = some (.slice av dn cv) := fun w4 o hb => cell_thru (cell_thru y16 hb) (alloc_below w4 o)
      have hdl : dn ≤ 1002000 := by rw [hdn]; unfold Vw.Core.reachTo; simp only [List.length_append, List.length_drop, List.length_take]; have := Hlen.out; have := Hl2.out; omega
      have HC := Lib.hid hC
      have Hthru := Lib.hid hthru
      have Hitem := Lib.hid hitem
      have HX6 := Lib.hid hX6
      have HAk := Lib.hid hAk
      have HE := Lib.hid hE
      have Hdn := Lib.hid hdn
      have Hdl := Lib.hid hdl
      have Hmk := Lib.hid hmk
      have Hgn := Lib.hid hgn.out
      have Hh1 := Lib.hid h1
      have Hb0 : RowKit.Hid (Below wa.heap.size wa wa.drew) := Lib.hid (Below.refl _ wa).drew
      clear hC hthru hitem hX6 hAk hE hdn hdl hgn hs2 hc2 hsmall hla hokb f1 hrv h1 hkeep hcv hmv
      go_wp2_with fail
      go_region_law ((first
        | (go_simp
           go_at_call 95
           refine HC.out.mono ?_
           rintro e w4 ⟨a5, c5, rfl, hc5, hs5, hb5⟩
           have Hb4 : RowKit.Hid (Below wa.heap.size wa w4) := Lib.hid ((Below.refl _ wa).drew.trans hb5)
           have k4 := Hthru.out w4 Hb4.out
           have k4A := HAk.out w4 (.cells #[.slice a5 E.length c5] 49) Hb4.out)
        | (rw [if_pos (by simp [Region.wanted])]
           refine step_appC EBytes (by rfl) (by rfl) (by rfl) ti_texts (Hitem.out w4 a5 c5 Hb4.out hc5 hs5 _ (by first | exact .inl rfl | exact .inr rfl)).1 (by decide) (Hitem.out w4 a5 c5 Hb4.out hc5 hs5 _ (by first | exact .inl rfl | exact .inr rfl)).2.1 rfl (Hitem.out w4 a5 c5 Hb4.out hc5 hs5 _ (by first | exact .inl rfl | exact .inr rfl)).2.2 (by simp) (by rw [← Hdn.out]; have := Hdl.out; unfold maxLen; simp; omega) (by rw [← Hdn.out]; have := Hdl.out; simp; omega) ?_
           intro v6 w6 M6 ho6 ht6
           obtain ⟨hx6, k6, kf6⟩ := HX6.out w4 a5 c5 Hb4.out _ _ _ ht6 (by first | exact .inl rfl | exact .inr rfl)
           obtain ⟨a6, n6, c6, rfl⟩ := ho6.shape')))
      all_goals
        obtain ⟨fX, hX⟩ := hx6
        obtain ⟨h7, f7⟩ := done_end hX ht6 ho6
        obtain ⟨w7, hw7⟩ : ∃ x, x = w6.setCell ⟨g, 16, none⟩ (.slice a6 n6 c6) := ⟨_, rfl⟩
        rw [← hw7] at h7 f7 ⊢
        have z9 : w7.cell? ⟨g, 9, none⟩ = some (.int .i64 (j : Int)) := h7.c9
        have zf := h7.fz 9
        have H7 := Lib.hid h7
        have F7 := Lib.hid (fX.trans f7)
        have hadd : IntKind.i64.wrap ((j : Int) + 1) = (j : Int) + 1 := IntWalk.i64_in _ (by have := Hl2.out; omega)
        clear h7 f7 hX ho6 ht6 fX hw7 k6 kf6 k4 k4A hs5 hc5 hb5
        go_wp2_with fail
        go_roundg (J - (j + 1))
        case measure => rw [Hgn.out]; omega
        case rel =>
          refine ⟨j + 1, Lib.hid rfl, by omega, by omega, Lib.hid ?_⟩
          rw [c.reachTo_succ j hj1 hjn, ← HE.out]
          obtain ⟨h8, f8⟩ := commit_fold (j + 1) H7.out (by have := Hl2.out; omega)
          exact ⟨M6, ⟨_, h8⟩, F7.out.trans f8⟩
    · have hjm : ¬ ((j : Int) < mk) := by rw [← hmk]; have := HJ.out; omega
      have hjJ : j = J := by omega
      have Hmk := Lib.hid hmk
      have Hgn := Lib.hid hgn.out
      have Hfin : RowKit.Hid (VwTo M w wa g (c.reachTo J)) := Lib.hid (by rw [← hjJ]; exact ⟨M1, ⟨L, h1⟩, f1⟩)
      clear hgn h1 f1 hjJ
      go_wp2_with fail
      refine bodyPost_end (v := .tuple #[]) (by simp [results, Try.results133, go_sem]) rfl ?_
      refine ⟨rfl, ?_⟩
      have hh := Hfin.out
      first
        | exact hh
        | (rw [← Hmk.out, ← HJ.out]; exact hh)
end Go.Proofs.Ytmmgnbdngpkfcaa

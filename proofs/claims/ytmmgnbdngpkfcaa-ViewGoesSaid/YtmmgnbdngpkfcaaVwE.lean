/-
  A member's record, message and entry that is told as done, walked.
  A member sends a message, walked.
-/
import Derived.Test.YtmmgnbdngpkfcaaVwB
namespace Go.Proofs.Ytmmgnbdngpkfcaa
open Go.RowKit
set_option linter.unusedVariables false

section
variable {M : Col} {w : World} {g : Nat} {c : Vw.Core} {L : Lo}
theorem VwL.c0 (h : VwL M w g c L) : w.cell? ⟨g, 0, none⟩ = some (.int .i64 c.me) := h.cell 0 rfl
theorem VwL.c1 (h : VwL M w g c L) : w.cell? ⟨g, 1, none⟩ = some (.int .i64 c.n) := h.cell 1 rfl
theorem VwL.c2 (h : VwL M w g c L) : w.cell? ⟨g, 2, none⟩ = some (.int .i64 c.shard) := h.cell 2 rfl
theorem VwL.c3 (h : VwL M w g c L) : w.cell? ⟨g, 3, none⟩ = some (.int .i64 c.pat) := h.cell 3 rfl
theorem VwL.c4 (h : VwL M w g c L) : w.cell? ⟨g, 4, none⟩ = some (.int .i64 0) := h.cell 4 rfl
theorem VwL.c5 (h : VwL M w g c L) : w.cell? ⟨g, 5, none⟩ = some (.int .i64 c.keep.view) := h.cell 5 rfl
theorem VwL.c6 (h : VwL M w g c L) : w.cell? ⟨g, 6, none⟩ = some (.int .i64 c.keep.normal) := h.cell 6 rfl
theorem VwL.c7 (h : VwL M w g c L) : w.cell? ⟨g, 7, none⟩ = some (.slice L.la c.keep.log.length L.lc) := h.cell 7 rfl
theorem VwL.c8 (h : VwL M w g c L) : w.cell? ⟨g, 8, none⟩ = some (.bool c.ch) := h.cell 8 rfl
theorem VwL.c9 (h : VwL M w g c L) : w.cell? ⟨g, 9, none⟩ = some (.int .i64 c.commit) := h.cell 9 rfl
theorem VwL.c10 (h : VwL M w g c L) : w.cell? ⟨g, 10, none⟩ = some (.int .i64 c.idle) := h.cell 10 rfl
theorem VwL.c11 (h : VwL M w g c L) : w.cell? ⟨g, 11, none⟩ = some (.map (some L.hb)) := h.cell 11 rfl
theorem VwL.c12 (h : VwL M w g c L) : w.cell? ⟨g, 12, none⟩ = some (.map (some L.bb)) := h.cell 12 rfl
theorem VwL.c13 (h : VwL M w g c L) : w.cell? ⟨g, 13, none⟩ = some (.map (some L.db)) := h.cell 13 rfl
theorem VwL.c14 (h : VwL M w g c L) : w.cell? ⟨g, 14, none⟩ = some L.rv := h.cell 14 rfl
theorem VwL.c15 (h : VwL M w g c L) : w.cell? ⟨g, 15, none⟩ = some L.mv := h.cell 15 rfl
theorem VwL.c16 (h : VwL M w g c L) : w.cell? ⟨g, 16, none⟩ = some L.dv := h.cell 16 rfl
end
theorem VwL.set (M : Col) {w w1 : World} {g : Nat} {c c' : Vw.Core} {L L' : Lo} (h : VwL M w g c L) (hp : VwP M w c' L') (hR : Vw.Right c') (ho : Only (· = g) w w1) (hr : w1.heap[g]? = some (.cells (coreRow c' L') 164 (0, 0))) : VwL M w1 g c' L' ∧ Fr M w M w1 := h.put ho hr hp hR
theorem only_drew {S : Nat → Prop} {w w1 : World} (h : Only S w w1) : Only S w w1.drew := ⟨h.os, h.tape, h.output, h.size, h.block⟩
theorem setg {S : Nat → Prop} {w w1 : World} {g : Nat} (h : Only S w w1) (hS : S g) (k : Nat) (v : Value) : Only S w (w1.setCell ⟨g, k, none⟩ v) := h.setCell (p := ⟨g, k, none⟩) (.inl hS) v
theorem Vw.Right.keepR {c : Vw.Core} {r : Vw.Rc} (h : Vw.Right (c.rec_ r)) : Vw.Right { c with keep := Vw.lay c.keep r } := ⟨h.n, h.me, h.pat, h.view, h.log, h.commit, h.idle, h.begun, h.dos, h.has⟩
theorem rec_fold {M : Col} {w : World} {g : Nat} {c : Vw.Core} {L : Lo} {k : Vw.Keep} {la : Option Addr} {lc : Nat} (h : VwL M w g c L) (hR : Vw.Right { c with keep := k }) (hlc : k.log.length ≤ lc ∧ lc ≤ maxLen) (hs : Sl EBytes (Im M) w la k.log) :
    VwL M (((w.setCell ⟨g, 5, none⟩ (.int .i64 k.view)).setCell ⟨g, 6, none⟩ (.int .i64 k.normal)).setCell ⟨g, 7, none⟩ (.slice la k.log.length lc)) g { c with keep := k } { L with la := la, lc := lc } ∧
    Fr M w M (((w.setCell ⟨g, 5, none⟩ (.int .i64 k.view)).setCell ⟨g, 6, none⟩ (.int .i64 k.normal)).setCell ⟨g, 7, none⟩ (.slice la k.log.length lc)) :=
  h.put (setg (S := (· = g)) (setg (S := (· = g)) (setg (S := (· = g)) (Only.refl _ w) rfl 5 _) rfl 6 _) rfl 7 _) (by rw [heap_set (heap_set (heap_set h.row 5 _) 6 _) 7 _]; rfl) ⟨h.p.dom, hlc, hs, h.p.hc, h.p.has, h.p.bc, h.p.begun, h.p.dc, h.p.dos, h.p.recs, h.p.msgs, h.p.done⟩ hR
theorem VwL.drew {M : Col} {w : World} {g : Nat} {c : Vw.Core} {L : Lo} (h : VwL M w g c L) : VwL M w.drew g c L := h.below ((Below.refl _ w).drew)
theorem Fr.drew {M M1 : Col} {w w1 : World} (h : Fr M w M1 w1) : Fr M w M1 w1.drew := ⟨only_drew h.1, h.2⟩
theorem dom_new {M : Col} {w : World} {g : Nat} {c : Vw.Core} {L : Lo} (h : VwL M w g c L) {k : Nat} (hk : w.heap.size ≤ k) : M k = 0 := by
  rcases Nat.eq_zero_or_pos (M k) with e | e
  · exact e
  · exact absurd (h.p.dom k (by omega)) (by omega)
/-- a member has become another one -/
def VwTo (M : Col) (w w' : World) (g : Nat) (c : Vw.Core) : Prop := ∃ M', VwAt M' w' g c ∧ Fr M w M' w'
theorem OwnV.shape' {α : Type} {M : Col} {w : World} {i : Nat} {E : Enc α} {te : TypeId} {v : Value} {l : List α} (h : OwnV M i E te w v l) : ∃ a n c, v = .slice a n c := by
  obtain ⟨a, c, h, _⟩ := h.shape; exact ⟨a, _, c, h⟩
theorem rec_end {M M1 : Col} {X w1 : World} {g : Nat} {c : Vw.Core} {L : Lo} {v : Value} {l : List Vw.Rc} (h : VwL M X g c L) (t : Turn 5 M X M1 w1) (ho : OwnV M1 5 ERec 98 w1 v l) :
    (((w1.setCell ⟨g, 14, none⟩ v).heap[g]? = some (.cells (coreRow { c with recs := l } { L with rv := v }) 164 (0, 0)) ∧ M1 g = 1 ∧ VwP M1 (w1.setCell ⟨g, 14, none⟩ v) { c with recs := l } { L with rv := v }) ∧ Fr M X M1 (w1.setCell ⟨g, 14, none⟩ v)) := by
  have hp := h.p.turn5 t ho
  have hr : w1.heap[g]? = _ := (t.block h.lt (by rw [h.gc]; decide)).trans h.row
  have hg : M1 g = 1 := (t.old g h.lt).trans h.gc
  have t1 : Turn 1 M1 w1 M1 (w1.setCell ⟨g, 14, none⟩ v) := Turn.of_only (turn_dom h.p.dom t) (setg (S := (· = g)) (Only.refl _ w1) rfl 14 v) fun k hk => by rw [hk]; exact hg
  exact ⟨⟨by rw [heap_set hr 14 v]; rfl, hg, hp.turn1 t1⟩, (t.fr (by decide)).trans (t1.fr (by decide))⟩
set_option maxHeartbeats 6400000 in
theorem vw_rec {M : Col} {g : Nat} {c : Vw.Core} (w : World) (h : VwAt M w g c) (r : Vw.Rc) (da : Option Addr) (dn dc : Nat) (hdn : dn = r.data.length) (hdc : dn ≤ dc ∧ dc ≤ maxLen) (hdat : Sl EU8 (Im M) w da r.data)
    (ha : -9223372036854775808 ≤ r.a ∧ r.a ≤ 9223372036854775807) (hR : Vw.Right (c.rec_ r)) (hlen : c.recs.length ≤ 1000000) :
    Calls Try.prog 94 #[.pointer (some ⟨g, 0, none⟩), .agg #[.int .i64 r.kind, .int .i64 r.a, .int .i64 r.b, .slice da dn dc]] w fun e w' => e = .returned (.tuple #[]) ∧ VwTo M w w' g (c.rec_ r) := by
  obtain ⟨L, h⟩ := h
  obtain ⟨w1, hw1⟩ : ∃ x, x = w.alloc (.cells #[.int .i64 r.kind, .int .i64 r.a, .int .i64 r.b, .slice da dn dc] 98) := ⟨_, rfl⟩
  have hb1 : Below w.heap.size w w1 := by rw [hw1]; exact alloc_below _ _
  have hh1 : w1.heap[w.heap.size]? = some (.cells #[.int .i64 r.kind, .int .i64 r.a, .int .i64 r.b, .slice da dn dc] 98 (0, 0)) := by rw [hw1]; exact heap_alloc_new w _
  have h1 := h.below hb1
  have hd1 : Sl EU8 (Im M) w1 da r.data := hdat.below (by decide) hb1
  have hgz : g < w1.heap.size := h1.lt
  obtain ⟨q, hq⟩ : ∃ q, q = w.heap.size := ⟨_, rfl⟩
  have hz1 : w1.heap.size = q + 1 := by rw [hw1, hq]; simp
  rw [← hq] at hh1
  have hf1 : Fr M w M w1 := Fr.of_below hb1
  have hMq : M q = 0 := by
    rcases Nat.eq_zero_or_pos (M q) with e | e
    · exact e
    · have := h.p.dom q (by omega); omega
  have y5 := h1.c5
  have y6 := h1.c6
  have y7 := h1.c7
  have x0 : w1.cell? ⟨q, 0, none⟩ = some (.int .i64 r.kind) := by simp [World.cell?, hh1]
  have x1 : w1.cell? ⟨q, 1, none⟩ = some (.int .i64 r.a) := by simp [World.cell?, hh1]
  have x2 : w1.cell? ⟨q, 2, none⟩ = some (.int .i64 r.b) := by simp [World.cell?, hh1]
  have x3 : w1.cell? ⟨q, 3, none⟩ = some (.slice da dn dc) := by simp [World.cell?, hh1]
  have hL := vw_Lay (Im M) c.keep r L.la _ L.lc da dn dc w1.drew rfl h1.p.lc (h1.p.log.heap (by decide) rfl) hdn hdc (hd1.heap (by decide) rfl) (fun k hk => by
    rcases Nat.eq_zero_or_pos (M k) with e | e
    · exact e
    · exact absurd (h1.p.dom k (by omega)) (by have h2 : w1.heap.size ≤ k := hk; omega)) (Nat.le_trans h1.right.log.1 (by decide)) ha
  have HL := Lib.hid hL
  clear hL
  have H1 := Lib.hid h1
  have Hh1 := Lib.hid hh1
  have Hd1 := Lib.hid hd1
  have Hf1 := Lib.hid hf1
  have Hw1 := Lib.hid hw1.symm
  have Hq := Lib.hid hq.symm
  have HR := Lib.hid hR
  have Hdn := Lib.hid hdn
  have Hdc := Lib.hid hdc
  have Hz1 := Lib.hid hz1
  have HMq := Lib.hid hMq
  have Ha := Lib.hid ha
  have Hlen := Lib.hid hlen
  have Hgz := Lib.hid hgz
  have Hthru := Lib.hid (fun (W : World) (hW : Below w1.heap.size w1 W) => And.intro (h1.below hW) (Eq.trans (hW.block q (by omega)) hh1))
  clear h h1 hh1 hd1 hf1 hw1 hq hR hdn hdc hz1 hMq ha hlen hgz hdat hb1
  go_enter Try.func94, Try.ntmps94
  go_upto_region 1 with fail
  rw [Hw1.out, Hq.out]
  clear Hw1
  go_region_law ((first
    | (go_simp
       go_at_call 54
       refine HL.out.mono ?_
       rintro e w4 ⟨la', lc', rfl, hlc', hs', hb4⟩
       have Hb4 : RowKit.Hid (Below w1.heap.size w1 w4) := Lib.hid ((Below.refl _ w1).drew.trans hb4)
       have k5 := (Hthru.out w4 Hb4.out).1.c5
       have k6 := (Hthru.out w4 Hb4.out).1.c6
       have k7 := (Hthru.out w4 Hb4.out).1.c7
       have kf := (Hthru.out w4 Hb4.out).1.fz)))
  all_goals
    obtain ⟨h5, f5⟩ := rec_fold (Hthru.out w4 Hb4.out).1 HR.out.keepR hlc' hs'
    have hh4 := (Hthru.out w4 Hb4.out).2
    have hh5 : ((((w4.setCell ⟨g, 5, none⟩ (.int .i64 (Vw.lay c.keep r).view)).setCell ⟨g, 6, none⟩ (.int .i64 (Vw.lay c.keep r).normal)).setCell ⟨g, 7, none⟩ (.slice la' (Vw.lay c.keep r).log.length lc'))).heap[q]? = _ := (f5.block (by have := Hb4.out.size; have := Hz1.out; omega) HMq.out).trans hh4
    have hd5 : Sl EU8 (Im M) (((w4.setCell ⟨g, 5, none⟩ (.int .i64 (Vw.lay c.keep r).view)).setCell ⟨g, 6, none⟩ (.int .i64 (Vw.lay c.keep r).normal)).setCell ⟨g, 7, none⟩ (.slice la' (Vw.lay c.keep r).log.length lc')) da r.data := (Hd1.out.below (by decide) Hb4.out).fr (by decide) f5
    obtain ⟨w5, hw5⟩ : ∃ x, x = (((w4.setCell ⟨g, 5, none⟩ (.int .i64 (Vw.lay c.keep r).view)).setCell ⟨g, 6, none⟩ (.int .i64 (Vw.lay c.keep r).normal)).setCell ⟨g, 7, none⟩ (.slice la' (Vw.lay c.keep r).log.length lc')) := ⟨_, rfl⟩
    rw [← hw5] at h5 f5 hh5 hd5 ⊢
    clear hw5 hh4 hs' k5 k6 k7 kf
    have x0 : w5.cell? ⟨q, 0, none⟩ = some (.int .i64 r.kind) := by simp [World.cell?, hh5]
    have x1 : w5.cell? ⟨q, 1, none⟩ = some (.int .i64 r.a) := by simp [World.cell?, hh5]
    have x2 : w5.cell? ⟨q, 2, none⟩ = some (.int .i64 r.b) := by simp [World.cell?, hh5]
    have x3 : w5.cell? ⟨q, 3, none⟩ = some (.slice da dn dc) := by simp [World.cell?, hh5]
    obtain ⟨av, cv, hrv, hcv, hmv⟩ := h5.p.recs.shape
    have y14 : w5.cell? ⟨g, 14, none⟩ = some (.slice av c.recs.length cv) := by rw [← hrv]; exact h5.c14
    have hitem : ∀ X : World, Below w5.heap.size w5 X → X.heap[w5.heap.size]? = some (.cells #[.int .i64 r.kind, .int .i64 r.a, .int .i64 r.b, .slice da dn dc] 98 (0, 0)) → OwnV M 5 ERec 98 X (.slice av c.recs.length cv) c.recs ∧ (∀ k, M k ≠ 0 → k < X.heap.size) ∧ Sl ERec (Im M) X (some ⟨w5.heap.size, 0, none⟩) [r] ∧ VwL M X g { c with keep := Vw.lay c.keep r } { L with la := la', lc := lc' } := by
      intro X hX hh
      have hX5 := h5.below hX
      refine ⟨by rw [← hrv]; exact hX5.p.recs, hX5.p.dom, sl_one hh ⟨da, dc, by rw [← Hdn.out]; rfl, by rw [← Hdn.out]; exact Hdc.out, hd5.below (by decide) hX⟩ (dom_new h5 (Nat.le_refl _)), hX5⟩
    have kA := (alloc_below w5 (.cells #[.int .i64 r.kind, .int .i64 r.a, .int .i64 r.b, .slice da dn dc] 98))
    have kA1 := cell_thru y14 kA
    have HkA := Lib.hid kA
    have Hitem := Lib.hid hitem
    have H5 := Lib.hid h5
    have HhA := Lib.hid (heap_alloc_new w5 (.cells #[.int .i64 r.kind, .int .i64 r.a, .int .i64 r.b, .slice da dn dc] 98))
    have Hf := Lib.hid (Hf1.out.trans ((Fr.of_below Hb4.out).trans f5))
    have hX6 : ∀ (X w6 : World) (M6 : Col), Turn 5 M X M6 w6 → (X = (w5.alloc (.cells #[.int .i64 r.kind, .int .i64 r.a, .int .i64 r.b, .slice da dn dc] 98)) ∨ X = (w5.alloc (.cells #[.int .i64 r.kind, .int .i64 r.a, .int .i64 r.b, .slice da dn dc] 98)).drew) →
        (Fr M w M X ∧ VwL M X g { c with keep := Vw.lay c.keep r } { L with la := la', lc := lc' }) ∧ w6.cell? ⟨g, 14, none⟩ = some (.slice av c.recs.length cv) ∧ w6.frozen? ⟨g, 14, none⟩ = false := by
      intro X w6 M6 t hX
      have hbX : Below w5.heap.size w5 X := by rcases hX with rfl | rfl; exact kA; exact kA.drew
      have hX5 := h5.below hbX
      have hb6 := t.block hX5.lt (by rw [hX5.gc]; decide)
      exact ⟨⟨Hf.out.trans (Fr.of_below hbX), hX5⟩, (cell_keep hb6).trans (cell_thru y14 hbX), (World.frozen?_of_block (a := ⟨g, 14, none⟩) hb6).trans (hX5.fz 14)⟩
    have HX6 := Lib.hid hX6
    clear hitem h5 hh5 hd5 kA f5 hrv hX6
    go_wp2_with fail
    go_region_law ((rw [if_pos (by simp [Region.wanted])]
                    refine step_appC ERec (by rfl) (by rfl) (by rfl) ti_recs (Hitem.out _ (by first | exact HkA.out | exact HkA.out.drew) HhA.out).1 (by decide) (Hitem.out _ (by first | exact HkA.out | exact HkA.out.drew) HhA.out).2.1 rfl (Hitem.out _ (by first | exact HkA.out | exact HkA.out.drew) HhA.out).2.2.1 (by simp) (by have := Hlen.out; unfold maxLen; simp; omega) (by have := Hlen.out; simp; omega) ?_
                    intro v6 w6 M6 ho6 ht6
                    obtain ⟨hx6, k6, kf6⟩ := HX6.out _ _ _ ht6 (by first | exact .inl rfl | exact .inr rfl)
                    obtain ⟨a6, n6, c6, rfl⟩ := ho6.shape'))
    all_goals
      obtain ⟨fX, hX⟩ := hx6
      obtain ⟨h7, f7⟩ := rec_end hX ht6 ho6
      have H7 := Lib.hid h7
      have F7 := Lib.hid (fX.trans f7)
      clear h7 f7 hX ho6 ht6 fX
      go_wp2_with fail
      refine bodyPost_end (v := .tuple #[]) (by simp [results, Try.results94, go_sem]) rfl ?_
      exact ⟨rfl, M6, ⟨_, H7.out.1, H7.out.2.1, H7.out.2.2, HR.out⟩, F7.out⟩
end Go.Proofs.Ytmmgnbdngpkfcaa

namespace Go.Proofs.Ytmmgnbdngpkfcaa
open Go.RowKit
set_option linter.unusedVariables false

theorem send_end {M M1 : Col} {X w1 : World} {g : Nat} {c : Vw.Core} {L : Lo} {v : Value} {l : List Vw.Msg} (h : VwL M X g c L) (t : Turn 6 M X M1 w1) (ho : OwnV M1 6 EMsg 89 w1 v l) :
    (VwL M1 (w1.setCell ⟨g, 15, none⟩ v) g { c with msgs := l } { L with mv := v }) ∧ Fr M X M1 (w1.setCell ⟨g, 15, none⟩ v) := by
  have hp := h.p.turn6 t ho
  have hr : w1.heap[g]? = _ := (t.block h.lt (by rw [h.gc]; decide)).trans h.row
  have hg : M1 g = 1 := (t.old g h.lt).trans h.gc
  have t1 : Turn 1 M1 w1 M1 (w1.setCell ⟨g, 15, none⟩ v) := Turn.of_only (turn_dom h.p.dom t) (setg (S := (· = g)) (Only.refl _ w1) rfl 15 v) fun k hk => by rw [hk]; exact hg
  exact ⟨⟨by rw [heap_set hr 15 v]; rfl, hg, hp.turn1 t1, ⟨h.right.n, h.right.me, h.right.pat, h.right.view, h.right.log, h.right.commit, h.right.idle, h.right.begun, h.right.dos, h.right.has⟩⟩, (t.fr (by decide)).trans (t1.fr (by decide))⟩
set_option maxRecDepth 4096 in
set_option maxHeartbeats 6400000 in
theorem vw_send {M : Col} {g : Nat} {c : Vw.Core} (w : World) (h : VwAt M w g c) (m : Vw.Msg) (cs : List Value) (hm : EMsg.rep (Im M) w cs m) (hlen : c.msgs.length ≤ 1000000) :
    Calls Try.prog 132 #[.pointer (some ⟨g, 0, none⟩), .agg cs.toArray] w fun e w' => e = .returned (.tuple #[]) ∧ VwTo M w w' g (c.send m) := by
  obtain ⟨L, h⟩ := h
  obtain ⟨ml, mlc, md, mdc, rfl, hml, hmls, hmd, hmds⟩ := hm
  simp only [msgRow, List.toArray]
  obtain ⟨w1, hw1⟩ : ∃ x, x = w.alloc (.cells #[.int .i64 m.kind, .int .i64 m.frm, .int .i64 m.to_, .int .i64 m.shard, .int .i64 m.view, .int .i64 m.normal, .int .i64 m.at_, .int .i64 m.commit, .int .i64 m.id, .int .i64 m.err, .slice ml m.list.length mlc, .slice md m.data.length mdc] 89) := ⟨_, rfl⟩
  have hb1 : Below w.heap.size w w1 := by rw [hw1]; exact alloc_below _ _
  have hh1 : w1.heap[w.heap.size]? = some (.cells #[.int .i64 m.kind, .int .i64 m.frm, .int .i64 m.to_, .int .i64 m.shard, .int .i64 m.view, .int .i64 m.normal, .int .i64 m.at_, .int .i64 m.commit, .int .i64 m.id, .int .i64 m.err, .slice ml m.list.length mlc, .slice md m.data.length mdc] 89 (0, 0)) := by rw [hw1]; exact heap_alloc_new w _
  have h1 := h.below hb1
  obtain ⟨q, hq⟩ : ∃ q, q = w.heap.size := ⟨_, rfl⟩
  rw [← hq] at hh1 hb1
  have hz1 : w1.heap.size = q + 1 := by rw [hw1, hq]; simp
  have hgq : g < q := by rw [hq]; exact h.lt
  have hmls1 : Sl EBytes (Im M) w1 ml m.list := hmls.below (by decide) (by rw [← hq]; exact hb1)
  have hmds1 : Sl EU8 (Im M) w1 md m.data := hmds.below (by decide) (by rw [← hq]; exact hb1)
  have y0 := h1.c0
  have y2 := h1.c2
  have y5 := h1.c5
  have x1 : w1.cell? ⟨q, 1, none⟩ = some (.int .i64 m.frm) := by simp [World.cell?, hh1]
  have x3 : w1.cell? ⟨q, 3, none⟩ = some (.int .i64 m.shard) := by simp [World.cell?, hh1]
  have x4 : w1.cell? ⟨q, 4, none⟩ = some (.int .i64 m.view) := by simp [World.cell?, hh1]
  have xf : ∀ o, w1.frozen? ⟨q, o, none⟩ = false := fun o => by simp [World.frozen?, hh1]
  -- the message as it is sent
  have hw2 : ∀ w2 : World, w2 = ((w1.setCell ⟨q, 1, none⟩ (.int .i64 c.me)).setCell ⟨q, 3, none⟩ (.int .i64 c.shard)).setCell ⟨q, 4, none⟩ (.int .i64 c.keep.view) →
      Below q w w2 ∧ VwL M w2 g c L ∧ w2.heap[q]? = some (.cells #[.int .i64 m.kind, .int .i64 c.me, .int .i64 m.to_, .int .i64 c.shard, .int .i64 c.keep.view, .int .i64 m.normal, .int .i64 m.at_, .int .i64 m.commit, .int .i64 m.id, .int .i64 m.err, .slice ml m.list.length mlc, .slice md m.data.length mdc] 89 (0, 0)) := by
    rintro w2 rfl
    have hb2 : Below q w1 (((w1.setCell ⟨q, 1, none⟩ (.int .i64 c.me)).setCell ⟨q, 3, none⟩ (.int .i64 c.shard)).setCell ⟨q, 4, none⟩ (.int .i64 c.keep.view)) := setCell_below (setCell_below (setCell_below (Below.refl _ _) (Nat.le_refl _) 1 _) (Nat.le_refl _) 3 _) (Nat.le_refl _) 4 _
    refine ⟨hb1.trans hb2, h.below (by rw [← hq]; exact hb1.trans hb2), ?_⟩
    rw [heap_set (heap_set (heap_set hh1 1 _) 3 _) 4 _]; rfl
  have Hw2 := Lib.hid hw2
  have Hw1 := Lib.hid hw1.symm
  have Hq := Lib.hid hq.symm
  have Hz1 := Lib.hid hz1
  have Hlen := Lib.hid hlen
  have Hms := Lib.hid (And.intro hmls hmds)
  have Hml := Lib.hid (And.intro hml hmd)
  have HL := Lib.hid h
  clear hw2 h h1 hh1 hw1 hq hz1 hlen hmls hmds hml hmd hmls1 hmds1 hb1
  go_enter Try.func132, Try.ntmps132
  go_upto_region 1 with fail
  rw [Hw1.out, Hq.out]
  clear Hw1
  go_region
  obtain ⟨hb5, h5, hh5⟩ := Hw2.out _ rfl
  have h5 := h5.drew
  have hb5 := hb5.drew
  obtain ⟨w5, hw5⟩ : ∃ x, x = (((w1.setCell ⟨q, 1, none⟩ (.int .i64 c.me)).setCell ⟨q, 3, none⟩ (.int .i64 c.shard)).setCell ⟨q, 4, none⟩ (.int .i64 c.keep.view)).drew := ⟨_, rfl⟩
  have hh5 : w5.heap[q]? = some (.cells #[.int .i64 m.kind, .int .i64 c.me, .int .i64 m.to_, .int .i64 c.shard, .int .i64 c.keep.view, .int .i64 m.normal, .int .i64 m.at_, .int .i64 m.commit, .int .i64 m.id, .int .i64 m.err, .slice ml m.list.length mlc, .slice md m.data.length mdc] 89 (0, 0)) := by rw [hw5]; exact hh5
  rw [← hw5] at h5 hb5 ⊢
  clear hw5 y0 y2 y5 x1 x3 x4 xf Hw2
  have x0 : w5.cell? ⟨q, 0, none⟩ = some (.int .i64 m.kind) := by simp [World.cell?, hh5]
  have x1 : w5.cell? ⟨q, 1, none⟩ = some (.int .i64 c.me) := by simp [World.cell?, hh5]
  have x2 : w5.cell? ⟨q, 2, none⟩ = some (.int .i64 m.to_) := by simp [World.cell?, hh5]
  have x3 : w5.cell? ⟨q, 3, none⟩ = some (.int .i64 c.shard) := by simp [World.cell?, hh5]
  have x4 : w5.cell? ⟨q, 4, none⟩ = some (.int .i64 c.keep.view) := by simp [World.cell?, hh5]
  have x5 : w5.cell? ⟨q, 5, none⟩ = some (.int .i64 m.normal) := by simp [World.cell?, hh5]
  have x6 : w5.cell? ⟨q, 6, none⟩ = some (.int .i64 m.at_) := by simp [World.cell?, hh5]
  have x7 : w5.cell? ⟨q, 7, none⟩ = some (.int .i64 m.commit) := by simp [World.cell?, hh5]
  have x8 : w5.cell? ⟨q, 8, none⟩ = some (.int .i64 m.id) := by simp [World.cell?, hh5]
  have x9 : w5.cell? ⟨q, 9, none⟩ = some (.int .i64 m.err) := by simp [World.cell?, hh5]
  have x10 : w5.cell? ⟨q, 10, none⟩ = some (.slice ml m.list.length mlc) := by simp [World.cell?, hh5]
  have x11 : w5.cell? ⟨q, 11, none⟩ = some (.slice md m.data.length mdc) := by simp [World.cell?, hh5]
  have hd5 : Sl EBytes (Im M) w5 ml m.list ∧ Sl EU8 (Im M) w5 md m.data := ⟨Hms.out.1.below (by decide) (by rw [Hq.out]; exact hb5), Hms.out.2.below (by decide) (by rw [Hq.out]; exact hb5)⟩
  have hf5 : Fr M w M w5 := Fr.of_below (by rw [Hq.out]; exact hb5)
  obtain ⟨av, cv, hrv, hcv, hmv⟩ := h5.p.msgs.shape
  have y15 : w5.cell? ⟨g, 15, none⟩ = some (.slice av c.msgs.length cv) := by rw [← hrv]; exact h5.c15
  have hitem : ∀ X : World, Below w5.heap.size w5 X → X.heap[w5.heap.size]? = some (.cells #[.int .i64 m.kind, .int .i64 c.me, .int .i64 m.to_, .int .i64 c.shard, .int .i64 c.keep.view, .int .i64 m.normal, .int .i64 m.at_, .int .i64 m.commit, .int .i64 m.id, .int .i64 m.err, .slice ml m.list.length mlc, .slice md m.data.length mdc] 89 (0, 0)) → OwnV M 6 EMsg 89 X (.slice av c.msgs.length cv) c.msgs ∧ (∀ k, M k ≠ 0 → k < X.heap.size) ∧ Sl EMsg (Im M) X (some ⟨w5.heap.size, 0, none⟩) [{ m with frm := c.me, shard := c.shard, view := c.keep.view }] := by
    intro X hX hh
    have hX5 := h5.below hX
    exact ⟨by rw [← hrv]; exact hX5.p.msgs, hX5.p.dom, sl_one hh ⟨ml, mlc, md, mdc, rfl, Hml.out.1, hd5.1.below (by decide) hX, Hml.out.2, hd5.2.below (by decide) hX⟩ (dom_new h5 (Nat.le_refl _))⟩
  have kA := (alloc_below w5 (.cells #[.int .i64 m.kind, .int .i64 c.me, .int .i64 m.to_, .int .i64 c.shard, .int .i64 c.keep.view, .int .i64 m.normal, .int .i64 m.at_, .int .i64 m.commit, .int .i64 m.id, .int .i64 m.err, .slice ml m.list.length mlc, .slice md m.data.length mdc] 89))
  have kA1 := cell_thru y15 kA
  have hX6 : ∀ (X w6 : World) (M6 : Col), Turn 6 M X M6 w6 → (X = (w5.alloc (.cells #[.int .i64 m.kind, .int .i64 c.me, .int .i64 m.to_, .int .i64 c.shard, .int .i64 c.keep.view, .int .i64 m.normal, .int .i64 m.at_, .int .i64 m.commit, .int .i64 m.id, .int .i64 m.err, .slice ml m.list.length mlc, .slice md m.data.length mdc] 89)) ∨ X = (w5.alloc (.cells #[.int .i64 m.kind, .int .i64 c.me, .int .i64 m.to_, .int .i64 c.shard, .int .i64 c.keep.view, .int .i64 m.normal, .int .i64 m.at_, .int .i64 m.commit, .int .i64 m.id, .int .i64 m.err, .slice ml m.list.length mlc, .slice md m.data.length mdc] 89)).drew) →
      (Fr M w M X ∧ VwL M X g c L) ∧ w6.cell? ⟨g, 15, none⟩ = some (.slice av c.msgs.length cv) ∧ w6.frozen? ⟨g, 15, none⟩ = false := by
    intro X w6 M6 t hX
    have hbX : Below w5.heap.size w5 X := by rcases hX with rfl | rfl; exact kA; exact kA.drew
    have hX5 := h5.below hbX
    have hb6 := t.block hX5.lt (by rw [hX5.gc]; decide)
    exact ⟨⟨hf5.trans (Fr.of_below hbX), hX5⟩, (cell_keep hb6).trans (cell_thru y15 hbX), (World.frozen?_of_block (a := ⟨g, 15, none⟩) hb6).trans (hX5.fz 15)⟩
  have HX6 := Lib.hid hX6
  have HkA := Lib.hid kA
  have Hitem := Lib.hid hitem
  have HhA := Lib.hid (heap_alloc_new w5 (.cells #[.int .i64 m.kind, .int .i64 c.me, .int .i64 m.to_, .int .i64 c.shard, .int .i64 c.keep.view, .int .i64 m.normal, .int .i64 m.at_, .int .i64 m.commit, .int .i64 m.id, .int .i64 m.err, .slice ml m.list.length mlc, .slice md m.data.length mdc] 89))
  clear hitem hh5 hd5 kA hf5 hrv hX6 h5 hb5
  go_wp2_with fail
  go_region_law ((rw [if_pos (by simp [Region.wanted])]
                  refine step_appC EMsg (by rfl) (by rfl) (by rfl) ti_mails (Hitem.out _ (by first | exact HkA.out | exact HkA.out.drew) HhA.out).1 (by decide) (Hitem.out _ (by first | exact HkA.out | exact HkA.out.drew) HhA.out).2.1 rfl (Hitem.out _ (by first | exact HkA.out | exact HkA.out.drew) HhA.out).2.2 (by simp) (by have := Hlen.out; unfold maxLen; simp; omega) (by have := Hlen.out; simp; omega) ?_
                  intro v6 w6 M6 ho6 ht6
                  obtain ⟨hx6, k6, kf6⟩ := HX6.out _ _ _ ht6 (by first | exact .inl rfl | exact .inr rfl)
                  obtain ⟨a6, n6, c6, rfl⟩ := ho6.shape'))
  all_goals
    obtain ⟨fX, hX⟩ := hx6
    obtain ⟨h7, f7⟩ := send_end hX ht6 ho6
    have H7 := Lib.hid h7
    have F7 := Lib.hid (fX.trans f7)
    clear h7 f7 hX ho6 ht6 fX
    go_wp2_with fail
    refine bodyPost_end (v := .tuple #[]) (by simp [results, Try.results132, go_sem]) rfl ?_
    exact ⟨rfl, M6, ⟨_, H7.out⟩, F7.out⟩
end Go.Proofs.Ytmmgnbdngpkfcaa


/-
  A member sends a message, walked.
-/
import Derived.Test.YtmmgnbdngpkfcaaVwD
namespace Go.Proofs.Ytmmgnbdngpkfcaa
open Go.RowKit
set_option linter.unusedVariables false

theorem send_end {M M1 : Col} {X w1 : World} {g : Nat} {c : Vw.Core} {L : Lo} {v : Value} {l : List Vw.Msg} (h : VwL M X g c L) (t : Turn 6 M X M1 w1) (ho : OwnV M1 6 EMsg 89 w1 v l) :
    (VwL M1 (w1.setCell ⟨g, 15, none⟩ v) g { c with msgs := l } { L with mv := v }) ∧ Fr M X M1 (w1.setCell ⟨g, 15, none⟩ v) := by
  have hp := h.p.turn6 t ho
  have hr : w1.heap[g]? = _ := (t.block h.lt (by rw [h.gc]; decide)).trans h.row
  have hg : M1 g = 1 := (t.old g h.lt).trans h.gc
  have t1 : Turn 1 M1 w1 M1 (w1.setCell ⟨g, 15, none⟩ v) := Turn.of_only (turn_dom h.p.dom t) (setg (S := (· = g)) (Only.refl _ w1) rfl 15 v) fun k hk => by rw [hk]; exact hg
  exact ⟨⟨by rw [heap_set hr 15 v]; rfl, hg, hp.turn1 t1, ⟨h.right.n, h.right.me, h.right.pat, h.right.view, h.right.log, h.right.commit, h.right.idle, h.right.begun, h.right.dos, h.right.has⟩⟩, (t.fr (by decide)).trans (t1.fr (by decide))⟩
set_option maxRecDepth 4096 in
set_option maxHeartbeats 6400000 in
theorem vw_send {M : Col} {g : Nat} {c : Vw.Core} (w : World) (h : VwAt M w g c) (m : Vw.Msg) (cs : List Value) (hm : EMsg.rep (Im M) w cs m) (hlen : c.msgs.length ≤ 1000000) :
    Calls Try.prog 132 #[.pointer (some ⟨g, 0, none⟩), .agg cs.toArray] w fun e w' => e = .returned (.tuple #[]) ∧ VwTo M w w' g (c.send m) := by
  obtain ⟨L, h⟩ := h
  obtain ⟨ml, mlc, md, mdc, rfl, hml, hmls, hmd, hmds⟩ := hm
  simp only [msgRow, List.toArray]
  obtain ⟨w1, hw1⟩ : ∃ x, x = w.alloc (.cells #[.int .i64 m.kind, .int .i64 m.frm, .int .i64 m.to_, .int .i64 m.shard, .int .i64 m.view, .int .i64 m.normal, .int .i64 m.at_, .int .i64 m.commit, .int .i64 m.id, .int .i64 m.err, .slice ml m.list.length mlc, .slice md m.data.length mdc] 89) := ⟨_, rfl⟩
  have hb1 : Below w.heap.size w w1 := by rw [hw1]; exact alloc_below _ _
  have hh1 : w1.heap[w.heap.size]? = some (.cells #[.int .i64 m.kind, .int .i64 m.frm, .int .i64 m.to_, .int .i64 m.shard, .int .i64 m.view, .int .i64 m.normal, .int .i64 m.at_, .int .i64 m.commit, .int .i64 m.id, .int .i64 m.err, .slice ml m.list.length mlc, .slice md m.data.length mdc] 89 (0, 0)) := by rw [hw1]; exact heap_alloc_new w _
  have h1 := h.below hb1
  obtain ⟨q, hq⟩ : ∃ q, q = w.heap.size := ⟨_, rfl⟩
  rw [← hq] at hh1 hb1
  have hz1 : w1.heap.size = q + 1 := by rw [hw1, hq]; simp
  have hgq : g < q := by rw [hq]; exact h.lt
  have hmls1 : Sl EBytes (Im M) w1 ml m.list := hmls.below (by decide) (by rw [← hq]; exact hb1)
  have hmds1 : Sl EU8 (Im M) w1 md m.data := hmds.below (by decide) (by rw [← hq]; exact hb1)
  have y0 := h1.c0
  have y2 := h1.c2
  have y5 := h1.c5
  have x1 : w1.cell? ⟨q, 1, none⟩ = some (.int .i64 m.frm) := by simp [World.cell?, hh1]
  have x3 : w1.cell? ⟨q, 3, none⟩ = some (.int .i64 m.shard) := by simp [World.cell?, hh1]
  have x4 : w1.cell? ⟨q, 4, none⟩ = some (.int .i64 m.view) := by simp [World.cell?, hh1]
  have xf : ∀ o, w1.frozen? ⟨q, o, none⟩ = false := fun o => by simp [World.frozen?, hh1]
  -- the message as it is sent
  have hw2 : ∀ w2 : World, w2 = ((w1.setCell ⟨q, 1, none⟩ (.int .i64 c.me)).setCell ⟨q, 3, none⟩ (.int .i64 c.shard)).setCell ⟨q, 4, none⟩ (.int .i64 c.keep.view) →
      Below q w w2 ∧ VwL M w2 g c L ∧ w2.heap[q]? = some (.cells #[.int .i64 m.kind, .int .i64 c.me, .int .i64 m.to_, .int .i64 c.shard, .int .i64 c.keep.view, .int .i64 m.normal, .int .i64 m.at_, .int .i64 m.commit, .int .i64 m.id, .int .i64 m.err, .slice ml m.list.length mlc, .slice md m.data.length mdc] 89 (0, 0)) := by
    rintro w2 rfl
    have hb2 : Below q w1 (((w1.setCell ⟨q, 1, none⟩ (.int .i64 c.me)).setCell ⟨q, 3, none⟩ (.int .i64 c.shard)).setCell ⟨q, 4, none⟩ (.int .i64 c.keep.view)) := setCell_below (setCell_below (setCell_below (Below.refl _ _) (Nat.le_refl _) 1 _) (Nat.le_refl _) 3 _) (Nat.le_refl _) 4 _
    refine ⟨hb1.trans hb2, h.below (by rw [← hq]; exact hb1.trans hb2), ?_⟩
    rw [heap_set (heap_set (heap_set hh1 1 _) 3 _) 4 _]; rfl
  have Hw2 := Lib.hid hw2
  have Hw1 := Lib.hid hw1.symm
  have Hq := Lib.hid hq.symm
  have Hz1 := Lib.hid hz1
  have Hlen := Lib.hid hlen
  have Hms := Lib.hid (And.intro hmls hmds)
  have Hml := Lib.hid (And.intro hml hmd)
  have HL := Lib.hid h
  clear hw2 h h1 hh1 hw1 hq hz1 hlen hmls hmds hml hmd hmls1 hmds1 hb1
  go_enter Try.func132, Try.ntmps132
  go_upto_region 1 with fail
  rw [Hw1.out, Hq.out]
  clear Hw1
  go_region
  obtain ⟨hb5, h5, hh5⟩ := Hw2.out _ rfl
  have h5 := h5.drew
  have hb5 := hb5.drew
  obtain ⟨w5, hw5⟩ : ∃ x, x = (((w1.setCell ⟨q, 1, none⟩ (.int .i64 c.me)).setCell ⟨q, 3, none⟩ (.int .i64 c.shard)).setCell ⟨q, 4, none⟩ (.int .i64 c.keep.view)).drew := ⟨_, rfl⟩
  have hh5 : w5.heap[q]? = some (.cells #[.int .i64 m.kind, .int .i64 c.me, .int .i64 m.to_, .int .i64 c.shard, .int .i64 c.keep.view, .int .i64 m.normal, .int .i64 m.at_, .int .i64 m.commit, .int .i64 m.id, .int .i64 m.err, .slice ml m.list.length mlc, .slice md m.data.length mdc] 89 (0, 0)) := by rw [hw5]; exact hh5
  rw [← hw5] at h5 hb5 ⊢
  clear hw5 y0 y2 y5 x1 x3 x4 xf Hw2
  have x0 : w5.cell? ⟨q, 0, none⟩ = some (.int .i64 m.kind) := by simp [World.cell?, hh5]
  have x1 : w5.cell? ⟨q, 1, none⟩ = some (.int .i64 c.me) := by simp [World.cell?, hh5]
  have x2 : w5.cell? ⟨q, 2, none⟩ = some (.int .i64 m.to_) := by simp [World.cell?, hh5]
  have x3 : w5.cell? ⟨q, 3, none⟩ = some (.int .i64 c.shard) := by simp [World.cell?, hh5]
  have x4 : w5.cell? ⟨q, 4, none⟩ = some (.int .i64 c.keep.view) := by simp [World.cell?, hh5]
  have x5 : w5.cell? ⟨q, 5, none⟩ = some (.int .i64 m.normal) := by simp [World.cell?, hh5]
  have x6 : w5.cell? ⟨q, 6, none⟩ = some (.int .i64 m.at_) := by simp [World.cell?, hh5]
  have x7 : w5.cell? ⟨q, 7, none⟩ = some (.int .i64 m.commit) := by simp [World.cell?, hh5]
  have x8 : w5.cell? ⟨q, 8, none⟩ = some (.int .i64 m.id) := by simp [World.cell?, hh5]
  have x9 : w5.cell? ⟨q, 9, none⟩ = some (.int .i64 m.err) := by simp [World.cell?, hh5]
  have x10 : w5.cell? ⟨q, 10, none⟩ = some (.slice ml m.list.length mlc) := by simp [World.cell?, hh5]
  have x11 : w5.cell? ⟨q, 11, none⟩ = some (.slice md m.data.length mdc) := by simp [World.cell?, hh5]
  have hd5 : Sl EBytes (Im M) w5 ml m.list ∧ Sl EU8 (Im M) w5 md m.data := ⟨Hms.out.1.below (by decide) (by rw [Hq.out]; exact hb5), Hms.out.2.below (by decide) (by rw [Hq.out]; exact hb5)⟩
  have hf5 : Fr M w M w5 := Fr.of_below (by rw [Hq.out]; exact hb5)
  obtain ⟨av, cv, hrv, hcv, hmv⟩ := h5.p.msgs.shape
  have y15 : w5.cell? ⟨g, 15, none⟩ = some (.slice av c.msgs.length cv) := by rw [← hrv]; exact h5.c15
  have hitem : ∀ X : World, Below w5.heap.size w5 X → X.heap[w5.heap.size]? = some (.cells #[.int .i64 m.kind, .int .i64 c.me, .int .i64 m.to_, .int .i64 c.shard, .int .i64 c.keep.view, .int .i64 m.normal, .int .i64 m.at_, .int .i64 m.commit, .int .i64 m.id, .int .i64 m.err, .slice ml m.list.length mlc, .slice md m.data.length mdc] 89 (0, 0)) → OwnV M 6 EMsg 89 X (.slice av c.msgs.length cv) c.msgs ∧ (∀ k, M k ≠ 0 → k < X.heap.size) ∧ Sl EMsg (Im M) X (some ⟨w5.heap.size, 0, none⟩) [{ m with frm := c.me, shard := c.shard, view := c.keep.view }] := by
    intro X hX hh
    have hX5 := h5.below hX
    exact ⟨by rw [← hrv]; exact hX5.p.msgs, hX5.p.dom, sl_one hh ⟨ml, mlc, md, mdc, rfl, Hml.out.1, hd5.1.below (by decide) hX, Hml.out.2, hd5.2.below (by decide) hX⟩ (dom_new h5 (Nat.le_refl _))⟩
  have kA := (alloc_below w5 (.cells #[.int .i64 m.kind, .int .i64 c.me, .int .i64 m.to_, .int .i64 c.shard, .int .i64 c.keep.view, .int .i64 m.normal, .int .i64 m.at_, .int .i64 m.commit, .int .i64 m.id, .int .i64 m.err, .slice ml m.list.length mlc, .slice md m.data.length mdc] 89))
  have kA1 := cell_thru y15 kA
  have hX6 : ∀ (X w6 : World) (M6 : Col), Turn 6 M X M6 w6 → (X = (w5.alloc (.cells #[.int .i64 m.kind, .int .i64 c.me, .int .i64 m.to_, .int .i64 c.shard, .int .i64 c.keep.view, .int .i64 m.normal, .int .i64 m.at_, .int .i64 m.commit, .int .i64 m.id, .int .i64 m.err, .slice ml m.list.length mlc, .slice md m.data.length mdc] 89)) ∨ X = (w5.alloc (.cells #[.int .i64 m.kind, .int .i64 c.me, .int .i64 m.to_, .int .i64 c.shard, .int .i64 c.keep.view, .int .i64 m.normal, .int .i64 m.at_, .int .i64 m.commit, .int .i64 m.id, .int .i64 m.err, .slice ml m.list.length mlc, .slice md m.data.length mdc] 89)).drew) →
      (Fr M w M X ∧ VwL M X g c L) ∧ w6.cell? ⟨g, 15, none⟩ = some (.slice av c.msgs.length cv) ∧ w6.frozen? ⟨g, 15, none⟩ = false := by
    intro X w6 M6 t hX
    have hbX : Below w5.heap.size w5 X := by rcases hX with rfl | rfl; exact kA; exact kA.drew
    have hX5 := h5.below hbX
    have hb6 := t.block hX5.lt (by rw [hX5.gc]; decide)
    exact ⟨⟨hf5.trans (Fr.of_below hbX), hX5⟩, (cell_keep hb6).trans (cell_thru y15 hbX), (World.frozen?_of_block (a := ⟨g, 15, none⟩) hb6).trans (hX5.fz 15)⟩
  have HX6 := Lib.hid hX6
  have HkA := Lib.hid kA
  have Hitem := Lib.hid hitem
  have HhA := Lib.hid (heap_alloc_new w5 (.cells #[.int .i64 m.kind, .int .i64 c.me, .int .i64 m.to_, .int .i64 c.shard, .int .i64 c.keep.view, .int .i64 m.normal, .int .i64 m.at_, .int .i64 m.commit, .int .i64 m.id, .int .i64 m.err, .slice ml m.list.length mlc, .slice md m.data.length mdc] 89))
  clear hitem hh5 hd5 kA hf5 hrv hX6 h5 hb5
  go_wp2_with fail
  go_region_law ((rw [if_pos (by simp [Region.wanted])]
                  refine step_appC EMsg (by rfl) (by rfl) (by rfl) ti_mails (Hitem.out _ (by first | exact HkA.out | exact HkA.out.drew) HhA.out).1 (by decide) (Hitem.out _ (by first | exact HkA.out | exact HkA.out.drew) HhA.out).2.1 rfl (Hitem.out _ (by first | exact HkA.out | exact HkA.out.drew) HhA.out).2.2 (by simp) (by have := Hlen.out; unfold maxLen; simp; omega) (by have := Hlen.out; simp; omega) ?_
                  intro v6 w6 M6 ho6 ht6
                  obtain ⟨hx6, k6, kf6⟩ := HX6.out _ _ _ ht6 (by first | exact .inl rfl | exact .inr rfl)
                  obtain ⟨a6, n6, c6, rfl⟩ := ho6.shape'))
  all_goals
    obtain ⟨fX, hX⟩ := hx6
    obtain ⟨h7, f7⟩ := send_end hX ht6 ho6
    have H7 := Lib.hid h7
    have F7 := Lib.hid (fX.trans f7)
    clear h7 f7 hX ho6 ht6 fX
    go_wp2_with fail
    refine bodyPost_end (v := .tuple #[]) (by simp [results, Try.results132, go_sem]) rfl ?_
    exact ⟨rfl, M6, ⟨_, H7.out⟩, F7.out⟩
end Go.Proofs.Ytmmgnbdngpkfcaa

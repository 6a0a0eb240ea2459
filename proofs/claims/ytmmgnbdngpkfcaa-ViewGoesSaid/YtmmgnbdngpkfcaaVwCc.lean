/-
  A member hears that its view is wanted: walked.
  A member takes entries of the one that leads: walked.
  What a member's steps leave as it was, and how much they may add.
  A member takes a message: what its walks stand on.
  A member takes a message: the codes of its switches.
-/
import Derived.Test.YtmmgnbdngpkfcaaVwBe
import Derived.Test.YtmmgnbdngpkfcaaVwZ
namespace Go.Proofs.Ytmmgnbdngpkfcaa
open Go.RowKit
set_option linter.unusedVariables false

theorem vzero_bool (w : World) : (zeroValue 4).run Try.prog w = .ok (.bool false) w := by
  have h : (Try.prog.info? 4).map (fun i => i.zero) = some (some (.bool false)) := by kernel_rfl
  obtain ⟨i, hi, hz⟩ := Option.map_eq_some_iff.1 h
  simp [zeroValue, typeInfo, hi, hz]
theorem begun_look {M : Col} {w : World} {g : Nat} {c : Vw.Core} {L : Lo} (h : VwL M w g c L) (z : Int) (hz : 1 ≤ z ∧ z ≤ 7) :
    ∀ W : World, W.heap = w.heap → (Instr.lookup 28 (.map (some L.bb)) (.int .i64 z) false).run Try.prog W = .ok (.bool (c.begun z)) W := by
  intro W hW
  have hm : IMap W L.bb 8 _ := h.p.begun.keep (by rw [hW])
  have := hm.lookup (t := 28) (e := 4) (z := .bool false) Try.underlying28 (vzero_bool W) (k := z) (by unfold i64ok; omega)
  rw [this]
  cases c.begun z <;> rfl
/-- a message as a function's own variable, beside the member -/
theorem msg_box {M : Col} {w : World} {g : Nat} {c : Vw.Core} {L : Lo} (h : VwL M w g c L) (m : Vw.Msg) (cs : List Value) (hm : EMsg.rep (Im M) w cs m) :
    ∃ M9 la lc da dc, cs = msgRow m (.slice la m.list.length lc) (.slice da m.data.length dc) ∧ M9 w.heap.size = 9 ∧ VwL M9 (w.alloc (.cells cs.toArray 89)) g c L ∧ Fr M w M9 (w.alloc (.cells cs.toArray 89)) ∧ EMsg.rep (Im M9) (w.alloc (.cells cs.toArray 89)) cs m ∧ (w.alloc (.cells cs.toArray 89)).heap[w.heap.size]? = some (.cells cs.toArray 89 (0, 0)) ∧
      (m.list.length ≤ lc ∧ lc ≤ maxLen) ∧ Sl EBytes (Im M9) (w.alloc (.cells cs.toArray 89)) la m.list ∧ (m.data.length ≤ dc ∧ dc ≤ maxLen) ∧ Sl EU8 (Im M9) (w.alloc (.cells cs.toArray 89)) da m.data := by
  obtain ⟨h1, f1⟩ := h.box (.cells cs.toArray 89)
  have hm' := EMsg.mono hm fun k hk hlt => ⟨f1.block hlt hk, f1.zero hlt hk⟩
  obtain ⟨la, lc, da, dc, e, r1, r2, r3, r4⟩ := hm'
  exact ⟨updC M w.heap.size 9, la, lc, da, dc, e, updC_same _ _ _, h1, f1, ⟨la, lc, da, dc, e, r1, r2, r3, r4⟩, heap_alloc_new w _, r1, r2, r3, r4⟩
set_option maxRecDepth 16384 in
set_option maxHeartbeats 12800000 in
theorem vw_started {M : Col} {g : Nat} {c : Vw.Core} (w : World) (h : VwAt M w g c) (m : Vw.Msg) (cs : List Value) (hm : EMsg.rep (Im M) w cs m) (hfr : 1 ≤ m.frm ∧ m.frm ≤ c.n) (hlr : c.recs.length ≤ 50000) (hlm : c.msgs.length ≤ 50000) (hld : c.done.length ≤ 50000) :
    Calls Try.prog 137 #[.pointer (some ⟨g, 0, none⟩), .agg cs.toArray] w fun e w' => e = .returned (.tuple #[]) ∧ VwTo M w w' g (c.started m) := by
  obtain ⟨L, h⟩ := h
  obtain ⟨M9, la, lc, da, dc, rfl, h9, h1, f1, hm1, hh1, r1, r2, r3, r4⟩ := msg_box h m cs hm
  have hR := h.right
  have hn := hR.n
  obtain ⟨mn, hmn⟩ : ∃ x, x = m.list.length := ⟨_, rfl⟩
  obtain ⟨md, hmd⟩ : ∃ x, x = m.data.length := ⟨_, rfl⟩
  simp only [msgRow, List.toArray] at h1 f1 hm1 hh1 ⊢
  rw [← hmn, ← hmd] at h1 f1 hm1 hh1 ⊢
  obtain ⟨w1, hw1⟩ : ∃ x, x = w.alloc (.cells #[.int .i64 m.kind, .int .i64 m.frm, .int .i64 m.to_, .int .i64 m.shard, .int .i64 m.view, .int .i64 m.normal, .int .i64 m.at_, .int .i64 m.commit, .int .i64 m.id, .int .i64 m.err, .slice la mn lc, .slice da md dc] 89) := ⟨_, rfl⟩
  rw [← hw1] at h1 f1 hm1 hh1
  obtain ⟨q, hq⟩ : ∃ q, q = w.heap.size := ⟨_, rfl⟩
  have hz1 : w1.heap.size = q + 1 := by rw [hw1, hq]; simp
  rw [← hq] at h9 hh1
  have e1 : w1.cell? ⟨q, 1, none⟩ = some (.int .i64 m.frm) := by simp [World.cell?, hh1]
  have e4 : w1.cell? ⟨q, 4, none⟩ = some (.int .i64 m.view) := by simp [World.cell?, hh1]
  have y5 : w1.cell? ⟨g, 5, none⟩ = some (.int .i64 c.keep.view) := h1.c5
  have HW := Lib.hid hw1.symm
  have Hq := Lib.hid hq
  have H9 := Lib.hid h9
  have H1 := Lib.hid h1
  have F1 := Lib.hid f1
  have Hh1 := Lib.hid hh1
  have Hz1 := Lib.hid hz1
  have Hl := Lib.hid (And.intro hlr (And.intro hlm hld))
  have hfin : ∀ (w5 : World) (c' : Vw.Core), VwTo M9 w1 w5 g c' → VwTo M w w5 g c' := fun w5 c' t => to_unbox hq f1 h9 (by omega) t (Only.refl _ _)
  have Hfin := Lib.hid hfin
  obtain ⟨ne, hne⟩ : ∃ b, (m.view != c.keep.view) = b := ⟨_, rfl⟩
  have Hr := Lib.hid (And.intro hmn (And.intro r1 (And.intro r2 (And.intro hmd (And.intro r3 r4)))))
  clear hw1 hq h9 h1 f1 hm1 hh1 hz1 hlr hlm hld hfin h hm hmn hmd r1 r2 r3 r4 hR
  go_enter Try.func137, Try.ntmps137
  go_upto_region 1 with fail
  rw [HW.out, ← Hq.out]
  clear HW
  go_wp2_with fail
  go_region_held3 (fun W => W.cell? ⟨q, 4, none⟩ = some (.int .i64 m.view) ∧ W.cell? ⟨g, 5, none⟩ = some (.int .i64 c.keep.view)) (first | exact ⟨e4, y5⟩ | go_keep) (fail)
  cases ne with
  | true =>
    have hs : c.started m = c := by unfold Vw.Core.started; rw [if_pos (by simpa using hne)]
    have T5 : RowKit.Hid (VwTo M w w1.drew g (c.started m)) := Lib.hid (by rw [hs]; exact Hfin.out _ _ ⟨M9, ⟨L, H1.out.drew⟩, (Fr.refl _ _).drew⟩)
    clear hs
    go_wp2_with fail
    refine bodyPost_end (v := .tuple #[]) (by simp [results, Try.results137, go_sem]) rfl ?_
    exact ⟨rfl, T5.out⟩
  | false =>
    obtain ⟨w2, hw2⟩ : ∃ x, x = w1.drew := ⟨_, rfl⟩
    have h2 : VwL M9 w2 g c L := by rw [hw2]; exact H1.out.drew
    have f2 : Fr M9 w1 M9 w2 := by rw [hw2]; exact (Fr.refl _ _).drew
    have hh2 : w2.heap[q]? = some (.cells #[.int .i64 m.kind, .int .i64 m.frm, .int .i64 m.to_, .int .i64 m.shard, .int .i64 m.view, .int .i64 m.normal, .int .i64 m.at_, .int .i64 m.commit, .int .i64 m.id, .int .i64 m.err, .slice la mn lc, .slice da md dc] 89 (0, 0)) := by rw [hw2]; exact Hh1.out
    have hz2 : w2.heap.size = q + 1 := by rw [hw2]; exact Hz1.out
    rw [← hw2]
    have k1 : w2.cell? ⟨q, 1, none⟩ = some (.int .i64 m.frm) := by simp [World.cell?, hh2]
    have y8 : w2.cell? ⟨g, 8, none⟩ = some (.bool c.ch) := h2.c8
    have hve : ¬ m.view ≠ c.keep.view := by simpa using hne
    have Hve := Lib.hid hve
    have H2 := Lib.hid h2
    have F2 := Lib.hid f2
    have Hh2 := Lib.hid hh2
    have Hz2 := Lib.hid hz2
    have Hne := Lib.hid hne
    clear hve h2 f2 hh2 hz2 hw2 e1 e4 y5 H1 Hh1 Hz1
    obtain ⟨ch, hch⟩ : ∃ b, c.ch = b := ⟨_, rfl⟩
    rw [hch] at y8
    cases ch with
    | true =>
      have y12 : w2.cell? ⟨g, 12, none⟩ = some (.map (some L.bb)) := H2.out.c12
      have hlk := begun_look H2.out m.frm (by omega)
      obtain ⟨bg, hbg⟩ : ∃ b, c.begun m.frm = b := ⟨_, rfl⟩
      rw [hbg] at hlk
      have hlkn : ∀ n, (Instr.lookup 28 (.map (some L.bb)) (.int .i64 m.frm) false).run Try.prog (w2.drewN n) = .ok (.bool bg) (w2.drewN n) := fun n => hlk _ (drewN_heap w2 n)
      have hlk1 := hlk w2.drew rfl
      have hlk0 := hlk w2 rfl
      have Hch := Lib.hid hch
      have Hbg := Lib.hid hbg
      clear hlk hch hbg
      go_wp2_with fail
      go_quiet (fail)
      obtain ⟨w3, hw3⟩ : ∃ x, x = w2.drewN nq := ⟨_, rfl⟩
      rw [← hw3]
      have hb3 : Below w2.heap.size w2 w3 := by rw [hw3]; exact below_drewN (Below.refl _ _) nq
      clear hw3 hlkn hlk1 hlk0 y8
      cases bg with
      | true =>
        have hs : c.started m = c := by
          unfold Vw.Core.started
          rw [if_neg Hve.out, Hch.out, if_pos rfl, Hbg.out]; rfl
        have T5 : RowKit.Hid (VwTo M w w3 g (c.started m)) := Lib.hid (by rw [hs]; exact Hfin.out _ _ ⟨M9, ⟨L, H2.out.below hb3⟩, F2.out.trans (Fr.of_below hb3)⟩)
        clear hs
        go_wp2_with fail
        refine bodyPost_end (v := .tuple #[]) (by simp [results, Try.results137, go_sem]) rfl ?_
        exact ⟨rfl, T5.out⟩
      | false =>
        have hs : c.started m = ({ c with begun := fun x => decide (x = m.frm) || c.begun x } : Vw.Core).wanted := by
          unfold Vw.Core.started
          rw [if_neg Hve.out, Hch.out, if_pos rfl, Hbg.out]; rfl
        have h3 := H2.out.below hb3
        obtain ⟨w6, hup, h6, f6, _⟩ := begun_put h3.drew m.frm hfr
        have hz3 : q < w3.heap.size := by have := hb3.size; have := Hz2.out; omega
        have hhd6 : w6.heap[q]? = _ := ((f6.other (k := q) hz3 (by have := H9.out; omega)).1).trans ((hb3.block q (by have := Hz2.out; omega)).trans Hh2.out)
        have j12 : w6.cell? ⟨g, 12, none⟩ = some (.map (some L.bb)) := h6.c12
        have j1 : w6.cell? ⟨q, 1, none⟩ = some (.int .i64 m.frm) := by simp [World.cell?, hhd6]
        have i12 : w3.cell? ⟨g, 12, none⟩ = some (.map (some L.bb)) := h3.c12
        have i1 : w3.cell? ⟨q, 1, none⟩ = some (.int .i64 m.frm) := cell_thru k1 hb3
        have hBg := vw_wanted w6 ⟨L, h6⟩ (by show c.recs.length ≤ 50000; exact Hl.out.1) (by show c.msgs.length ≤ 50000; exact Hl.out.2.1) (by show c.done.length ≤ 50000; exact Hl.out.2.2)
        rw [← hs] at hBg
        have HBg := Lib.hid hBg
        have F6 := Lib.hid (F2.out.trans ((Fr.of_below hb3).trans ((Fr.refl _ w3).drew.trans f6)))
        clear hs h3 h6 f6 hhd6 hBg hb3 hz3 k1 y12
        go_wp2_with fail
        go_region_held3 (fun W => W.cell? ⟨g, 12, none⟩ = some (.map (some L.bb)) ∧ W.cell? ⟨q, 1, none⟩ = some (.int .i64 m.frm)) (first | exact ⟨i12, i1⟩ | exact ⟨j12, j1⟩ | go_keep) (fail)
        all_goals
          clear i12 i1 j12 j1 hup
          go_wp2_with fail
          refine HBg.out.mono ?_
          rintro e w7 ⟨rfl, t7⟩
          have T7 := Lib.hid (Hfin.out _ _ (VwTo.trans F6.out t7))
          clear t7
          go_wp2_with fail
          refine bodyPost_end (v := .tuple #[]) (by simp [results, Try.results137, go_sem]) rfl ?_
          exact ⟨rfl, T7.out⟩
    | false =>
      have hLd := vw_Leads w2 ⟨L, H2.out⟩
      obtain ⟨ld, hld⟩ : ∃ b, c.leads = b := ⟨_, rfl⟩
      rw [hld] at hLd
      have HLd := Lib.hid hLd
      have Hld := Lib.hid hld
      have Hch := Lib.hid hch
      clear hLd hld hch
      go_wp2_with fail
      refine HLd.out.mono ?_
      rintro e w3 ⟨rfl, hb3⟩
      have h3 := H2.out.below hb3
      have i1 : w3.cell? ⟨q, 1, none⟩ = some (.int .i64 m.frm) := cell_thru k1 hb3
      have F3 := Lib.hid (F2.out.trans (Fr.of_below hb3))
      have H3 := Lib.hid h3
      clear h3 hb3 y8 k1 HLd
      cases ld with
      | false =>
        have hs : c.started m = c := by
          unfold Vw.Core.started
          rw [if_neg Hve.out, Hch.out, if_neg (by simp), Hld.out]; rfl
        have T5 : RowKit.Hid (VwTo M w w3 g (c.started m)) := Lib.hid (by rw [hs]; exact Hfin.out _ _ ⟨M9, ⟨L, H3.out⟩, F3.out⟩)
        clear hs
        go_wp2_with fail
        refine bodyPost_end (v := .tuple #[]) (by simp [results, Try.results137, go_sem]) rfl ?_
        exact ⟨rfl, T5.out⟩
      | true =>
        have hs : c.started m = c.send { Vw.Msg.z with kind := 5, to_ := m.frm, commit := c.commit, list := c.keep.log } := by
          unfold Vw.Core.started
          rw [if_neg Hve.out, Hch.out, if_neg (by simp), Hld.out]; rfl
        obtain ⟨kn, hkn⟩ : ∃ kn, kn = c.keep.log.length := ⟨_, rfl⟩
        have i9 : w3.cell? ⟨g, 9, none⟩ = some (.int .i64 c.commit) := H3.out.c9
        have i7 : w3.cell? ⟨g, 7, none⟩ = some (.slice L.la kn L.lc) := by rw [hkn]; exact H3.out.c7
        have hC : Calls Try.prog 132 #[.pointer (some ⟨g, 0, none⟩), .agg #[.int .i64 5, .int .i64 0, .int .i64 m.frm, .int .i64 0, .int .i64 0, .int .i64 0, .int .i64 0, .int .i64 c.commit, .int .i64 0, .int .i64 0, .slice L.la kn L.lc, .slice none 0 0]] w3.drew fun e w' => e = .returned (.tuple #[]) ∧ VwTo M9 w3.drew w' g (c.started m) := by
          rw [hs]
          refine vw_send w3.drew ⟨L, H3.out.drew⟩ _ _ ⟨L.la, L.lc, none, 0, ?_, H3.out.p.lc, H3.out.p.log.heap (by decide) rfl, ⟨Nat.le_refl _, Nat.zero_le _⟩, Sl.nil _ _ _ _⟩ (by have := Hl.out; omega)
          rw [hkn]; rfl
        have HC := Lib.hid hC
        clear hC hs hkn
        go_wp2_with fail
        go_region_law ((go_simp; go_at_call 132; refine HC.out.mono ?_; rintro e w4 ⟨rfl, h4⟩))
        all_goals
          have T5 := Lib.hid (Hfin.out _ _ (VwTo.trans F3.out.drew h4))
          clear h4
          go_wp2_with fail
          refine bodyPost_end (v := .tuple #[]) (by simp [results, Try.results137, go_sem]) rfl ?_
          exact ⟨rfl, T5.out⟩
end Go.Proofs.Ytmmgnbdngpkfcaa

namespace Go.Proofs.Ytmmgnbdngpkfcaa
open Go.RowKit
set_option linter.unusedVariables false

namespace Vw
namespace Core
def prepTo (c : Core) (m : Msg) (j : Nat) : Core := (List.range j).foldl (fun c i => c.prepS m i) c
theorem prepTo_succ (c : Core) (m : Msg) (j : Nat) : c.prepTo m (j + 1) = (c.prepTo m j).prepS m j := by
  unfold prepTo; rw [List.range_succ, List.foldl_append]; rfl
theorem prepS_yes (c : Core) (m : Msg) (i : Nat) (h : i < m.list.length) (h1 : (c.keep.log.length : Int) ≤ m.at_ + i) (h2 : c.keep.log.length < 2000) : c.prepS m i = c.rec_ ⟨2, 0, 0, m.list[i]⟩ := by
  unfold prepS
  rw [List.getElem?_eq_getElem h]
  simp only
  rw [if_pos ⟨h1, h2⟩]
theorem prepS_no (c : Core) (m : Msg) (i : Nat) (h1 : ¬ ((c.keep.log.length : Int) ≤ m.at_ + i ∧ c.keep.log.length < 2000)) : c.prepS m i = c := by
  unfold prepS
  split
  · rw [if_neg (fun h => h1 ⟨h.1, h.2⟩)]
  · rfl
theorem prepS_rest (c : Core) (m : Msg) (i : Nat) : (c.prepS m i).recs.length ≤ c.recs.length + 1 ∧ (c.prepS m i).n = c.n ∧ (c.prepS m i).me = c.me ∧ (c.prepS m i).msgs = c.msgs ∧ (c.prepS m i).done = c.done := by
  unfold prepS
  split
  · split
    · exact ⟨by show (c.recs ++ [_]).length ≤ _; simp, rfl, rfl, rfl, rfl⟩
    · exact ⟨Nat.le_succ _, rfl, rfl, rfl, rfl⟩
  · exact ⟨Nat.le_succ _, rfl, rfl, rfl, rfl⟩
theorem prepTo_rest (c : Core) (m : Msg) : ∀ j, (c.prepTo m j).recs.length ≤ c.recs.length + j ∧ (c.prepTo m j).n = c.n ∧ (c.prepTo m j).me = c.me ∧ (c.prepTo m j).msgs = c.msgs ∧ (c.prepTo m j).done = c.done
  | 0 => ⟨Nat.le_refl _, rfl, rfl, rfl, rfl⟩
  | j + 1 => by
    obtain ⟨a1, a2, a3, a4, a5⟩ := prepTo_rest c m j
    obtain ⟨b1, b2, b3, b4, b5⟩ := (c.prepTo m j).prepS_rest m j
    rw [prepTo_succ]
    exact ⟨by omega, b2.trans a2, b3.trans a3, b4.trans a4, b5.trans a5⟩
end Core
end Vw
set_option maxRecDepth 16384 in
set_option maxHeartbeats 12800000 in
theorem vw_prep {M : Col} {g : Nat} {c : Vw.Core} (w : World) (h : VwAt M w g c) (m : Vw.Msg) (cs : List Value) (hm : EMsg.rep (Im M) w cs m) (hat : 0 ≤ m.at_) (hat2 : m.at_ ≤ 9223372036854775807) (hsm : Vw.Small m.list) (hlr : c.recs.length ≤ 50000) (hlm : c.msgs.length ≤ 50000) (hld : c.done.length ≤ 50000) :
    Calls Try.prog 139 #[.pointer (some ⟨g, 0, none⟩), .agg cs.toArray] w fun e w' => e = .returned (.tuple #[]) ∧ VwTo M w w' g (c.prep m) := by
  obtain ⟨L, h⟩ := h
  obtain ⟨M9, la, lc, da, dc, rfl, h9, h1, f1, hm1, hh1, r1, r2, r3, r4⟩ := msg_box h m cs hm
  obtain ⟨mn, hmn⟩ : ∃ x, x = m.list.length := ⟨_, rfl⟩
  obtain ⟨md, hmd⟩ : ∃ x, x = m.data.length := ⟨_, rfl⟩
  simp only [msgRow, List.toArray] at h1 f1 hm1 hh1 r2 r4 ⊢
  rw [← hmn, ← hmd] at h1 f1 hm1 hh1 r2 r4 ⊢
  obtain ⟨w1, hw1⟩ : ∃ x, x = w.alloc (.cells #[.int .i64 m.kind, .int .i64 m.frm, .int .i64 m.to_, .int .i64 m.shard, .int .i64 m.view, .int .i64 m.normal, .int .i64 m.at_, .int .i64 m.commit, .int .i64 m.id, .int .i64 m.err, .slice la mn lc, .slice da md dc] 89) := ⟨_, rfl⟩
  rw [← hw1] at h1 f1 hm1 hh1 r2 r4
  obtain ⟨q, hq⟩ : ∃ q, q = w.heap.size := ⟨_, rfl⟩
  have hz1 : w1.heap.size = q + 1 := by rw [hw1, hq]; simp
  rw [← hq] at h9 hh1
  have y10 : w1.cell? ⟨g, 10, none⟩ = some (.int .i64 c.idle) := h1.c10
  have yf := h1.fz 10
  obtain ⟨h2, f2⟩ := idle_fold 0 h1 ⟨Int.le_refl 0, by decide⟩
  obtain ⟨w2, hw2⟩ : ∃ x, x = w1.setCell ⟨g, 10, none⟩ (.int .i64 0) := ⟨_, rfl⟩
  rw [← hw2] at h2 f2
  obtain ⟨c1, hc1⟩ : ∃ c1 : Vw.Core, c1 = { c with idle := 0 } := ⟨_, rfl⟩
  have hv2 : VwL M9 w2 g c1 L := by rw [hc1]; exact h2
  have k1 : c1.recs = c.recs ∧ c1.msgs = c.msgs ∧ c1.done = c.done ∧ c1.n = c.n := by rw [hc1]; exact ⟨rfl, rfl, rfl, rfl⟩
  have HBox : RowKit.Hid (∀ (M' : Col) (W : World), Fr M9 w1 M' W → (W.heap[q]? = some (.cells #[.int .i64 m.kind, .int .i64 m.frm, .int .i64 m.to_, .int .i64 m.shard, .int .i64 m.view, .int .i64 m.normal, .int .i64 m.at_, .int .i64 m.commit, .int .i64 m.id, .int .i64 m.err, .slice la mn lc, .slice da md dc] 89 (0, 0))) ∧ Sl EBytes (Im M') W la m.list) := Lib.hid fun M' W f => ⟨((f.other (k := q) (by omega) (by omega)).1).trans hh1, r2.fr (by decide) f⟩
  have Hfin : RowKit.Hid (∀ (w5 : World) (c' : Vw.Core), VwTo M9 w1 w5 g c' → VwTo M w w5 g c') := Lib.hid fun w5 c' t => to_unbox hq f1 h9 (by omega) t (Only.refl _ _)
  have hPrep : c.prep m = (let c2 := if m.at_ ≤ (c1.keep.log.length : Int) then (c1.prepTo m m.list.length).reach m.commit else c1; c2.send { Vw.Msg.z with kind := 2, to_ := m.frm, at_ := c2.keep.log.length }) := by rw [hc1]; rfl
  have HW := Lib.hid hw1.symm
  have HW2 := Lib.hid hw2.symm
  have Hq := Lib.hid hq
  have F2 := Lib.hid f2
  have Hv2 := Lib.hid hv2
  have K1 := Lib.hid (And.intro k1 (And.intro hlr (And.intro hlm hld)))
  have Hmn := Lib.hid hmn
  have HPrep := Lib.hid hPrep
  have Hsm := Lib.hid hsm
  have hmn2 : mn ≤ 2000 := by rw [hmn]; exact hsm.1
  clear hw1 hw2 hq h9 h1 f1 hm1 hh1 hz1 h2 f2 hc1 hv2 k1 hPrep r1 r2 r3 r4 hmd hsm hlr hlm hld h hm hmn
  go_enter Try.func139, Try.ntmps139
  go_upto_region 1 with fail
  rw [HW.out, ← Hq.out]
  clear HW
  go_upto_region 2 with fail
  rw [HW2.out]
  clear HW2 y10 yf
  obtain ⟨b2, s2⟩ := HBox.out _ _ F2.out
  have e6 : w2.cell? ⟨q, 6, none⟩ = some (.int .i64 m.at_) := by simp [World.cell?, b2]
  obtain ⟨kn, hkn⟩ : ∃ kn, kn = c1.keep.log.length := ⟨_, rfl⟩
  have y7 : w2.cell? ⟨g, 7, none⟩ = some (.slice L.la kn L.lc) := by rw [hkn]; exact Hv2.out.c7
  have Hkn := Lib.hid hkn
  clear b2 s2 hkn
  by_cases hA : m.at_ ≤ (kn : Int)
  · have hAd : decide (m.at_ ≤ (kn : Int)) = true := by simpa using hA
    go_wp2_with fail
    go_region_held3 (fun W => W.cell? ⟨q, 6, none⟩ = some (.int .i64 m.at_) ∧ W.cell? ⟨g, 7, none⟩ = some (.slice L.la kn L.lc)) (first | exact ⟨e6, y7⟩ | go_keep) (fail)
    obtain ⟨w3, hw3⟩ : ∃ x, x = w2.drew := ⟨_, rfl⟩
    have T3 : RowKit.Hid (VwTo M9 w1 w3 g c1) := Lib.hid ⟨M9, ⟨L, by rw [hw3]; exact Hv2.out.drew⟩, by rw [hw3]; exact F2.out.drew⟩
    rw [← hw3]
    clear hw3 e6 y7 F2 Hv2
    have hkn2 : kn ≤ 2000 := by obtain ⟨_, ⟨_, hx⟩, _⟩ := T3.out; rw [Hkn.out]; exact hx.right.log.1
    obtain ⟨M3, h3, f3⟩ := T3.out
    obtain ⟨b3, s3⟩ := HBox.out _ _ f3
    have i10 : w3.cell? ⟨q, 10, none⟩ = some (.slice la mn lc) := by simp [World.cell?, b3]
    have S3 : RowKit.Hid (∀ (M' : Col) (W : World), Fr M9 w1 M' W → Sl EBytes (Im M') W la m.list) := Lib.hid fun M' W f => (HBox.out _ _ f).2
    clear h3 f3 b3 s3
    go_wp2_with fail
    clear i10
    go_loopg [21] mn (fun gn i wr => ∃ j : Nat, RowKit.Hid (gn = mn - j) ∧ j ≤ mn ∧ i = .int .i64 j ∧ RowKit.Hid (VwTo M9 w1 wr g (c1.prepTo m j)))
    case atStart => exact ⟨0, Lib.hid rfl, Nat.zero_le _, rfl, T3⟩
    case round =>
      clear T3
      obtain ⟨j, hgn, hj, rfl, hT⟩ := hrel
      obtain ⟨M6, ⟨L6, h6⟩, f6⟩ := hT.out
      obtain ⟨a1, a2, a3, a4, a5⟩ := c1.prepTo_rest m j
      have b6 := (HBox.out _ _ f6).1
      by_cases hjlt : j < mn
      · have hji : (j : Int) < (mn : Int) := by omega
        have hjl : j < m.list.length := by rw [← Hmn.out]; exact hjlt
        have hadd : IntKind.i64.wrap ((j : Int) + 1) = (j : Int) + 1 := IntWalk.i64_in _ (by omega)
        have hadd2 : IntKind.i64.wrap (m.at_ + (j : Int)) = m.at_ + (j : Int) := IntWalk.i64_in _ (by omega)
        obtain ⟨b7, o7, a7, c7, rfl, _, e7, q7, t7⟩ := byts_atG (S3.out _ _ f6) j hjl
        have hsm7 := Hsm.out.2 _ (List.getElem_mem hjl)
        obtain ⟨D, hD⟩ : ∃ D, D = m.list[j] := ⟨_, rfl⟩
        rw [← hD] at e7 q7 t7 hsm7
        obtain ⟨nD, hnD⟩ : ∃ n, n = D.length := ⟨_, rfl⟩
        rw [← hnD] at e7 q7 hsm7
        obtain ⟨kj, hkj⟩ : ∃ kj, kj = (c1.prepTo m j).keep.log.length := ⟨_, rfl⟩
        have hkj2 : kj ≤ 2000 := by rw [hkj]; exact h6.right.log.1
        have i6 : wr.cell? ⟨q, 6, none⟩ = some (.int .i64 m.at_) := by simp [World.cell?, b6]
        have i7 : wr.cell? ⟨g, 7, none⟩ = some (.slice L6.la kj L6.lc) := by rw [hkj]; exact h6.c7
        have hno : ¬ ((kj : Int) ≤ m.at_ + j ∧ kj < 2000) → RowKit.Hid (∀ W : World, Below wr.heap.size wr W → VwTo M9 w1 W g (c1.prepTo m (j + 1))) := fun hn => Lib.hid fun W hb => by
          rw [c1.prepTo_succ m j, Vw.Core.prepS_no _ _ _ (by rw [← hkj]; exact hn)]
          exact ⟨M6, ⟨L6, h6.below hb⟩, f6.trans (Fr.of_below hb)⟩
        have hyes : ((kj : Int) ≤ m.at_ + j ∧ kj < 2000) → RowKit.Hid (∀ (w8 : World) (a8 : Option Addr) (c8 : Nat), Below wr.drew.heap.size wr.drew w8 → (nD ≤ c8 ∧ c8 ≤ maxLen) → Sl EU8 (Im M6) w8 a8 D → Calls Try.prog 94 #[.pointer (some ⟨g, 0, none⟩), .agg #[.int .i64 2, .int .i64 0, .int .i64 0, .slice a8 nD c8]] w8 fun e w' => e = .returned (.tuple #[]) ∧ VwTo M9 w1 w' g (c1.prepTo m (j + 1))) := fun hy => Lib.hid fun w8 a8 c8 hb8 hc8 hs8 => by
          have hp : c1.prepTo m (j + 1) = (c1.prepTo m j).rec_ ⟨2, 0, 0, D⟩ := by rw [c1.prepTo_succ m j, Vw.Core.prepS_yes _ _ _ hjl (by rw [← hkj]; exact hy.1) (by rw [← hkj]; exact hy.2), ← hD]
          rw [hp]
          have hb9 : Below wr.heap.size wr w8 := (Below.refl _ _).drew.trans hb8
          refine (vw_rec w8 ⟨L6, h6.below hb9⟩ ⟨2, 0, 0, D⟩ a8 nD c8 hnD hc8 hs8 ⟨by show (-9223372036854775808 : Int) ≤ 0; decide, by show (0 : Int) ≤ 9223372036854775807; decide⟩ (Vw.put_right h6.right (by rw [← hnD]; exact hsm7) (by rw [← hkj]; exact hy.2)) (by have := K1.out; rw [this.1.1] at a1; omega)).mono ?_
          rintro e w' ⟨e1, t⟩
          exact ⟨e1, VwTo.trans (f6.trans (Fr.of_below hb9)) t⟩
        have HCl : RowKit.Hid (Calls Try.prog 95 #[.slice a7 nD c7] wr.drew fun e w' => ∃ a' c', e = .returned (.slice a' nD c') ∧ (nD ≤ c' ∧ c' ≤ maxLen) ∧ Sl EU8 (Im M6) w' a' D ∧ Below wr.drew.heap.size wr.drew w') := Lib.hid (vw_cloneB (Im M6) a7 nD c7 D wr.drew hnD (t7.heap (by decide) rfl) (fun k hk => dom_new h6 hk) (by omega))
        clear h6 f6 hD hnD t7 q7 a1 a2 a3 a4 a5 b6 hT hkj
        by_cases hB : (kj : Int) ≤ m.at_ + (j : Int)
        · by_cases hC : kj < 2000
          · have hCi : (kj : Int) < 2000 := by omega
            have HY := hyes ⟨hB, hC⟩
            clear hno hyes
            go_wp2_with fail
            go_region_held3 (fun W => W.cell? ⟨q, 6, none⟩ = some (.int .i64 m.at_) ∧ W.cell? ⟨g, 7, none⟩ = some (.slice L6.la kj L6.lc)) (first | exact ⟨i6, i7⟩ | go_keep) (fail)
            clear i6 i7 e7
            go_wp2_with fail
            refine HCl.out.mono ?_
            rintro e w8 ⟨a8, c8, rfl, hc8, hs8, hb8⟩
            have HR8 := Lib.hid (HY.out w8 a8 c8 hb8 hc8 hs8)
            clear hc8 hs8 hb8 HY HCl
            go_wp2_with fail
            refine HR8.out.mono ?_
            rintro e w9 ⟨rfl, t9⟩
            have T9 := Lib.hid t9
            clear t9 HR8
            go_wp2_with fail
            go_roundg (mn - (j + 1))
            case measure => rw [hgn.out]; omega
            case rel => exact ⟨j + 1, Lib.hid rfl, by omega, by go_num, T9⟩
          · have hCi : ¬ (kj : Int) < 2000 := by omega
            have HY := hno (fun h => hC h.2)
            clear hno hyes HCl
            go_wp2_with fail
            go_region_held3 (fun W => W.cell? ⟨q, 6, none⟩ = some (.int .i64 m.at_) ∧ W.cell? ⟨g, 7, none⟩ = some (.slice L6.la kj L6.lc)) (first | exact ⟨i6, i7⟩ | go_keep) (fail)
            have T9 := Lib.hid (HY.out wr.drew (Below.refl _ _).drew)
            clear i6 i7 e7 HY
            go_wp2_with fail
            go_roundg (mn - (j + 1))
            case measure => rw [hgn.out]; omega
            case rel => exact ⟨j + 1, Lib.hid rfl, by omega, by go_num, T9⟩
        · have hBd : decide ((kj : Int) ≤ m.at_ + (j : Int)) = false := by simpa using hB
          have HY := hno (fun h => hB h.1)
          clear hno hyes HCl
          go_wp2_with fail
          go_quiet (fail)
          have T9 := Lib.hid (HY.out (wr.drewN nq) (below_drewN (Below.refl _ _) nq))
          clear i6 i7 e7 HY
          go_wp2_with fail
          go_roundg (mn - (j + 1))
          case measure => rw [hgn.out]; omega
          case rel => exact ⟨j + 1, Lib.hid rfl, by omega, by go_num, T9⟩
      · have hji : ¬ (j : Int) < (mn : Int) := by omega
        have hjn : j = m.list.length := by rw [← Hmn.out]; omega
        rw [hjn] at h6 a1 a2 a3 a4 a5
        have i7 : wr.cell? ⟨q, 7, none⟩ = some (.int .i64 m.commit) := by simp [World.cell?, b6]
        have hRe := vw_reach wr ⟨L6, h6⟩ m.commit (by rw [a5, K1.out.1.2.2.1]; have := K1.out.2.2.2; omega)
        have HRe := Lib.hid hRe
        have F6 := Lib.hid f6
        have HEq : RowKit.Hid (c.prep m = ((c1.prepTo m m.list.length).reach m.commit).send { Vw.Msg.z with kind := 2, to_ := m.frm, at_ := ((c1.prepTo m m.list.length).reach m.commit).keep.log.length }) := Lib.hid (by rw [HPrep.out]; simp only; rw [if_pos (by rw [← Hkn.out]; exact hA)])
        have HmX : RowKit.Hid (((c1.prepTo m m.list.length).reach m.commit).msgs.length ≤ 1000000) := Lib.hid (by show (c1.prepTo m m.list.length).msgs.length ≤ _; rw [a4, K1.out.1.2.1]; have := K1.out.2.2.1; omega)
        obtain ⟨cX, hcX⟩ : ∃ cX, cX = (c1.prepTo m m.list.length).reach m.commit := ⟨_, rfl⟩
        rw [← hcX] at HRe HEq HmX
        clear h6 f6 hRe b6 a1 a2 a3 a4 a5 hT hcX
        go_wp2_with fail
        refine HRe.out.mono ?_
        rintro e wX ⟨rfl, tX⟩
        have TX := Lib.hid (VwTo.trans F6.out tX)
        clear tX i7 HRe
        obtain ⟨MX, ⟨LX, hX⟩, fX⟩ := TX.out
        have bX := (HBox.out _ _ fX).1
        have i1 : wX.cell? ⟨q, 1, none⟩ = some (.int .i64 m.frm) := by simp [World.cell?, bX]
        obtain ⟨kx, hkx⟩ : ∃ kx, kx = cX.keep.log.length := ⟨_, rfl⟩
        have i7 : wX.cell? ⟨g, 7, none⟩ = some (.slice LX.la kx LX.lc) := by rw [hkx]; exact hX.c7
        have hC : Calls Try.prog 132 #[.pointer (some ⟨g, 0, none⟩), .agg #[.int .i64 2, .int .i64 0, .int .i64 m.frm, .int .i64 0, .int .i64 0, .int .i64 0, .int .i64 kx, .int .i64 0, .int .i64 0, .int .i64 0, .slice none 0 0, .slice none 0 0]] wX.drew fun e w' => e = .returned (.tuple #[]) ∧ VwTo MX wX.drew w' g (c.prep m) := by
          rw [HEq.out]
          refine vw_send wX.drew ⟨LX, hX.drew⟩ _ _ ⟨none, 0, none, 0, ?_, ⟨Nat.le_refl _, Nat.zero_le _⟩, Sl.nil _ _ _ _, ⟨Nat.le_refl _, Nat.zero_le _⟩, Sl.nil _ _ _ _⟩ HmX.out
          rw [hkx]; rfl
        have HC := Lib.hid hC
        have FX := Lib.hid fX
        clear hC hX fX bX hkx
        go_wp2_with fail
        go_region_law ((go_simp; go_at_call 132; refine HC.out.mono ?_; rintro e w4 ⟨rfl, h4⟩))
        all_goals
          have T5 := Lib.hid (Hfin.out _ _ (VwTo.trans FX.out.drew h4))
          clear h4
          go_wp2_with fail
          refine bodyPost_end (v := .tuple #[]) (by simp [results, Try.results139, go_sem]) rfl ?_
          exact ⟨rfl, T5.out⟩
  · have hAd : decide (m.at_ ≤ (kn : Int)) = false := by simpa using hA
    go_wp2_with fail
    go_region_held3 (fun W => W.cell? ⟨q, 6, none⟩ = some (.int .i64 m.at_) ∧ W.cell? ⟨g, 7, none⟩ = some (.slice L.la kn L.lc)) (first | exact ⟨e6, y7⟩ | go_keep) (fail)
    obtain ⟨w3, hw3⟩ : ∃ x, x = w2.drew := ⟨_, rfl⟩
    have T3 : RowKit.Hid (VwTo M9 w1 w3 g c1) := Lib.hid ⟨M9, ⟨L, by rw [hw3]; exact Hv2.out.drew⟩, by rw [hw3]; exact F2.out.drew⟩
    rw [← hw3]
    clear hw3 e6 y7 F2 Hv2
    have HEq : RowKit.Hid (c.prep m = c1.send { Vw.Msg.z with kind := 2, to_ := m.frm, at_ := c1.keep.log.length }) := Lib.hid (by rw [HPrep.out]; simp only; rw [if_neg (by rw [← Hkn.out]; omega)])
    have HmX : RowKit.Hid (c1.msgs.length ≤ 1000000) := Lib.hid (by rw [K1.out.1.2.1]; have := K1.out.2.2.1; omega)
    obtain ⟨cX, hcX⟩ : ∃ cX, cX = c1 := ⟨_, rfl⟩
    obtain ⟨wX, hwX⟩ : ∃ wX, wX = w3 := ⟨_, rfl⟩
    have TX : RowKit.Hid (VwTo M9 w1 wX g cX) := Lib.hid (by rw [hcX, hwX]; exact T3.out)
    rw [← hcX] at HEq HmX
    rw [← hwX]
    clear hcX hwX T3
    obtain ⟨MX, ⟨LX, hX⟩, fX⟩ := TX.out
    have bX := (HBox.out _ _ fX).1
    have i1 : wX.cell? ⟨q, 1, none⟩ = some (.int .i64 m.frm) := by simp [World.cell?, bX]
    obtain ⟨kx, hkx⟩ : ∃ kx, kx = cX.keep.log.length := ⟨_, rfl⟩
    have i7 : wX.cell? ⟨g, 7, none⟩ = some (.slice LX.la kx LX.lc) := by rw [hkx]; exact hX.c7
    have hC : Calls Try.prog 132 #[.pointer (some ⟨g, 0, none⟩), .agg #[.int .i64 2, .int .i64 0, .int .i64 m.frm, .int .i64 0, .int .i64 0, .int .i64 0, .int .i64 kx, .int .i64 0, .int .i64 0, .int .i64 0, .slice none 0 0, .slice none 0 0]] wX.drew fun e w' => e = .returned (.tuple #[]) ∧ VwTo MX wX.drew w' g (c.prep m) := by
      rw [HEq.out]
      refine vw_send wX.drew ⟨LX, hX.drew⟩ _ _ ⟨none, 0, none, 0, ?_, ⟨Nat.le_refl _, Nat.zero_le _⟩, Sl.nil _ _ _ _, ⟨Nat.le_refl _, Nat.zero_le _⟩, Sl.nil _ _ _ _⟩ HmX.out
      rw [hkx]; rfl
    have HC := Lib.hid hC
    have FX := Lib.hid fX
    clear hC hX fX bX hkx
    go_wp2_with fail
    go_region_law ((go_simp; go_at_call 132; refine HC.out.mono ?_; rintro e w4 ⟨rfl, h4⟩))
    all_goals
      have T5 := Lib.hid (Hfin.out _ _ (VwTo.trans FX.out.drew h4))
      clear h4
      go_wp2_with fail
      refine bodyPost_end (v := .tuple #[]) (by simp [results, Try.results139, go_sem]) rfl ?_
      exact ⟨rfl, T5.out⟩
end Go.Proofs.Ytmmgnbdngpkfcaa

namespace Go.Proofs.Ytmmgnbdngpkfcaa
open Go.RowKit
set_option linter.unusedVariables false

namespace Vw
/-- as it was, but for so much -/
structure Rest (c c' : Core) (K : Nat) : Prop where
  me : c'.me = c.me
  n : c'.n = c.n
  shard : c'.shard = c.shard
  pat : c'.pat = c.pat
  recs : c'.recs.length ≤ c.recs.length + K
  msgs : c'.msgs.length ≤ c.msgs.length + K
  done : c'.done.length ≤ c.done.length + K
theorem Rest.refl (c : Core) : Rest c c 0 := ⟨rfl, rfl, rfl, rfl, Nat.le_refl _, Nat.le_refl _, Nat.le_refl _⟩
theorem Rest.trans {c c1 c2 : Core} {K K1 : Nat} (h : Rest c c1 K) (h2 : Rest c1 c2 K1) : Rest c c2 (K + K1) :=
  ⟨h2.me.trans h.me, h2.n.trans h.n, h2.shard.trans h.shard, h2.pat.trans h.pat, by have := h.recs; have := h2.recs; omega, by have := h.msgs; have := h2.msgs; omega, by have := h.done; have := h2.done; omega⟩
theorem Rest.mono {c c1 : Core} {K K1 : Nat} (h : Rest c c1 K) (hk : K ≤ K1) : Rest c c1 K1 := ⟨h.me, h.n, h.shard, h.pat, by have := h.recs; omega, by have := h.msgs; omega, by have := h.done; omega⟩
namespace Core
theorem rec_rest (c : Core) (r : Rc) : Rest c (c.rec_ r) 1 := ⟨rfl, rfl, rfl, rfl, by show (c.recs ++ [r]).length ≤ _; simp, Nat.le_succ _, Nat.le_succ _⟩
theorem send_rest (c : Core) (m : Msg) : Rest c (c.send m) 1 := ⟨rfl, rfl, rfl, rfl, Nat.le_succ _, by show (c.msgs ++ [_]).length ≤ _; simp, Nat.le_succ _⟩
theorem all_rest (c : Core) (m : Msg) : Rest c (c.all m) c.n :=
  ⟨rfl, rfl, rfl, rfl, Nat.le_add_right _ _, by have := c.allTo_len m c.n; rw [c.allTo_n] at this; exact this, Nat.le_add_right _ _⟩
theorem reach_rest (c : Core) (k : Int) : Rest c (c.reach k) c.keep.log.length :=
  ⟨rfl, rfl, rfl, rfl, Nat.le_add_right _ _, Nat.le_add_right _ _, by show (c.done ++ (c.keep.log.take _).drop _).length ≤ _; simp only [List.length_append, List.length_drop, List.length_take]; omega⟩
theorem count_rest (c : Core) : Rest c c.count c.keep.log.length := by
  unfold count; split
  · exact c.reach_rest _
  · exact (Rest.refl c).mono (Nat.zero_le _)
theorem reach_keep (c : Core) (k : Int) : (c.reach k).keep = c.keep := rfl
theorem count_keep (c : Core) : c.count.keep = c.keep := by unfold count; split <;> rfl
theorem adopt_rest (c : Core) (l : List Bs) : Rest c (c.adopt l) (l.length + 2) := by
  obtain ⟨h1, h2, h3, h4, h5, h6, h7, h8, h9⟩ := c.adopt_log l
  exact ⟨h4, h3, h5, h6, by omega, by rw [h8]; omega, by rw [h9]; omega⟩
theorem begin_rest (c : Core) (h : ∀ z m, c.dos z = some m → Small m.list) (hn : c.n ≤ 7) : Rest c c.begin_ 6009 ∧ c.begin_.keep.view = c.keep.view := by
  unfold begin_
  split
  · have hb : c.best.1.list.length ≤ 2000 := (c.best_small h c.n).1
    have hk := (c.adopt_log c.best.1.list).1
    refine ⟨?_, ?_⟩
    · refine (((c.adopt_rest c.best.1.list).trans ((c.adopt c.best.1.list).all_rest _)).trans ((Core.reach_rest _ _).trans (count_rest _))).mono ?_
      rw [reach_keep]
      have e : ((c.adopt c.best.1.list).all { Msg.z with kind := 5, commit := c.best.2, list := (c.adopt c.best.1.list).keep.log }).keep = (c.adopt c.best.1.list).keep := rfl
      rw [e, hk, (c.adopt_log c.best.1.list).2.2.1]
      show c.best.1.list.length + 2 + c.n + (c.best.1.list.length + c.best.1.list.length) ≤ 6009
      omega
    · rw [count_keep, reach_keep]
      show (c.adopt c.best.1.list).keep.view = _
      rw [hk]
  · exact ⟨(Rest.refl c).mono (Nat.zero_le _), rfl⟩
theorem wanted_rest (c : Core) (h : Right c) : Rest c c.wanted 6009 ∧ c.wanted.keep.view = c.keep.view := by
  unfold wanted
  split
  · split
    · exact ⟨(c.send_rest _).mono (by decide), rfl⟩
    · have hb := begin_rest ({ c with dos := fun x => if x = c.me then some c.doMsg else c.dos x } : Core) (fun z m hm => by
        simp only at hm
        split at hm
        · injection hm with hm; subst hm; exact h.log
        · exact (h.dos z m hm).2) h.n.2
      exact ⟨⟨hb.1.me, hb.1.n, hb.1.shard, hb.1.pat, hb.1.recs, hb.1.msgs, hb.1.done⟩, hb.2⟩
  · exact ⟨(Rest.refl c).mono (Nat.zero_le _), rfl⟩
theorem change_rest (c : Core) (v : Int) (h : Right c) (hv : 0 ≤ v ∧ v ≤ 1099511627776) : Rest c (c.change v) 6020 ∧ (c.change v).keep.view = v := by
  obtain ⟨c2, hc2⟩ : ∃ c2 : Core, c2 = { (c.rec_ ⟨1, v, c.keep.normal, []⟩) with ch := true, idle := 0, begun := fun x => decide (x = c.me), dos := fun _ => none, has := fun _ => 0 } := ⟨_, rfl⟩
  have hR : Right c2 := by
    rw [hc2]
    exact ⟨h.n, h.me, h.pat, hv, h.log, h.commit, ⟨Int.le_refl 0, by show (0 : Int) ≤ 1000000000000; decide⟩, (fun z hz => by simp at hz; rw [hz]; exact h.me), (fun z m hm => by cases hm), fun z => ⟨Int.le_refl 0, by show (0 : Int) ≤ 2000; decide⟩⟩
  have hR3 : Right (c2.all { Msg.z with kind := 3 }) := ⟨hR.n, hR.me, hR.pat, hR.view, hR.log, hR.commit, hR.idle, hR.begun, hR.dos, hR.has⟩
  have e : c.change v = (c2.all { Msg.z with kind := 3 }).wanted := by rw [hc2]; rfl
  obtain ⟨w1, w2⟩ := (c2.all { Msg.z with kind := 3 }).wanted_rest hR3
  have r2 : Rest c c2 1 := by
    rw [hc2]
    exact ⟨rfl, rfl, rfl, rfl, by show (c.recs ++ [_]).length ≤ _; simp, Nat.le_succ _, Nat.le_succ _⟩
  rw [e]
  refine ⟨((r2.trans (c2.all_rest _)).trans w1).mono (by have := hR.n.2; omega), w2.trans ?_⟩
  show c2.keep.view = v
  rw [hc2]; rfl
end Core
end Vw
end Go.Proofs.Ytmmgnbdngpkfcaa

namespace Go.Proofs.Ytmmgnbdngpkfcaa
open Go.RowKit
set_option linter.unusedVariables false

namespace Vw
/-- a message that a member hears -/
structure InOk (c : Core) (m : Msg) : Prop where
  to_ : m.to_ = c.me
  frm : 1 ≤ m.frm ∧ m.frm ≤ c.n
  ne : m.frm ≠ c.me
  shard : m.shard = c.shard
  view : 0 ≤ m.view ∧ m.view ≤ 1099511627776
  normal : m.normal ≤ m.view
  at_ : 0 ≤ m.at_ ∧ m.at_ ≤ 9223372036854775807
  small : Small m.list
theorem InOk.hears {c : Core} {m : Msg} (h : InOk c m) (hk : 1 ≤ m.kind ∧ m.kind ≤ 5) : c.hears m = true := by
  unfold Core.hears
  rw [decide_eq_true_eq]
  exact ⟨h.to_, h.frm.1, h.frm.2, h.ne, h.shard, h.view.1, h.view.2, h.small.1, h.normal, h.at_.1, hk.1, hk.2⟩
namespace Core
/-- the view that is wanted by a message -/
def inC (c : Core) (m : Msg) : Core := if m.view > c.keep.view ∧ m.kind ≠ 5 ∧ m.kind ≠ 2 then c.change m.view else c
/-- what is done of it -/
def inD (c1 : Core) (m : Msg) (ld : Int) : Core :=
  if m.kind = 3 then c1.started m
  else if m.kind = 4 ∧ m.view = c1.keep.view ∧ c1.ch = true ∧ ld = c1.me then { c1 with dos := fun x => if x = m.frm then some m else c1.dos x }.begin_
  else if m.kind = 5 ∧ m.frm = ld ∧ (m.view > c1.keep.view ∨ c1.ch = true) then
    (({ c1 with keep := { c1.keep with view := m.view } }.adopt m.list).reach m.commit).send { Msg.z with kind := 2, to_ := ld, at_ := (({ c1 with keep := { c1.keep with view := m.view } }.adopt m.list).reach m.commit).keep.log.length }
  else if m.kind = 1 ∧ m.view = c1.keep.view ∧ c1.ch = false ∧ m.frm = ld then c1.prep m
  else if m.kind = 2 ∧ m.view = c1.keep.view ∧ c1.leads = true then
    ({ c1 with has := fun x => if x = m.frm then max (c1.has x) (min m.at_ (c1.keep.log.length : Int)) else c1.has x }).count
  else c1
theorem in_low (c : Core) (m : Msg) (h : InOk c m) (hk : 1 ≤ m.kind ∧ m.kind ≤ 5) (hv : m.view < c.keep.view) : c.in_ m = if m.kind = 1 ∨ m.kind = 3 then c.send { Msg.z with kind := 3, to_ := m.frm } else c := by
  unfold in_
  rw [h.hears hk, if_neg (by simp), if_pos hv]
theorem in_high (c : Core) (m : Msg) (h : InOk c m) (hk : 1 ≤ m.kind ∧ m.kind ≤ 5) (hv : ¬ m.view < c.keep.view) : c.in_ m = (c.inC m).inD m (lead m.view c.n) := by
  unfold in_
  rw [h.hears hk, if_neg (by simp), if_neg hv]
  rfl
end Core
end Vw
/-- what a step with a message or a unit of time gives out -/
def InTo (M : Col) (w w' : World) (g : Nat) (c : Vw.Core) (e : Ending) : Prop :=
  ∃ a1 n1 c1 a2 n2 c2 a3 n3 c3, e = .returned (.agg #[.slice a1 n1 c1, .slice a2 n2 c2, .slice a3 n3 c3]) ∧ TakeTo M w w' g c (.agg #[.slice a1 n1 c1, .slice a2 n2 c2, .slice a3 n3 c3])
end Go.Proofs.Ytmmgnbdngpkfcaa

namespace Go.Proofs.Ytmmgnbdngpkfcaa
open Go.RowKit
set_option linter.unusedVariables false

/-- what stands behind the first part -/
def codeTl : Code → Code
  | .seq _ b => b
  | c => c
/-- from the first switch on -/
noncomputable def inMid : Code := codeTl (codeTl (codeTl (Try.f102.body.getD .skip)))
/-- from the second switch on -/
noncomputable def inTail : Code := codeTl inMid
/-- the first part of a code -/
def codeHd : Code → Code
  | .seq a _ => a
  | c => c
/-- the first switch -/
noncomputable def inB0 : Code := codeHd inMid
theorem inMid_eq : inMid = .seq inB0 inTail := by kernel_rfl
theorem VwTo.drewN {M : Col} {w w1 : World} {g : Nat} {c : Vw.Core} (t : VwTo M w w1 g c) (n : Nat) : VwTo M w (w1.drewN n) g c := by
  obtain ⟨M1, h1, f1⟩ := t
  exact ⟨M1, h1.below (below_drewN (Below.refl _ _) n), f1.trans (Fr.of_below (below_drewN (Below.refl _ _) n))⟩
theorem VwTo.drew1 {M : Col} {w w1 : World} {g : Nat} {c : Vw.Core} (t : VwTo M w w1 g c) : VwTo M w w1.drew g c := by
  obtain ⟨M1, h1, f1⟩ := t
  exact ⟨M1, h1.below (Below.refl _ _).drew, f1.drew⟩
end Go.Proofs.Ytmmgnbdngpkfcaa

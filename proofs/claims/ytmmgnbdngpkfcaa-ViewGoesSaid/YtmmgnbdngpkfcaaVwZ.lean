/-
  A unit of time goes by at a member that leads, walked.
  A member alone, as plain functions.
-/
import Derived.Test.YtmmgnbdngpkfcaaVwN
namespace Go.Proofs.Ytmmgnbdngpkfcaa
open Go.RowKit
set_option linter.unusedVariables false

theorem idle_fold {M : Col} {w : World} {g : Nat} {c : Vw.Core} {L : Lo} (k : Int) (h : VwL M w g c L) (hk : 0 ≤ k ∧ k ≤ 1000000000000) :
    VwL M (w.setCell ⟨g, 10, none⟩ (.int .i64 k)) g { c with idle := k } L ∧ Fr M w M (w.setCell ⟨g, 10, none⟩ (.int .i64 k)) :=
  h.put (setg (S := (· = g)) (Only.refl _ w) rfl 10 _) (by rw [heap_set h.row 10 _]; rfl) ⟨h.p.dom, h.p.lc, h.p.log, h.p.hc, h.p.has, h.p.bc, h.p.begun, h.p.dc, h.p.dos, h.p.recs, h.p.msgs, h.p.done⟩ ⟨h.right.n, h.right.me, h.right.pat, h.right.view, h.right.log, h.right.commit, hk, h.right.begun, h.right.dos, h.right.has⟩
namespace Vw
/-- a member that leads, behind a unit of time: fed or not -/
def Core.tickL (c : Core) : Core := if 2 ≤ c.idle + 1 then ({ c with idle := 0 }.feeds).count else ({ c with idle := c.idle + 1 }).count
theorem Core.tick_lead (c : Core) (h : c.leads = true) : c.tick = c.tickL := by
  have h' : ({ c with idle := c.idle + 1 } : Core).leads = true := h
  unfold Core.tick Core.tickL
  simp only [h', if_true]
  split <;> rfl
end Vw
set_option maxRecDepth 16384 in
set_option maxHeartbeats 6400000 in
theorem vw_Tick_lead {M : Col} {g : Nat} {c : Vw.Core} (w : World) (h : VwAt M w g c) (hld : c.leads = true) (hlr : c.recs.length ≤ 100000) (hlm : c.msgs.length ≤ 100000) (hldn : c.done.length ≤ 100000) (hid : c.idle < 1000000000000) :
    Calls Try.prog 61 #[.pointer (some ⟨g, 0, none⟩)] w fun e w' => ∃ a1 n1 c1 a2 n2 c2 a3 n3 c3, e = .returned (.agg #[.slice a1 n1 c1, .slice a2 n2 c2, .slice a3 n3 c3]) ∧ TakeTo M w w' g c.tick (.agg #[.slice a1 n1 c1, .slice a2 n2 c2, .slice a3 n3 c3]) := by
  obtain ⟨L, h⟩ := h
  obtain ⟨h1, f1⟩ := h.box (.cells #[.slice none 0 0, .slice none 0 0, .slice none 0 0] 107)
  obtain ⟨w1, hw1⟩ : ∃ x, x = w.alloc (.cells #[.slice none 0 0, .slice none 0 0, .slice none 0 0] 107) := ⟨_, rfl⟩
  have hh1 : w1.heap[w.heap.size]? = some (.cells #[.slice none 0 0, .slice none 0 0, .slice none 0 0] 107 (0, 0)) := by rw [hw1]; exact heap_alloc_new w _
  obtain ⟨q, hq⟩ : ∃ q, q = w.heap.size := ⟨_, rfl⟩
  have hz1 : w1.heap.size = q + 1 := by rw [hw1, hq]; simp
  obtain ⟨M9, hM9⟩ : ∃ M9, M9 = updC M w.heap.size 9 := ⟨_, rfl⟩
  rw [← hw1, ← hM9] at h1 f1
  rw [← hq] at hh1
  have h9 : M9 q = 9 := by rw [hM9, hq]; exact updC_same _ _ _
  have hidr := h.right.idle
  -- one more
  obtain ⟨hA, fA⟩ := idle_fold (c.idle + 1) h1 ⟨by omega, by omega⟩
  obtain ⟨wA, hwA⟩ : ∃ x, x = w1.setCell ⟨g, 10, none⟩ (.int .i64 (c.idle + 1)) := ⟨_, rfl⟩
  rw [← hwA] at hA fA
  have hL := vw_Leads wA ⟨L, hA⟩
  have hld' : ({ c with idle := c.idle + 1 } : Vw.Core).leads = true := hld
  rw [hld'] at hL
  have y10 : w1.cell? ⟨g, 10, none⟩ = some (.int .i64 c.idle) := h1.c10
  have yf := h1.fz 10
  have hadd : IntKind.i64.wrap (c.idle + 1) = c.idle + 1 := IntWalk.i64_in _ (by omega)
  have HQ := Lib.hid (fun (M' : Col) (W : World) (f : Fr M9 w1 M' W) => (f.other (k := q) (by omega) (by omega)).1.trans hh1)
  have Hw1 := Lib.hid hw1.symm
  have HwA := Lib.hid hwA.symm
  have Hq := Lib.hid hq
  have HA := Lib.hid hA
  have FA := Lib.hid fA
  have F1 := Lib.hid f1
  have Hz1 := Lib.hid hz1
  have H9 := Lib.hid h9
  have HL := Lib.hid hL
  have Htk := Lib.hid (c.tick_lead hld)
  have Hlen := Lib.hid (And.intro hlr (And.intro hlm hldn))
  have hn := h.right.n
  have hme := h.right.me
  clear hw1 hwA hq hA fA f1 hz1 h9 hL hlr hlm hldn h h1 hh1 hld hld' hM9
  go_enter Try.func61, Try.ntmps61
  go_upto_region 1 with fail
  rw [Hw1.out, ← Hq.out]
  clear Hw1
  go_upto_region 4 with fail
  rw [HwA.out]
  clear HwA y10 yf hadd
  go_wp2_with fail
  refine HL.out.mono ?_
  rintro e w2 ⟨rfl, hb2⟩
  have h2 := HA.out.below hb2
  have f2 : Fr M9 w1 M9 w2 := FA.out.trans (Fr.of_below hb2)
  have z10 : w2.cell? ⟨g, 10, none⟩ = some (.int .i64 (c.idle + 1)) := h2.c10
  have zf := h2.fz 10
  have H2 := Lib.hid h2
  have F2 := Lib.hid f2
  clear h2 f2 hb2 HL
  by_cases hi : 2 ≤ c.idle + 1
  · obtain ⟨h3, f3⟩ := idle_fold 0 H2.out ⟨Int.le_refl 0, by decide⟩
    obtain ⟨w3, hw3⟩ : ∃ x, x = w2.setCell ⟨g, 10, none⟩ (.int .i64 0) := ⟨_, rfl⟩
    rw [← hw3] at h3 f3
    obtain ⟨cr, hcr⟩ : ∃ cr : Vw.Core, cr = { c with idle := 0 } := ⟨_, rfl⟩
    have h3 : VwL M9 w3 g cr L := by rw [hcr]; exact h3
    have T5 : RowKit.Hid (VwTo M9 w1 w3 g cr) := Lib.hid ⟨M9, ⟨L, h3⟩, F2.out.trans f3⟩
    have Hw3 := Lib.hid hw3.symm
    have Hcrn : RowKit.Hid (cr.n = c.n ∧ cr.me = c.me ∧ cr.msgs = c.msgs ∧ cr.done = c.done) := Lib.hid (by rw [hcr]; exact ⟨rfl, rfl, rfl, rfl⟩)
    have Hcr := Lib.hid hcr
    clear h3 f3 hw3 hcr
    go_upto_region 7 with fail
    rw [Hw3.out]
    clear z10 zf Hw3
    go_wp2_with fail
    go_loopg [3] c.n (fun gn i wr => ∃ j : Nat, RowKit.Hid (gn = c.n - j) ∧ j ≤ c.n ∧ i = .int .i64 ((j : Int) + 1) ∧ RowKit.Hid (VwTo M9 w1 wr g (cr.feedsTo j)))
    case atStart => exact ⟨0, Lib.hid rfl, Nat.zero_le _, rfl, Lib.hid (by rw [cr.feedsTo_zero]; exact T5.out)⟩
    case round =>
      obtain ⟨j, hgn, hj, rfl, hT⟩ := hrel
      obtain ⟨M5, ⟨L5, h5⟩, f5⟩ := hT.out
      have y0 : wr.cell? ⟨g, 0, none⟩ = some (.int .i64 c.me) := by rw [← Hcrn.out.2.1]; exact h5.c0
      have y1 : wr.cell? ⟨g, 1, none⟩ = some (.int .i64 c.n) := by rw [← Hcrn.out.1]; exact h5.c1
      by_cases hlt : j < c.n
      · have hji : (j : Int) + 1 ≤ (c.n : Int) := by omega
        have hadd : IntKind.i64.wrap ((j : Int) + 1 + 1) = (j : Int) + 1 + 1 := IntWalk.i64_in _ (by omega)
        by_cases hm : ((j : Int) + 1) = c.me
        · have hmb : ((j : Int) + 1 != c.me) = false := by simp [hm]
          have Hm := Lib.hid hm
          clear h5 f5 hm
          go_wp2_with fail
          go_roundg (c.n - (j + 1))
          case measure => rw [hgn.out]; omega
          case rel => exact ⟨j + 1, Lib.hid rfl, by omega, by go_num, Lib.hid (by rw [cr.feedsTo_me j (by rw [Hcrn.out.2.1]; exact Hm.out)]; exact hT.out)⟩
        · have hmb : ((j : Int) + 1 != c.me) = true := by simpa using hm
          have hF := vw_feed (M := M5) wr ⟨L5, h5⟩ ((j : Int) + 1) (by omega) (by have h1 := cr.feedsTo_len j; have h2 := Hlen.out; have h3 := Hcrn.out.2.2.1; rw [h3] at h1; omega)
          have HF := Lib.hid hF
          have Hm := Lib.hid hm
          have F5 := Lib.hid f5
          clear h5 f5 hm hF
          go_wp2_with fail
          refine HF.out.mono ?_
          rintro e w6 ⟨rfl, t6⟩
          have T6 : RowKit.Hid (VwTo M9 w1 w6 g (cr.feedsTo (j + 1))) := Lib.hid (by rw [cr.feedsTo_succ j (by rw [Hcrn.out.2.1]; exact Hm.out)]; exact VwTo.trans F5.out t6)
          clear t6
          go_wp2_with fail
          go_roundg (c.n - (j + 1))
          case measure => rw [hgn.out]; omega
          case rel => exact ⟨j + 1, Lib.hid rfl, by omega, by go_num, T6⟩
      · have hji : ¬ ((j : Int) + 1 ≤ (c.n : Int)) := by omega
        have hjn : j = c.n := by omega
        subst hjn
        have hcf : (cr.feedsTo c.n) = cr.feeds := by rw [← Hcrn.out.1]; rfl
        rw [hcf] at h5
        have hC := vw_count (M := M5) wr ⟨L5, h5⟩ (by show cr.feeds.done.length ≤ 1000000; have h2 := Hlen.out; have h3 := Hcrn.out.2.2.2; have : cr.feeds.done = c.done := h3; rw [this]; omega)
        have HC := Lib.hid hC
        have F5 := Lib.hid f5
        clear hC h5 f5 hcf
        go_wp2_with fail
        refine HC.out.mono ?_
        rintro e w6 ⟨rfl, t6⟩
        obtain ⟨M6, h6, f6⟩ := t6
        have hT7 := vw_take (M := M6) w6 h6
        have F6 := Lib.hid (F5.out.trans f6)
        have HT7 := Lib.hid hT7
        clear h6 f6 hT7
        go_wp2_with fail
        refine HT7.out.mono ?_
        rintro e w7 ⟨v1, v2, v3, rfl, t7⟩
        obtain ⟨s1, n1, p1, s2, n2, p2, s3, n3, p3, rfl, rfl, rfl⟩ := t7.slices
        have hq7 : w7.heap[q]? = some (.cells #[.slice none 0 0, .slice none 0 0, .slice none 0 0] 107 (0, 0)) := by obtain ⟨M7, _, f7, _⟩ := t7; exact HQ.out _ _ (F6.out.trans f7)
        have qq0 : w7.cell? ⟨q, 0, none⟩ = some (.slice none 0 0) := by simp [World.cell?, hq7]
        have qq1 : w7.cell? ⟨q, 1, none⟩ = some (.slice none 0 0) := by simp [World.cell?, hq7]
        have qq2 : w7.cell? ⟨q, 2, none⟩ = some (.slice none 0 0) := by simp [World.cell?, hq7]
        have qf : ∀ o, w7.frozen? ⟨q, o, none⟩ = false := fun o => by simp [World.frozen?, hq7]
        have hW : ∀ W, W = (((w7.setCell ⟨q, 0, none⟩ (.slice s1 n1 p1)).setCell ⟨q, 1, none⟩ (.slice s2 n2 p2)).setCell ⟨q, 2, none⟩ (.slice s3 n3 p3)) → W.heap[q]? = some (.cells #[.slice s1 n1 p1, .slice s2 n2 p2, .slice s3 n3 p3] 107 (0, 0)) ∧ TakeTo M w W g c.tick (.agg #[.slice s1 n1 p1, .slice s2 n2 p2, .slice s3 n3 p3]) := by
          rintro W rfl
          refine ⟨by rw [heap_set (heap_set (heap_set hq7 0 _) 1 _) 2 _]; rfl, ?_⟩
          have ho := setg (S := (· = q)) (setg (S := (· = q)) (setg (S := (· = q)) (Only.refl _ w7) rfl 0 (.slice s1 n1 p1)) rfl 1 (.slice s2 n2 p2)) rfl 2 (.slice s3 n3 p3)
          have t := take_unbox Hq.out F1.out H9.out (by have := Hz1.out; omega) (TakeTo.trans F6.out t7) ho
          have e : c.tick = cr.feeds.count := by rw [Htk.out]; unfold Vw.Core.tickL; rw [if_pos hi, Hcr.out]
          rw [e]
          exact t
        have HW := Lib.hid hW
        clear hW t7 hq7
        go_wp2_with fail
        obtain ⟨g1, g2⟩ := HW.out _ rfl
        refine bodyPost_ret (v := .agg #[.slice s1 n1 p1, .slice s2 n2 p2, .slice s3 n3 p3]) (results_cell_row Try.results61 _ _ q 107 _ (0, 0) _ rfl g1 Try.underlying107 rfl (by kernel_rfl)) rfl ?_
        exact ⟨_, _, _, _, _, _, _, _, _, rfl, g2⟩
  · obtain ⟨cr, hcr⟩ : ∃ cr : Vw.Core, cr = { c with idle := c.idle + 1 } := ⟨_, rfl⟩
    have h5 : VwL M9 w2 g cr L := by rw [hcr]; exact H2.out
    have hdn : cr.done = c.done := by rw [hcr]
    have Hcr := Lib.hid hcr
    clear hcr
    have hC := vw_count (M := M9) w2 ⟨L, h5⟩ (by rw [hdn]; have := Hlen.out; omega)
    have HC := Lib.hid hC
    have F5 := Lib.hid F2.out
    clear hC h5 hdn
    go_wp2_with fail
    refine HC.out.mono ?_
    rintro e w6 ⟨rfl, t6⟩
    obtain ⟨M6, h6, f6⟩ := t6
    have hT7 := vw_take (M := M6) w6 h6
    have F6 := Lib.hid (F5.out.trans f6)
    have HT7 := Lib.hid hT7
    clear h6 f6 hT7
    go_wp2_with fail
    refine HT7.out.mono ?_
    rintro e w7 ⟨v1, v2, v3, rfl, t7⟩
    obtain ⟨s1, n1, p1, s2, n2, p2, s3, n3, p3, rfl, rfl, rfl⟩ := t7.slices
    have hq7 : w7.heap[q]? = some (.cells #[.slice none 0 0, .slice none 0 0, .slice none 0 0] 107 (0, 0)) := by obtain ⟨M7, _, f7, _⟩ := t7; exact HQ.out _ _ (F6.out.trans f7)
    have qq0 : w7.cell? ⟨q, 0, none⟩ = some (.slice none 0 0) := by simp [World.cell?, hq7]
    have qq1 : w7.cell? ⟨q, 1, none⟩ = some (.slice none 0 0) := by simp [World.cell?, hq7]
    have qq2 : w7.cell? ⟨q, 2, none⟩ = some (.slice none 0 0) := by simp [World.cell?, hq7]
    have qf : ∀ o, w7.frozen? ⟨q, o, none⟩ = false := fun o => by simp [World.frozen?, hq7]
    have hW : ∀ W, W = (((w7.setCell ⟨q, 0, none⟩ (.slice s1 n1 p1)).setCell ⟨q, 1, none⟩ (.slice s2 n2 p2)).setCell ⟨q, 2, none⟩ (.slice s3 n3 p3)) → W.heap[q]? = some (.cells #[.slice s1 n1 p1, .slice s2 n2 p2, .slice s3 n3 p3] 107 (0, 0)) ∧ TakeTo M w W g c.tick (.agg #[.slice s1 n1 p1, .slice s2 n2 p2, .slice s3 n3 p3]) := by
      rintro W rfl
      refine ⟨by rw [heap_set (heap_set (heap_set hq7 0 _) 1 _) 2 _]; rfl, ?_⟩
      have ho := setg (S := (· = q)) (setg (S := (· = q)) (setg (S := (· = q)) (Only.refl _ w7) rfl 0 (.slice s1 n1 p1)) rfl 1 (.slice s2 n2 p2)) rfl 2 (.slice s3 n3 p3)
      have t := take_unbox Hq.out F1.out H9.out (by have := Hz1.out; omega) (TakeTo.trans F6.out t7) ho
      have e : c.tick = cr.count := by rw [Htk.out]; unfold Vw.Core.tickL; rw [if_neg (by omega), Hcr.out]
      rw [e]
      exact t
    have HW := Lib.hid hW
    clear hW t7 hq7
    go_wp2_with fail
    obtain ⟨g1, g2⟩ := HW.out _ rfl
    refine bodyPost_ret (v := .agg #[.slice s1 n1 p1, .slice s2 n2 p2, .slice s3 n3 p3]) (results_cell_row Try.results61 _ _ q 107 _ (0, 0) _ rfl g1 Try.underlying107 rfl (by kernel_rfl)) rfl ?_
    exact ⟨_, _, _, _, _, _, _, _, _, rfl, g2⟩
end Go.Proofs.Ytmmgnbdngpkfcaa

namespace Go.Proofs.Ytmmgnbdngpkfcaa
open Go.RowKit
set_option linter.unusedVariables false
namespace Vw
/-- a member alone, that knows of all it has -/
structure Alone (c : Core) : Prop where
  n : c.n = 1
  me : c.me = 1
  ch : c.ch = false
theorem Alone.others {c : Core} (h : Alone c) : c.others c.n = [] := by
  unfold Core.others
  rw [h.n, h.me]
  decide
theorem Alone.lead {c : Core} (h : Alone c) : lead c.keep.view c.n = 1 := by
  unfold Vw.lead
  rw [h.n]
  simp
theorem Alone.leads {c : Core} (h : Alone c) : c.leads = true := by
  unfold Core.leads
  rw [h.lead, h.me, h.ch]
  rfl
theorem Alone.feeds {c : Core} (h : Alone c) : c.feeds = c := by
  unfold Core.feeds
  rw [h.others]
  simp
theorem med_one (x : Int) : Core.med [x] = x := by
  unfold Core.med
  simp
theorem Alone.count {c : Core} (h : Alone c) (hc : c.commit ≤ c.keep.log.length) : c.count = c.reachTo c.keep.log.length := by
  unfold Core.count
  rw [h.leads, if_pos rfl]
  unfold Core.held
  rw [h.others, List.map_nil, med_one, c.reach_eq]
  congr 1
  omega
/-- what comes of an entry that is handed in -/
theorem Alone.propose {c : Core} (h : Alone c) {b : Bs} (hb : b.length ≤ 4000) (hl : c.keep.log.length < 2000) (hc : c.commit ≤ c.keep.log.length) :
    c.propose b = ((c.rec_ ⟨2, 0, 0, b⟩).reachTo (c.keep.log.length + 1), 0) := by
  unfold Core.propose
  rw [h.leads, if_neg (by simp), if_neg (by omega), if_neg (by omega)]
  have h2 : Alone (c.rec_ ⟨2, 0, 0, b⟩) := ⟨h.n, h.me, h.ch⟩
  have hl2 : (c.rec_ ⟨2, 0, 0, b⟩).keep.log.length = c.keep.log.length + 1 := by
    show (c.keep.log ++ [b]).length = _
    simp
  rw [h2.feeds, h2.count (by rw [hl2]; show c.commit ≤ _; omega), hl2]
theorem Alone.tick {c : Core} (h : Alone c) (hc : c.commit ≤ c.keep.log.length) : ∃ i : Int, c.tick = { c with idle := i }.reachTo c.keep.log.length ∧ (i = 0 ∨ i = c.idle + 1) := by
  rw [c.tick_lead h.leads]
  unfold Core.tickL
  split
  · have h2 : Alone { c with idle := 0 } := ⟨h.n, h.me, h.ch⟩
    exact ⟨0, by rw [h2.feeds, h2.count hc], .inl rfl⟩
  · have h2 : Alone { c with idle := c.idle + 1 } := ⟨h.n, h.me, h.ch⟩
    exact ⟨c.idle + 1, by rw [h2.count hc], .inr rfl⟩
theorem Alone.new (sh pat : Int) (l : List Bs) (v : Int) : Alone (Core.new 1 1 sh pat ⟨v, v, l⟩) := ⟨rfl, rfl, by show (v != v) = false; simp⟩
end Vw
end Go.Proofs.Ytmmgnbdngpkfcaa

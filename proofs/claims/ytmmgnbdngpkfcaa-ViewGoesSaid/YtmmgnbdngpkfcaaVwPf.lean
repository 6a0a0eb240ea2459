/-
  A unit of time goes by at a member that does not lead, walked.
  How much a member gives out in one step.
-/
import Derived.Test.YtmmgnbdngpkfcaaVwZ
import Derived.Test.YtmmgnbdngpkfcaaVwCc
import Derived.Test.YtmmgnbdngpkfcaaVwPe
namespace Go.Proofs.Ytmmgnbdngpkfcaa
open Go.RowKit
set_option linter.unusedVariables false
namespace Vw
/-- a member that does not lead, behind the count of the units -/
def Core.tickF (d : Core) : Core :=
  if d.ch = true ∧ d.idle < 2 * d.pat then
    if d.idle % d.pat = 0 then ({ d with begun := fun x => decide (x = d.me) || d.begun x }.all { Msg.z with kind := 3 }).wanted else d
  else if d.ch = true ∨ d.idle ≥ d.pat + d.me then
    if d.keep.view < 1099511627776 then d.change (d.keep.view + 1) else d
  else d
theorem Core.tick_rest (c : Core) (h : c.leads = false) : c.tick = ({ c with idle := c.idle + 1 } : Core).tickF := by
  have h' : ({ c with idle := c.idle + 1 } : Core).leads = false := h
  unfold Core.tick Core.tickF
  simp only [h']
  rfl
end Vw
set_option maxRecDepth 100000 in
set_option maxHeartbeats 0 in
theorem vw_Tick_rest {M : Col} {g : Nat} {c : Vw.Core} (w : World) (h : VwAt M w g c) (hld : c.leads = false) (hlr : c.recs.length ≤ 30000) (hlm : c.msgs.length ≤ 30000) (hldn : c.done.length ≤ 30000) (hid : c.idle < 1000000000000) :
    Calls Try.prog 61 #[.pointer (some ⟨g, 0, none⟩)] w fun e w' => InTo M w w' g c.tick e := by
  obtain ⟨L, h⟩ := h
  obtain ⟨h1, f1⟩ := h.box (.cells #[.slice none 0 0, .slice none 0 0, .slice none 0 0] 107)
  obtain ⟨w1, hw1⟩ : ∃ x, x = w.alloc (.cells #[.slice none 0 0, .slice none 0 0, .slice none 0 0] 107) := ⟨_, rfl⟩
  have hh1 : w1.heap[w.heap.size]? = some (.cells #[.slice none 0 0, .slice none 0 0, .slice none 0 0] 107 (0, 0)) := by rw [hw1]; exact heap_alloc_new w _
  obtain ⟨q, hq⟩ : ∃ q, q = w.heap.size := ⟨_, rfl⟩
  have hz1 : w1.heap.size = q + 1 := by rw [hw1, hq]; simp
  obtain ⟨M9, hM9⟩ : ∃ M9, M9 = updC M w.heap.size 9 := ⟨_, rfl⟩
  rw [← hw1, ← hM9] at h1 f1
  rw [← hq] at hh1
  have h9 : M9 q = 9 := by rw [hM9, hq]; exact updC_same _ _ _
  have hidr := h.right.idle
  obtain ⟨cr, hcr⟩ : ∃ cr : Vw.Core, cr = { c with idle := c.idle + 1 } := ⟨_, rfl⟩
  obtain ⟨hA, fA⟩ := idle_fold (c.idle + 1) h1 ⟨by omega, by omega⟩
  obtain ⟨wA, hwA⟩ : ∃ x, x = w1.setCell ⟨g, 10, none⟩ (.int .i64 (c.idle + 1)) := ⟨_, rfl⟩
  rw [← hwA, ← hcr] at hA
  rw [← hwA] at fA
  have hL := vw_Leads wA ⟨L, hA⟩
  have hld' : cr.leads = false := by rw [hcr]; exact hld
  rw [hld'] at hL
  have hci : cr.idle = c.idle + 1 := by rw [hcr]
  have hlen : cr.recs.length ≤ 30000 ∧ cr.msgs.length ≤ 30000 ∧ cr.done.length ≤ 30000 := by rw [hcr]; exact ⟨hlr, hlm, hldn⟩
  have htk : c.tick = cr.tickF := by rw [hcr]; exact c.tick_rest hld
  have y10 : w1.cell? ⟨g, 10, none⟩ = some (.int .i64 c.idle) := h1.c10
  have yf := h1.fz 10
  have hadd : IntKind.i64.wrap (c.idle + 1) = c.idle + 1 := IntWalk.i64_in _ (by omega)
  have HQ := Lib.hid (fun (M' : Col) (W : World) (f : Fr M9 w1 M' W) => (f.other (k := q) (by omega) (by omega)).1.trans hh1)
  have Hw1 := Lib.hid hw1.symm
  have HwA := Lib.hid hwA.symm
  have Hq := Lib.hid hq
  have HA := Lib.hid hA
  have FA := Lib.hid fA
  have F1 := Lib.hid f1
  have Hz1 := Lib.hid hz1
  have H9 := Lib.hid h9
  have HL := Lib.hid hL
  have Htk := Lib.hid htk
  have Hlen := Lib.hid hlen
  have Hci := Lib.hid hci
  have hn := h.right.n
  have hme := h.right.me
  clear hw1 hwA hq hA fA f1 hz1 h9 hL hlr hlm hldn h h1 hh1 hld hld' hM9 hcr htk hlen hci
  go_enter Try.func61, Try.ntmps61
  go_upto_region 1 with fail
  rw [Hw1.out, ← Hq.out]
  clear Hw1
  go_upto_region 4 with fail
  rw [HwA.out]
  clear HwA y10 yf hadd
  go_wp2_with fail
  refine HL.out.mono ?_
  rintro e w2 ⟨rfl, hb2⟩
  have h2 : VwL M9 w2 g cr L := HA.out.below hb2
  have T2 : RowKit.Hid (VwTo M9 w1 w2 g cr) := Lib.hid ⟨M9, ⟨L, h2⟩, FA.out.trans (Fr.of_below hb2)⟩
  have hR2 := h2.right
  have hpat := hR2.pat
  have hidle := hR2.idle
  have hmer := hR2.me
  have hnr := hR2.n
  have y0 : w2.cell? ⟨g, 0, none⟩ = some (.int .i64 cr.me) := h2.c0
  have y3 : w2.cell? ⟨g, 3, none⟩ = some (.int .i64 cr.pat) := h2.c3
  have y8 : w2.cell? ⟨g, 8, none⟩ = some (.bool cr.ch) := h2.c8
  have y10 : w2.cell? ⟨g, 10, none⟩ = some (.int .i64 cr.idle) := h2.c10
  clear h2 hb2 HL HA FA hR2
  have hmul : IntKind.i64.wrap (2 * cr.pat) = 2 * cr.pat := IntWalk.i64_in _ (by omega)
  have hsum : IntKind.i64.wrap (cr.pat + cr.me) = cr.pat + cr.me := IntWalk.i64_in _ (by omega)
  obtain ⟨ch, hch⟩ : ∃ b, cr.ch = b := ⟨_, rfl⟩
  rw [hch] at y8
  have Hch := Lib.hid hch
  clear hch
  cases ch with
  | true =>
    by_cases hlt : cr.idle < 2 * cr.pat
    · have Hlt := Lib.hid hlt
      have hltd : decide (cr.idle < 2 * cr.pat) = true := by simpa using hlt
      clear hlt
      go_wp2_with fail
      go_region_held3 (fun W => W.cell? ⟨g, 8, none⟩ = some (.bool true) ∧ W.cell? ⟨g, 10, none⟩ = some (.int .i64 cr.idle) ∧ W.cell? ⟨g, 3, none⟩ = some (.int .i64 cr.pat)) (first | exact ⟨y8, y10, y3⟩ | go_keep) (fail)
      obtain ⟨w3, hw3⟩ : ∃ x, x = w2.drew := ⟨_, rfl⟩
      have T3 : RowKit.Hid (VwTo M9 w1 w3 g cr) := Lib.hid (by rw [hw3]; exact T2.out.drew1)
      rw [← hw3]
      clear hw3
      obtain ⟨M3, ⟨L3, h3⟩, f3⟩ := T3.out
      have z3 : w3.cell? ⟨g, 3, none⟩ = some (.int .i64 cr.pat) := h3.c3
      have z10 : w3.cell? ⟨g, 10, none⟩ = some (.int .i64 cr.idle) := h3.c10
      clear y0 y3 y8 y10 hltd h3 f3
      have hpz : ¬ cr.pat = 0 := by omega
      have htm : Int.tmod cr.idle cr.pat = cr.idle % cr.pat := Int.tmod_eq_emod_of_nonneg hidle.1
      have hrem : 0 ≤ cr.idle % cr.pat := Int.emod_nonneg _ hpz
      have hrem2 : cr.idle % cr.pat < cr.pat := Int.emod_lt_of_pos _ (by omega)
      obtain ⟨rm, hrm⟩ : ∃ rm, rm = cr.idle % cr.pat := ⟨_, rfl⟩
      have hwr : IntKind.i64.wrap rm = rm := IntWalk.i64_in _ (by omega)
      have hwr2 : IntKind.i64.wrap (cr.idle % cr.pat) = rm := by rw [← hrm]; exact hwr
      rw [← hrm] at htm
      have hrm2 : cr.idle % cr.pat = rm := hrm.symm
      clear hrem hrem2
      by_cases hr0 : rm = 0
      · subst hr0
        have Hrm := Lib.hid hrm
        clear hrm
        go_wp2_with fail
        go_region_held3 (fun W => W.cell? ⟨g, 10, none⟩ = some (.int .i64 cr.idle) ∧ W.cell? ⟨g, 3, none⟩ = some (.int .i64 cr.pat)) (first | exact ⟨z10, z3⟩ | go_keep) (fail)
        obtain ⟨w4, hw4⟩ : ∃ x, x = w3.drew := ⟨_, rfl⟩
        have T4 : RowKit.Hid (VwTo M9 w1 w4 g cr) := Lib.hid (by rw [hw4]; exact T3.out.drew1)
        rw [← hw4]
        clear hw4
        obtain ⟨M4, ⟨L4, h4⟩, f4⟩ := T4.out
        obtain ⟨w6, hup, h6, f6, _⟩ := begun_put h4.drew cr.me hmer
        have j12 : w6.cell? ⟨g, 12, none⟩ = some (.map (some L4.bb)) := h6.c12
        have j0 : w6.cell? ⟨g, 0, none⟩ = some (.int .i64 cr.me) := h6.c0
        have i12 : w4.cell? ⟨g, 12, none⟩ = some (.map (some L4.bb)) := h4.c12
        have i0 : w4.cell? ⟨g, 0, none⟩ = some (.int .i64 cr.me) := h4.c0
        obtain ⟨cb, hcb⟩ : ∃ cb : Vw.Core, cb = { cr with begun := fun x => decide (x = cr.me) || cr.begun x } := ⟨_, rfl⟩
        rw [← hcb] at h6
        have kb : cb.recs = cr.recs ∧ cb.msgs = cr.msgs ∧ cb.done = cr.done ∧ cb.n = cr.n := by rw [hcb]; exact ⟨rfl, rfl, rfl, rfl⟩
        have hAl := vw_all w6 ⟨L4, h6⟩ { Vw.Msg.z with kind := 3 } none 0 0 none 0 0 rfl ⟨Nat.le_refl _, Nat.zero_le _⟩ (Sl.nil _ _ _ _) rfl ⟨Nat.le_refl _, Nat.zero_le _⟩ (Sl.nil _ _ _ _) (by rw [kb.2.1]; have := Hlen.out; omega)
        have HAl := Lib.hid hAl
        have F6 := Lib.hid (f4.trans ((Fr.refl _ w4).drew.trans f6))
        have HEq0 : RowKit.Hid (c.tick = (cb.all { Vw.Msg.z with kind := 3 }).wanted) := Lib.hid (by rw [Htk.out]; unfold Vw.Core.tickF; rw [if_pos ⟨Hch.out, Hlt.out⟩, if_pos Hrm.out.symm, ← hcb])
        have K2 : RowKit.Hid ((cb.all { Vw.Msg.z with kind := 3 }).recs.length ≤ 50000 ∧ (cb.all { Vw.Msg.z with kind := 3 }).msgs.length ≤ 50000 ∧ (cb.all { Vw.Msg.z with kind := 3 }).done.length ≤ 50000) := Lib.hid (by
          have h1 := cb.allTo_len { Vw.Msg.z with kind := 3 } cb.n
          rw [cb.allTo_n, kb.2.1, kb.2.2.2] at h1
          have := Hlen.out
          refine ⟨?_, by omega, ?_⟩
          · show cb.recs.length ≤ 50000
            rw [kb.1]; omega
          · show cb.done.length ≤ 50000
            rw [kb.2.2.1]; omega)
        clear h4 f4 h6 f6 hcb kb hAl z3 z10
        go_wp2_with fail
        go_region_held3 (fun W => W.cell? ⟨g, 12, none⟩ = some (.map (some L4.bb)) ∧ W.cell? ⟨g, 0, none⟩ = some (.int .i64 cr.me)) (first | exact ⟨i12, i0⟩ | exact ⟨j12, j0⟩ | go_keep) (fail)
        clear i12 i0 j12 j0 hup
        go_wp2_with fail
        refine HAl.out.mono ?_
        rintro e w7 ⟨rfl, M7, h7, f7⟩
        have hWa := vw_wanted w7 h7 K2.out.1 K2.out.2.1 K2.out.2.2
        have HWa := Lib.hid hWa
        have F7 := Lib.hid (F6.out.trans f7)
        clear hWa h7 f7 HAl
        go_wp2_with fail
        refine HWa.out.mono ?_
        rintro e wX ⟨rfl, tX⟩
        obtain ⟨cX, hcX⟩ : ∃ x, x = (cb.all { Vw.Msg.z with kind := 3 }).wanted := ⟨_, rfl⟩
        have HEq : RowKit.Hid (c.tick = cX) := Lib.hid (by rw [hcX, HEq0.out])
        rw [← hcX] at tX
        have TX := Lib.hid (VwTo.trans F7.out tX)
        clear tX HWa hcX
        obtain ⟨MX, hX, fX⟩ := TX.out
        have hT7 := vw_take (M := MX) wX hX
        have FX := Lib.hid fX
        have HT7 := Lib.hid hT7
        clear hX fX hT7
        go_wp2_with fail
        refine HT7.out.mono ?_
        rintro e w7 ⟨v1, v2, v3, rfl, t7⟩
        obtain ⟨s1, n1, p1, s2, n2, p2, s3, n3, p3, rfl, rfl, rfl⟩ := t7.slices
        have hq7 : w7.heap[q]? = some (.cells #[.slice none 0 0, .slice none 0 0, .slice none 0 0] 107 (0, 0)) := by obtain ⟨M7, _, f7, _⟩ := t7; exact HQ.out _ _ (FX.out.trans f7)
        have qq0 : w7.cell? ⟨q, 0, none⟩ = some (.slice none 0 0) := by simp [World.cell?, hq7]
        have qq1 : w7.cell? ⟨q, 1, none⟩ = some (.slice none 0 0) := by simp [World.cell?, hq7]
        have qq2 : w7.cell? ⟨q, 2, none⟩ = some (.slice none 0 0) := by simp [World.cell?, hq7]
        have qf : ∀ o, w7.frozen? ⟨q, o, none⟩ = false := fun o => by simp [World.frozen?, hq7]
        have HW7 : RowKit.Hid (∀ W, W = (((w7.setCell ⟨q, 0, none⟩ (.slice s1 n1 p1)).setCell ⟨q, 1, none⟩ (.slice s2 n2 p2)).setCell ⟨q, 2, none⟩ (.slice s3 n3 p3)) → W.heap[q]? = some (.cells #[.slice s1 n1 p1, .slice s2 n2 p2, .slice s3 n3 p3] 107 (0, 0)) ∧ InTo M w W g c.tick (.returned (.agg #[.slice s1 n1 p1, .slice s2 n2 p2, .slice s3 n3 p3]))) := Lib.hid (by
          rintro W rfl
          refine ⟨by rw [heap_set (heap_set (heap_set hq7 0 _) 1 _) 2 _]; rfl, _, _, _, _, _, _, _, _, _, rfl, ?_⟩
          rw [HEq.out]
          exact take_unbox Hq.out F1.out H9.out (by have := Hz1.out; omega) (TakeTo.trans FX.out t7) (setg (S := (· = q)) (setg (S := (· = q)) (setg (S := (· = q)) (Only.refl _ w7) rfl 0 (.slice s1 n1 p1)) rfl 1 (.slice s2 n2 p2)) rfl 2 (.slice s3 n3 p3)))
        clear t7 hq7
        go_wp2_with fail
        obtain ⟨g1, g2⟩ := HW7.out _ rfl
        refine bodyPost_ret (v := .agg #[.slice s1 n1 p1, .slice s2 n2 p2, .slice s3 n3 p3]) (results_cell_row Try.results61 _ _ q 107 _ (0, 0) _ rfl g1 Try.underlying107 rfl (by kernel_rfl)) rfl ?_
        exact g2
      · have hrb : (rm == 0) = false := by simpa using hr0
        have hrb2 : decide (rm = 0) = false := by simpa using hr0
        have Hr0 := Lib.hid hr0
        have Hrm := Lib.hid hrm
        clear hr0 hrm
        go_wp2_with fail
        go_region_held3 (fun W => W.cell? ⟨g, 10, none⟩ = some (.int .i64 cr.idle) ∧ W.cell? ⟨g, 3, none⟩ = some (.int .i64 cr.pat)) (first | exact ⟨z10, z3⟩ | go_keep) (fail)
        obtain ⟨w4, hw4⟩ : ∃ x, x = w3.drew := ⟨_, rfl⟩
        have T4 : RowKit.Hid (VwTo M9 w1 w4 g cr) := Lib.hid (by rw [hw4]; exact T3.out.drew1)
        rw [← hw4]
        clear hw4
        clear z10 z3
        obtain ⟨wX, hwX⟩ : ∃ x, x = w4 := ⟨_, rfl⟩
        obtain ⟨cX, hcX⟩ : ∃ x, x = cr := ⟨_, rfl⟩
        have TX : RowKit.Hid (VwTo M9 w1 wX g cX) := Lib.hid (by rw [hwX, hcX]; exact T4.out)
        have HEq : RowKit.Hid (c.tick = cX) := Lib.hid (by rw [hcX, Htk.out]; unfold Vw.Core.tickF; rw [if_pos ⟨Hch.out, Hlt.out⟩, if_neg (by rw [← Hrm.out]; exact Hr0.out)])
        rw [← hwX]
        clear hwX hcX
        obtain ⟨MX, hX, fX⟩ := TX.out
        have hT7 := vw_take (M := MX) wX hX
        have FX := Lib.hid fX
        have HT7 := Lib.hid hT7
        clear hX fX hT7
        go_wp2_with fail
        refine HT7.out.mono ?_
        rintro e w7 ⟨v1, v2, v3, rfl, t7⟩
        obtain ⟨s1, n1, p1, s2, n2, p2, s3, n3, p3, rfl, rfl, rfl⟩ := t7.slices
        have hq7 : w7.heap[q]? = some (.cells #[.slice none 0 0, .slice none 0 0, .slice none 0 0] 107 (0, 0)) := by obtain ⟨M7, _, f7, _⟩ := t7; exact HQ.out _ _ (FX.out.trans f7)
        have qq0 : w7.cell? ⟨q, 0, none⟩ = some (.slice none 0 0) := by simp [World.cell?, hq7]
        have qq1 : w7.cell? ⟨q, 1, none⟩ = some (.slice none 0 0) := by simp [World.cell?, hq7]
        have qq2 : w7.cell? ⟨q, 2, none⟩ = some (.slice none 0 0) := by simp [World.cell?, hq7]
        have qf : ∀ o, w7.frozen? ⟨q, o, none⟩ = false := fun o => by simp [World.frozen?, hq7]
        have HW7 : RowKit.Hid (∀ W, W = (((w7.setCell ⟨q, 0, none⟩ (.slice s1 n1 p1)).setCell ⟨q, 1, none⟩ (.slice s2 n2 p2)).setCell ⟨q, 2, none⟩ (.slice s3 n3 p3)) → W.heap[q]? = some (.cells #[.slice s1 n1 p1, .slice s2 n2 p2, .slice s3 n3 p3] 107 (0, 0)) ∧ InTo M w W g c.tick (.returned (.agg #[.slice s1 n1 p1, .slice s2 n2 p2, .slice s3 n3 p3]))) := Lib.hid (by
          rintro W rfl
          refine ⟨by rw [heap_set (heap_set (heap_set hq7 0 _) 1 _) 2 _]; rfl, _, _, _, _, _, _, _, _, _, rfl, ?_⟩
          rw [HEq.out]
          exact take_unbox Hq.out F1.out H9.out (by have := Hz1.out; omega) (TakeTo.trans FX.out t7) (setg (S := (· = q)) (setg (S := (· = q)) (setg (S := (· = q)) (Only.refl _ w7) rfl 0 (.slice s1 n1 p1)) rfl 1 (.slice s2 n2 p2)) rfl 2 (.slice s3 n3 p3)))
        clear t7 hq7
        go_wp2_with fail
        obtain ⟨g1, g2⟩ := HW7.out _ rfl
        refine bodyPost_ret (v := .agg #[.slice s1 n1 p1, .slice s2 n2 p2, .slice s3 n3 p3]) (results_cell_row Try.results61 _ _ q 107 _ (0, 0) _ rfl g1 Try.underlying107 rfl (by kernel_rfl)) rfl ?_
        exact g2
    · have Hlt := Lib.hid hlt
      have hltd : decide (cr.idle < 2 * cr.pat) = false := by simpa using hlt
      clear hlt
      go_wp2_with fail
      go_region_held3 (fun W => W.cell? ⟨g, 8, none⟩ = some (.bool true) ∧ W.cell? ⟨g, 10, none⟩ = some (.int .i64 cr.idle) ∧ W.cell? ⟨g, 3, none⟩ = some (.int .i64 cr.pat)) (first | exact ⟨y8, y10, y3⟩ | go_keep) (fail)
      obtain ⟨w3, hw3⟩ : ∃ x, x = w2.drew := ⟨_, rfl⟩
      have T3 : RowKit.Hid (VwTo M9 w1 w3 g cr) := Lib.hid (by rw [hw3]; exact T2.out.drew1)
      rw [← hw3]
      clear hw3
      obtain ⟨M3, ⟨L3, h3⟩, f3⟩ := T3.out
      have z8 : w3.cell? ⟨g, 8, none⟩ = some (.bool true) := by rw [← Hch.out]; exact h3.c8
      clear y0 y3 y8 y10 hltd h3 f3
      go_wp2_with fail
      go_quiet (fail)
      obtain ⟨w4, hw4⟩ : ∃ x, x = w3.drewN nq := ⟨_, rfl⟩
      have T4 : RowKit.Hid (VwTo M9 w1 w4 g cr) := Lib.hid (by rw [hw4]; exact T3.out.drewN nq)
      rw [← hw4]
      clear hw4
      clear z8
      obtain ⟨M4, ⟨L4, h4⟩, f4⟩ := T4.out
      by_cases hv : cr.keep.view < 1099511627776
      · have Hv := Lib.hid hv
        have hRX := h4.right
        have hCh := vw_change (M := M4) w4 ⟨L4, h4⟩ (cr.keep.view + 1) ⟨by have := hRX.view; omega, by omega⟩ (by have := Hlen.out; omega) (by have := Hlen.out; omega) (by have := Hlen.out; omega)
        have y5 : w4.cell? ⟨g, 5, none⟩ = some (.int .i64 cr.keep.view) := h4.c5
        have hvadd : IntKind.i64.wrap (cr.keep.view + 1) = cr.keep.view + 1 := IntWalk.i64_in _ (by have := hRX.view; omega)
        have hvd : decide (cr.keep.view < 1099511627776) = true := by simp; omega
        have HCh := Lib.hid hCh
        have F4 := Lib.hid f4
        clear hCh h4 f4 hRX
        go_wp2_with fail
        refine HCh.out.mono ?_
        rintro e wX ⟨rfl, tX⟩
        obtain ⟨cX, hcX⟩ : ∃ x, x = cr.change (cr.keep.view + 1) := ⟨_, rfl⟩
        have HEq : RowKit.Hid (c.tick = cX) := Lib.hid (by rw [hcX, Htk.out]; unfold Vw.Core.tickF; rw [if_neg (fun h => by have h1 := Hlt.out; have h2 := h.2; omega), if_pos (.inl Hch.out), if_pos Hv.out])
        rw [← hcX] at tX
        have TX := Lib.hid (VwTo.trans F4.out tX)
        clear tX HCh hcX y5 hvadd hvd
        obtain ⟨MX, hX, fX⟩ := TX.out
        have hT7 := vw_take (M := MX) wX hX
        have FX := Lib.hid fX
        have HT7 := Lib.hid hT7
        clear hX fX hT7
        go_wp2_with fail
        refine HT7.out.mono ?_
        rintro e w7 ⟨v1, v2, v3, rfl, t7⟩
        obtain ⟨s1, n1, p1, s2, n2, p2, s3, n3, p3, rfl, rfl, rfl⟩ := t7.slices
        have hq7 : w7.heap[q]? = some (.cells #[.slice none 0 0, .slice none 0 0, .slice none 0 0] 107 (0, 0)) := by obtain ⟨M7, _, f7, _⟩ := t7; exact HQ.out _ _ (FX.out.trans f7)
        have qq0 : w7.cell? ⟨q, 0, none⟩ = some (.slice none 0 0) := by simp [World.cell?, hq7]
        have qq1 : w7.cell? ⟨q, 1, none⟩ = some (.slice none 0 0) := by simp [World.cell?, hq7]
        have qq2 : w7.cell? ⟨q, 2, none⟩ = some (.slice none 0 0) := by simp [World.cell?, hq7]
        have qf : ∀ o, w7.frozen? ⟨q, o, none⟩ = false := fun o => by simp [World.frozen?, hq7]
        have HW7 : RowKit.Hid (∀ W, W = (((w7.setCell ⟨q, 0, none⟩ (.slice s1 n1 p1)).setCell ⟨q, 1, none⟩ (.slice s2 n2 p2)).setCell ⟨q, 2, none⟩ (.slice s3 n3 p3)) → W.heap[q]? = some (.cells #[.slice s1 n1 p1, .slice s2 n2 p2, .slice s3 n3 p3] 107 (0, 0)) ∧ InTo M w W g c.tick (.returned (.agg #[.slice s1 n1 p1, .slice s2 n2 p2, .slice s3 n3 p3]))) := Lib.hid (by
          rintro W rfl
          refine ⟨by rw [heap_set (heap_set (heap_set hq7 0 _) 1 _) 2 _]; rfl, _, _, _, _, _, _, _, _, _, rfl, ?_⟩
          rw [HEq.out]
          exact take_unbox Hq.out F1.out H9.out (by have := Hz1.out; omega) (TakeTo.trans FX.out t7) (setg (S := (· = q)) (setg (S := (· = q)) (setg (S := (· = q)) (Only.refl _ w7) rfl 0 (.slice s1 n1 p1)) rfl 1 (.slice s2 n2 p2)) rfl 2 (.slice s3 n3 p3)))
        clear t7 hq7
        go_wp2_with fail
        obtain ⟨g1, g2⟩ := HW7.out _ rfl
        refine bodyPost_ret (v := .agg #[.slice s1 n1 p1, .slice s2 n2 p2, .slice s3 n3 p3]) (results_cell_row Try.results61 _ _ q 107 _ (0, 0) _ rfl g1 Try.underlying107 rfl (by kernel_rfl)) rfl ?_
        exact g2
      · have Hv := Lib.hid hv
        have y5 : w4.cell? ⟨g, 5, none⟩ = some (.int .i64 cr.keep.view) := h4.c5
        have hvd : decide (cr.keep.view < 1099511627776) = false := by simp; omega
        clear h4 f4
        obtain ⟨wX, hwX⟩ : ∃ x, x = w4 := ⟨_, rfl⟩
        obtain ⟨cX, hcX⟩ : ∃ x, x = cr := ⟨_, rfl⟩
        have TX : RowKit.Hid (VwTo M9 w1 wX g cX) := Lib.hid (by rw [hwX, hcX]; exact T4.out)
        have HEq : RowKit.Hid (c.tick = cX) := Lib.hid (by rw [hcX, Htk.out]; unfold Vw.Core.tickF; rw [if_neg (fun h => by have h1 := Hlt.out; have h2 := h.2; omega), if_pos (.inl Hch.out), if_neg Hv.out])
        rw [← hwX] at y5 ⊢
        clear hwX hcX
        obtain ⟨MX, hX, fX⟩ := TX.out
        have hT7 := vw_take (M := MX) wX hX
        have FX := Lib.hid fX
        have HT7 := Lib.hid hT7
        clear hX fX hT7
        go_wp2_with fail
        refine HT7.out.mono ?_
        rintro e w7 ⟨v1, v2, v3, rfl, t7⟩
        obtain ⟨s1, n1, p1, s2, n2, p2, s3, n3, p3, rfl, rfl, rfl⟩ := t7.slices
        have hq7 : w7.heap[q]? = some (.cells #[.slice none 0 0, .slice none 0 0, .slice none 0 0] 107 (0, 0)) := by obtain ⟨M7, _, f7, _⟩ := t7; exact HQ.out _ _ (FX.out.trans f7)
        have qq0 : w7.cell? ⟨q, 0, none⟩ = some (.slice none 0 0) := by simp [World.cell?, hq7]
        have qq1 : w7.cell? ⟨q, 1, none⟩ = some (.slice none 0 0) := by simp [World.cell?, hq7]
        have qq2 : w7.cell? ⟨q, 2, none⟩ = some (.slice none 0 0) := by simp [World.cell?, hq7]
        have qf : ∀ o, w7.frozen? ⟨q, o, none⟩ = false := fun o => by simp [World.frozen?, hq7]
        have HW7 : RowKit.Hid (∀ W, W = (((w7.setCell ⟨q, 0, none⟩ (.slice s1 n1 p1)).setCell ⟨q, 1, none⟩ (.slice s2 n2 p2)).setCell ⟨q, 2, none⟩ (.slice s3 n3 p3)) → W.heap[q]? = some (.cells #[.slice s1 n1 p1, .slice s2 n2 p2, .slice s3 n3 p3] 107 (0, 0)) ∧ InTo M w W g c.tick (.returned (.agg #[.slice s1 n1 p1, .slice s2 n2 p2, .slice s3 n3 p3]))) := Lib.hid (by
          rintro W rfl
          refine ⟨by rw [heap_set (heap_set (heap_set hq7 0 _) 1 _) 2 _]; rfl, _, _, _, _, _, _, _, _, _, rfl, ?_⟩
          rw [HEq.out]
          exact take_unbox Hq.out F1.out H9.out (by have := Hz1.out; omega) (TakeTo.trans FX.out t7) (setg (S := (· = q)) (setg (S := (· = q)) (setg (S := (· = q)) (Only.refl _ w7) rfl 0 (.slice s1 n1 p1)) rfl 1 (.slice s2 n2 p2)) rfl 2 (.slice s3 n3 p3)))
        clear t7 hq7
        go_wp2_with fail
        obtain ⟨g1, g2⟩ := HW7.out _ rfl
        refine bodyPost_ret (v := .agg #[.slice s1 n1 p1, .slice s2 n2 p2, .slice s3 n3 p3]) (results_cell_row Try.results61 _ _ q 107 _ (0, 0) _ rfl g1 Try.underlying107 rfl (by kernel_rfl)) rfl ?_
        exact g2
  | false =>
    go_wp2_with fail
    go_quiet (fail)
    obtain ⟨w3, hw3⟩ : ∃ x, x = w2.drewN nq := ⟨_, rfl⟩
    have T3 : RowKit.Hid (VwTo M9 w1 w3 g cr) := Lib.hid (by rw [hw3]; exact T2.out.drewN nq)
    rw [← hw3]
    clear hw3
    obtain ⟨M3, ⟨L3, h3⟩, f3⟩ := T3.out
    have z8 : w3.cell? ⟨g, 8, none⟩ = some (.bool false) := by rw [← Hch.out]; exact h3.c8
    have z10 : w3.cell? ⟨g, 10, none⟩ = some (.int .i64 cr.idle) := h3.c10
    have z3 : w3.cell? ⟨g, 3, none⟩ = some (.int .i64 cr.pat) := h3.c3
    have z0 : w3.cell? ⟨g, 0, none⟩ = some (.int .i64 cr.me) := h3.c0
    clear y0 y3 y8 y10 h3 f3
    by_cases hge : cr.pat + cr.me ≤ cr.idle
    · have Hge := Lib.hid hge
      have hged : decide (cr.pat + cr.me ≤ cr.idle) = true := by simpa using hge
      clear hge
      go_wp2_with fail
      go_region_held3 (fun W => W.cell? ⟨g, 8, none⟩ = some (.bool false) ∧ W.cell? ⟨g, 10, none⟩ = some (.int .i64 cr.idle) ∧ W.cell? ⟨g, 3, none⟩ = some (.int .i64 cr.pat) ∧ W.cell? ⟨g, 0, none⟩ = some (.int .i64 cr.me)) (first | exact ⟨z8, z10, z3, z0⟩ | go_keep) (fail)
      obtain ⟨w4, hw4⟩ : ∃ x, x = w3.drew := ⟨_, rfl⟩
      have T4 : RowKit.Hid (VwTo M9 w1 w4 g cr) := Lib.hid (by rw [hw4]; exact T3.out.drew1)
      rw [← hw4]
      clear hw4
      clear z8 z10 z3 z0 hged
      obtain ⟨M4, ⟨L4, h4⟩, f4⟩ := T4.out
      by_cases hv : cr.keep.view < 1099511627776
      · have Hv := Lib.hid hv
        have hRX := h4.right
        have hCh := vw_change (M := M4) w4 ⟨L4, h4⟩ (cr.keep.view + 1) ⟨by have := hRX.view; omega, by omega⟩ (by have := Hlen.out; omega) (by have := Hlen.out; omega) (by have := Hlen.out; omega)
        have y5 : w4.cell? ⟨g, 5, none⟩ = some (.int .i64 cr.keep.view) := h4.c5
        have hvadd : IntKind.i64.wrap (cr.keep.view + 1) = cr.keep.view + 1 := IntWalk.i64_in _ (by have := hRX.view; omega)
        have hvd : decide (cr.keep.view < 1099511627776) = true := by simp; omega
        have HCh := Lib.hid hCh
        have F4 := Lib.hid f4
        clear hCh h4 f4 hRX
        go_wp2_with fail
        refine HCh.out.mono ?_
        rintro e wX ⟨rfl, tX⟩
        obtain ⟨cX, hcX⟩ : ∃ x, x = cr.change (cr.keep.view + 1) := ⟨_, rfl⟩
        have HEq : RowKit.Hid (c.tick = cX) := Lib.hid (by rw [hcX, Htk.out]; unfold Vw.Core.tickF; rw [if_neg (fun h => by rw [Hch.out] at h; cases h.1), if_pos (.inr Hge.out), if_pos Hv.out])
        rw [← hcX] at tX
        have TX := Lib.hid (VwTo.trans F4.out tX)
        clear tX HCh hcX y5 hvadd hvd
        obtain ⟨MX, hX, fX⟩ := TX.out
        have hT7 := vw_take (M := MX) wX hX
        have FX := Lib.hid fX
        have HT7 := Lib.hid hT7
        clear hX fX hT7
        go_wp2_with fail
        refine HT7.out.mono ?_
        rintro e w7 ⟨v1, v2, v3, rfl, t7⟩
        obtain ⟨s1, n1, p1, s2, n2, p2, s3, n3, p3, rfl, rfl, rfl⟩ := t7.slices
        have hq7 : w7.heap[q]? = some (.cells #[.slice none 0 0, .slice none 0 0, .slice none 0 0] 107 (0, 0)) := by obtain ⟨M7, _, f7, _⟩ := t7; exact HQ.out _ _ (FX.out.trans f7)
        have qq0 : w7.cell? ⟨q, 0, none⟩ = some (.slice none 0 0) := by simp [World.cell?, hq7]
        have qq1 : w7.cell? ⟨q, 1, none⟩ = some (.slice none 0 0) := by simp [World.cell?, hq7]
        have qq2 : w7.cell? ⟨q, 2, none⟩ = some (.slice none 0 0) := by simp [World.cell?, hq7]
        have qf : ∀ o, w7.frozen? ⟨q, o, none⟩ = false := fun o => by simp [World.frozen?, hq7]
        have HW7 : RowKit.Hid (∀ W, W = (((w7.setCell ⟨q, 0, none⟩ (.slice s1 n1 p1)).setCell ⟨q, 1, none⟩ (.slice s2 n2 p2)).setCell ⟨q, 2, none⟩ (.slice s3 n3 p3)) → W.heap[q]? = some (.cells #[.slice s1 n1 p1, .slice s2 n2 p2, .slice s3 n3 p3] 107 (0, 0)) ∧ InTo M w W g c.tick (.returned (.agg #[.slice s1 n1 p1, .slice s2 n2 p2, .slice s3 n3 p3]))) := Lib.hid (by
          rintro W rfl
          refine ⟨by rw [heap_set (heap_set (heap_set hq7 0 _) 1 _) 2 _]; rfl, _, _, _, _, _, _, _, _, _, rfl, ?_⟩
          rw [HEq.out]
          exact take_unbox Hq.out F1.out H9.out (by have := Hz1.out; omega) (TakeTo.trans FX.out t7) (setg (S := (· = q)) (setg (S := (· = q)) (setg (S := (· = q)) (Only.refl _ w7) rfl 0 (.slice s1 n1 p1)) rfl 1 (.slice s2 n2 p2)) rfl 2 (.slice s3 n3 p3)))
        clear t7 hq7
        go_wp2_with fail
        obtain ⟨g1, g2⟩ := HW7.out _ rfl
        refine bodyPost_ret (v := .agg #[.slice s1 n1 p1, .slice s2 n2 p2, .slice s3 n3 p3]) (results_cell_row Try.results61 _ _ q 107 _ (0, 0) _ rfl g1 Try.underlying107 rfl (by kernel_rfl)) rfl ?_
        exact g2
      · have Hv := Lib.hid hv
        have y5 : w4.cell? ⟨g, 5, none⟩ = some (.int .i64 cr.keep.view) := h4.c5
        have hvd : decide (cr.keep.view < 1099511627776) = false := by simp; omega
        clear h4 f4
        obtain ⟨wX, hwX⟩ : ∃ x, x = w4 := ⟨_, rfl⟩
        obtain ⟨cX, hcX⟩ : ∃ x, x = cr := ⟨_, rfl⟩
        have TX : RowKit.Hid (VwTo M9 w1 wX g cX) := Lib.hid (by rw [hwX, hcX]; exact T4.out)
        have HEq : RowKit.Hid (c.tick = cX) := Lib.hid (by rw [hcX, Htk.out]; unfold Vw.Core.tickF; rw [if_neg (fun h => by rw [Hch.out] at h; cases h.1), if_pos (.inr Hge.out), if_neg Hv.out])
        rw [← hwX] at y5 ⊢
        clear hwX hcX
        obtain ⟨MX, hX, fX⟩ := TX.out
        have hT7 := vw_take (M := MX) wX hX
        have FX := Lib.hid fX
        have HT7 := Lib.hid hT7
        clear hX fX hT7
        go_wp2_with fail
        refine HT7.out.mono ?_
        rintro e w7 ⟨v1, v2, v3, rfl, t7⟩
        obtain ⟨s1, n1, p1, s2, n2, p2, s3, n3, p3, rfl, rfl, rfl⟩ := t7.slices
        have hq7 : w7.heap[q]? = some (.cells #[.slice none 0 0, .slice none 0 0, .slice none 0 0] 107 (0, 0)) := by obtain ⟨M7, _, f7, _⟩ := t7; exact HQ.out _ _ (FX.out.trans f7)
        have qq0 : w7.cell? ⟨q, 0, none⟩ = some (.slice none 0 0) := by simp [World.cell?, hq7]
        have qq1 : w7.cell? ⟨q, 1, none⟩ = some (.slice none 0 0) := by simp [World.cell?, hq7]
        have qq2 : w7.cell? ⟨q, 2, none⟩ = some (.slice none 0 0) := by simp [World.cell?, hq7]
        have qf : ∀ o, w7.frozen? ⟨q, o, none⟩ = false := fun o => by simp [World.frozen?, hq7]
        have HW7 : RowKit.Hid (∀ W, W = (((w7.setCell ⟨q, 0, none⟩ (.slice s1 n1 p1)).setCell ⟨q, 1, none⟩ (.slice s2 n2 p2)).setCell ⟨q, 2, none⟩ (.slice s3 n3 p3)) → W.heap[q]? = some (.cells #[.slice s1 n1 p1, .slice s2 n2 p2, .slice s3 n3 p3] 107 (0, 0)) ∧ InTo M w W g c.tick (.returned (.agg #[.slice s1 n1 p1, .slice s2 n2 p2, .slice s3 n3 p3]))) := Lib.hid (by
          rintro W rfl
          refine ⟨by rw [heap_set (heap_set (heap_set hq7 0 _) 1 _) 2 _]; rfl, _, _, _, _, _, _, _, _, _, rfl, ?_⟩
          rw [HEq.out]
          exact take_unbox Hq.out F1.out H9.out (by have := Hz1.out; omega) (TakeTo.trans FX.out t7) (setg (S := (· = q)) (setg (S := (· = q)) (setg (S := (· = q)) (Only.refl _ w7) rfl 0 (.slice s1 n1 p1)) rfl 1 (.slice s2 n2 p2)) rfl 2 (.slice s3 n3 p3)))
        clear t7 hq7
        go_wp2_with fail
        obtain ⟨g1, g2⟩ := HW7.out _ rfl
        refine bodyPost_ret (v := .agg #[.slice s1 n1 p1, .slice s2 n2 p2, .slice s3 n3 p3]) (results_cell_row Try.results61 _ _ q 107 _ (0, 0) _ rfl g1 Try.underlying107 rfl (by kernel_rfl)) rfl ?_
        exact g2
    · have Hge := Lib.hid hge
      have hged : decide (cr.pat + cr.me ≤ cr.idle) = false := by simpa using hge
      clear hge
      go_wp2_with fail
      go_region_held3 (fun W => W.cell? ⟨g, 8, none⟩ = some (.bool false) ∧ W.cell? ⟨g, 10, none⟩ = some (.int .i64 cr.idle) ∧ W.cell? ⟨g, 3, none⟩ = some (.int .i64 cr.pat) ∧ W.cell? ⟨g, 0, none⟩ = some (.int .i64 cr.me)) (first | exact ⟨z8, z10, z3, z0⟩ | go_keep) (fail)
      obtain ⟨w4, hw4⟩ : ∃ x, x = w3.drew := ⟨_, rfl⟩
      have T4 : RowKit.Hid (VwTo M9 w1 w4 g cr) := Lib.hid (by rw [hw4]; exact T3.out.drew1)
      rw [← hw4]
      clear hw4
      clear z8 z10 z3 z0 hged
      obtain ⟨wX, hwX⟩ : ∃ x, x = w4 := ⟨_, rfl⟩
      obtain ⟨cX, hcX⟩ : ∃ x, x = cr := ⟨_, rfl⟩
      have TX : RowKit.Hid (VwTo M9 w1 wX g cX) := Lib.hid (by rw [hwX, hcX]; exact T4.out)
      have HEq : RowKit.Hid (c.tick = cX) := Lib.hid (by rw [hcX, Htk.out]; unfold Vw.Core.tickF; rw [if_neg (fun h => by rw [Hch.out] at h; cases h.1), if_neg (fun h => h.elim (fun h => by rw [Hch.out] at h; cases h) (fun h => by have h1 := Hge.out; omega))])
      rw [← hwX]
      clear hwX hcX
      obtain ⟨MX, hX, fX⟩ := TX.out
      have hT7 := vw_take (M := MX) wX hX
      have FX := Lib.hid fX
      have HT7 := Lib.hid hT7
      clear hX fX hT7
      go_wp2_with fail
      refine HT7.out.mono ?_
      rintro e w7 ⟨v1, v2, v3, rfl, t7⟩
      obtain ⟨s1, n1, p1, s2, n2, p2, s3, n3, p3, rfl, rfl, rfl⟩ := t7.slices
      have hq7 : w7.heap[q]? = some (.cells #[.slice none 0 0, .slice none 0 0, .slice none 0 0] 107 (0, 0)) := by obtain ⟨M7, _, f7, _⟩ := t7; exact HQ.out _ _ (FX.out.trans f7)
      have qq0 : w7.cell? ⟨q, 0, none⟩ = some (.slice none 0 0) := by simp [World.cell?, hq7]
      have qq1 : w7.cell? ⟨q, 1, none⟩ = some (.slice none 0 0) := by simp [World.cell?, hq7]
      have qq2 : w7.cell? ⟨q, 2, none⟩ = some (.slice none 0 0) := by simp [World.cell?, hq7]
      have qf : ∀ o, w7.frozen? ⟨q, o, none⟩ = false := fun o => by simp [World.frozen?, hq7]
      have HW7 : RowKit.Hid (∀ W, W = (((w7.setCell ⟨q, 0, none⟩ (.slice s1 n1 p1)).setCell ⟨q, 1, none⟩ (.slice s2 n2 p2)).setCell ⟨q, 2, none⟩ (.slice s3 n3 p3)) → W.heap[q]? = some (.cells #[.slice s1 n1 p1, .slice s2 n2 p2, .slice s3 n3 p3] 107 (0, 0)) ∧ InTo M w W g c.tick (.returned (.agg #[.slice s1 n1 p1, .slice s2 n2 p2, .slice s3 n3 p3]))) := Lib.hid (by
        rintro W rfl
        refine ⟨by rw [heap_set (heap_set (heap_set hq7 0 _) 1 _) 2 _]; rfl, _, _, _, _, _, _, _, _, _, rfl, ?_⟩
        rw [HEq.out]
        exact take_unbox Hq.out F1.out H9.out (by have := Hz1.out; omega) (TakeTo.trans FX.out t7) (setg (S := (· = q)) (setg (S := (· = q)) (setg (S := (· = q)) (Only.refl _ w7) rfl 0 (.slice s1 n1 p1)) rfl 1 (.slice s2 n2 p2)) rfl 2 (.slice s3 n3 p3)))
      clear t7 hq7
      go_wp2_with fail
      obtain ⟨g1, g2⟩ := HW7.out _ rfl
      refine bodyPost_ret (v := .agg #[.slice s1 n1 p1, .slice s2 n2 p2, .slice s3 n3 p3]) (results_cell_row Try.results61 _ _ q 107 _ (0, 0) _ rfl g1 Try.underlying107 rfl (by kernel_rfl)) rfl ?_
      exact g2
end Go.Proofs.Ytmmgnbdngpkfcaa

namespace Go.Proofs.Ytmmgnbdngpkfcaa
set_option linter.unusedVariables false
namespace Vw
variable {G G0 G' : Gh}
namespace Core
theorem wanted_rest' (c : Core) (hd : ∀ z m, c.dos z = some m → Small m.list) (hl : Small c.keep.log) (hn : c.n ≤ 7) : Rest c c.wanted 6009 := by
  unfold wanted
  split
  · split
    · exact (c.send_rest _).mono (by decide)
    · have hb := begin_rest ({ c with dos := fun x => if x = c.me then some c.doMsg else c.dos x } : Core) (fun z m hm => by
        simp only at hm
        split at hm
        · injection hm with hm; subst hm; exact hl
        · exact hd z m hm) hn
      exact ⟨hb.1.me, hb.1.n, hb.1.shard, hb.1.pat, hb.1.recs, hb.1.msgs, hb.1.done⟩
  · exact (Rest.refl c).mono (Nat.zero_le _)
theorem started_rest (c : Core) (m : Msg) (hd : ∀ z m, c.dos z = some m → Small m.list) (hl : Small c.keep.log) (hn : c.n ≤ 7) : Rest c (c.started m) 6009 := by
  unfold started
  split
  · exact (Rest.refl c).mono (Nat.zero_le _)
  · split
    · split
      · have h := wanted_rest' ({ c with begun := fun x => decide (x = m.frm) || c.begun x } : Core) hd hl hn
        exact ⟨h.me, h.n, h.shard, h.pat, h.recs, h.msgs, h.done⟩
      · exact (Rest.refl c).mono (Nat.zero_le _)
    · split
      · exact (c.send_rest _).mono (by decide)
      · exact (Rest.refl c).mono (Nat.zero_le _)
theorem prepS_rest1 (c : Core) (m : Msg) (i : Nat) : Rest c (c.prepS m i) 1 := by
  unfold prepS
  split
  · split
    · exact c.rec_rest _
    · exact (Rest.refl c).mono (Nat.zero_le _)
  · exact (Rest.refl c).mono (Nat.zero_le _)
theorem prepF_rest (c : Core) (m : Msg) : ∀ j, Rest c ((List.range j).foldl (fun c i => c.prepS m i) c) j
  | 0 => Rest.refl c
  | j + 1 => by
    rw [List.range_succ, List.foldl_append]
    exact (prepF_rest c m j).trans (prepS_rest1 _ m j)
end Core
theorem reach_rest' (c : Core) (k : Int) (h : c.keep.log.length ≤ 6000) : Rest c (c.reach k) 6000 := (c.reach_rest k).mono h
/-- what a step gives out -/
structure Few (c : Core) : Prop where
  recs : c.recs.length ≤ 30000
  msgs : c.msgs.length ≤ 30000
  done : c.done.length ≤ 30000
theorem Rest.few {c c' : Core} {K : Nat} (h : Rest c c' K) (h0 : c.recs = [] ∧ c.msgs = [] ∧ c.done = []) (hK : K ≤ 30000) : Few c' :=
  ⟨by have := h.recs; rw [h0.1] at this; simp at this; omega, by have := h.msgs; rw [h0.2.1] at this; simp at this; omega, by have := h.done; rw [h0.2.2] at this; simp at this; omega⟩
theorem Act.log {x : Int} {c0 c : Core} (a : Act G0 x c0 G c) : c.keep.log.length ≤ 2000 := a.st.keep.small.1
theorem in_few {x : Int} {c : Core} (hI : G.GI) (s : St G x c) (hR : Right c) (h : c.recs = [] ∧ c.msgs = [] ∧ c.done = []) (m : Msg) (hm : MsgOk G m) (hto : m.to_ = x) : Few (c.in_ m) := by
  have a := Act.start hI s h
  have hne : m.frm ≠ x := fun e => hm.ne (e.trans hto.symm)
  unfold Core.in_
  split
  · exact ((Rest.refl c).mono (Nat.zero_le 1)).few h (by decide)
  split
  · split
    · exact (c.send_rest _).few h (by decide)
    · exact ((Rest.refl c).mono (Nat.zero_le 1)).few h (by decide)
  rename_i hlow
  show Few ((if m.view > c.keep.view ∧ m.kind ≠ 5 ∧ m.kind ≠ 2 then c.change m.view else c).inD m (lead m.view c.n))
  have key : ∃ c1, (if m.view > c.keep.view ∧ m.kind ≠ 5 ∧ m.kind ≠ 2 then c.change m.view else c) = c1 ∧ Rest c c1 6020 ∧ ∃ G1, Act G x c G1 c1 := by
    split
    · rename_i hv
      exact ⟨_, rfl, (c.change_rest m.view hR hm.view).1, a.change _ ⟨hv.1, hm.view.2⟩⟩
    · exact ⟨_, rfl, (Rest.refl c).mono (Nat.zero_le _), G, a⟩
  obtain ⟨c1, e, hr, G1, A⟩ := key
  rw [e]
  have hn : c1.n ≤ 7 := by rw [hr.n]; exact hR.n.2
  have hds : ∀ z m, c1.dos z = some m → Small m.list := fun z m hm => (A.st.dos z m hm).2.1.1
  have hlog := A.log
  unfold Core.inD
  split
  · exact (hr.trans (c1.started_rest m hds A.st.keep.small hn)).few h (by decide)
  split
  · have hb := (Core.begin_rest ({ c1 with dos := fun x => if x = m.frm then some m else c1.dos x } : Core) (fun z m' hz => by
      simp only at hz
      split at hz
      · injection hz with hz; subst hz; exact hm.small
      · exact hds z m' hz) hn).1
    have hb' : Rest c1 ({ c1 with dos := fun x => if x = m.frm then some m else c1.dos x } : Core).begin_ 6009 := ⟨hb.me, hb.n, hb.shard, hb.pat, hb.recs, hb.msgs, hb.done⟩
    exact (hr.trans hb').few h (by decide)
  split
  · obtain ⟨cv, hcv⟩ : ∃ cv : Core, cv = { c1 with keep := { c1.keep with view := m.view } } := ⟨_, rfl⟩
    rw [← hcv]
    have h1 : Rest c1 cv 0 := by rw [hcv]; exact ⟨rfl, rfl, rfl, rfl, Nat.le_refl _, Nat.le_refl _, Nat.le_refl _⟩
    have h2 := cv.adopt_rest m.list
    have hlen : (cv.adopt m.list).keep.log.length ≤ 6000 := by rw [(cv.adopt_log m.list).1]; have := hm.small.1; show m.list.length ≤ _; omega
    have h3 := reach_rest' (cv.adopt m.list) m.commit hlen
    have h4 := ((cv.adopt m.list).reach m.commit).send_rest { Msg.z with kind := 2, to_ := lead m.view c.n, at_ := ((cv.adopt m.list).reach m.commit).keep.log.length }
    exact ((((hr.trans h1).trans h2).trans h3).trans h4).few h (by have := hm.small.1; omega)
  split
  · have hlen := hm.small.1
    have key : ∀ (c2 : Core) (mm : Msg), Rest c1 c2 0 → c2.keep.log.length ≤ 2000 → Few (Core.send (if m.at_ ≤ (c2.keep.log.length : Int) then ((List.range m.list.length).foldl (fun c i => c.prepS m i) c2).reach m.commit else c2) mm) := by
      intro c2 mm h1 hl2
      split
      · have h2 := c2.prepF_rest m m.list.length
        obtain ⟨c3, hc3⟩ : ∃ c3, c3 = (List.range m.list.length).foldl (fun c i => c.prepS m i) c2 := ⟨_, rfl⟩
        rw [← hc3] at h2 ⊢
        have hl3 : c3.keep.log.length ≤ 6000 := by
          have hp : ∀ j, ((List.range j).foldl (fun c i => c.prepS m i) c2).keep.log.length ≤ c2.keep.log.length + j := by
            intro j
            induction j with
            | zero => exact Nat.le_refl _
            | succ j ih =>
              rw [List.range_succ, List.foldl_append]
              show (Core.prepS _ m j).keep.log.length ≤ _
              obtain ⟨d, hd⟩ : ∃ d, d = (List.range j).foldl (fun c i => c.prepS m i) c2 := ⟨_, rfl⟩
              rw [← hd] at ih ⊢
              unfold Core.prepS
              split
              · split
                · show (d.keep.log ++ [_]).length ≤ _
                  simp; omega
                · omega
              · omega
          have := hp m.list.length
          rw [← hc3] at this
          omega
        exact ((((hr.trans h1).trans h2).trans (reach_rest' c3 m.commit hl3)).trans (Core.send_rest _ _)).few h (by omega)
      · exact ((hr.trans h1).trans (Core.send_rest _ _)).few h (by decide)
    exact key _ _ ⟨rfl, rfl, rfl, rfl, Nat.le_refl _, Nat.le_refl _, Nat.le_refl _⟩ hlog
  split
  · have h1 := Core.count_rest ({ c1 with has := fun x => if x = m.frm then max (c1.has x) (min m.at_ (c1.keep.log.length : Int)) else c1.has x } : Core)
    have h2 : Rest c1 ({ c1 with has := fun x => if x = m.frm then max (c1.has x) (min m.at_ (c1.keep.log.length : Int)) else c1.has x } : Core).count 2000 := ⟨h1.me, h1.n, h1.shard, h1.pat, by have := h1.recs; exact Nat.le_trans this (Nat.add_le_add_left hlog _), by have := h1.msgs; exact Nat.le_trans this (Nat.add_le_add_left hlog _), by have := h1.done; exact Nat.le_trans this (Nat.add_le_add_left hlog _)⟩
    exact (hr.trans h2).few h (by decide)
  · exact hr.few h (by decide)
theorem feeds_rest (c : Core) : Rest c c.feeds c.n := by
  refine ⟨rfl, rfl, rfl, rfl, Nat.le_add_right _ _, ?_, Nat.le_add_right _ _⟩
  show (c.msgs ++ (c.others c.n).map _).length ≤ _
  rw [List.length_append, List.length_map]
  have h : (c.others c.n).length ≤ c.n := by
    unfold Core.others
    exact Nat.le_trans (List.length_filter_le _ _) (by simp)
  omega
theorem tick_few {x : Int} {c : Core} (hI : G.GI) (s : St G x c) (hR : Right c) (h : c.recs = [] ∧ c.msgs = [] ∧ c.done = []) (hid : c.idle < 1000000000000) : Few c.tick := by
  obtain ⟨d, hd⟩ : ∃ d : Core, d = { c with idle := c.idle + 1 } := ⟨_, rfl⟩
  have h0 : Rest c d 0 := by rw [hd]; exact ⟨rfl, rfl, rfl, rfl, Nat.le_refl _, Nat.le_refl _, Nat.le_refl _⟩
  have hn : d.n ≤ 7 := by rw [hd]; exact hR.n.2
  have hlog : d.keep.log.length ≤ 2000 := by rw [hd]; exact hR.log.1
  have hRd : Right d := by rw [hd]; exact ⟨hR.n, hR.me, hR.pat, hR.view, hR.log, hR.commit, ⟨by show 0 ≤ c.idle + 1; have := hR.idle; omega, by show c.idle + 1 ≤ _; omega⟩, hR.begun, hR.dos, hR.has⟩
  unfold Core.tick
  show Few (if ({ c with idle := c.idle + 1 } : Core).leads then _ else _)
  rw [← hd]
  have hcount : ∀ e : Core, e.keep.log.length ≤ 2000 → Rest e e.count 2000 := fun e he => (e.count_rest).mono he
  split
  · split
    · have h1 : Rest d ({ d with idle := 0 } : Core) 0 := ⟨rfl, rfl, rfl, rfl, Nat.le_refl _, Nat.le_refl _, Nat.le_refl _⟩
      exact (((h0.trans h1).trans (feeds_rest _)).trans (hcount _ hlog)).few h (by show 0 + 0 + d.n + 2000 ≤ 30000; omega)
    · exact (h0.trans (hcount d hlog)).few h (by decide)
  · split
    · split
      · obtain ⟨e, he⟩ : ∃ e : Core, e = { d with begun := fun x => decide (x = d.me) || d.begun x } := ⟨_, rfl⟩
        rw [← he]
        have h1 : Rest d e 0 := by rw [he]; exact ⟨rfl, rfl, rfl, rfl, Nat.le_refl _, Nat.le_refl _, Nat.le_refl _⟩
        have h2 := e.all_rest { Msg.z with kind := 3 }
        have h3 := Core.wanted_rest' (e.all { Msg.z with kind := 3 }) (fun z m hm => (hRd.dos z m (by rw [he] at hm; exact hm)).2) (by rw [he]; exact hRd.log) (by show e.n ≤ 7; rw [he]; exact hn)
        have hen : e.n ≤ 7 := by rw [he]; exact hn
        exact (((h0.trans h1).trans h2).trans h3).few h (by omega)
      · exact h0.few h (by decide)
    · split
      · split
        · rename_i hv
          have h1 := (d.change_rest (d.keep.view + 1) hRd ⟨by have := hRd.view; omega, by omega⟩).1
          exact (h0.trans h1).few h (by decide)
        · exact h0.few h (by decide)
      · exact h0.few h (by decide)
theorem propose_few {c : Core} (hR : Right c) (h : c.recs = [] ∧ c.msgs = [] ∧ c.done = []) (b : Bs) : Few (c.propose b).1 := by
  have h0 : Few c := (Rest.refl c).few h (by decide)
  unfold Core.propose
  split
  · exact h0
  split
  · exact h0
  split
  · exact h0
  · have h1 := c.rec_rest ⟨2, 0, 0, b⟩
    have h2 := feeds_rest (c.rec_ ⟨2, 0, 0, b⟩)
    have hl : ((c.rec_ ⟨2, 0, 0, b⟩).feeds).keep.log.length ≤ 2001 := by
      show (c.keep.log ++ [b]).length ≤ _
      have := hR.log.1
      simp; omega
    have h3 := ((c.rec_ ⟨2, 0, 0, b⟩).feeds.count_rest).mono hl
    have hn : (c.rec_ ⟨2, 0, 0, b⟩).n ≤ 7 := hR.n.2
    exact ((h1.trans h2).trans h3).few h (by omega)
end Vw
end Go.Proofs.Ytmmgnbdngpkfcaa

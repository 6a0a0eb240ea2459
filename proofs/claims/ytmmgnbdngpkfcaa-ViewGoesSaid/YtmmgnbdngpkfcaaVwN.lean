/-
  A member is handed an entry, walked.
-/
import Derived.Test.YtmmgnbdngpkfcaaVwO
namespace Go.Proofs.Ytmmgnbdngpkfcaa
open Go.RowKit
set_option linter.unusedVariables false

namespace Vw
/-- the others of members 1 to j are fed -/
def Core.feedsTo (c : Core) (j : Nat) : Core := { c with msgs := c.msgs ++ (c.others j).map fun tt => { c.feedM tt with frm := c.me, shard := c.shard, view := c.keep.view } }
theorem Core.feedsTo_zero (c : Core) : c.feedsTo 0 = c := by unfold Core.feedsTo Core.others; simp
theorem Core.feedsTo_me (c : Core) (j : Nat) (h : (j : Int) + 1 = c.me) : c.feedsTo (j + 1) = c.feedsTo j := by
  unfold Core.feedsTo; rw [c.others_succ, if_pos h, List.append_nil]
theorem Core.feedsTo_succ (c : Core) (j : Nat) (h : (j : Int) + 1 ≠ c.me) : c.feedsTo (j + 1) = (c.feedsTo j).send ((c.feedsTo j).feedM ((j : Int) + 1)) := by
  unfold Core.feedsTo Core.send
  rw [c.others_succ, if_neg h, List.map_append, ← List.append_assoc]
  rfl
theorem Core.feedsTo_len (c : Core) (j : Nat) : (c.feedsTo j).msgs.length ≤ c.msgs.length + j := by
  unfold Core.feedsTo
  have := c.others_len j
  simp; omega
theorem put_right {c : Core} {b : Bs} (h : Right c) (hb : b.length ≤ 4000) (hl : c.keep.log.length < 2000) : Right (c.rec_ ⟨2, 0, 0, b⟩) := by
  refine ⟨h.n, h.me, h.pat, h.view, ⟨?_, ?_⟩, ?_, h.idle, h.begun, h.dos, h.has⟩
  · show (c.keep.log ++ [b]).length ≤ 2000
    simp; omega
  · show ∀ x ∈ c.keep.log ++ [b], x.length ≤ 4000
    intro x hx
    rcases List.mem_append.1 hx with hx | hx
    · exact h.log.2 x hx
    · simp at hx; subst hx; exact hb
  · exact h.commit
end Vw
def ProTo (M : Col) (w w' : World) (g : Nat) (c : Vw.Core) (b : Vw.Bs) (e : Ending) : Prop :=
  if (c.propose b).2 = 0 then ∃ v1 v2 v3, e = .returned (.tuple #[.int .i64 (c.propose b).1.keep.log.length, .agg #[v1, v2, v3], .int .i64 0]) ∧ TakeTo M w w' g (c.propose b).1 (.agg #[v1, v2, v3])
  else e = .returned (.tuple #[.int .i64 0, .agg #[.slice none 0 0, .slice none 0 0, .slice none 0 0], .int .i64 (c.propose b).2]) ∧ VwTo M w w' g c
set_option maxRecDepth 16384 in
set_option maxHeartbeats 6400000 in
theorem vw_Propose {M : Col} {g : Nat} {c : Vw.Core} (w : World) (h : VwAt M w g c) (ba : Option Addr) (bn bc : Nat) (b : Vw.Bs) (hbn : bn = b.length) (hbs : Sl EU8 (Im M) w ba b) (hlr : c.recs.length ≤ 100000) (hlm : c.msgs.length ≤ 100000) (hld : c.done.length ≤ 100000) (hb63 : bn ≤ 9223372036854775807) :
    Calls Try.prog 57 #[.pointer (some ⟨g, 0, none⟩), .slice ba bn bc] w fun e w' => ProTo M w w' g c b e := by
  obtain ⟨L, h⟩ := h
  obtain ⟨h1, f1⟩ := h.box (.cells #[.slice none 0 0, .slice none 0 0, .slice none 0 0] 107)
  obtain ⟨w1, hw1⟩ : ∃ x, x = w.alloc (.cells #[.slice none 0 0, .slice none 0 0, .slice none 0 0] 107) := ⟨_, rfl⟩
  have hh1 : w1.heap[w.heap.size]? = some (.cells #[.slice none 0 0, .slice none 0 0, .slice none 0 0] 107 (0, 0)) := by rw [hw1]; exact heap_alloc_new w _
  obtain ⟨q, hq⟩ : ∃ q, q = w.heap.size := ⟨_, rfl⟩
  have hz1 : w1.heap.size = q + 1 := by rw [hw1, hq]; simp
  obtain ⟨M9, hM9⟩ : ∃ M9, M9 = updC M w.heap.size 9 := ⟨_, rfl⟩
  rw [← hw1, ← hM9] at h1 f1
  rw [← hq] at hh1
  have h9 : M9 q = 9 := by rw [hM9, hq]; exact updC_same _ _ _
  have hb1 := hbs.fr (by decide) f1
  have hL := vw_Leads w1 ⟨L, h1⟩
  have HL := Lib.hid hL
  have Hw1 := Lib.hid hw1.symm
  have Hq := Lib.hid hq
  have H1 := Lib.hid h1
  have F1 := Lib.hid f1
  have Hh1 := Lib.hid hh1
  have Hz1 := Lib.hid hz1
  have H9 := Lib.hid h9
  have Hb1 := Lib.hid hb1
  have Hbn := Lib.hid hbn
  have Hlen := Lib.hid (And.intro hlr (And.intro hlm hld))
  -- a refusal
  have hno : ∀ (x : Int) (w2 : World), x ≠ 0 → c.propose b = (c, x) → VwTo M9 w1 w2 g c → ∀ W, Only (· = q) w2 W → ProTo M w W g c b (.returned (.tuple #[.int .i64 0, .agg #[.slice none 0 0, .slice none 0 0, .slice none 0 0], .int .i64 x])) := by
    intro x w2 hx hp t W ho
    unfold ProTo
    rw [hp, if_neg hx]
    exact ⟨rfl, to_unbox hq f1 h9 (by omega) t ho⟩
  have Hno := Lib.hid hno
  clear hL hw1 hq h1 f1 hh1 hz1 h9 hb1 hbn hlr hlm hld hno hM9 hbs h
  go_enter Try.func57, Try.ntmps57
  go_upto_region 1 with fail
  rw [Hw1.out, ← Hq.out]
  clear Hw1
  go_wp2_with fail
  refine HL.out.mono ?_
  rintro e w2 ⟨rfl, hb2⟩
  obtain ⟨ld, hld⟩ : ∃ ld, ld = c.leads := ⟨_, rfl⟩
  rw [← hld]
  have h2 := H1.out.below hb2
  have f2 : Fr M9 w1 M9 w2 := Fr.of_below hb2
  have hq2 := (f2.other (k := q) (by have := Hz1.out; omega) (by have := H9.out; omega)).1.trans Hh1.out
  have qq0 : w2.cell? ⟨q, 0, none⟩ = some (.slice none 0 0) := by simp [World.cell?, hq2]
  have qq1 : w2.cell? ⟨q, 1, none⟩ = some (.slice none 0 0) := by simp [World.cell?, hq2]
  have qq2 : w2.cell? ⟨q, 2, none⟩ = some (.slice none 0 0) := by simp [World.cell?, hq2]
  have qf : ∀ o, w2.frozen? ⟨q, o, none⟩ = false := fun o => by simp [World.frozen?, hq2]
  have hset : ∀ v0 v1 v2 : Value, (((w2.setCell ⟨q, 0, none⟩ v0).setCell ⟨q, 1, none⟩ v1).setCell ⟨q, 2, none⟩ v2).heap[q]? = some (.cells #[v0, v1, v2] 107 (0, 0)) ∧ Only (· = q) w2 (((w2.setCell ⟨q, 0, none⟩ v0).setCell ⟨q, 1, none⟩ v1).setCell ⟨q, 2, none⟩ v2) := fun v0 v1 v2 =>
    ⟨by rw [heap_set (heap_set (heap_set hq2 0 _) 1 _) 2 _]; rfl, setg (S := (· = q)) (setg (S := (· = q)) (setg (S := (· = q)) (Only.refl _ w2) rfl 0 _) rfl 1 _) rfl 2 _⟩
  have Hset := Lib.hid hset
  have H2 := Lib.hid h2
  have F2 := Lib.hid f2
  have Hld := Lib.hid hld
  have y7 := h2.c7
  clear hset h2 f2 hld hq2 hb2
  cases ld with
  | false =>
    have hp : c.propose b = (c, 50) := by unfold Vw.Core.propose; rw [← Hld.out]; rfl
    have Hp := Lib.hid hp
    clear hp
    go_wp2_with fail
    refine bodyPost_ret (v := .tuple #[.int .i64 0, .agg #[.slice none 0 0, .slice none 0 0, .slice none 0 0], .int .i64 50]) (results_cellM (P := Try.prog) Try.results57 _ _ q 107 #[.slice none 0 0, .slice none 0 0, .slice none 0 0] (0, 0) _ rfl (Hset.out _ _ _).1 Try.underlying107 rfl (by kernel_rfl)) rfl ?_
    exact Hno.out 50 w2 (by decide) Hp.out ⟨M9, ⟨L, H2.out⟩, F2.out⟩ _ (Hset.out _ _ _).2
  | true =>
    by_cases hb4 : bn ≤ 4000
    · have hb4i : ¬ ((4000 : Int) < (bn : Int)) := by omega
      by_cases hll : c.keep.log.length < 2000
      · have hlli : ¬ ((2000 : Int) ≤ (c.keep.log.length : Int)) := by omega
        have hR : Vw.Right (c.rec_ ⟨2, 0, 0, b⟩) := Vw.put_right H2.out.right (by rw [← Hbn.out]; exact hb4) hll
        have hCl := vw_cloneB (Im M9) ba bn bc b w2 Hbn.out (Hb1.out.fr (by decide) F2.out) (fun k hk => dom_new H2.out hk) (by omega)
        have hRec : ∀ (w4 : World) (a4 : Option Addr) (c4 : Nat), Below w2.heap.size w2 w4 → (bn ≤ c4 ∧ c4 ≤ maxLen) → Sl EU8 (Im M9) w4 a4 b → Calls Try.prog 94 #[.pointer (some ⟨g, 0, none⟩), .agg #[.int .i64 2, .int .i64 0, .int .i64 0, .slice a4 bn c4]] w4 fun e w' => e = .returned (.tuple #[]) ∧ VwTo M9 w1 w' g (c.rec_ ⟨2, 0, 0, b⟩) := by
          intro w4 a4 c4 hb4 hc4 hs4
          have h4 : VwAt M9 w4 g c := ⟨L, H2.out.below hb4⟩
          refine (vw_rec w4 h4 ⟨2, 0, 0, b⟩ a4 bn c4 Hbn.out hc4 hs4 ⟨by show (-9223372036854775808 : Int) ≤ 0; decide, by show (0 : Int) ≤ 9223372036854775807; decide⟩ hR (by have := Hlen.out.1; omega)).mono ?_
          rintro e w' ⟨e1, t⟩
          exact ⟨e1, VwTo.trans (F2.out.trans (Fr.of_below hb4)) t⟩
        have hp : c.propose b = (((c.rec_ ⟨2, 0, 0, b⟩).feeds).count, 0) := by
          unfold Vw.Core.propose
          rw [← Hld.out, if_neg (by simp), if_neg (by rw [← Hbn.out]; omega), if_neg (by omega)]
        obtain ⟨cr, hcr⟩ : ∃ cr, cr = c.rec_ ⟨2, 0, 0, b⟩ := ⟨_, rfl⟩
        rw [← hcr] at hp hRec
        have hcrn : cr.n = c.n ∧ cr.me = c.me ∧ cr.msgs = c.msgs ∧ cr.done = c.done := by rw [hcr]; exact ⟨rfl, rfl, rfl, rfl⟩
        have hn := H2.out.right.n
        have hme := H2.out.right.me
        have HCl := Lib.hid hCl
        have HRec := Lib.hid hRec
        have Hp := Lib.hid hp
        have Hcrn := Lib.hid hcrn
        have HQ := Lib.hid (fun (M' : Col) (W : World) (f : Fr M9 w1 M' W) => (f.other (k := q) (by have := Hz1.out; omega) (by have := H9.out; omega)).1.trans Hh1.out)
        clear hR hCl hRec hp hcrn hcr qq0 qq1 qq2 qf
        go_wp2_with fail
        refine HCl.out.mono ?_
        rintro e w4 ⟨a4, c4, rfl, hc4, hs4, hb4'⟩
        have HRec4 := Lib.hid (HRec.out w4 a4 c4 hb4' hc4 hs4)
        clear hc4 hs4 hb4'
        go_wp2_with fail
        refine HRec4.out.mono ?_
        rintro e w5 ⟨rfl, t5⟩
        have T5 := Lib.hid t5
        clear t5 HRec4
        go_wp2_with fail
        go_loopg [7] c.n (fun gn i wr => ∃ j : Nat, RowKit.Hid (gn = c.n - j) ∧ j ≤ c.n ∧ i = .int .i64 ((j : Int) + 1) ∧ RowKit.Hid (VwTo M9 w1 wr g (cr.feedsTo j)))
        case atStart => exact ⟨0, Lib.hid rfl, Nat.zero_le _, rfl, Lib.hid (by rw [cr.feedsTo_zero]; exact T5.out)⟩
        case round =>
          obtain ⟨j, hgn, hj, rfl, hT⟩ := hrel
          obtain ⟨M5, ⟨L5, h5⟩, f5⟩ := hT.out
          have y0 : wr.cell? ⟨g, 0, none⟩ = some (.int .i64 c.me) := by rw [← Hcrn.out.2.1]; exact h5.c0
          have y1 : wr.cell? ⟨g, 1, none⟩ = some (.int .i64 c.n) := by rw [← Hcrn.out.1]; exact h5.c1
          by_cases hlt : j < c.n
          · have hji : (j : Int) + 1 ≤ (c.n : Int) := by omega
            have hadd : IntKind.i64.wrap ((j : Int) + 1 + 1) = (j : Int) + 1 + 1 := IntWalk.i64_in _ (by omega)
            by_cases hm : ((j : Int) + 1) = c.me
            · have hmb : ((j : Int) + 1 != c.me) = false := by simp [hm]
              have Hm := Lib.hid hm
              clear h5 f5 hm
              go_wp2_with fail
              go_roundg (c.n - (j + 1))
              case measure => rw [hgn.out]; omega
              case rel => exact ⟨j + 1, Lib.hid rfl, by omega, by go_num, Lib.hid (by rw [cr.feedsTo_me j (by rw [Hcrn.out.2.1]; exact Hm.out)]; exact hT.out)⟩
            · have hmb : ((j : Int) + 1 != c.me) = true := by simpa using hm
              have hF := vw_feed (M := M5) wr ⟨L5, h5⟩ ((j : Int) + 1) (by omega) (by have h1 := cr.feedsTo_len j; have h2 := Hlen.out; have h3 := Hcrn.out.2.2.1; rw [h3] at h1; omega)
              have HF := Lib.hid hF
              have Hm := Lib.hid hm
              have F5 := Lib.hid f5
              clear h5 f5 hm hF
              go_wp2_with fail
              refine HF.out.mono ?_
              rintro e w6 ⟨rfl, t6⟩
              have T6 : RowKit.Hid (VwTo M9 w1 w6 g (cr.feedsTo (j + 1))) := Lib.hid (by rw [cr.feedsTo_succ j (by rw [Hcrn.out.2.1]; exact Hm.out)]; exact VwTo.trans F5.out t6)
              clear t6
              go_wp2_with fail
              go_roundg (c.n - (j + 1))
              case measure => rw [hgn.out]; omega
              case rel => exact ⟨j + 1, Lib.hid rfl, by omega, by go_num, T6⟩
          · have hji : ¬ ((j : Int) + 1 ≤ (c.n : Int)) := by omega
            have hjn : j = c.n := by omega
            subst hjn
            have hC := vw_count (M := M5) wr ⟨L5, h5⟩ (by show (cr.feedsTo c.n).done.length ≤ 1000000; have h2 := Hlen.out; have h3 := Hcrn.out.2.2.2; have : (cr.feedsTo c.n).done = c.done := h3; rw [this]; omega)
            have hcf : (cr.feedsTo c.n) = cr.feeds := by rw [← Hcrn.out.1]; rfl
            rw [hcf] at hC
            have HC := Lib.hid hC
            have F5 := Lib.hid f5
            clear h5 f5 hC hcf
            go_wp2_with fail
            refine HC.out.mono ?_
            rintro e w6 ⟨rfl, t6⟩
            obtain ⟨M6, ⟨L6, h6⟩, f6⟩ := t6
            obtain ⟨cc, hcc⟩ : ∃ cc, cc = cr.feeds.count := ⟨_, rfl⟩
            rw [← hcc] at h6
            have hT7 := vw_take (M := M6) w6.drew ⟨L6, h6.drew⟩
            have y7 := h6.c7
            have Hcc := Lib.hid hcc
            have F6 := Lib.hid ((F5.out.trans f6).drew)
            have HT7 := Lib.hid hT7
            clear h6 f6 hcc hT7
            go_wp2_with fail
            go_region_law ((go_simp; go_at_call 98; refine HT7.out.mono ?_; rintro e w7 ⟨v1, v2, v3, rfl, t7⟩; obtain ⟨s1, n1, p1, s2, n2, p2, s3, n3, p3, rfl, rfl, rfl⟩ := t7.slices; obtain ⟨a7, c7, z7⟩ : ∃ a7 c7, w7.cell? ⟨g, 7, none⟩ = some (.slice a7 cc.keep.log.length c7) := (by obtain ⟨M7, ⟨L7, h7⟩, _⟩ := t7; exact ⟨_, _, h7.c7⟩); obtain ⟨qq0, qq1, qq2, qf⟩ : w7.cell? ⟨q, 0, none⟩ = some (.slice none 0 0) ∧ w7.cell? ⟨q, 1, none⟩ = some (.slice none 0 0) ∧ w7.cell? ⟨q, 2, none⟩ = some (.slice none 0 0) ∧ (∀ o, w7.frozen? ⟨q, o, none⟩ = false) := (by obtain ⟨M7, _, f7, _⟩ := t7; have hq7 := HQ.out _ _ (F6.out.trans f7); exact ⟨by simp [World.cell?, hq7], by simp [World.cell?, hq7], by simp [World.cell?, hq7], fun o => by simp [World.frozen?, hq7]⟩)))
            all_goals
              have hq7 : w7.heap[q]? = some (.cells #[.slice none 0 0, .slice none 0 0, .slice none 0 0] 107 (0, 0)) := by obtain ⟨M7, _, f7, _⟩ := t7; exact HQ.out _ _ (F6.out.trans f7)
              have T7 : RowKit.Hid (TakeTo M9 w1 w7 g cc (.agg #[.slice s1 n1 p1, .slice s2 n2 p2, .slice s3 n3 p3])) := Lib.hid (TakeTo.trans F6.out t7)
              have hW : ∀ W, W = (((w7.setCell ⟨q, 0, none⟩ (.slice s1 n1 p1)).setCell ⟨q, 1, none⟩ (.slice s2 n2 p2)).setCell ⟨q, 2, none⟩ (.slice s3 n3 p3)) → W.heap[q]? = some (.cells #[.slice s1 n1 p1, .slice s2 n2 p2, .slice s3 n3 p3] 107 (0, 0)) ∧ ProTo M w W g c b (.returned (.tuple #[.int .i64 cc.keep.log.length, .agg #[.slice s1 n1 p1, .slice s2 n2 p2, .slice s3 n3 p3], .int .i64 0])) := by
                rintro W rfl
                refine ⟨by rw [heap_set (heap_set (heap_set hq7 0 _) 1 _) 2 _]; rfl, ?_⟩
                have ho := setg (S := (· = q)) (setg (S := (· = q)) (setg (S := (· = q)) (Only.refl _ w7) rfl 0 (.slice s1 n1 p1)) rfl 1 (.slice s2 n2 p2)) rfl 2 (.slice s3 n3 p3)
                have t := take_unbox Hq.out F1.out H9.out (by have := Hz1.out; omega) T7.out ho
                unfold ProTo
                rw [Hp.out, if_pos rfl]
                rw [Hcc.out] at t
                exact ⟨_, _, _, by rw [Hcc.out], t⟩
              have HW := Lib.hid hW
              clear hW t7 hq7 z7 qq0 qq1 qq2 qf
              go_wp2_with fail
              obtain ⟨g1, g2⟩ := HW.out _ rfl
              refine bodyPost_ret (v := .tuple #[.int .i64 cc.keep.log.length, .agg #[.slice s1 n1 p1, .slice s2 n2 p2, .slice s3 n3 p3], .int .i64 0]) (results_cellM (P := Try.prog) Try.results57 _ _ q 107 #[.slice s1 n1 p1, .slice s2 n2 p2, .slice s3 n3 p3] (0, 0) _ rfl g1 Try.underlying107 rfl (by kernel_rfl)) rfl ?_
              exact g2
      · have hlli : ((2000 : Int) ≤ (c.keep.log.length : Int)) := by omega
        have hp : c.propose b = (c, 40) := by
          unfold Vw.Core.propose
          rw [← Hld.out, if_neg (by simp), if_neg (by rw [← Hbn.out]; omega), if_pos (by omega)]
        have Hp := Lib.hid hp
        clear hp
        go_wp2_with fail
        refine bodyPost_ret (v := .tuple #[.int .i64 0, .agg #[.slice none 0 0, .slice none 0 0, .slice none 0 0], .int .i64 40]) (results_cellM (P := Try.prog) Try.results57 _ _ q 107 #[.slice none 0 0, .slice none 0 0, .slice none 0 0] (0, 0) _ rfl (Hset.out _ _ _).1 Try.underlying107 rfl (by kernel_rfl)) rfl ?_
        exact Hno.out 40 w2 (by decide) Hp.out ⟨M9, ⟨L, H2.out⟩, F2.out⟩ _ (Hset.out _ _ _).2
    · have hb4i : ((4000 : Int) < (bn : Int)) := by omega
      have hp : c.propose b = (c, 3) := by
        unfold Vw.Core.propose
        rw [← Hld.out, if_neg (by simp), if_pos (by rw [← Hbn.out]; omega)]
      have Hp := Lib.hid hp
      clear hp
      go_wp2_with fail
      refine bodyPost_ret (v := .tuple #[.int .i64 0, .agg #[.slice none 0 0, .slice none 0 0, .slice none 0 0], .int .i64 3]) (results_cellM (P := Try.prog) Try.results57 _ _ q 107 #[.slice none 0 0, .slice none 0 0, .slice none 0 0] (0, 0) _ rfl (Hset.out _ _ _).1 Try.underlying107 rfl (by kernel_rfl)) rfl ?_
      exact Hno.out 3 w2 (by decide) Hp.out ⟨M9, ⟨L, H2.out⟩, F2.out⟩ _ (Hset.out _ _ _).2
end Go.Proofs.Ytmmgnbdngpkfcaa

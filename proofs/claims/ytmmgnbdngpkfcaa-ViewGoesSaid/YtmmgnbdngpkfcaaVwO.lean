/-
  A member counts how many entries most have, walked.
  A variable of a function's own, beside a member that it turns.
-/
import Derived.Test.YtmmgnbdngpkfcaaVwJ
import Derived.Test.YtmmgnbdngpkfcaaVwH
namespace Go.Proofs.Ytmmgnbdngpkfcaa
open Go.RowKit
set_option linter.unusedVariables false

theorem ti_nums : ElemInfo Try.prog 29 3 EInt.sz 8 := ElemInfo.mk' (z := .int .i64 0) Try.underlying29 (by kernel_rfl) rfl (by decide)
namespace Vw
/-- what is held, of members 1 to j -/
def Core.heldTo (c : Core) (j : Nat) : List Int := (c.keep.log.length : Int) :: (c.others j).map c.has
theorem Core.others_succ (c : Core) (j : Nat) : c.others (j + 1) = c.others j ++ (if ((j : Int) + 1) = c.me then [] else [(j : Int) + 1]) := by
  unfold Core.others
  rw [List.range_succ, List.map_append, List.filter_append]
  congr 1
  by_cases h : ((j : Int) + 1) = c.me <;> simp [h]
theorem Core.others_len (c : Core) (j : Nat) : (c.others j).length ≤ j := by
  unfold Core.others
  exact Nat.le_trans (List.length_filter_le _ _) (by simp)
theorem Core.heldTo_len (c : Core) (j : Nat) : (c.heldTo j).length ≤ j + 1 := by
  unfold Core.heldTo
  have := c.others_len j
  simp; omega
theorem Core.held_eq (c : Core) : c.held = c.heldTo c.n := rfl
end Vw
set_option maxRecDepth 16384 in
set_option maxHeartbeats 6400000 in
theorem vw_count {M : Col} {g : Nat} {c : Vw.Core} (w : World) (h : VwAt M w g c) (hlen : c.done.length ≤ 1000000) :
    Calls Try.prog 97 #[.pointer (some ⟨g, 0, none⟩)] w fun e w' => e = .returned (.tuple #[]) ∧ VwTo M w w' g c.count := by
  obtain ⟨L, h⟩ := h
  have hL := vw_Leads w ⟨L, h⟩
  have HL := Lib.hid hL
  have Hlen := Lib.hid hlen
  have H := Lib.hid h
  clear h hL hlen
  go_enter Try.func97, Try.ntmps97
  go_wp2_with fail
  refine HL.out.mono ?_
  rintro e w1 ⟨rfl, hb1⟩
  obtain ⟨ld, hld⟩ : ∃ ld, ld = c.leads := ⟨_, rfl⟩
  rw [← hld]
  have h1 := H.out.below hb1
  have f1 : Fr M w M w1 := Fr.of_below hb1
  cases ld with
  | false =>
    have hc : c.count = c := by unfold Vw.Core.count; rw [← hld]; rfl
    have Hfin : RowKit.Hid (VwTo M w w1 g c.count) := Lib.hid (by rw [hc]; exact ⟨M, ⟨L, h1⟩, f1⟩)
    clear h1 f1 hb1 hld hc
    go_wp2_with fail
    refine bodyPost_ret (v := .tuple #[]) (by simp [results, Try.results97, go_sem]) rfl ?_
    exact ⟨rfl, Hfin.out⟩
  | true =>
    have hc : c.count = c.reach (Vw.Core.med c.held) := by unfold Vw.Core.count; rw [← hld]; rfl
    have Hc := Lib.hid hc
    have y4 := h1.c4
    have y7 := h1.c7
    have hand : bits .and .i64 0 8 = 0 := by decide
    have hl2 := h1.right.log.1
    have hn := h1.right.n
    obtain ⟨N, hN⟩ : ∃ N, N = c.keep.log.length := ⟨_, rfl⟩
    rw [← hN] at y7 hl2
    obtain ⟨B, hB⟩ : ∃ B, B = w1.heap.size := ⟨_, rfl⟩
    obtain ⟨w2, hw2⟩ : ∃ x, x = w1.alloc (.cells #[.int .i64 N] 3) := ⟨_, rfl⟩
    have hb2 : Below B w1 w2 := by rw [hw2, hB]; exact alloc_below _ _
    have ho2 : Own EInt 3 B w2 (.slice (some ⟨B, 0, none⟩) 1 1) (c.heldTo 0) := by
      refine .inr ⟨B, 1, #[.int .i64 N], rfl, Nat.le_refl _, by rw [hw2, hB]; exact heap_alloc_new w1 _, c.heldTo_len 0, by decide, rfl, fun k x hx => ?_⟩
      have hk : k = 0 := by have := (List.getElem?_eq_some_iff.1 hx).1; simp [Vw.Core.heldTo, Vw.Core.others] at this; exact this
      subst hk
      have hx' : (N : Int) = x := by rw [hN]; simpa [Vw.Core.heldTo] using hx
      subst hx'
      exact ⟨[.int .i64 N], ⟨rfl, by omega, by omega⟩, fun j u hj => by simpa [EInt] using hj⟩
    have H1 := Lib.hid h1
    have F1 := Lib.hid f1
    have HN := Lib.hid hN
    have HB := Lib.hid hB
    have Hw2 := Lib.hid hw2.symm
    have Hb2 := Lib.hid hb2
    have Ho2 := Lib.hid ho2
    have Hz := Lib.hid H1.out.p.dom
    clear h1 f1 hb1 hld hc hN hB hw2 hb2 ho2
    go_upto_region 4 with fail
    rw [Hw2.out, ← HB.out]
    clear Hw2
    go_wp2_with fail
    go_loopg [2, 3] c.n (fun gn v i wr => ∃ j : Nat, RowKit.Hid (gn = c.n - j) ∧ j ≤ c.n ∧ i = .int .i64 ((j : Int) + 1) ∧ RowKit.Hid (Own EInt 3 B wr v (c.heldTo j)) ∧ RowKit.Hid (Below B w1 wr))
    case atStart => exact ⟨0, Lib.hid rfl, Nat.zero_le _, rfl, Ho2, Hb2⟩
    case round =>
      obtain ⟨j, hgn, hj, rfl, hT, hb⟩ := hrel
      have hsz1 : B ≤ wr.heap.size := by rw [HB.out]; exact hb.out.size
      have hr1 := H1.out.below (by rw [← HB.out]; exact hb.out)
      have y0 := hr1.c0
      have y1 := hr1.c1
      have y11 := hr1.c11
      have hme := hr1.right.me
      have hln := c.heldTo_len j
      obtain ⟨n2, hn2⟩ : ∃ n2, n2 = (c.heldTo j).length := ⟨_, rfl⟩
      obtain ⟨av, cv, rfl, hcv, hmv, hrv, hov⟩ := hT.out.shape n2 hn2
      have Hgn := Lib.hid hgn.out
      have Hov := Lib.hid hov
      have Hn2 := Lib.hid hn2
      have Hr1 := Lib.hid hr1
      rw [← hn2] at hln
      clear hgn hov hn2 hr1 hT hrv
      by_cases hlt : j < c.n
      · have hji : (j : Int) + 1 ≤ (c.n : Int) := by omega
        have hadd : IntKind.i64.wrap ((j : Int) + 1 + 1) = (j : Int) + 1 + 1 := IntWalk.i64_in _ (by omega)
        by_cases hm : ((j : Int) + 1) = c.me
        · have hmb : ((j : Int) + 1 != c.me) = false := by simp [hm]
          have he : c.heldTo (j + 1) = c.heldTo j := by unfold Vw.Core.heldTo; rw [c.others_succ, if_pos hm, List.append_nil]
          have He := Lib.hid he
          clear he
          go_wp2_with fail
          go_roundg (c.n - (j + 1))
          case measure => rw [Hgn.out]; omega
          case rel => exact ⟨j + 1, Lib.hid rfl, by omega, by go_num, Lib.hid (by rw [He.out]; exact Hov.out), hb⟩
        · have hmb : ((j : Int) + 1 != c.me) = true := by simpa using hm
          have he : c.heldTo (j + 1) = c.heldTo j ++ [c.has ((j : Int) + 1)] := by unfold Vw.Core.heldTo; rw [c.others_succ, if_neg hm, List.map_append]; rfl
          have hlk := has_look Hr1.out ((j : Int) + 1) (by omega) wr rfl
          have hhas := Hr1.out.right.has ((j : Int) + 1)
          obtain ⟨x, hx⟩ : ∃ x, x = c.has ((j : Int) + 1) := ⟨_, rfl⟩
          rw [← hx] at hlk hhas he
          have hA : Own EInt 3 B (wr.alloc (.cells #[.int .i64 x] 3)) (.slice av n2 cv) (c.heldTo j) := Hov.out.below (alloc_below _ _)
          have hS : Sl EInt (fun b => some b ≠ (Value.slice av n2 cv).ownBlock) (wr.alloc (.cells #[.int .i64 x] 3)) (some ⟨wr.heap.size, 0, none⟩) [x] := sl_one (heap_alloc_new wr _) ⟨rfl, by omega, by omega⟩ Hov.out.fresh
          have HA := Lib.hid hA
          have HS := Lib.hid hS
          have He := Lib.hid he
          clear hA hS he hx
          go_wp2_with (first
            | (refine wpList_app (l2 := [x]) EInt rfl rfl (by rfl) (by rfl) ti_nums HA.out rfl HS.out (by rw [← Hn2.out]; unfold maxLen; simp; omega) (by rw [← Hn2.out]; simp; omega) (by simp; omega) ?_
               intro v8 w8 ho8 hg8 hv8 hb8))
          have hb8' : Below B w1 w8 := hb.out.trans (((alloc_below wr (.cells #[.int .i64 x] 3)).mono hsz1).trans hb8)
          have Ho8 := Lib.hid ho8
          have Hb8 := Lib.hid hb8'
          clear ho8 hg8 hv8 hb8 hb8'
          go_wp2_with fail
          go_roundg (c.n - (j + 1))
          case measure => rw [Hgn.out]; omega
          case rel => exact ⟨j + 1, Lib.hid rfl, by omega, by go_num, Lib.hid (by rw [He.out]; exact Ho8.out), Hb8⟩
      · have hji : ¬ ((j : Int) + 1 ≤ (c.n : Int)) := by omega
        have hjn : j = c.n := by omega
        subst hjn
        have hS := sort_own Hov.out (by rw [← Hn2.out]; omega)
        have HS := Lib.hid hS
        clear hS
        go_wp2_with fail
        refine HS.out.mono ?_
        rintro e w5 ⟨rfl, ho5, hg5⟩
        have hb5 : Below B w1 w5 := hb.out.grown hg5 hsz1 fun k hk => (Hov.out.lt k hk).1
        have h5 := H1.out.below (by rw [← HB.out]; exact hb5)
        have hlen5 : (Vw.msort (c.heldTo c.n)).length = n2 := by rw [Vw.msort_len, Hn2.out]
        have hn1 : 1 ≤ n2 := by rw [Hn2.out]; unfold Vw.Core.heldTo; simp
        obtain ⟨i, hi⟩ : ∃ i : Nat, i = (n2 - 1) / 2 := ⟨_, rfl⟩
        have hil : i < (Vw.msort (c.heldTo c.n)).length := by omega
        obtain ⟨a5, c5, he5, _, _, hs5⟩ := ho5.sl
        obtain ⟨b, o, ha5, hcell, hr1, hr2⟩ := SlI.at hs5 i hil
        injection he5 with e1 e2 e3
        have e5 : av = some ⟨b, o, none⟩ := e1.trans ha5
        subst e5
        have hmed : Vw.Core.med c.held = (Vw.msort (c.heldTo c.n))[i] := by
          rw [c.held_eq]
          unfold Vw.Core.med
          show (Vw.msort (c.heldTo c.n)).getD _ 0 = _
          rw [← Hn2.out, ← hi, List.getD_eq_getElem?_getD, List.getElem?_eq_getElem hil]; rfl
        obtain ⟨m, hm⟩ : ∃ m : Nat, m = n2 - 1 := ⟨_, rfl⟩
        have hsub : IntKind.i64.wrap ((n2 : Int) - 1) = (m : Int) := by rw [IntWalk.i64_in _ (by omega)]; omega
        have hquo2 : (m : Int) / 2 = (i : Int) := by omega
        obtain ⟨md, hmd⟩ : ∃ md, md = (Vw.msort (c.heldTo c.n))[i] := ⟨_, rfl⟩
        rw [← hmd] at hmed hcell
        have hR := vw_reach (M := M) w5 ⟨L, h5⟩ md Hlen.out
        have HR := Lib.hid hR
        have Hmed := Lib.hid hmed
        have hii : (i : Int) < (n2 : Int) := by omega
        have F5 : RowKit.Hid (Fr M w M w5) := Lib.hid (F1.out.trans (Fr.of_below (by rw [← HB.out]; exact hb5)))
        clear hR hmed hmd ho5 hg5 hb5 h5 hlen5 hs5 hr1 hr2 hil hi hm e1 e2 e3 ha5 hn1
        go_wp2_with fail
        refine HR.out.mono ?_
        rintro e w6 ⟨rfl, h6⟩
        have H6 := Lib.hid h6
        clear h6
        go_wp2_with fail
        refine bodyPost_end (v := .tuple #[]) (by simp [results, Try.results97, go_sem]) rfl ?_
        refine ⟨rfl, ?_⟩
        rw [Hc.out, Hmed.out]
        exact VwTo.trans F5.out H6.out
end Go.Proofs.Ytmmgnbdngpkfcaa

namespace Go.Proofs.Ytmmgnbdngpkfcaa
open Go.RowKit
set_option linter.unusedVariables false

section
variable {M M9 M5 M6 : Col} {w w1 w5 w6 W : World} {g q : Nat} {c : Vw.Core} {v : Value}
theorem fr_unbox (hq : q = w.heap.size) (f : Fr M w M6 w6) (ho : Only (· = q) w6 W) : Fr M w (updC M6 q 0) W :=
  ⟨f.1.trans ho fun k hk e => by omega, fun k hk hm => (updC_other M6 0 (by omega)).trans (f.2 k hk hm)⟩
theorem to_unbox (hq : q = w.heap.size) (f1 : Fr M w M9 w1) (h9 : M9 q = 9) (hz : q < w1.heap.size) (t : VwTo M9 w1 w6 g c) (ho : Only (· = q) w6 W) : VwTo M w W g c := by
  obtain ⟨M6, ⟨L, h6⟩, f6⟩ := t
  exact ⟨updC M6 q 0, ⟨L, h6.unbox ((f6.other hz (by omega)).2.trans h9) ho⟩, fr_unbox hq (f1.trans f6) ho⟩
theorem take_unbox (hq : q = w.heap.size) (f1 : Fr M w M9 w1) (h9 : M9 q = 9) (hz : q < w1.heap.size) (t : TakeTo M9 w1 w6 g c v) (ho : Only (· = q) w6 W) : TakeTo M w W g c v := by
  obtain ⟨M6, ⟨L, h6⟩, f6, a1, c1, a2, c2, a3, c3, e, ⟨b1, s1⟩, ⟨b2, s2⟩, ⟨b3, s3⟩⟩ := t
  have hM6 : M6 q = 9 := (f6.other hz (by omega)).2.trans h9
  have him : ∀ k, Im M6 k → k < w6.heap.size → W.heap[k]? = w6.heap[k]? ∧ Im (updC M6 q 0) k := fun k hk hlt => by
    have hne : k ≠ q := fun e => by subst e; have : M6 k = 0 := hk; omega
    exact ⟨ho.block k hlt hne, (updC_other M6 0 hne).trans hk⟩
  exact ⟨updC M6 q 0, ⟨L, h6.unbox hM6 ho⟩, fr_unbox hq (f1.trans f6) ho, a1, c1, a2, c2, a3, c3, e, ⟨b1, s1.mono (by decide) him⟩, ⟨b2, s2.mono (by decide) him⟩, ⟨b3, s3.mono (by decide) him⟩⟩
theorem TakeTo.trans {M1' : Col} (f : Fr M w M1' w1) (h : TakeTo M1' w1 w6 g c v) : TakeTo M w w6 g c v := by
  obtain ⟨M6, h6, f6, o6⟩ := h
  exact ⟨M6, h6, f.trans f6, o6⟩
end
theorem TakeTo.slices {M : Col} {w w' : World} {g : Nat} {c : Vw.Core} {v1 v2 v3 : Value} (h : TakeTo M w w' g c (.agg #[v1, v2, v3])) :
    ∃ a1 n1 c1 a2 n2 c2 a3 n3 c3, v1 = .slice a1 n1 c1 ∧ v2 = .slice a2 n2 c2 ∧ v3 = .slice a3 n3 c3 := by
  obtain ⟨M6, h6, f6, a1, c1, a2, c2, a3, c3, e, _⟩ := h
  injection e with e
  simp only [Array.mk.injEq, List.cons.injEq, and_true] at e
  exact ⟨a1, _, c1, a2, _, c2, a3, _, c3, e.1, e.2.1, e.2.2⟩
theorem results_cellM {P : Program} {fn : Func} {u p v : Tmp} {ty : TypeId} (h : fn.results = #[.tmp u, .cell p ty, .tmp v]) (tmps : Array Value) (w : World) (g : Nat) (t : TypeId) (cs : Array Value) (fr : Nat × Nat) (d : TypeDesc)
    (hp : tmps.getD p undef = .pointer (some ⟨g, 0, none⟩)) (hg : w.heap[g]? = some (.cells cs t fr))
    (hu : P.underlying ty = some d) (hd : (match d with | .struct _ | .array _ _ => true | _ => false) = true) (hi : (P.info? ty).map (·.size) = some cs.size) :
    (results fn tmps).run P w = .ok (.tuple #[tmps.getD u undef, .agg cs, tmps.getD v undef]) w := by
  have hp' : tmps[p]?.getD undef = .pointer (some ⟨g, 0, none⟩) := by simpa using hp
  simp [results, h, hp', asAddr, run_loadVar_row w g t ty cs fr d hg hu hd hi]
end Go.Proofs.Ytmmgnbdngpkfcaa


/-
  A transaction, walked: it is made; what became of it.
-/
import Derived.Test.YtmmgnbdngpkfcaaCoJ
namespace Go.Proofs.Ytmmgnbdngpkfcaa
open Go.RowKit
set_option linter.unusedVariables false

set_option maxRecDepth 100000 in
set_option maxHeartbeats 1600000 in
theorem co_Clone (a : Option Addr) (n c : Nat) (l : List Co.Op) (B : Nat) (w : World) (hB : B = w.heap.size) (hs : Sl ECOp (fun _ => True) w a l) (hn : n = l.length) (hc : n ≤ c) (h12 : n ≤ 12) :
    Calls Try.prog 67 #[.slice a n c] w fun e w' => ∃ v, e = .returned v ∧ Own ECOp 47 B w' v l ∧ Below B w w' := by
  subst hB
  cases a with
  | none =>
    have hl : l = [] := by
      cases l with
      | nil => rfl
      | cons x r => obtain ⟨b, o, e, _⟩ := cop_at hs 0 (by simp); cases e
    subst hl
    have heq := Lib.run_eql_slice_nil (P := Try.prog) w 22 47 none n c 0 0 Try.underlying22
    clear hn hs hc h12
    go_enter Try.func67, Try.ntmps67
    go_wp2_with fail
    go_ret
    exact ⟨_, rfl, Own.nil _ _ _ _, Below.refl _ _⟩
  | some ad =>
    have Hn := Lib.hid hn
    have hoe : Own ECOp 47 w.heap.size (w.alloc (.cells #[] 47)) (.slice (some ⟨w.heap.size, 0, none⟩) 0 0) [] := own_empty ECOp 47 w (by decide)
    have Hoe := Lib.hid hoe
    have hsl : Sl ECOp (fun b => some b ≠ (Value.slice (some ⟨w.heap.size, 0, none⟩) 0 0).ownBlock) (w.alloc (.cells #[] 47)) (some ad) l := by
      intro k x hx
      obtain ⟨b, o, e, hb, cs, hr, hcc⟩ := hs k x hx
      have hlt : b < w.heap.size := by
        obtain ⟨rfl, _⟩ := cop_rep hr
        exact cell_lt (hcc 0 _ rfl)
      refine ⟨b, o, e, by simp [Value.ownBlock]; omega, cs, hr, fun j v hj => cell_thru (hcc j v hj) (alloc_below _ _)⟩
    have Hsl := Lib.hid hsl
    have heq := Lib.run_eql_slice_nil (P := Try.prog) w 22 47 (some ad) n c 0 0 Try.underlying22
    clear hn hs hoe hsl
    go_enter Try.func67, Try.ntmps67
    go_wp2_with (first
      | (refine wpList_app ECOp rfl rfl (by rfl) (by rfl) ti_cops Hoe.out Hn.out Hsl.out (by rw [← Hn.out]; unfold maxLen; simp; omega) (by rw [← Hn.out]; simp; omega) (by simp) ?_
         intro v8 w8 ho8 hg8 hv8 hb8))
    go_ret
    exact ⟨v8, rfl, by rw [List.nil_append] at ho8; exact ho8, (alloc_below w (.cells #[] 47)).trans hb8⟩

theorem OwnC.sl {te base : Nat} {w : World} {a : Option Addr} {n c : Nat} {l : List Co.Op} (h : Own ECOp te base w (.slice a n c) l) : Sl ECOp (fun k => base ≤ k) w a l := by
  rcases h with ⟨h1, rfl⟩ | ⟨g, cap, cur, hv, hg, hh, h1, h2, h3, h4⟩
  · exact Sl.nil _ _ _ _
  · injection hv with e1 e2 e3
    intro k x hx
    obtain ⟨cs, hr, hc⟩ := h4 k x hx
    refine ⟨g, 0, e1, hg, cs, hr, fun j v hj => ?_⟩
    simp [World.cell?, hh, hc j v hj]
set_option maxRecDepth 100000 in
set_option maxHeartbeats 1600000 in
theorem co_New (id : Int) (a : Option Addr) (n c : Nat) (l : List Co.Op) (ser : Bool) (sh pat : Int) (B : Nat) (w : World) (hB : B = w.heap.size) (hs : Sl ECOp (fun _ => True) w a l) (hn : n = l.length) (hc : n ≤ c) (h12 : n ≤ 12) (hk : ∀ o ∈ l, 0 ≤ o.2.1 ∧ o.2.1 ≤ 15) :
    Calls Try.prog 17 #[.int .i64 id, .slice a n c, .bool ser, .int .i64 sh, .int .i64 pat] w fun e w' => ∃ g vm ov, e = .returned (.pointer (some ⟨g, 0, none⟩)) ∧ TxA B w' g vm ov (Co.new id l ser sh pat) ∧ Below B w w' := by
  have HC := Lib.hid (co_Clone a n c l B w hB hs hn hc h12)
  have hmm := @run_makeMap Try.prog
  have HB := Lib.hid hB
  have Hn := Lib.hid hn
  have Hk := Lib.hid hk
  clear hs hn hB hk
  go_enter Try.func17, Try.ntmps17
  go_wp2_with fail
  refine HC.out.mono ?_
  rintro e w1 ⟨v, rfl, ho1, hb1⟩
  obtain ⟨av, cv, rfl, hcv, hmv, hrv, hov⟩ := ho1.shape n Hn.out
  obtain ⟨s, hsd⟩ : ∃ s, s = min (max sh 1) 4 := ⟨_, rfl⟩
  have hsr : 1 ≤ s ∧ s ≤ 4 := by omega
  have hnew : Co.new id l ser sh pat = ⟨id, l, ser, s, pat, 0, 0, ⟨0, false, 0⟩, 0, false, 0, ⟨0, false, 0⟩, 0, fun _ => none, 0, false⟩ := by unfold Co.new; rw [hsd]
  have hfin : ∀ w', w' = (w1.alloc (.map #[] 0)).alloc (.cells #[.int .i64 id, .slice av n cv, .bool ser, .int .i64 s, .int .i64 pat, .int .i64 0, .int .i64 0, .int .i64 0, .bool false, .int .i64 0, .int .i64 0, .bool false, .int .i64 0, .int .i64 0, .bool false, .int .i64 0, .int .i64 0, .map (some w1.heap.size), .int .i64 0, .bool false] 131) →
      TxA B w' (w1.heap.size + 1) w1.heap.size (.slice av n cv) (Co.new id l ser sh pat) ∧ Below B w w' := fun w' hw' => by
    obtain ⟨w2, hw2⟩ : ∃ x, x = w1.alloc (.map #[] 0) := ⟨_, rfl⟩
    have hz2 : w2.heap.size = w1.heap.size + 1 := by rw [hw2]; simp
    have hb2 : Below w1.heap.size w1 w2 := by rw [hw2]; exact alloc_below _ _
    rw [← hw2] at hw'
    have hb3 : Below w2.heap.size w2 w' := by rw [hw']; exact alloc_below _ _
    have hb13 : Below w1.heap.size w1 w' := hb2.trans (hb3.mono hb2.size)
    have hB1 : B ≤ w1.heap.size := by rw [HB.out]; exact hb1.size
    refine ⟨?_, hb1.trans (hb13.mono hB1)⟩
    rw [hnew]
    have hm : IMap w2 w1.heap.size 0 (fun _ => none) := by rw [hw2]; exact IMap.made w1
    refine ⟨?_, ⟨av, cv, by rw [Hn.out], by rw [← Hn.out]; exact hcv, hmv, ?_⟩, ?_, by omega, hB1, by omega, ⟨Hk.out, by rw [← Hn.out]; exact h12, hsr, by simp, by simp, fun z v h => by cases h⟩⟩
    · rw [hw', ← hz2]; exact heap_alloc_new w2 _
    · exact (OwnC.sl hov).mono (by decide) fun k hk hlt => ⟨hb13.block k hlt, by omega, by omega⟩
    · exact (hm.keep (hb3.block _ (by omega))).mono (by decide)
  have Hfin := Lib.hid hfin
  have Hsd := Lib.hid hsd
  clear ho1 hb1 hrv hov hfin hsd hnew
  by_cases h1 : sh < 1
  · have hs1 : s = 1 := by rw [Hsd.out]; omega
    subst hs1
    go_wp2_with fail
    go_ret
    obtain ⟨g1, g2⟩ := Hfin.out _ rfl
    exact ⟨_, _, _, by simp, g1, g2⟩
  · by_cases h2 : 4 < sh
    · have hs1 : s = 4 := by rw [Hsd.out]; omega
      subst hs1
      go_wp2_with fail
      go_ret
      obtain ⟨g1, g2⟩ := Hfin.out _ rfl
      exact ⟨_, _, _, by simp, g1, g2⟩
    · have hs1 : s = sh := by rw [Hsd.out]; omega
      subst hs1
      go_wp2_with fail
      go_ret
      obtain ⟨g1, g2⟩ := Hfin.out _ rfl
      exact ⟨_, _, _, by simp, g1, g2⟩
end Go.Proofs.Ytmmgnbdngpkfcaa

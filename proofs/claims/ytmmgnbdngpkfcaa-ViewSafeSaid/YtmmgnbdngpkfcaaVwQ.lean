
/-
  The laws' look whether two keeps are the same, walked; the document's example as plain functions.
-/
import Derived.Test.YtmmgnbdngpkfcaaVwF
import Derived.Test.YtmmgnbdngpkfcaaVwH
import Derived.Test.YtmmgnbdngpkfcaaRef01
namespace Go.Proofs.Ytmmgnbdngpkfcaa
open Go.RowKit
set_option linter.unusedVariables false

set_option maxRecDepth 8192 in
set_option maxHeartbeats 3200000 in
theorem law20_same (v n : Int) (l : List (List (BitVec 8))) (la : Option Addr) (ln lc : Nat) (ma : Option Addr) (mc : Nat) (w : World) (hl : Sl EBytes (fun _ => True) w la l) (hm : Sl EBytes (fun _ => True) w ma l) (hln : ln = l.length) (hlc : ln ≤ lc) (hmc : ln ≤ mc) (hmx : ln ≤ 1000000) :
    Calls Try.prog 55 #[.agg #[.int .i64 v, .int .i64 n, .slice la ln lc], .agg #[.int .i64 v, .int .i64 n, .slice ma ln mc]] w fun e w' => e = .returned (.bool true) ∧ Below w.heap.size w w' := by
  obtain ⟨w3, hw3⟩ : ∃ x, x = (w.alloc (.cells #[.int .i64 v, .int .i64 n, .slice la ln lc] 95)).alloc (.cells #[.int .i64 v, .int .i64 n, .slice ma ln mc] 95) := ⟨_, rfl⟩
  obtain ⟨B, hB⟩ : ∃ B, B = w.heap.size := ⟨_, rfl⟩
  have b1 := alloc_below w (.cells #[.int .i64 v, .int .i64 n, .slice la ln lc] 95)
  have b2 := alloc_below (w.alloc (.cells #[.int .i64 v, .int .i64 n, .slice la ln lc] 95)) (.cells #[.int .i64 v, .int .i64 n, .slice ma ln mc] 95)
  have z1 := alloc_size w (.cells #[.int .i64 v, .int .i64 n, .slice la ln lc] 95)
  have hb3 : Below B w w3 := by rw [hw3, hB]; exact b1.trans (b2.mono (by omega))
  have h0 : w3.heap[B]? = some (.cells #[.int .i64 v, .int .i64 n, .slice la ln lc] 95 (0, 0)) := by rw [hw3, hB, b2.block _ (by omega)]; exact heap_alloc_new w _
  have h1 : w3.heap[B + 1]? = some (.cells #[.int .i64 v, .int .i64 n, .slice ma ln mc] 95 (0, 0)) := by rw [hw3, hB, ← z1]; exact heap_alloc_new _ _
  have c00 : w3.cell? ⟨B, 0, none⟩ = some (.int .i64 v) := by simp [World.cell?, h0]
  have c01 : w3.cell? ⟨B, 1, none⟩ = some (.int .i64 n) := by simp [World.cell?, h0]
  have c02 : w3.cell? ⟨B, 2, none⟩ = some (.slice la ln lc) := by simp [World.cell?, h0]
  have c10 : w3.cell? ⟨B + 1, 0, none⟩ = some (.int .i64 v) := by simp [World.cell?, h1]
  have c11 : w3.cell? ⟨B + 1, 1, none⟩ = some (.int .i64 n) := by simp [World.cell?, h1]
  have c12 : w3.cell? ⟨B + 1, 2, none⟩ = some (.slice ma ln mc) := by simp [World.cell?, h1]
  have Hl := Lib.hid (hl.below (by decide) (by rw [← hB]; exact hb3))
  have Hm := Lib.hid (hm.below (by decide) (by rw [← hB]; exact hb3))
  have Hw3 := Lib.hid hw3.symm
  have HB := Lib.hid hB.symm
  have Hb3 := Lib.hid hb3
  have Hbz : RowKit.Hid (B ≤ w3.heap.size) := Lib.hid (by rw [hB]; exact hb3.size)
  have Hln := Lib.hid hln
  clear hl hm hw3 hB hb3 h0 h1 b1 b2 z1 hln
  go_enter Try.func55, Try.ntmps55
  go_upto_region 1 with fail
  rw [Hw3.out, HB.out]
  clear Hw3
  go_wp2_with fail
  go_loopg [5, 30] ln (fun gn u i wr => ∃ j : Nat, RowKit.Hid (gn = ln - j) ∧ j ≤ ln ∧ i = .int .i64 j ∧ RowKit.Hid (Below w3.heap.size w3 wr))
  case atStart => exact ⟨0, Lib.hid rfl, Nat.zero_le _, rfl, Lib.hid (Below.refl _ _)⟩
  case round =>
    obtain ⟨j, hgn, hj, rfl, hb⟩ := hrel
    have d02 : wr.cell? ⟨B, 2, none⟩ = some (.slice la ln lc) := cell_thru c02 hb.out
    have d12 : wr.cell? ⟨B + 1, 2, none⟩ = some (.slice ma ln mc) := cell_thru c12 hb.out
    have hl2 := Hl.out.below (by decide) hb.out
    have hm2 := Hm.out.below (by decide) hb.out
    by_cases hlt : j < ln
    · have hji : (j : Int) < (ln : Int) := by omega
      have hjl : j < l.length := by rw [← Hln.out]; exact hlt
      obtain ⟨b, o, a2, p2, rfl, _, e1, q1, s1⟩ := byts_atG hl2 j hjl
      obtain ⟨b', o', a3, p3, rfl, _, e2, q2, s2⟩ := byts_atG hm2 j hjl
      obtain ⟨E, hE⟩ : ∃ E, E = l[j] := ⟨_, rfl⟩
      rw [← hE] at e1 e2 s1 s2
      obtain ⟨N, hN⟩ : ∃ N, N = E.length := ⟨_, rfl⟩
      rw [← hN] at e1 e2
      have hC : ∀ W : World, W.heap = wr.heap → Calls Try.prog 58 #[.slice a2 N p2, .slice a3 N p3] W fun e w' => e = .returned (.bool true) ∧ W = w' := by
        intro W hW
        refine (ref_Same a2 a3 N N p2 p3 E E W ⟨hN, s1.heap (by decide) hW⟩ ⟨hN, s2.heap (by decide) hW⟩).mono ?_
        intro e w' h
        simpa using h
      have HC := Lib.hid hC
      have hadd : IntKind.i64.wrap ((j : Int) + 1) = (j : Int) + 1 := IntWalk.i64_in _ (by omega)
      clear hC hl2 hm2 s1 s2 q1 q2 hE hN
      go_wp2_with fail
      go_region_held3 (fun W => W.cell? ⟨B, 2, none⟩ = some (.slice (some ⟨b, o, none⟩) ln lc) ∧ W.cell? ⟨B + 1, 2, none⟩ = some (.slice (some ⟨b', o', none⟩) ln mc) ∧ W.cell? ⟨b, o + j, none⟩ = some (.slice a2 N p2) ∧ W.cell? ⟨b', o' + j, none⟩ = some (.slice a3 N p3))
        (first | exact ⟨d02, d12, e1, e2⟩ | go_keep)
        ((go_at_call 58; refine (HC.out wr.drew rfl).mono ?_; rintro e w4 ⟨rfl, rfl⟩))
      have Hb4 : RowKit.Hid (Below w3.heap.size w3 wr.drew) := Lib.hid hb.out.drew
      go_wp2_with fail
      go_roundg (ln - (j + 1))
      case measure => rw [hgn.out]; omega
      case rel => exact ⟨j + 1, Lib.hid rfl, by omega, by go_num, Hb4⟩
    · have hji : ¬ ((j : Int) < (ln : Int)) := by omega
      clear hl2 hm2
      go_wp2_with fail
      go_ret
      refine ⟨rfl, ?_⟩
      rw [HB.out]
      exact Hb3.out.trans (hb.out.mono Hbz.out)
namespace Vw
def h0 : Core := Core.new 1 1 0 5 ⟨0, 0, []⟩
theorem h0_leads : h0.leads = true := by decide +kernel
theorem h0_err : (h0.propose [97#8]).2 = 0 := by decide +kernel
theorem h0_log : (h0.propose [97#8]).1.keep.log = [[97#8]] := by decide +kernel
theorem h0_done : (h0.propose [97#8]).1.done = [[97#8]] := by decide +kernel
theorem h0_commit : (h0.propose [97#8]).1.commit = 1 := by decide +kernel
theorem h0_recs : (h0.propose [97#8]).1.recs.map (fun r => (r.kind, r.a, r.b, r.data)) = [(2, 0, 0, [97#8])] := by decide +kernel
theorem h0_msgs : (h0.propose [97#8]).1.msgs.length = 0 := by decide +kernel
end Vw
end Go.Proofs.Ytmmgnbdngpkfcaa

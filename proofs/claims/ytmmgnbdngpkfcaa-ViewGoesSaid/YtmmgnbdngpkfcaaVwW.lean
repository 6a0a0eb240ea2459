/-
  The head of the statements on members, walked; what makes a member is told ahead.
  The head of the statements on members.
-/
import Derived.Test.YtmmgnbdngpkfcaaVwN
import Derived.Test.YtmmgnbdngpkfcaaVaS
import Derived.Lib.SlBytesConst
import Derived.Test.YtmmgnbdngpkfcaaVwI
namespace Go.Proofs.Ytmmgnbdngpkfcaa
open Go.RowKit
set_option linter.unusedVariables false

theorem h0_small : Vw.Small ([] : List Vw.Bs) := ⟨by simp, fun b h => by cases h⟩
/-- what the head's member has told, in memory -/
theorem h0_out {M : Col} {w w' : World} {g : Nat} {v1 v2 v3 : Value} (t : TakeTo M w w' g (Vw.h0.propose [97#8]).1 (.agg #[v1, v2, v3])) :
    ∃ M' b1 o1 c1 a2 c2 b3 o3 c3 a5 c5, v1 = .slice (some ⟨b1, o1, none⟩) 1 c1 ∧ v2 = .slice a2 0 c2 ∧ v3 = .slice (some ⟨b3, o3, none⟩) 1 c3 ∧ 1 ≤ c1 ∧ 1 ≤ c3 ∧ w'.cell? ⟨b1, o1, none⟩ = some (.int .i64 2) ∧ w'.cell? ⟨b3, o3, none⟩ = some (.slice a5 1 c5) ∧ Sl EU8 (fun _ => True) w' a5 [97#8] ∧ VwAt M' w' g (Vw.h0.propose [97#8]).1.clear ∧ Fr M w M' w' := by
  obtain ⟨M', h, f, a1, c1, a2, c2, a3, c3, e, ⟨b1, s1⟩, ⟨b2, s2⟩, ⟨b3, s3⟩⟩ := t
  injection e with e
  simp only [Array.mk.injEq, List.cons.injEq, and_true] at e
  have hr := Vw.h0_recs
  have hl1 : (Vw.h0.propose [97#8]).1.recs.length = 1 := by have := congrArg List.length hr; simpa using this
  have hl2 := Vw.h0_msgs
  have hd := Vw.h0_done
  rw [hl1] at e b1
  rw [hl2] at e
  rw [hd] at e b3 s3
  obtain ⟨r, hr0⟩ : ∃ r, (Vw.h0.propose [97#8]).1.recs = [r] := List.length_eq_one_iff.1 hl1
  rw [hr0] at hr s1
  have hk : r.kind = 2 := by simp at hr; exact hr.1
  obtain ⟨g1, o1, rfl, _, cs, ⟨da, dc, rfl, _⟩, hc⟩ := s1 0 r rfl
  obtain ⟨g3, o3, a5, c5, rfl, _, hc3, _, hs5⟩ := byts_atG s3 0 (by simp)
  refine ⟨M', g1, o1, c1, a2, c2, g3, o3, c3, a5, c5, e.1, e.2.1, e.2.2, b1.1, b3.1, ?_, ?_, hs5.any (by decide), h, f⟩
  · have := hc 0 _ rfl
    rw [hk] at this
    simpa using this
  · simpa using hc3
set_option maxRecDepth 16384 in
set_option maxHeartbeats 6400000 in
theorem law20_head0 (hNew : ∀ w : World, Calls Try.prog 56 #[.int .i64 1, .int .i64 1, .int .i64 0, .int .i64 5, .int .i64 0, .agg #[.int .i64 0, .int .i64 0, .slice none 0 0]] w fun e w' => ∃ g, e = .returned (.tuple #[.pointer (some ⟨g, 0, none⟩), .int .i64 0]) ∧ ∃ M', VwAt M' w' g Vw.h0 ∧ (∀ k, k < w.heap.size → M' k = 0) ∧ Below w.heap.size w w') (w : World) :
    Calls Try.prog 53 #[] w fun e w' => e = .returned (.bool true) ∧ Below w.heap.size w w' := by
  obtain ⟨B, hB⟩ : ∃ B, B = w.heap.size := ⟨_, rfl⟩
  have HN := Lib.hid (hNew w)
  have HB := Lib.hid hB
  rw [← hB]
  clear hNew hB
  go_enter Try.func53, Try.ntmps53
  go_wp2_with fail
  refine HN.out.mono ?_
  rintro e w1 ⟨g, rfl, M, hv1, hM1, hb1⟩
  have hL := vw_Leads w1 hv1
  rw [Vw.h0_leads] at hL
  have HL := Lib.hid hL
  have Hv1 := Lib.hid hv1
  have HM1 := Lib.hid hM1
  have Hb1 := Lib.hid hb1
  clear hL hv1 hM1 hb1 HN
  go_wp2_with fail
  refine HL.out.mono ?_
  rintro e w2 ⟨rfl, hb2⟩
  obtain ⟨L, hv1⟩ := Hv1.out
  have h2 := hv1.below hb2
  obtain ⟨w3, hw3⟩ : ∃ x, x = w2.alloc (.cells #[.int .u8 97] 5 (1, 2)) := ⟨_, rfl⟩
  have hb3 : Below w2.heap.size w2 w3 := by rw [hw3]; exact alloc_below _ _
  have hh3 : w3.heap[w2.heap.size]? = some (.cells #[.int .u8 97] 5 (1, 2)) := by rw [hw3]; exact heap_alloc_new w2 _
  have h3 := h2.below hb3
  have hP := vw_Propose w3 ⟨L, h3⟩ (some ⟨w2.heap.size, 0, none⟩) 1 1 [97#8] rfl (sl_cells hh3 rfl (dom_new h2 (Nat.le_refl _))) (by decide) (by decide) (by decide) (by decide)
  have HP := Lib.hid hP
  have Hw3 := Lib.hid hw3.symm
  have Hb13 : RowKit.Hid (Below B w w3 ∧ B ≤ w3.heap.size ∧ (∀ k, k < B → M k = 0)) := Lib.hid (by
    have e := HB.out
    have h1 := Hb1.out.size
    have h2 := hb2.size
    refine ⟨?_, by have := hb3.size; omega, fun k hk => HM1.out k (by omega)⟩
    rw [e]; exact Hb1.out.trans ((hb2.mono h1).trans (hb3.mono (by omega))))
  clear hP hw3 hb3 hh3 h3 h2 hb2 hv1
  have kc := fun (w : World) (C : Array Value) (n c : Nat) => Lib.run_convert_bytes_const (P := Try.prog) w 49 5 C n c Try.underlying49 Try.underlying5
  go_wp2_with fail
  rw [Hw3.out]
  clear kc
  clear Hw3
  refine HP.out.mono ?_
  rintro e w4 hp
  unfold ProTo at hp
  rw [if_pos Vw.h0_err, Vw.h0_log] at hp
  obtain ⟨v1, v2, v3, rfl, t⟩ := hp
  obtain ⟨M', b1, o1, c1, a2, c2, b3, o3, c3, a5, c5, rfl, rfl, rfl, q1, q3, k1, k3, s5, hv4, f4⟩ := h0_out t
  have hb4 : Below B w w4 := Hb13.out.1.trans (f4.1.below (B := B) Hb13.out.2.1 fun k hk => by
    rcases Nat.lt_or_ge k B with h | h
    · have := Hb13.out.2.2 k h
      have h1 := hk.1
      omega
    · exact h)
  obtain ⟨w5, hw5⟩ : ∃ x, x = w4.alloc (.cells #[.slice (some ⟨b1, o1, none⟩) 1 c1, .slice a2 0 c2, .slice (some ⟨b3, o3, none⟩) 1 c3] 107) := ⟨_, rfl⟩
  have hb5 : Below w4.heap.size w4 w5 := by rw [hw5]; exact alloc_below _ _
  have hh5 : w5.heap[w4.heap.size]? = some (.cells #[.slice (some ⟨b1, o1, none⟩) 1 c1, .slice a2 0 c2, .slice (some ⟨b3, o3, none⟩) 1 c3] 107 (0, 0)) := by rw [hw5]; exact heap_alloc_new w4 _
  have n1 := cell_thru k1 hb5
  have n3 := cell_thru k3 hb5
  have hcv : ∀ W : World, W.heap = w5.heap → (convert 49 9 (.slice a5 1 c5)).run Try.prog W = .ok (.string ⟨#[97]⟩) W := fun W hW => by
    have := run_tostr (P := Try.prog) (src := 49) (dst := 9) (c := c5) Try.underlying49 Try.underlying5 Try.underlying9 ((s5.below (by decide) hb5).heap (w' := W) (by decide) hW)
    exact this
  have hcv5 := hcv w5 rfl
  obtain ⟨L4, hv4⟩ := hv4
  have hC := vw_Commit w5 ⟨L4, hv4.below hb5⟩
  have hcm : (Vw.h0.propose [97#8]).1.clear.commit = 1 := Vw.h0_commit
  rw [hcm] at hC
  obtain ⟨p, hp⟩ : ∃ p, p = w4.heap.size := ⟨_, rfl⟩
  rw [← hp] at hh5
  have m0 : w5.cell? ⟨p, 0, none⟩ = some (.slice (some ⟨b1, o1, none⟩) 1 c1) := by simp [World.cell?, hh5]
  have m2 : w5.cell? ⟨p, 2, none⟩ = some (.slice (some ⟨b3, o3, none⟩) 1 c3) := by simp [World.cell?, hh5]
  have HC := Lib.hid hC
  have Hw5 := Lib.hid hw5.symm
  have Hp := Lib.hid hp.symm
  have Hb5 : RowKit.Hid (Below B w w5) := Lib.hid (hb4.trans (hb5.mono (by have := Hb13.out.2.1; have := f4.size; omega)))
  clear hC hw5 hp hb5 hh5 hb4 t f4 hv4 s5 hcv k1 k3 hcm
  go_upto_region 5 with fail
  rw [Hw5.out, Hp.out]
  clear Hw5
  go_wp2_with fail
  refine HC.out.mono ?_
  rintro e w6 ⟨rfl, rfl⟩
  go_wp2_with fail
  go_ret
  exact ⟨rfl, Hb5.out⟩
end Go.Proofs.Ytmmgnbdngpkfcaa

namespace Go.Proofs.Ytmmgnbdngpkfcaa
open Go.RowKit
set_option linter.unusedVariables false

theorem law20_head (w : World) : Calls Try.prog 53 #[] w fun e w' => e = .returned (.bool true) ∧ Below w.heap.size w w' :=
  law20_head0 (fun w => vw_New 1 1 0 5 ⟨0, 0, []⟩ none 0 0 w (by decide) (by decide) (by decide) ⟨Int.le_refl 0, by show (0 : Int) ≤ 1099511627776; decide⟩ ⟨Int.le_refl 0, Int.le_refl 0⟩ h0_small rfl ⟨Nat.le_refl _, Nat.zero_le _⟩ (Sl.nil _ _ _ _)) w
end Go.Proofs.Ytmmgnbdngpkfcaa

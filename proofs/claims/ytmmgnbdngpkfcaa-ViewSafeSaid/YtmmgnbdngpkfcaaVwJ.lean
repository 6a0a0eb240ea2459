
/-
  A member feeds another one; it sends to all; it counts: walked.
-/
import Derived.Test.YtmmgnbdngpkfcaaVwE
import Derived.Test.YtmmgnbdngpkfcaaVwF
import Derived.Test.YtmmgnbdngpkfcaaVwH
import Derived.Test.YtmmgnbdngpkfcaaVwS
namespace Go.Proofs.Ytmmgnbdngpkfcaa
open Go.RowKit
set_option linter.unusedVariables false

theorem vwTo_refl {M : Col} {w : World} {g : Nat} {c : Vw.Core} (h : VwAt M w g c) : VwTo M w w g c := ⟨M, h, Fr.refl _ _⟩
theorem VwTo.below {M : Col} {w w1 : World} {g : Nat} {c : Vw.Core} (h : VwAt M w g c) (hb : Below w.heap.size w w1) : VwTo M w w1 g c := by
  obtain ⟨L, h⟩ := h
  exact ⟨M, ⟨L, h.below hb⟩, Fr.of_below hb⟩
theorem VwTo.trans {M M1 : Col} {w w1 w2 : World} {g : Nat} {c : Vw.Core} (f : Fr M w M1 w1) (h : VwTo M1 w1 w2 g c) : VwTo M w w2 g c := by
  obtain ⟨M2, h, f2⟩ := h
  exact ⟨M2, h, f.trans f2⟩
/-- 'log[i:j]' -/
theorem slice_texts {ok : Nat → Prop} {w : World} {a : Option Addr} {l : List (List (BitVec 8))} {c i j : Nat} (h : Sl EBytes ok w a l) (hij : i ≤ j) (hj : j ≤ l.length) (hc : l.length ≤ c) :
    ∃ a', (∀ W : World, (Instr.slice 50 (.slice a l.length c) (some (.int .i64 i)) (some (.int .i64 j)) none).run Try.prog W = .ok (.slice a' (j - i) (c - i)) W) ∧ Sl EBytes ok w a' ((l.drop i).take (j - i)) := by
  obtain ⟨i0, z, hi, hz, hsz, hby, hzc⟩ := ti_texts.info
  refine ⟨if c = i then a else a.map (·.add (i * 1)), fun W => ?_, ?_⟩
  · have e1 : (0 : Int) ≤ (i : Int) := by omega
    have e2 : ((i : Int) ≤ (j : Int)) := by omega
    have e3 : (j : Int) ≤ (c : Int) := by omega
    have e4 : (0 : Int) ≤ (j : Int) := by omega
    have e5 : i0.size = 1 := hsz
    simp [Instr.slice, run_underlying ti_texts.under, Instr.sliceBounds, run_sliceBound, sizeOf, typeInfo, hi, e5, e3, hij]
  · have := h.cut (c := c) hij hj hc (decide (c = i)) (by simp; omega)
    simp only [decide_eq_true_eq] at this
    exact this
theorem vzero_int (w : World) : (zeroValue 3).run Try.prog w = .ok (.int .i64 0) w := by
  have h : (Try.prog.info? 3).map (fun i => i.zero) = some (some (.int .i64 0)) := by kernel_rfl
  obtain ⟨i, hi, hz⟩ := Option.map_eq_some_iff.1 h
  simp [zeroValue, typeInfo, hi, hz]
/-- one more looked up in 'has' -/
theorem has_look {M : Col} {w : World} {g : Nat} {c : Vw.Core} {L : Lo} (h : VwL M w g c L) (z : Int) (hz : 1 ≤ z ∧ z ≤ 7) :
    ∀ W : World, W.heap = w.heap → (Instr.lookup 129 (.map (some L.hb)) (.int .i64 z) false).run Try.prog W = .ok (.int .i64 (c.has z)) W := by
  intro W hW
  obtain ⟨f, h1, h2, h3⟩ := h.p.has
  have hm : IMap W L.hb 8 f := h1.keep (by rw [hW])
  have := hm.lookup (t := 129) (e := 3) (z := .int .i64 0) Try.underlying129 (vzero_int W) (k := z) (by unfold i64ok; omega)
  rw [this, h2]
set_option maxRecDepth 4096 in
set_option maxHeartbeats 6400000 in
theorem vw_feed {M : Col} {g : Nat} {c : Vw.Core} (w : World) (h : VwAt M w g c) (z : Int) (hz : 1 ≤ z ∧ z ≤ 7) (hlen : c.msgs.length ≤ 1000000) :
    Calls Try.prog 96 #[.pointer (some ⟨g, 0, none⟩), .int .i64 z] w fun e w' => e = .returned (.tuple #[]) ∧ VwTo M w w' g (c.send (c.feedM z)) := by
  obtain ⟨L, h⟩ := h
  have y7 := h.c7
  have y9 := h.c9
  have y11 := h.c11
  have hlk := has_look h z hz w rfl
  have hlk2 := has_look h z hz w.drew rfl
  have hr := h.right.has z
  obtain ⟨at_, hat, hatl⟩ : ∃ at_ : Nat, min (c.has z) (c.keep.log.length : Int) = (at_ : Int) ∧ at_ ≤ c.keep.log.length := ⟨(min (c.has z) (c.keep.log.length : Int)).toNat, by omega, by omega⟩
  have H := Lib.hid h
  have Hat := Lib.hid hat
  clear h hat
  go_enter Try.func96, Try.ntmps96
  go_wp2_with fail
  go_region
  simp only [Hat.out]
  obtain ⟨w2, hw2⟩ : ∃ x, x = w.drew := ⟨_, rfl⟩
  have h2 : VwL M w2 g c L := by rw [hw2]; exact H.out.drew
  have f2 : Fr M w M w2 := by rw [hw2]; exact (Fr.refl M w).drew
  rw [← hw2]
  clear y7 y9 y11 hlk hlk2 hw2
  have y7 := h2.c7
  have y9 := h2.c9
  obtain ⟨e_, he, hel, hee⟩ : ∃ e_ : Nat, min ((at_ : Int) + 8) (c.keep.log.length : Int) = (e_ : Int) ∧ at_ ≤ e_ ∧ e_ ≤ c.keep.log.length := ⟨min (at_ + 8) c.keep.log.length, by omega, by omega, by omega⟩
  have hl2 := h2.right.log.1
  have hadd : IntKind.i64.wrap ((at_ : Int) + 8) = (at_ : Int) + 8 := IntWalk.i64_in _ (by omega)
  obtain ⟨sa, hsl, hss⟩ := slice_texts h2.p.log hel hee h2.p.lc.1
  have hfm : c.feedM z = { Vw.Msg.z with kind := 1, to_ := z, at_ := (at_ : Int), commit := c.commit, list := (c.keep.log.drop at_).take (e_ - at_) } := by
    unfold Vw.Core.feedM
    simp only [Hat.out, Int.toNat_natCast]
    congr 1
    have : e_ = min (at_ + 8) c.keep.log.length := by omega
    rw [List.take_eq_take_iff]
    simp; omega
  have hsn : ((c.keep.log.drop at_).take (e_ - at_)).length = e_ - at_ := by simp; omega
  have hC : Calls Try.prog 132 #[.pointer (some ⟨g, 0, none⟩), .agg #[.int .i64 1, .int .i64 0, .int .i64 z, .int .i64 0, .int .i64 0, .int .i64 0, .int .i64 at_, .int .i64 c.commit, .int .i64 0, .int .i64 0, .slice sa (e_ - at_) (L.lc - at_), .slice none 0 0]] w2.drew fun e w' => e = .returned (.tuple #[]) ∧ VwTo M w2.drew w' g (c.send (c.feedM z)) := by
    rw [hfm]
    refine vw_send w2.drew ⟨L, h2.drew⟩ _ _ ⟨sa, L.lc - at_, none, 0, ?_, ?_, ?_, ⟨Nat.le_refl _, Nat.zero_le _⟩, Sl.nil _ _ _ _⟩ hlen
    · show _ = msgRow _ _ _
      rw [hsn]; rfl
    · rw [hsn]; have := h2.p.lc; omega
    · exact hss.heap (by decide) rfl
  have HC := Lib.hid hC
  have H2 := Lib.hid h2
  have Hf2 := Lib.hid f2
  clear hC h2 f2 hfm hsn hss H Hat
  go_wp2_with fail
  go_region_law ((go_simp; go_at_call 132; refine HC.out.mono ?_; rintro e w4 ⟨rfl, h4⟩))
  all_goals
    have H4 := Lib.hid h4
    clear h4
    go_wp2_with fail
    refine bodyPost_end (v := .tuple #[]) (by simp [results, Try.results96, go_sem]) rfl ?_
    exact ⟨rfl, VwTo.trans Hf2.out.drew H4.out⟩
end Go.Proofs.Ytmmgnbdngpkfcaa

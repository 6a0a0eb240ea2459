
/-
  The shortest cycle: the reference's; the law's own look at a cycle of two.
-/
import Derived.Test.YticpbiccgnfecaaGraW
import Derived.Test.YticpbiccgnfecaaGraI
namespace Go.Proofs.Yticpbiccgnfecaa
open Go.RowKit
set_option linter.unusedVariables false

/-- the first of the shortest cycles comes back, to be read -/
def CycRd (B : Nat) (R : Gr.Rel) (w : World) (e : Ending) (w' : World) : Prop :=
  ∃ (a : Option Addr) (cp : Nat) (c : List Nat), e = .returned (.slice a c.length cp) ∧ Gr.CycS R c ∧ Sl EInt (fun _ => True) w' a (natI c) ∧ Below B w w'
theorem cyc_len {N : Nat} {R : Gr.Rel} (hbd : Gr.Bd N R) {c : List Nat} (h : Gr.CycS R c) : c.length ≤ N := by
  rcases h with ⟨rfl, _⟩ | h
  · simp
  · exact Gr.pigeon_lt (Gr.nodup_of_least h.clo h.min) (h.clo.bd hbd)

set_option maxRecDepth 4096 in
set_option maxHeartbeats 1600000 in
theorem ref07_Cycle (B g N : Nat) (rows cp : Nat → Nat) (R : Gr.Rel) (w : World) (hB : w.heap.size = B) (hM : Mtx 33 4 w g N N N rows cp R) (hbd : Gr.Bd N R) (hNl : N ≤ 1000) :
    Calls Try.prog 23 #[.slice (some ⟨g, 0, none⟩) N N] w (CycRd B R w) := by
  have hN0 : (0 : Int) ≤ (N : Int) := by omega
  have hN1 : (N : Int) ≤ 1000 := by omega
  have HM := Lib.hid hM
  have HB := Lib.hid hB
  have hb0 : Below B w w := Below.refl _ _
  clear hM hB
  go_enter Try.func23, Try.ntmps23
  go_wp2_with fail
  go_loopg [3] N (fun gn i wr => ∃ L : Nat, RowKit.Hid (gn = N + 1 - L) ∧ 1 ≤ L ∧ L ≤ N + 1 ∧ i = .int .i64 L ∧ RowKit.Hid (∀ k, 1 ≤ k → k < L → ¬ Gr.SExt R k []) ∧ Below B w wr)
  case atStart => exact ⟨1, Lib.hid (by omega), Nat.le_refl _, by omega, rfl, Lib.hid (fun k h1 h2 => by omega), hb0⟩
  case round =>
    clear hb0
    obtain ⟨L, hgn, hL1, hLN, rfl, hno, hb⟩ := hrel
    obtain ⟨wo, rfl⟩ : ∃ x : World, x = wr := ⟨_, rfl⟩
    by_cases hlt : L ≤ N
    · have hli : (L : Int) ≤ (N : Int) := by omega
      have hl0 : (0 : Int) ≤ (L : Int) := by omega
      have hcall := ref07_walk g N rows cp R hbd hNl L hL1 hlt L _ [] none 0 0 wo rfl (HM.out.below (by rw [HB.out]; exact hb)) ⟨by rfl, Sl.nil _ _ _ _⟩ (Nat.le_refl _) (by unfold maxLen; omega) (Gr.Pre.nil N R) (by simp)
      have Hcall := Lib.hid hcall
      clear hcall
      go_wp2_with fail
      refine (Hcall.out).mono ?_
      rintro e w10 ⟨a10, c10, cf, rfl, hF, hc10, hm10, hs10, hb10⟩
      have hbw10 : Below B w w10 := hb.trans (hb10.mono (by have h1 := hb.size; rw [HB.out] at h1; exact h1))
      by_cases hcf : cf = []
      · subst hcf
        have hno2 : RowKit.Hid (∀ k, 1 ≤ k → k < L + 1 → ¬ Gr.SExt R k []) := Lib.hid fun k h1 h2 => by
          by_cases e : k = L
          · rw [e]
            rcases hF with ⟨_, h⟩ | ⟨h, _⟩
            · exact h
            · exact absurd rfl h.1
          · exact hno.out k h1 (by omega)
        clear hno hF hs10
        go_wp2_with fail
        go_roundg (N + 1 - (L + 1))
        case measure => rw [hgn.out]; omega
        case rel => exact ⟨L + 1, Lib.hid rfl, by omega, by omega, by go_num, hno2, hbw10⟩
      · have hpost : CycRd B R w (.returned (.slice a10 cf.length c10)) w10 := ⟨a10, c10, cf, rfl, .inr (Gr.ref_fin hF hcf hno.out), hs10, hbw10⟩
        have Hpost := Lib.hid hpost
        have hcf0 : (0 : Int) < (cf.length : Int) := by have := List.length_pos_iff.2 hcf; omega
        have hcf1 : decide (0 < cf.length) = true := by simp; omega
        clear hpost hF hno hs10
        go_wp2_with fail
        go_ret
        exact Hpost.out
    · have hli : ¬ ((L : Int) ≤ (N : Int)) := by omega
      have hpost : CycRd B R w (.returned (.slice none 0 0)) wo := ⟨none, 0, [], rfl, Gr.ref_none hbd fun k h1 h2 => hno.out k h1 (by omega), Sl.nil _ _ _ _, hb⟩
      have Hpost := Lib.hid hpost
      clear hpost hno
      go_wp2_with fail
      go_ret
      exact Hpost.out

namespace Gr
/-- the cycle of the law's own look -/
theorem found_cyc {c : List Nat} (h : CycS (T 3 [(0, 1), (1, 2), (2, 0), (2, 1)]) c) : c = [1, 2] := by
  refine h.uniq (.inr ⟨⟨by simp, by decide, by decide, trivial⟩, fun d hd => ?_, fun i v hi hv => ?_⟩)
  · match d, hd with
    | [], hd => exact absurd rfl hd.1
    | [a], hd =>
      have h1 := hd.2.1
      have ha := (T_bd 3 [(0, 1), (1, 2), (2, 0), (2, 1)]) _ _ h1
      have : a < 3 := ha.1
      have e : a = 0 ∨ a = 1 ∨ a = 2 := by omega
      rcases e with rfl | rfl | rfl <;> revert h1 <;> decide
    | a :: b :: r, hd => simp
  · rintro ⟨d, hd, hl, r, hr⟩
    have h2 : i < 2 := hi
    match d, hl with
    | [x, y], _ =>
      have h1 := hd.2.1
      have h3 := hd.2.2.1
      simp at h1 h3
      have hx := T_bd 3 [(0, 1), (1, 2), (2, 0), (2, 1)] _ _ h1
      have e : i = 0 ∨ i = 1 := by omega
      rcases e with rfl | rfl
      · simp at hv
        subst hv
        simp at hr
        obtain ⟨rfl, hr⟩ := hr
        have e : y = 0 ∨ y = 1 ∨ y = 2 := by omega
        rcases e with rfl | rfl | rfl <;> revert h1 h3 <;> decide
      · simp at hv hr
        obtain ⟨rfl, rfl, hr⟩ := hr
        have e : v = 0 ∨ v = 1 := by omega
        rcases e with rfl | rfl <;> revert h1 h3 <;> decide
end Gr

theorem sl_nums2 (w : World) (x y : Int) (h : ∀ p ∈ [x, y], -9223372036854775808 ≤ p ∧ p ≤ 9223372036854775807) : Sl EInt (fun _ => True) (w.alloc (.cells #[.int .i64 x, .int .i64 y] 3)) (some ⟨w.heap.size, 0, none⟩) [x, y] :=
  sl_nums [x, y] (heap_alloc_new w _) h (by
    intro k p hp
    have hk : k < 2 := by have := (List.getElem?_eq_some_iff.1 hp).1; simpa using this
    have e : k = 0 ∨ k = 1 := by omega
    rcases e with rfl | rfl <;> (simp at hp; subst hp; rfl))

set_option maxRecDepth 4096 in
set_option maxHeartbeats 1600000 in
theorem law07_found (B : Nat) (w : World) (hB : w.heap.size = B) :
    Calls Try.prog 21 #[] w fun e w' => e = .returned (.bool true) ∧ Below B w w' := by
  subst hB
  have ha0 : Sl EArc (fun _ => True) (w.alloc (.cells #[.int .i64 0, .int .i64 1, .int .i64 1, .int .i64 2, .int .i64 2, .int .i64 0, .int .i64 2, .int .i64 1] 27)) (some ⟨w.heap.size, 0, none⟩) [(0, 1), (1, 2), (2, 0), (2, 1)] :=
    sl_pairs [(0, 1), (1, 2), (2, 0), (2, 1)] (heap_alloc_new w _) (by decide) (by
      intro k p hp
      have hk : k < 4 := by have := (List.getElem?_eq_some_iff.1 hp).1; simpa using this
      have e : k = 0 ∨ k = 1 ∨ k = 2 ∨ k = 3 := by omega
      rcases e with rfl | rfl | rfl | rfl <;> (simp at hp; subst hp; exact ⟨rfl, rfl⟩))
  have Ha0 := Lib.hid ha0
  have Hb0 := Lib.hid (alloc_below w (.cells #[.int .i64 0, .int .i64 1, .int .i64 1, .int .i64 2, .int .i64 2, .int .i64 0, .int .i64 2, .int .i64 1] 27))
  clear ha0
  go_enter Try.func21, Try.ntmps21
  go_wp2_with fail
  refine (law07_arcs _ _ _ _ [(0, 1), (1, 2), (2, 0), (2, 1)] _ rfl ⟨rfl, Ha0.out⟩ (by decide)).mono ?_
  rintro e w2 ⟨v2, rfl, ho2, hb2⟩
  obtain ⟨a3, c3, rfl, hc3, hm3, hr3, _⟩ := ho2.shape 4 rfl
  have Hb02 := Lib.hid (Hb0.out.trans (hb2.mono Hb0.out.size))
  have Hr3 := Lib.hid hr3
  clear ho2 hb2 hr3
  go_wp2_with fail
  refine (graph_Cycle _ 3 3 _ 4 _ [(0, 1), (1, 2), (2, 0), (2, 1)] _ rfl Hr3.out (by decide) (by decide)).mono ?_
  rintro e w4 ⟨v4, cy, rfl, hcy, ho4, hb4⟩
  obtain rfl := Gr.found_cyc hcy
  obtain ⟨a5, c5, rfl, hc5, hm5, hr5, _⟩ := ho4.shape 2 rfl
  have hl5 : natI [1, 2] = [1, 2] := by decide
  rw [hl5] at hr5
  have Hb04 := Lib.hid (Hb02.out.trans (hb4.mono Hb02.out.size))
  have Hr5 := Lib.hid (show RS EInt (w4.alloc (.cells #[.int .i64 1, .int .i64 2] 3)) a5 2 [1, 2] from ⟨rfl, hr5.2.below (by decide) (alloc_below w4 _)⟩)
  have Hz := Lib.hid (sl_nums2 w4 1 2 (by decide))
  have Hb05 := Lib.hid (Hb04.out.alloc Hb04.out.size (.cells #[.int .i64 1, .int .i64 2] 3))
  clear ho4 hb4 hr5 hl5 hcy
  go_wp2_with fail
  refine (ref07_Same _ 2 _ [1, 2] _ 2 _ [1, 2] _ Hr5.out ⟨rfl, Hz.out⟩ (by decide) (by decide)).mono ?_
  rintro e w6 ⟨rfl, q, rfl⟩
  rw [show sameB [1, 2] [1, 2] = true by decide]
  go_wp2_with fail
  go_ret
  exact ⟨rfl, drewN_below Hb05.out q⟩
end Go.Proofs.Yticpbiccgnfecaa

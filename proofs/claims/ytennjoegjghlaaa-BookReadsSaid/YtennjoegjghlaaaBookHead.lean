
/-
  The head of the laws on histories' bytes; which histories are too big.
-/
import Derived.Test.YtennjoegjghlaaaBookEnc2
import Derived.Test.YtennjoegjghlaaaHistC
namespace Go.Proofs.Ytennjoegjghlaaa
open Go.RowKit
set_option linter.unusedVariables false

set_option maxRecDepth 4096 in
set_option maxHeartbeats 1600000 in
theorem law6_head (w : World) :
    Calls Try.prog 11 #[] w fun e w' => e = .returned (.bool true) ∧ Below w.heap.size w w' := by
  obtain ⟨w1, hw1⟩ : ∃ x, x = w.alloc (.cells #[.int .i64 4, .int .i64 1, .slice none 0 0] 69) := ⟨_, rfl⟩
  have hb1 : Below w.heap.size w w1 := by subst hw1; exact (Below.refl _ _).alloc (Nat.le_refl _) _
  have hs1 : Sl EEv (fun _ => True) w1 (some ⟨w.heap.size, 0, none⟩) [(4, 1, [])] := by
    subst hw1
    exact sl_one (heap_alloc_new w _) (ev_mk (k := 4) (j := 1) (d := []) (by decide) (by decide) (Nat.le_refl _) (by decide) (Sl.nil _ _ _ _)) trivial
  have herr : Bk.encErr [(4, 1, [])] = 0 := by decide +kernel
  have hout : Bk.encOut [(4, 1, [])] = [88#8, 0#8] := by decide +kernel
  have Herr := Lib.hid herr
  have Hout := Lib.hid hout
  clear herr hout
  go_enter Try.func11, Try.ntmps11
  go_wp2_with fail
  rw [← hw1]
  clear hw1
  refine (book_Encode w1.heap.size _ _ _ [(4, 1, [])] _ (by rfl) ⟨rfl, hs1⟩ (by decide) (by simp)).mono ?_
  rw [Herr.out, Hout.out]
  rintro e w2 ⟨v2, rfl, ho2, hb2⟩
  obtain ⟨a2, c2, rfl, hc2, hm2, hr2, _⟩ := ho2.shape 2 rfl
  have hbw2 := hb1.trans (hb2.mono hb1.size)
  have hb4 : Below w2.heap.size w2 (w2.alloc (.cells #[.int .u8 88, .int .u8 0] 5)) := (Below.refl _ _).alloc (Nat.le_refl _) _
  have r1 := hr2.below (by decide) hb4
  have r2 : SB (w2.alloc (.cells #[.int .u8 88, .int .u8 0] 5)) (some ⟨w2.heap.size, 0, none⟩) [88#8, 0#8] := sl_cells (heap_alloc_new w2 _) rfl trivial
  go_wp2_with fail
  refine (ref_Same _ _ _ _ _ _ [88#8, 0#8] [88#8, 0#8] _ r1 ⟨rfl, r2⟩).mono ?_
  rintro e w5 ⟨rfl, rfl⟩
  rw [show ([88#8, 0#8] == [88#8, 0#8]) = true by rfl]
  go_wp2
  go_ret
  exact ⟨rfl, hbw2.trans (hb4.mono hbw2.size)⟩

namespace Bk
def big (l : List Ev) : Prop := 500 < l.length ∨ ∃ e ∈ l, 30 < e.2.2.length
instance (l : List Ev) : Decidable (big l) := inferInstanceAs (Decidable (_ ∨ _))
end Bk

set_option maxRecDepth 4096 in
set_option maxHeartbeats 1600000 in
theorem law6_big (a : Option Addr) (n c : Nat) (l : List Bk.Ev) (w : World) (hr : RS EEv w a n l) :
    Calls Try.prog 12 #[.slice a n c] w fun e w' => e = .returned (.bool (decide (Bk.big l))) ∧ Below w.heap.size w w' := by
  obtain ⟨rfl, hs⟩ := hr
  obtain ⟨q, hq⟩ : ∃ q, q = decide (Bk.big l) := ⟨_, rfl⟩
  rw [← hq]
  have Hq := Lib.hid hq
  clear hq
  go_enter Try.func12, Try.ntmps12
  by_cases h5 : 500 < l.length
  · have h5' : 500 < (l.length : Int) := by omega
    have hz : q = true := by rw [Hq.out]; exact decide_eq_true (.inl h5)
    have Hz := Lib.hid hz
    clear h5 hz
    go_wp2_with fail
    go_ret
    exact ⟨by rw [Hz.out]; rfl, Below.refl _ _⟩
  · have h5' : ¬ (500 < (l.length : Int)) := by omega
    go_wp2_with fail
    go_loopw [10] (fun i wr => ∃ k : Nat, k ≤ l.length ∧ i = .int .i64 k ∧ (∀ e ∈ l.take k, e.2.2.length ≤ 30) ∧ Below w.heap.size w wr) (fun i _ => l.length - (intOf i).toNat)
    case atStart => exact ⟨0, Nat.zero_le _, rfl, by simp, Below.refl _ _⟩
    case round =>
      obtain ⟨k, hk, rfl, hall, hb⟩ := hrel
      by_cases hlt : k < l.length
      · have hki : (k : Int) < (l.length : Int) := by omega
        obtain ⟨b1, o1, a', c', rfl, p1, p2, p3, hc', hm', hs', r1, r2⟩ := sl_ev (hs.below (by decide) hb) k hlt
        have htk : l.take (k + 1) = l.take k ++ [l[k]] := (List.take_append_getElem hlt).symm
        have hmem : l[k] ∈ l := List.getElem_mem hlt
        obtain ⟨x, hx⟩ : ∃ x, x = l[k] := ⟨_, rfl⟩
        rw [← hx] at p1 p2 p3 hs' hc' r1 r2 htk hmem
        clear hx
        obtain ⟨x1, x2, x3⟩ := x
        dsimp only at p1 p2 p3 hs' hc' r1 r2
        have hb8 : Below w.heap.size w (wr.alloc (.cells #[.int .i64 x1, .int .i64 x2, .slice a' x3.length c'] 69)) := hb.alloc hb.size _
        by_cases h30 : 30 < x3.length
        · have h30' : 30 < (x3.length : Int) := by omega
          have hz : q = true := by rw [Hq.out]; exact decide_eq_true (.inr ⟨_, hmem, h30⟩)
          have Hz := Lib.hid hz
          clear hz h30 htk hmem hall
          go_wp2_with fail
          go_ret
          exact ⟨by rw [Hz.out]; rfl, hb8⟩
        · have h30' : ¬ (30 < (x3.length : Int)) := by omega
          have hall' : ∀ e ∈ l.take (k + 1), e.2.2.length ≤ 30 := by
            rw [htk]
            intro e he
            rcases List.mem_append.1 he with he | he
            · exact hall e he
            · rw [List.mem_singleton.1 he]; simp; omega
          have Hall := Lib.hid hall'
          clear hall' hall htk hmem h30
          go_wp2_with fail
          go_roundw
          case rel => exact ⟨k + 1, by omega, by go_num, Hall.out, hb8⟩
          case measure => simp [intOf]; omega
      · have hki : ¬ ((k : Int) < (l.length : Int)) := by omega
        rw [List.take_of_length_le (by omega)] at hall
        have hz : q = false := by
          rw [Hq.out]
          refine decide_eq_false fun h => ?_
          rcases h with h | ⟨e, he, h⟩
          · exact h5 h
          · have := hall e he; omega
        have Hz := Lib.hid hz
        clear hz hall
        go_wp2_with fail
        go_ret
        exact ⟨by rw [Hz.out]; rfl, hb⟩
end Go.Proofs.Ytennjoegjghlaaa

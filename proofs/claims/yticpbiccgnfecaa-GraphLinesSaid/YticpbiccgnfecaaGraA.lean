
/-
  Arcs as they come in; the law's own arcs; the reference's table.
-/
import Derived.Test.YticpbiccgnfecaaBas
import Derived.Test.YticpbiccgnfecaaGraP
import Derived.Test.YticpbiccgnfecaaOpen
namespace Go.Proofs.Yticpbiccgnfecaa
open Go.RowKit
set_option linter.unusedVariables false

def EArc : Enc (Int × Int) := EPair EInt EInt
theorem arc_rep {ok : Nat → Prop} {w : World} {cs : List Value} {x : Int × Int} (h : EArc.rep ok w cs x) :
    cs = [.int .i64 x.1, .int .i64 x.2] ∧ (-9223372036854775808 ≤ x.1 ∧ x.1 ≤ 9223372036854775807) ∧ (-9223372036854775808 ≤ x.2 ∧ x.2 ≤ 9223372036854775807) := by
  obtain ⟨c1, c2, rfl, h1, h2⟩ := h
  obtain rfl : c1 = [.int .i64 x.1] := h1.1
  obtain rfl : c2 = [.int .i64 x.2] := h2.1
  exact ⟨rfl, h1.2, h2.2⟩
theorem arc_mk {ok : Nat → Prop} {w : World} {x y : Int} (h1 : -9223372036854775808 ≤ x ∧ x ≤ 9223372036854775807) (h2 : -9223372036854775808 ≤ y ∧ y ≤ 9223372036854775807) : EArc.rep ok w [.int .i64 x, .int .i64 y] (x, y) :=
  ⟨[.int .i64 x], [.int .i64 y], rfl, ⟨rfl, h1⟩, ⟨rfl, h2⟩⟩
theorem sl_arc {ok : Nat → Prop} {w : World} {a : Option Addr} {l : List (Int × Int)} (h : Sl EArc ok w a l) (k : Nat) (hk : k < l.length) :
    ∃ b o, a = some ⟨b, o, none⟩ ∧ w.cell? ⟨b, o + k * 2, none⟩ = some (.int .i64 l[k].1) ∧ w.cell? ⟨b, o + k * 2 + 1, none⟩ = some (.int .i64 l[k].2) ∧ (-9223372036854775808 ≤ l[k].1 ∧ l[k].1 ≤ 9223372036854775807) ∧ (-9223372036854775808 ≤ l[k].2 ∧ l[k].2 ≤ 9223372036854775807) := by
  obtain ⟨b, o, rfl, _, cs, hr, hc⟩ := h k l[k] (List.getElem?_eq_getElem hk)
  obtain ⟨rfl, h2, h3⟩ := arc_rep hr
  have hz : EArc.sz = 2 := rfl
  rw [hz] at hc
  refine ⟨b, o, rfl, by simpa using hc 0 _ rfl, ?_, h2, h3⟩
  have := hc 1 _ rfl; rw [Nat.add_assoc]; exact this
theorem ti_arcs : ElemInfo Try.prog 25 50 EArc.sz 16 := ElemInfo.mk' (z := .agg #[.int .i64 0, .int .i64 0]) Try.underlying25 (by kernel_rfl) rfl (by decide)
theorem ti_ints : ElemInfo Try.prog 23 3 EInt.sz 8 := ElemInfo.mk' (z := .int .i64 0) Try.underlying23 (by kernel_rfl) rfl (by decide)
theorem ti_bools : ElemInfo Try.prog 33 4 EBool.sz 1 := ElemInfo.mk' (z := .bool false) Try.underlying33 (by kernel_rfl) rfl (by decide)

set_option maxHeartbeats 400000 in
theorem law07_arcs (B : Nat) (a : Option Addr) (n c : Nat) (l : List (Int × Int)) (w : World) (hB : w.heap.size = B) (hr : RS EArc w a n l) (hl : n ≤ 100000) :
    Calls Try.prog 12 #[.slice a n c] w fun e w' => ∃ v, e = .returned v ∧ Own EArc 50 B w' v l ∧ Below B w w' := by
  subst hB
  obtain ⟨rfl, hs⟩ := hr
  have hb0 : Below w.heap.size w (w.alloc (.cells #[] 50)) := alloc_below w _
  have ho0 := own_empty EArc 50 w (by decide)
  obtain ⟨w1, hw1⟩ : ∃ x, x = w.alloc (.cells #[] 50) := ⟨_, rfl⟩
  have hex1 := hw1.symm
  rw [← hw1] at hb0 ho0
  clear hw1
  go_enter Try.func12, Try.ntmps12
  go_upto_region 2 with fail
  clear hex1
  go_wp2_with fail
  go_loopw [3, 9] (fun v i wr => ∃ k : Nat, k ≤ l.length ∧ i = .int .i64 k ∧ Own EArc 50 w.heap.size wr v (l.take k) ∧ Below w.heap.size w wr) (fun _ i _ => l.length - (intOf i).toNat)
  case atStart => exact ⟨0, Nat.zero_le _, rfl, ho0, hb0⟩
  case round =>
    clear ho0 hb0
    obtain ⟨k, hk, rfl, ho, hb⟩ := hrel
    by_cases hlt : k < l.length
    · have hki : (k : Int) < (l.length : Int) := by omega
      obtain ⟨b1, o1, rfl, p1, p2, r1, r2⟩ := sl_arc (hs.below (by decide) hb) k hlt
      have htk : l.take (k + 1) = l.take k ++ [l[k]] := (List.take_append_getElem hlt).symm
      obtain ⟨x, hx⟩ : ∃ x, x = l[k] := ⟨_, rfl⟩
      rw [← hx] at p1 p2 r1 r2 htk
      clear hx
      obtain ⟨x1, x2⟩ := x
      dsimp only at p1 p2 r1 r2
      have hnl : (l.take k).length ≤ 100000 := by rw [List.length_take]; omega
      obtain ⟨w4, hw4⟩ : ∃ x, x = wr.alloc (.cells #[.int .i64 x1, .int .i64 x2] 27) := ⟨_, rfl⟩
      have hb4 : Below wr.heap.size wr w4 := by subst hw4; exact alloc_below wr _
      have hh4 : w4.heap[wr.heap.size]? = some (.cells #[.int .i64 x1, .int .i64 x2] 27 (0, 0)) := by subst hw4; exact heap_alloc_new wr _
      obtain ⟨s0, hs0⟩ : ∃ s, s = wr.heap.size := ⟨_, rfl⟩
      rw [← hs0] at hh4
      have z0 : w4.cell? ⟨s0, 0, none⟩ = some (.int .i64 x1) := by simp [World.cell?, hh4]
      have z1 : w4.cell? ⟨s0, 1, none⟩ = some (.int .i64 x2) := by simp [World.cell?, hh4]
      have hbw4 := hb.trans (hb4.mono hb.size)
      have ho4 := ho.below hb4
      have hs04 : s0 < w4.heap.size := cell_lt z0
      have ho5 := ho4.below (alloc_below w4 (.cells #[.int .i64 x1, .int .i64 x2] 50))
      have hs5 : Sl EArc (fun b => some b ≠ u3.ownBlock) (w4.alloc (.cells #[.int .i64 x1, .int .i64 x2] 50)) (some ⟨w4.heap.size, 0, none⟩) [(x1, x2)] :=
        sl_one (heap_alloc_new w4 _) (arc_mk r1 r2) ho4.fresh
      have hb5 := hbw4.alloc hbw4.size (.cells #[.int .i64 x1, .int .i64 x2] 50)
      have Htk := Lib.hid htk
      have Ho5 := Lib.hid ho5
      have Hs5 := Lib.hid hs5
      have Hb5 := Lib.hid hb5
      clear hh4 htk ho ho4 hs5 ho5 hb5
      go_upto_region 5 with fail
      rw [← hw4]
      rw [← hs0]
      clear hw4 hs0 hb4 p1 p2
      go_wp2_with (refine wpList_app EArc rfl rfl rfl rfl ti_arcs Ho5.out rfl Hs5.out ?_ ?_ ?_ ?_)
      · simp [maxLen]; omega
      · simp; omega
      · exact Hb5.out.size
      · intro v' w' ho' hg hv hb'
        rw [← Htk.out] at ho'
        have hbF := Hb5.out.trans hb'
        go_wp2_with fail
        go_roundw
        case rel => exact ⟨k + 1, by omega, by go_num, ho', hbF⟩
        case measure => simp [intOf]; omega
    · have hki : ¬ ((k : Int) < (l.length : Int)) := by omega
      rw [List.take_of_length_le (by omega)] at ho
      go_wp2_with fail
      go_ret
      exact ⟨_, rfl, ho, hb⟩
end Go.Proofs.Yticpbiccgnfecaa


/-
  Where one gets from each node.
-/
import Derived.Test.YticpbiccgnfecaaGraS
namespace Go.Proofs.Yticpbiccgnfecaa
open Go.RowKit
set_option linter.unusedVariables false

namespace Gr
/-- where one gets from i, as the arcs come -/
def tos (n : Nat) (l : Arcs) (i : Nat) : List Int := l.filterMap fun p => if p.1 = (i : Int) ∧ 0 ≤ p.2 ∧ p.2 < (n : Int) then some p.2 else none
theorem tos_len (n : Nat) (l : Arcs) (i : Nat) : (tos n l i).length ≤ l.length := List.length_filterMap_le ..
theorem tos_snoc (n : Nat) (l : Arcs) (i : Nat) (p : Int × Int) : tos n (l ++ [p]) i = tos n l i ++ (if p.1 = (i : Int) ∧ 0 ≤ p.2 ∧ p.2 < (n : Int) then [p.2] else []) := by
  unfold tos
  rw [List.filterMap_append]
  congr 1
  by_cases h : p.1 = (i : Int) ∧ 0 ≤ p.2 ∧ p.2 < (n : Int) <;> simp [h]
theorem mem_tos {n : Nat} {l : Arcs} {i : Nat} (hi : i < n) (x : Int) : x ∈ tos n l i ↔ ∃ v : Nat, x = v ∧ v < n ∧ T n l i v = true := by
  unfold tos
  rw [List.mem_filterMap]
  constructor
  · rintro ⟨⟨p1, p2⟩, hp, h⟩
    split at h
    · rename_i hc
      obtain ⟨h1, h2, h3⟩ := hc
      injection h with h
      dsimp only at h h1 h2 h3
      subst h
      refine ⟨p2.toNat, by omega, by omega, T_iff.2 ⟨hi, by omega, ?_⟩⟩
      rw [show ((p2.toNat : Nat) : Int) = p2 by omega, ← h1]; exact hp
    · cases h
  · rintro ⟨v, rfl, hv, hT⟩
    refine ⟨((i : Int), (v : Int)), (T_iff.1 hT).2.2, ?_⟩
    rw [if_pos ⟨rfl, by omega, by omega⟩]
end Gr

set_option maxRecDepth 4096 in
set_option maxHeartbeats 1600000 in
theorem graph_next (B n : Nat) (a : Option Addr) (m c : Nat) (l : List (Int × Int)) (w : World) (hB : w.heap.size = B) (hr : RS EArc w a m l) (hn : n ≤ 100000) (hl : m ≤ 100000) :
    Calls Try.prog 24 #[.int .i64 n, .slice a m c] w fun e w' => e = .returned (.slice (some ⟨B, 0, none⟩) n n) ∧ (∃ vs, Rows w' B n vs (Gr.rowI n (Gr.T n l))) ∧ Below B w w' := by
  subst hB
  obtain ⟨rfl, hs⟩ := hr
  have hgr := Grid.made 23 3 w n
  have hb0 : Below w.heap.size w (w.alloc (.cells (madeCells #[.slice none 0 0] n) 23)) := alloc_below w _
  obtain ⟨w1, hw1⟩ : ∃ x, x = w.alloc (.cells (madeCells #[.slice none 0 0] n) 23) := ⟨_, rfl⟩
  have hex1 := hw1.symm
  have hn0 : 0 ≤ (n : Int) := by omega
  have hn1 : (n : Int) ≤ 100000 := by omega
  rw [← hw1] at hgr hb0
  obtain ⟨B, hB⟩ : ∃ B, B = w.heap.size := ⟨_, rfl⟩
  rw [← hB] at hgr hb0
  have HB := Lib.hid hB
  rw [← hB]
  clear hw1
  have hmk := run_make_row' (P := Try.prog) 45 23 (.slice none 0 0) 24 Try.underlying45 (by kernel_rfl) rfl .i64 .i64 n (by omega) (by omega)
  go_enter Try.func24, Try.ntmps24
  go_upto_region 2 with fail
  rw [← hB]
  clear hex1 hmk hB
  go_wp2_with fail
  go_loopw [13] (fun i wr => ∃ k : Nat, k ≤ l.length ∧ i = .int .i64 k ∧ (∃ vs, Grid 23 3 wr B n vs (Gr.tos n (l.take k))) ∧ Below B w wr) (fun i _ => l.length - (intOf i).toNat)
  case atStart => exact ⟨0, Nat.zero_le _, rfl, ⟨_, hgr.congr fun i _ => by simp [Gr.tos]⟩, hb0⟩
  case round =>
    clear hgr hb0
    obtain ⟨k, hk, rfl, ⟨vs, hG⟩, hb⟩ := hrel
    have hsr : Sl EArc (fun _ => True) wr a l := hs.below (by decide) (by rw [← HB.out]; exact hb)
    by_cases hlt : k < l.length
    · have hki : (k : Int) < (l.length : Int) := by omega
      obtain ⟨b1, o1, rfl, p1, p2, r1, r2⟩ := sl_arc hsr k hlt
      have htk : l.take (k + 1) = l.take k ++ [l[k]] := (List.take_append_getElem hlt).symm
      obtain ⟨x, hx⟩ : ∃ x, x = l[k] := ⟨_, rfl⟩
      rw [← hx] at p1 p2 r1 r2 htk
      clear hx
      obtain ⟨x1, x2⟩ := x
      dsimp only at p1 p2 r1 r2
      obtain ⟨w4, hw4⟩ : ∃ x, x = wr.alloc (.cells #[.int .i64 x1, .int .i64 x2] 50) := ⟨_, rfl⟩
      have hb4 : Below wr.heap.size wr w4 := by subst hw4; exact alloc_below wr _
      have hh4 : w4.heap[wr.heap.size]? = some (.cells #[.int .i64 x1, .int .i64 x2] 50 (0, 0)) := by subst hw4; exact heap_alloc_new wr _
      have hG4 := hG.below hb4
      have hgw := hG.vec.lt
      have hbw4 : Below B w w4 := hb.trans (hb4.mono (by omega))
      obtain ⟨s0, hs0⟩ : ∃ s, s = wr.heap.size := ⟨_, rfl⟩
      rw [← hs0] at hh4 hgw
      have z0 : w4.cell? ⟨s0, 0, none⟩ = some (.int .i64 x1) := by simp [World.cell?, hh4]
      have z1 : w4.cell? ⟨s0, 1, none⟩ = some (.int .i64 x2) := by simp [World.cell?, hh4]
      have hs04 : s0 < w4.heap.size := cell_lt z0
      have htos : ∀ i, Gr.tos n (l.take (k + 1)) i = Gr.tos n (l.take k) i ++ (if x1 = (i : Int) ∧ 0 ≤ x2 ∧ x2 < (n : Int) then [x2] else []) := fun i => by rw [htk, Gr.tos_snoc]
      have Htos := Lib.hid htos
      have holt : ∀ i, i < n → ∀ b, (vs i).ownBlock = some b → b < s0 := fun i hi b hb => by rw [hs0]; exact ((hG.own i hi).lt b hb).2
      have Holt := Lib.hid holt
      clear holt
      have HG4 := Lib.hid hG4
      clear hh4 htk hG hG4 hb hsr htos
      go_upto_region 5 with fail
      rw [← hw4]
      rw [← hs0]
      clear hw4 hs0 hb4 p1 p2
      by_cases c0 : x1 < 0
      · have hnew : Grid 23 3 w4 B n vs (Gr.tos n (l.take (k + 1))) := HG4.out.congr fun i _ => by rw [Htos.out, if_neg (by omega), List.append_nil]
        have Hnew := Lib.hid hnew
        clear hnew
        go_wp2_with fail
        go_roundw
        case rel => exact ⟨k + 1, by omega, by go_num, ⟨vs, Hnew.out⟩, hbw4⟩
        case measure => simp [intOf]; omega
      by_cases c1 : (n : Int) ≤ x1
      · have hnew : Grid 23 3 w4 B n vs (Gr.tos n (l.take (k + 1))) := HG4.out.congr fun i _ => by rw [Htos.out, if_neg (by omega), List.append_nil]
        have Hnew := Lib.hid hnew
        clear hnew
        go_wp2_with fail
        go_roundw
        case rel => exact ⟨k + 1, by omega, by go_num, ⟨vs, Hnew.out⟩, hbw4⟩
        case measure => simp [intOf]; omega
      by_cases c2 : x2 < 0
      · have hnew : Grid 23 3 w4 B n vs (Gr.tos n (l.take (k + 1))) := HG4.out.congr fun i _ => by rw [Htos.out, if_neg (by omega), List.append_nil]
        have Hnew := Lib.hid hnew
        clear hnew
        go_wp2_with fail
        go_roundw
        case rel => exact ⟨k + 1, by omega, by go_num, ⟨vs, Hnew.out⟩, hbw4⟩
        case measure => simp [intOf]; omega
      by_cases c3 : (n : Int) ≤ x2
      · have hnew : Grid 23 3 w4 B n vs (Gr.tos n (l.take (k + 1))) := HG4.out.congr fun i _ => by rw [Htos.out, if_neg (by omega), List.append_nil]
        have Hnew := Lib.hid hnew
        clear hnew
        go_wp2_with fail
        go_roundw
        case rel => exact ⟨k + 1, by omega, by go_num, ⟨vs, Hnew.out⟩, hbw4⟩
        case measure => simp [intOf]; omega
      obtain ⟨i, rfl⟩ : ∃ i : Nat, x1 = (i : Int) := ⟨x1.toNat, by omega⟩
      have hi : i < n := by omega
      have z2 : w4.cell? ⟨B, i, none⟩ = some (vs i) := HG4.out.vec.cell hi
      have hvl : (Gr.tos n (l.take k) i).length ≤ 100000 := by have := Gr.tos_len n (l.take k) i; rw [List.length_take] at this; omega
      have hBw : B < w4.heap.size := by omega
      have hv4 := HG4.out.own i hi
      obtain ⟨vo, hvo⟩ : ∃ x, x = vs i := ⟨_, rfl⟩
      rw [← hvo] at z2 hv4
      have Hvo := Lib.hid hvo
      have hb7 : Below w4.heap.size w4 (w4.drew.alloc (.cells #[.int .i64 x2] 3)) := (Below.refl _ _).drew.alloc (Nat.le_refl _) _
      have hv7 := hv4.below hb7
      have hsl7 : Sl EInt (fun b => some b ≠ vo.ownBlock) (w4.drew.alloc (.cells #[.int .i64 x2] 3)) (some ⟨w4.heap.size, 0, none⟩) [x2] :=
        sl_one (heap_alloc_new w4.drew _) ⟨rfl, r2⟩ hv4.fresh
      have hne0 : some s0 ≠ vo.ownBlock := fun e => by have := Holt.out i hi s0 (by rw [← Hvo.out]; exact e.symm); omega
      have Hne0 := Lib.hid hne0
      clear hne0
      have hfz : w4.frozen? ⟨B, i, none⟩ = false := HG4.out.vec.free i
      obtain ⟨L, hL⟩ : ∃ L, L = Gr.tos n (l.take k) i := ⟨_, rfl⟩
      rw [← hL] at hvl hv4 hv7
      have HL := Lib.hid hL
      have i0 : (0 : Int) ≤ (i : Int) := by omega
      have i1 : (i : Int) < (n : Int) := by omega
      have Hv7 := Lib.hid hv7
      have Hsl7 := Lib.hid hsl7
      have Hb7 := Lib.hid hb7
      have Hv4 := Lib.hid hv4
      clear hvo hL hv7 hsl7 hb7 hv4
      go_upto_region 6 with fail
      go_region_law ((rw [if_pos (by simp [Region.wanted])]); (refine step_app EInt (by rfl) (by rfl) (by rfl) ti_ints Hv7.out rfl Hsl7.out (by unfold maxLen; simp; omega) (by simp; omega) (by simp; omega) ?_; intro v8 w8 ho8 hg8 hv8 hb8; obtain ⟨a12, c12, rfl, hc12, hm12, hr12, ho12⟩ := ho8.shape (L.length + 1) (by simp); have k0 : w8.cell? ⟨s0, 0, none⟩ = some (.int .i64 i) := (by rw [cell_keep (hg8.block s0 (by simp; omega) Hne0.out)]; exact cell_thru z0 Hb7.out); have k1 : w8.cell? ⟨s0, 1, none⟩ = some (.int .i64 x2) := (by rw [cell_keep (hg8.block s0 (by simp; omega) Hne0.out)]; exact cell_thru z1 Hb7.out); have k2 : w8.cell? ⟨B, i, none⟩ = some vo := (by rw [hb8.cell (p := ⟨B, i, none⟩) (Nat.lt_succ_self B)]; exact cell_thru z2 Hb7.out); have kf : w8.frozen? ⟨B, i, none⟩ = false := (by rw [hb8.frozen (p := ⟨B, i, none⟩) (Nat.lt_succ_self B)]; exact (Hb7.out.frozen (p := ⟨B, i, none⟩) hBw).trans hfz)))
      all_goals
        have hGs := HG4.out.set (w1 := w8) hi (v' := .slice a12 (L.length + 1) c12) (l' := L ++ [x2]) (fun q hq hne => (hg8.block q (by simp; omega) (by rw [Hvo.out]; exact hne)).trans (Hb7.out.block q hq)) (by simpa using ho12) (by
          rcases hv8 with h | ⟨b, h, h2⟩
          · exact .inr (.inl (by rw [← Hvo.out]; exact h))
          · exact .inr (.inr ⟨b, h, by simp at h2; omega⟩))
        have hGn := hGs.congr (ls' := Gr.tos n (l.take (k + 1))) fun j hj => by
          rw [Htos.out]
          unfold updL
          by_cases e : j = i
          · subst e; rw [if_pos rfl, if_pos ⟨rfl, by omega, by omega⟩, HL.out]
          · rw [if_neg e, if_neg (by omega), List.append_nil]
        have hbn : Below B w (w8.setCell ⟨B, i, none⟩ (.slice a12 (L.length + 1) c12)) := ((hbw4.trans (Hb7.out.mono (Nat.le_of_lt hBw))).trans (hb8.mono (Nat.le_succ B))).setCell (Nat.le_refl _) _
        have HGn := Lib.hid hGn
        have Hbn := Lib.hid hbn
        clear hGs hGn hbn
        go_wp2_with fail
        go_roundw
        case rel => exact ⟨k + 1, by omega, by go_num, ⟨_, HGn.out⟩, Hbn.out⟩
        case measure => simp [intOf]; omega
    · have hki : ¬ ((k : Int) < (l.length : Int)) := by omega
      rw [List.take_of_length_le (by omega)] at hG
      have HG := Lib.hid hG
      have Hb := Lib.hid hb
      clear hG hb hsr hlt
      go_wp2_with fail
      clear hki hk
      go_loopw [53] (fun i w2 => ∃ k : Nat, k ≤ n ∧ i = .int .i64 k ∧ (∃ vs, Grid 23 3 w2 B n vs (fun i => if i < k then Gr.rowI n (Gr.T n l) i else Gr.tos n l i)) ∧ Below B w w2) (fun i _ => n - (intOf i).toNat)
      case atStart => exact ⟨0, Nat.zero_le _, rfl, ⟨_, HG.out.congr fun i _ => by rw [if_neg (by omega)]⟩, Hb.out⟩
      case round =>
        clear HG Hb
        obtain ⟨k, hk, rfl, ⟨vs, hG⟩, hb⟩ := hrel
        by_cases hlt : k < n
        · have hki : (k : Int) < (n : Int) := by omega
          have hk0 : (0 : Int) ≤ (k : Int) := by omega
          have z2 := hG.vec.cell hlt
          have hv4 := hG.own k hlt
          rw [if_neg (by omega)] at hv4
          have hvl : (Gr.tos n l k).length ≤ 100000 := by have := Gr.tos_len n l k; omega
          have hgw := hG.vec.lt
          obtain ⟨vo, hvo⟩ : ∃ x, x = vs k := ⟨_, rfl⟩
          rw [← hvo] at z2 hv4
          have hneB : some B ≠ vo.ownBlock := fun e => by have := (hv4.lt B e.symm).1; omega
          have Hvo := Lib.hid hvo
          have HG := Lib.hid hG
          have Hb := Lib.hid hb
          have Hv4 := Lib.hid hv4
          have HneB := Lib.hid hneB
          have hfz := hG.vec.free k
          clear hvo hG hb hv4 hneB
          go_wp2_with fail
          refine (sort_own Hv4.out (by omega)).mono ?_
          rintro e w5 ⟨rfl, ho5, hg5⟩
          have y2 : w5.cell? ⟨B, k, none⟩ = some vo := (cell_keep (hg5.block B hgw HneB.out)).trans z2
          have hl5 : (Gr.msort (Gr.tos n l k)).length ≤ 1000000 := by rw [Gr.msort_len]; omega
          have Ho5 := Lib.hid ho5
          have Hg5 := Lib.hid hg5
          have Hl5 := Lib.hid hl5
          clear ho5 hg5 hl5 z2
          go_wp2_with fail
          refine (compact_own Ho5.out Hl5.out (compact_mem _)).mono ?_
          rintro e w6 ⟨v6, rfl, ho6, hg6, hv6⟩
          have hgw5 : B < w5.heap.size := Nat.lt_of_lt_of_le hgw Hg5.out.size
          have x2 : w6.cell? ⟨B, k, none⟩ = some vo := (cell_keep (hg6.block B hgw5 HneB.out)).trans y2
          have xf : w6.frozen? ⟨B, k, none⟩ = false := (World.frozen?_of_block (a := ⟨B, k, none⟩) (hg6.block B hgw5 HneB.out)).trans ((World.frozen?_of_block (a := ⟨B, k, none⟩) (Hg5.out.block B hgw HneB.out)).trans hfz)
          have hrow : Lib.compact (Gr.msort (Gr.tos n l k)) = Gr.rowI n (Gr.T n l) k := Gr.compact_row (Gr.mem_tos hlt)
          rw [hrow] at ho6
          have hGn := (HG.out.set (w1 := w6) hlt (v' := v6) (l' := Gr.rowI n (Gr.T n l) k) (fun q hq hne => by
            rw [hg6.block q (Nat.lt_of_lt_of_le hq Hg5.out.size) (by rw [Hvo.out]; exact hne), Hg5.out.block q hq (by rw [Hvo.out]; exact hne)]) ho6 (.inr (.inl (by rw [hv6, Hvo.out])))).congr (ls' := fun i => if i < k + 1 then Gr.rowI n (Gr.T n l) i else Gr.tos n l i) fun j hj => by
              unfold updL
              by_cases e : j = k
              · subst e; rw [if_pos rfl, if_pos (by omega)]
              · rw [if_neg e]
                show (if j < k then Gr.rowI n (Gr.T n l) j else Gr.tos n l j) = if j < k + 1 then Gr.rowI n (Gr.T n l) j else Gr.tos n l j
                by_cases e2 : j < k
                · rw [if_pos e2, if_pos (by omega)]
                · rw [if_neg e2, if_neg (by omega)]
          have hbv : ∀ q, vo.ownBlock = some q → B ≤ q := fun q hq => by have := (Hv4.out.lt q hq).1; omega
          have hb6 : Below B w (w6.setCell ⟨B, k, none⟩ v6) := ((Hb.out.grown Hg5.out (by omega) fun q hq => hbv q hq).grown hg6 (by omega) fun q hq => hbv q hq).setCell (Nat.le_refl _) _
          obtain ⟨a6, c6, rfl, _, _, _, _⟩ := ho6.shape _ rfl
          have HGn := Lib.hid hGn
          have Hb6 := Lib.hid hb6
          clear hGn hb6 hrow ho6 hg6 hv6 hbv y2
          go_wp2_with fail
          go_roundw
          case rel => exact ⟨k + 1, by omega, by go_num, ⟨_, HGn.out⟩, Hb6.out⟩
          case measure => simp [intOf]; omega
        · have hki : ¬ ((k : Int) < (n : Int)) := by omega
          have hR := (hG.congr (ls' := Gr.rowI n (Gr.T n l)) fun j hj => by rw [if_pos (by omega)]).rows
          clear hG
          go_wp2_with fail
          go_ret
          exact ⟨rfl, ⟨vs, hR⟩, hb⟩
end Go.Proofs.Yticpbiccgnfecaa

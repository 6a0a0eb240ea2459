
/-
  The walk of the law 'GraphTurned'.
-/
import Derived.Test.YticpbiccgnfecaaGraphEitherWalk
import Derived.Test.YticpbiccgnfecaaGraphMoreWalk
import Derived.Test.YticpbiccgnfecaaGraQ
namespace Go.Proofs.Yticpbiccgnfecaa
open Go.RowKit
set_option linter.unusedVariables false

namespace Gr
def turn (l : Arcs) : Arcs := l.map fun p => (p.2, p.1)
theorem turn_len (l : Arcs) : (turn l).length = l.length := by unfold turn; rw [List.length_map]
theorem turn_snoc (l : Arcs) (p : Int × Int) : turn (l ++ [p]) = turn l ++ [(p.2, p.1)] := by simp [turn]
theorem T_turn (n : Nat) (l : Arcs) : T n (turn l) = fun u v => T n l v u := by
  funext u v
  rw [Bool.eq_iff_iff, T_iff, T_iff]
  unfold turn
  rw [List.mem_map]
  constructor
  · rintro ⟨h1, h2, ⟨p1, p2⟩, hp, e⟩
    injection e with e1 e2
    dsimp only at e1 e2
    subst e1; subst e2
    exact ⟨h2, h1, hp⟩
  · rintro ⟨h1, h2, h⟩
    exact ⟨h2, h1, ((v : Int), (u : Int)), h, rfl⟩
theorem way_turn (n : Nat) (l : Arcs) (i j : Nat) : wayB (T n (turn l)) n i j = wayB (T n l) n j i := by rw [T_turn]; exact wayB_rev _ _ _ _
theorem cyc_turn {n : Nat} {l : Arcs} {c d : List Nat} (hc : CycS (T n l) c) (hd : CycS (T n (turn l)) d) : c.length = d.length := by
  rw [T_turn] at hd
  exact hc.len hd (fun x hx => hx.rev) (fun x hx => hx.rev)
end Gr

set_option maxRecDepth 8192 in
set_option maxHeartbeats 6400000 in
theorem law_GraphTurned (n : Int) (a1 : Option Addr) (c1 : Nat) (l : List (Int × Int)) (W : World) (hn : -9223372036854775808 ≤ n ∧ n ≤ 9223372036854775807) (hs1 : Sl EArc (fun _ => True) W a1 l) (hc1 : l.length ≤ c1) (hm1 : c1 ≤ maxLen) :
    Calls Try.prog 9 #[.int .i64 n, .slice a1 l.length c1] W fun e W' => e = .returned (.bool true) ∧ Below W.heap.size W W' := by
  obtain ⟨n0, n1⟩ := hn
  unfold maxLen at hm1
  have Hs1 := Lib.hid hs1
  clear hs1
  go_enter Try.func9, Try.ntmps9
  go_wp2_with fail
  refine (law07_found _ _ rfl).mono ?_
  rintro e w3 ⟨rfl, hb3⟩
  have Hb03 := Lib.hid hb3
  clear hb3
  go_wp2_with fail
  refine (law07_ordered _ _ rfl).mono ?_
  rintro e w4 ⟨rfl, hb4⟩
  have Hb04 := Lib.hid (Hb03.out.trans (hb4.mono Hb03.out.size))
  clear hb4
  by_cases k0 : 40 < n
  · go_wp2_with fail
    go_ret
    exact ⟨rfl, Hb04.out⟩
  by_cases k1 : (200 : Int) < (l.length : Int)
  · go_wp2_with fail
    go_ret
    exact ⟨rfl, Hb04.out⟩
  obtain ⟨N, hN⟩ : ∃ N : Nat, N = (max n 0).toNat := ⟨_, rfl⟩
  have hN2 : min (max n 0) 400 = (N : Int) := by omega
  have hN3 : N ≤ 40 := by omega
  have hN4 : (N : Int) ≤ 40 := by omega
  have hN5 : 0 ≤ (N : Int) := by omega
  have hmax : max n 0 = (N : Int) := by omega
  have HN2 := Lib.hid hN2
  have hll : l.length ≤ 200 := by omega
  have hb5 : Below w4.heap.size w4 (w4.alloc (.cells #[] 27)) := alloc_below w4 _
  have ho5 := own_empty EArc 27 w4 (by decide)
  obtain ⟨w5, hw5⟩ : ∃ x, x = w4.alloc (.cells #[] 27) := ⟨_, rfl⟩
  have hex5 := hw5.symm
  rw [← hw5] at hb5 ho5
  obtain ⟨B4, hB4⟩ : ∃ x, x = w4.heap.size := ⟨_, rfl⟩
  have HB4 := Lib.hid hB4
  rw [← hB4] at hb5 ho5
  have hB4' := hB4.symm
  have hmax2 := Lib.hid hmax
  clear hN hN2 hw5 hB4 hmax
  go_upto_region 6 with fail
  clear hex5 hB4'
  go_wp2_with fail
  go_loopw [5, 35] (fun v i wr => ∃ k : Nat, k ≤ l.length ∧ i = .int .i64 k ∧ Own EArc 27 B4 wr v (Gr.turn (l.take k)) ∧ Below B4 w4 wr) (fun _ i _ => l.length - (intOf i).toNat)
  case atStart => exact ⟨0, Nat.zero_le _, rfl, by simpa [Gr.turn] using ho5, hb5⟩
  case round =>
    clear ho5 hb5
    obtain ⟨k, hk, rfl, ho, hb⟩ := hrel
    by_cases hlt : k < l.length
    · have hki : (k : Int) < (l.length : Int) := by omega
      have hsr := (Hs1.out.below (by decide) Hb04.out).below (by decide) (show Below w4.heap.size w4 wr by rw [← HB4.out]; exact hb)
      obtain ⟨b1, o1, hae, p1, p2, r1, r2⟩ := sl_arc hsr k hlt
      have htk : Gr.turn (l.take (k + 1)) = Gr.turn (l.take k) ++ [(l[k].2, l[k].1)] := by rw [← List.take_append_getElem hlt]; exact Gr.turn_snoc _ _
      obtain ⟨x, hx⟩ : ∃ x, x = l[k] := ⟨_, rfl⟩
      rw [← hx] at p1 p2 r1 r2 htk
      clear hx
      obtain ⟨x1, x2⟩ := x
      dsimp only at p1 p2 r1 r2 htk
      have hnl : (Gr.turn (l.take k)).length ≤ 100000 := by rw [Gr.turn_len, List.length_take]; omega
      obtain ⟨w6, hw6⟩ : ∃ x, x = wr.alloc (.cells #[.int .i64 x1, .int .i64 x2] 27) := ⟨_, rfl⟩
      have hb6 : Below wr.heap.size wr w6 := by subst hw6; exact alloc_below wr _
      have hh6 : w6.heap[wr.heap.size]? = some (.cells #[.int .i64 x1, .int .i64 x2] 27 (0, 0)) := by subst hw6; exact heap_alloc_new wr _
      obtain ⟨s0, hs0⟩ : ∃ s, s = wr.heap.size := ⟨_, rfl⟩
      have hBw : B4 ≤ wr.heap.size := by have := hb.size; rw [← HB4.out] at this; exact this
      rw [← hs0] at hh6
      have z0 : w6.cell? ⟨s0, 0, none⟩ = some (.int .i64 x1) := by simp [World.cell?, hh6]
      have z1 : w6.cell? ⟨s0, 1, none⟩ = some (.int .i64 x2) := by simp [World.cell?, hh6]
      have hbw6 := hb.trans (hb6.mono hBw)
      have ho6 := ho.below hb6
      have hs06 : s0 < w6.heap.size := cell_lt z0
      have Ho7 := Lib.hid (ho6.below (alloc_below w6 (.cells #[.int .i64 x2, .int .i64 x1] 27)))
      have Hs7 : RowKit.Hid (Sl EArc (fun b => some b ≠ u5.ownBlock) (w6.alloc (.cells #[.int .i64 x2, .int .i64 x1] 27)) (some ⟨w6.heap.size, 0, none⟩) [(x2, x1)]) :=
        Lib.hid (sl_one (heap_alloc_new w6 _) (arc_mk r2 r1) ho6.fresh)
      have hB6 : B4 ≤ w6.heap.size := by omega
      have Hb7 := Lib.hid (hbw6.alloc hB6 (.cells #[.int .i64 x2, .int .i64 x1] 27))
      have Htk := Lib.hid htk
      subst hae
      clear hh6 htk ho ho6 hsr
      go_upto_region 9 with fail
      rw [← hw6]
      rw [← hs0]
      clear hw6 hs0 hb6 p1 p2
      go_wp2_with (refine wpList_app EArc rfl rfl (by rfl) (by rfl) ti_pairs Ho7.out rfl Hs7.out ?_ ?_ ?_ ?_)
      any_goals (first | omega | (simp [maxLen]; omega) | (simp; omega) | (simp; done))
      intro v' w' ho' hg hv hb'
      rw [← Htk.out] at ho'
      have hbF := Hb7.out.trans hb'
      go_wp2_with fail
      go_roundw
      case rel => exact ⟨k + 1, by omega, by go_num, ho', hbF⟩
      case measure => simp [intOf]; omega
    · have hki : ¬ ((k : Int) < (l.length : Int)) := by omega
      rw [List.take_of_length_le (by omega)] at ho
      obtain ⟨w6, rfl⟩ : ∃ x : World, x = wr := ⟨_, rfl⟩
      have Hb06 := Lib.hid (Hb04.out.trans (hb.mono (by rw [HB4.out]; exact Hb04.out.size)))
      obtain ⟨aT, cT, rfl, hcT, hmT, hrT, hxT⟩ := ho.shape l.length (by rw [Gr.turn_len])
      have HrT6 := Lib.hid hrT
      have htl : (Gr.turn l).length = l.length := Gr.turn_len l
      have Htl := Lib.hid htl
      clear ho hrT hxT hb htl hlt hk
      go_wp2_with fail
      refine (law07_arcs _ _ _ _ l _ rfl ⟨rfl, Hs1.out.below (by decide) Hb06.out⟩ (by omega)).mono ?_
      rintro e w7 ⟨v7, rfl, ho7, hb7⟩
      obtain ⟨a7, c7, rfl, hc7, hm7, hr7, _⟩ := ho7.shape l.length rfl
      have Hb07 := Lib.hid (Hb06.out.trans (hb7.mono Hb06.out.size))
      have HrT7 := Lib.hid (HrT6.out.below (by decide) hb7)
      have Hr7 := Lib.hid hr7
      clear ho7 hb7 hr7
      go_wp2_with fail
      refine (graph_Reach _ n N _ _ _ l _ rfl Hr7.out HN2.out (by omega)).mono ?_
      rintro e w8 ⟨g1, rows1, cp1, rfl, hM1, hb8⟩
      have Hb08 := Lib.hid (Hb07.out.trans (hb8.mono Hb07.out.size))
      have HrT8 := Lib.hid (HrT7.out.below (by decide) hb8)
      have HM1 := Lib.hid hM1
      clear hM1 hb8
      go_wp2_with fail
      refine (law07_arcs _ _ _ _ (Gr.turn l) _ rfl HrT8.out (by omega)).mono ?_
      rintro e w9 ⟨v9, rfl, ho9, hb9⟩
      obtain ⟨a9, c9, rfl, hc9, hm9, hr9, _⟩ := ho9.shape l.length Htl.out.symm
      have Hb09 := Lib.hid (Hb08.out.trans (hb9.mono Hb08.out.size))
      have HrT9 := Lib.hid (HrT8.out.below (by decide) hb9)
      have HM19 := Lib.hid (HM1.out.below hb9)
      have Hr9 := Lib.hid hr9
      clear ho9 hb9 hr9 HM1
      go_wp2_with fail
      refine (graph_Reach _ n N _ _ _ (Gr.turn l) _ rfl Hr9.out HN2.out (by omega)).mono ?_
      rintro e w10 ⟨g2, rows2, cp2, rfl, hM2, hb10⟩
      have Hb010 := Lib.hid (Hb09.out.trans (hb10.mono Hb09.out.size))
      have HrT10 := Lib.hid (HrT9.out.below (by decide) hb10)
      have HM110 := Lib.hid (HM19.out.below hb10)
      have HM2 := Lib.hid hM2
      clear hM2 hb10 HM19
      have hmax := hmax2.out
      go_upto_region 15 with fail
      clear hmax
      go_wp2_with fail
      go_loopw [70] (fun i wr => ∃ k : Nat, k ≤ N ∧ i = .int .i64 k ∧ w10 = wr) (fun i _ => N - (intOf i).toNat)
      case atStart => exact ⟨0, Nat.zero_le _, rfl, rfl⟩
      case round =>
        obtain ⟨k, hk, rfl, rfl⟩ := hrel
        by_cases hlt : k < N
        · have hki : (k : Int) < (N : Int) := by omega
          have hk0 : (0 : Int) ≤ (k : Int) := by omega
          have y1 := HM110.out.cell hlt
          have y2 := HM2.out.cell hlt
          go_wp2_with fail
          go_roundw
          case rel => exact ⟨k + 1, by omega, by go_num, trivial⟩
          case measure => simp [intOf]; omega
        · have hki : ¬ ((k : Int) < (N : Int)) := by omega
          clear hlt hk
          go_wp2_with fail
          go_loopw [94] (fun i wr => ∃ k : Nat, k ≤ N ∧ i = .int .i64 k ∧ ∃ q, wr = w10.drewN q) (fun i _ => N - (intOf i).toNat)
          case atStart => exact ⟨0, Nat.zero_le _, rfl, 0, rfl⟩
          case round =>
            obtain ⟨k, hk, rfl, q, rfl⟩ := hrel
            by_cases hlt : k < N
            · have hki : (k : Int) < (N : Int) := by omega
              have hk0 : (0 : Int) ≤ (k : Int) := by omega
              have y1 := HM110.out.cell hlt
              obtain ⟨r1, hr1⟩ : ∃ x, x = rows1 k := ⟨_, rfl⟩
              obtain ⟨e1, he1⟩ : ∃ x, x = cp1 k := ⟨_, rfl⟩
              rw [← hr1, ← he1] at y1
              have Hr1 := Lib.hid hr1
              clear hr1 he1
              go_wp2_with fail
              go_loopw [99] (fun i wj => ∃ j : Nat, j ≤ N ∧ i = .int .i64 j ∧ ∃ q, wj = w10.drewN q) (fun i _ => N - (intOf i).toNat)
              case atStart => exact ⟨0, Nat.zero_le _, rfl, q, rfl⟩
              case round =>
                obtain ⟨j, hj, rfl, q2, rfl⟩ := hrel
                by_cases hjl : j < N
                · have hji : (j : Int) < (N : Int) := by omega
                  have hj0 : (0 : Int) ≤ (j : Int) := by omega
                  have y2 := HM2.out.cell hjl
                  have y3 := HM110.out.at hlt hjl
                  have y4 := HM2.out.at hjl hlt
                  rw [Gr.way_turn] at y4
                  rw [← Hr1.out] at y3
                  obtain ⟨r2, hr2⟩ : ∃ x, x = rows2 j := ⟨_, rfl⟩
                  obtain ⟨e2, he2⟩ : ∃ x, x = cp2 j := ⟨_, rfl⟩
                  obtain ⟨bb, hbb⟩ : ∃ x, x = Gr.wayB (Gr.T N l) N k j := ⟨_, rfl⟩
                  rw [← hr2, ← he2] at y2
                  rw [← hbb] at y3
                  rw [← hr2, ← hbb] at y4
                  clear hbb hr2 he2
                  go_upto_region 27 with fail
                  go_quiet (fail)
                  have hbb : (bb != bb) = false := by cases bb <;> rfl
                  go_wp2_with fail
                  go_roundw
                  case rel => exact ⟨j + 1, by omega, by go_num, _, rfl⟩
                  case measure => simp [intOf]; omega
                · have hji : ¬ ((j : Int) < (N : Int)) := by omega
                  go_wp2_with fail
                  go_roundw
                  case rel => exact ⟨k + 1, by omega, by go_num, _, rfl⟩
                  case measure => simp [intOf]; omega
            · have hki : ¬ ((k : Int) < (N : Int)) := by omega
              obtain ⟨w11, hw11⟩ : ∃ x, x = w10.drewN q := ⟨_, rfl⟩
              have Hb011 := Lib.hid (show Below W.heap.size W w11 by rw [hw11]; exact drewN_below Hb010.out q)
              have HrT11 := Lib.hid (show RS EArc w11 aT l.length (Gr.turn l) from ⟨HrT10.out.1, by rw [hw11]; exact HrT10.out.2.heap (by decide) (drewN_heap w10 q)⟩)
              rw [← hw11]
              clear hw11 hlt hk
              go_wp2_with fail
              refine (law07_arcs _ _ _ _ l _ rfl ⟨rfl, Hs1.out.below (by decide) Hb011.out⟩ (by omega)).mono ?_
              rintro e w12 ⟨v12, rfl, ho12, hb12⟩
              obtain ⟨a12, c12, rfl, hc12, hm12, hr12, _⟩ := ho12.shape l.length rfl
              have Hb012 := Lib.hid (Hb011.out.trans (hb12.mono Hb011.out.size))
              have HrT12 := Lib.hid (HrT11.out.below (by decide) hb12)
              have Hr12 := Lib.hid hr12
              clear ho12 hb12 hr12
              go_wp2_with fail
              refine (graph_Cycle _ n N _ _ _ l _ rfl Hr12.out HN2.out (by omega)).mono ?_
              rintro e w13 ⟨v13, cy, rfl, hcy, ho13, hb13⟩
              have Hb013 := Lib.hid (Hb012.out.trans (hb13.mono Hb012.out.size))
              have HrT13 := Lib.hid (HrT12.out.below (by decide) hb13)
              have Hcy := Lib.hid hcy
              obtain ⟨K, hK⟩ : ∃ K, K = cy.length := ⟨_, rfl⟩
              have hlcy := cyc_len (Gr.T_bd N l) hcy
              obtain ⟨a13, c13, rfl, _, _, hz13, _⟩ := ho13.shape K (by rw [natI_len]; exact hK)
              rw [← hK] at hlcy
              have HK := Lib.hid hK
              clear ho13 hb13 hcy hK hz13
              go_wp2_with fail
              refine (law07_arcs _ _ _ _ (Gr.turn l) _ rfl HrT13.out (by omega)).mono ?_
              rintro e w14 ⟨v14, rfl, ho14, hb14⟩
              obtain ⟨a14, c14, rfl, hc14, hm14, hr14, _⟩ := ho14.shape l.length Htl.out.symm
              have Hb014 := Lib.hid (Hb013.out.trans (hb14.mono Hb013.out.size))
              have HrT14 := Lib.hid (HrT13.out.below (by decide) hb14)
              have Hr14 := Lib.hid hr14
              clear ho14 hb14 hr14
              go_wp2_with fail
              refine (graph_Cycle _ n N _ _ _ (Gr.turn l) _ rfl Hr14.out HN2.out (by omega)).mono ?_
              rintro e w15 ⟨v15, cy2, rfl, hcy2, ho15, hb15⟩
              have Hb015 := Lib.hid (Hb014.out.trans (hb15.mono Hb014.out.size))
              have HrT15 := Lib.hid (HrT14.out.below (by decide) hb15)
              have Hcy2 := Lib.hid hcy2
              have hK2 : K = cy2.length := by rw [HK.out]; exact Gr.cyc_turn Hcy.out hcy2
              obtain ⟨a15, c15, rfl, _, _, hz15, _⟩ := ho15.shape K (by rw [natI_len]; exact hK2)
              have HK2 := Lib.hid hK2
              clear ho15 hb15 hcy2 hK2 hz15
              go_wp2_with fail
              refine (law07_arcs _ _ _ _ l _ rfl ⟨rfl, Hs1.out.below (by decide) Hb015.out⟩ (by omega)).mono ?_
              rintro e w16 ⟨v16, rfl, ho16, hb16⟩
              obtain ⟨a16, c16, rfl, hc16, hm16, hr16, _⟩ := ho16.shape l.length rfl
              have Hb016 := Lib.hid (Hb015.out.trans (hb16.mono Hb015.out.size))
              have HrT16 := Lib.hid (HrT15.out.below (by decide) hb16)
              have Hr16 := Lib.hid hr16
              clear ho16 hb16 hr16
              go_wp2_with fail
              refine (graph_Order _ n N _ _ _ l _ rfl Hr16.out HN2.out (by omega)).mono ?_
              rintro e w17 ⟨v17, rfl, ho17, hb17⟩
              have hei1 := Gr.either (Gr.T_bd N l) Hcy.out
              have hei2 := Gr.either (Gr.T_bd N (Gr.turn l)) Hcy2.out
              rw [← HK.out] at hei1
              rw [← HK2.out] at hei2
              obtain ⟨bo, hbo⟩ : ∃ b, b = !decide (0 < K) := ⟨_, rfl⟩
              rw [← hbo] at hei1 hei2
              have Hei2 := Lib.hid hei2
              rw [hei1]
              have Hb017 := Lib.hid (Hb016.out.trans (hb17.mono Hb016.out.size))
              have HrT17 := Lib.hid (HrT16.out.below (by decide) hb17)
              clear ho17 hb17 hei1 hei2 hbo
              go_wp2_with fail
              refine (law07_arcs _ _ _ _ (Gr.turn l) _ rfl HrT17.out (by omega)).mono ?_
              rintro e w18 ⟨v18, rfl, ho18, hb18⟩
              obtain ⟨a18, c18, rfl, hc18, hm18, hr18, _⟩ := ho18.shape l.length Htl.out.symm
              have Hb018 := Lib.hid (Hb017.out.trans (hb18.mono Hb017.out.size))
              have Hr18 := Lib.hid hr18
              clear ho18 hb18 hr18
              go_wp2_with fail
              refine (graph_Order _ n N _ _ _ (Gr.turn l) _ rfl Hr18.out HN2.out (by omega)).mono ?_
              rintro e w19 ⟨v19, rfl, ho19, hb19⟩
              rw [Hei2.out]
              have Hb019 := Lib.hid (Hb018.out.trans (hb19.mono Hb018.out.size))
              clear ho19 hb19
              have hbb : (bo == bo) = true := by simp
              go_wp2_with fail
              go_ret
              exact ⟨rfl, Hb019.out⟩
end Go.Proofs.Yticpbiccgnfecaa

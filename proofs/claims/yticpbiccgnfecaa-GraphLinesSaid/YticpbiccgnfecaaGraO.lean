
/-
  The order that the program makes.
-/
import Derived.Test.YticpbiccgnfecaaGraR
namespace Go.Proofs.Yticpbiccgnfecaa
open Go.RowKit
set_option linter.unusedVariables false

/-- nodes in their order, or that there is none -/
def OrdPost (B N : Nat) (R : Gr.Rel) (w : World) (e : Ending) (w' : World) : Prop :=
  ∃ v, e = .returned (.tuple #[v, .bool (Gr.topo N R N []).isSome]) ∧ Own EInt 3 B w' v (natI ((Gr.topo N R N []).getD [])) ∧ Below B w w'
theorem natI_get (l : List Nat) (k : Nat) (h : k < (natI l).length) : (natI l)[k] = ((l[k]'(by rw [natI_len] at h; exact h) : Nat) : Int) := by simp [natI]
namespace Gr
/-- the count with a part of one row more -/
def part (c : Nat → Nat) (r : List Nat) (v : Nat) : Nat := c v + if v ∈ r then 1 else 0
theorem part_nil (c : Nat → Nat) (v : Nat) : part c [] v = c v := by simp [part]
theorem part_snoc (c : Nat → Nat) {r : List Nat} {u : Nat} (h : u ∉ r) (v : Nat) : part c (r ++ [u]) v = if v = u then part c r u + 1 else part c r v := by
  unfold part
  by_cases e : v = u
  · subst e; rw [if_pos rfl]; simp [h]
  · rw [if_neg e]; simp [e]
theorem part_row (n : Nat) (R : Rel) (i : Nat) {v : Nat} (hv : v < n) : part (cnt n R i) (rowN n R i) v = cnt n R (i + 1) v := by
  unfold part
  rw [cnt_succ]
  congr 1
  by_cases h : R i v = true
  · rw [if_pos (mem_row.2 ⟨hv, h⟩), if_pos h]
  · rw [if_neg (fun hm => h (mem_row.1 hm).2), if_neg h]
theorem take_fresh {l : List Nat} (h : l.Nodup) {j : Nat} (hj : j < l.length) : l[j] ∉ l.take j := by
  intro hm
  obtain ⟨i, hi, e⟩ := List.mem_iff_getElem.1 hm
  rw [List.getElem_take] at e
  rw [List.length_take] at hi
  exact List.pairwise_iff_getElem.1 h i j (by omega) hj (by omega) e
end Gr

set_option maxRecDepth 4096 in
set_option maxHeartbeats 1600000 in
theorem graph_Order (B : Nat) (n : Int) (N : Nat) (a : Option Addr) (m c : Nat) (l : List (Int × Int)) (w : World) (hB : w.heap.size = B) (hr : RS EArc w a m l) (hN : min (max n 0) 400 = (N : Int)) (hl : m ≤ 100000) :
    Calls Try.prog 18 #[.int .i64 n, .slice a m c] w (OrdPost B N (Gr.T N l) w) := by
  have hNl : N ≤ 400 := by omega
  have HN := Lib.hid hN
  have hN0 : (0 : Int) ≤ (N : Int) := by omega
  have hN1 : (N : Int) ≤ 400 := by omega
  clear hN
  have hmk := run_make_row' (P := Try.prog) 23 3 (.int .i64 0) 8 Try.underlying23 (by kernel_rfl) rfl .i64 .i64 N (by omega) (by omega)
  have hmk2 := run_make_row' (P := Try.prog) 33 4 (.bool false) 1 Try.underlying33 (by kernel_rfl) rfl .i64 .i64 N (by omega) (by omega)
  go_enter Try.func18, Try.ntmps18
  go_wp2_with fail
  go_step3
  go_wp2_with fail
  refine (graph_size n _).mono ?_
  rintro e w' ⟨rfl, rfl⟩
  rw [HN.out]
  go_wp2_with fail
  refine (graph_next B N a m c l _ hB hr (by omega) hl).mono ?_
  rintro e w2 ⟨rfl, ⟨vs, hR⟩, hb⟩
  obtain ⟨D, hD⟩ : ∃ D, D = w2.heap.size := ⟨_, rfl⟩
  have HR := Lib.hid hR
  have Hb := Lib.hid hb
  have HB := Lib.hid hB
  obtain ⟨R, hRe⟩ : ∃ R, R = Gr.T N l := ⟨_, rfl⟩
  have hbd : Gr.Bd N R := by rw [hRe]; exact Gr.T_bd N l
  rw [← hRe] at HR
  have hv3 := Vec.made w2 (.int .i64 0) 3 N
  have hb0 := alloc_below w2 (.cells (madeCells #[.int .i64 0] N) 3)
  obtain ⟨w3, hw3⟩ : ∃ x, x = w2.alloc (.cells (madeCells #[.int .i64 0] N) 3) := ⟨_, rfl⟩
  have hex3 := hw3.symm
  rw [← hw3] at hv3 hb0
  rw [← hD] at hv3 hb0
  have HD := Lib.hid hD
  have HRe := Lib.hid hRe
  have hBD : B ≤ D := by rw [hD, ← hB]; exact hb.size
  clear hR hb hB hr hw3 hRe
  go_upto_region 4 with fail
  rw [← hD]
  clear hex3 hD hmk
  go_wp2_with fail
  go_loopw [26] (fun i wr => ∃ k : Nat, k ≤ N ∧ i = .int .i64 k ∧ RowKit.Hid (Vec wr D 3 N (fun v => .int .i64 (Gr.cnt N R k v : Nat))) ∧ Below D w2 wr) (fun i _ => N - (intOf i).toNat)
  case atStart => exact ⟨0, Nat.zero_le _, rfl, Lib.hid hv3, hb0⟩
  case round =>
    clear hv3 hb0
    obtain ⟨k, hk, rfl, hV, hb⟩ := hrel
    by_cases hlt : k < N
    · have hki : (k : Int) < (N : Int) := by omega
      have hk0 : (0 : Int) ≤ (k : Int) := by omega
      have q1 := cell_thru (HR.out.cell k hlt) (by rw [← HD.out]; exact hb)
      obtain ⟨a3, c3, hv3, hc31, hc32, hs31⟩ := HR.out.row k hlt
      have hrl := Gr.row_len N R k
      have hrl2 := Gr.rowI_len N R k
      rw [hv3] at q1
      obtain ⟨L, hL⟩ : ∃ x, x = (Gr.rowI N R k).length := ⟨_, rfl⟩
      rw [← hL] at q1 hc31 hrl2
      have hLN : (L : Int) ≤ 400 := by omega
      have Hs31 := Lib.hid hs31
      have HL := Lib.hid hL
      have Hrl2 := Lib.hid hrl2
      have hV0 : RowKit.Hid (Vec wr D 3 N (fun v => .int .i64 (Gr.part (Gr.cnt N R k) ((Gr.rowN N R k).take 0) v : Nat))) := Lib.hid (hV.out.congr fun v _ => by rw [List.take_zero, Gr.part_nil])
      clear hV hs31 hv3 hL hrl2
      go_wp2_with fail
      go_loopw [32] (fun i wj => ∃ j : Nat, j ≤ L ∧ i = .int .i64 j ∧ RowKit.Hid (Vec wj D 3 N (fun v => .int .i64 (Gr.part (Gr.cnt N R k) ((Gr.rowN N R k).take j) v : Nat))) ∧ Below D w2 wj) (fun i _ => L - (intOf i).toNat)
      case atStart => exact ⟨0, Nat.zero_le _, rfl, hV0, hb⟩
      case round =>
        clear hV0 hb q1
        obtain ⟨j, hj, rfl, hVj, hbj⟩ := hrel
        by_cases hjl : j < L
        · have hji : (j : Int) < (L : Int) := by omega
          have hj0 : (0 : Int) ≤ (j : Int) := by omega
          have hsj := Hs31.out.below (by decide) (show Below w2.heap.size w2 wr by rw [← HD.out]; exact hbj)
          obtain ⟨b4, o4, rfl, p4, r41, r42⟩ := SlI.at hsj j (by rw [← HL.out]; exact hjl)
          have hjr : j < (Gr.rowN N R k).length := by rw [← Hrl2.out]; exact hjl
          have hval : (Gr.rowI N R k)[j]'(by rw [← HL.out]; exact hjl) = (((Gr.rowN N R k)[j] : Nat) : Int) := by simp [Gr.rowI]
          rw [hval] at p4
          have hfresh := Gr.take_fresh (Gr.row_nodup N R k) hjr
          have htk : (Gr.rowN N R k).take (j + 1) = (Gr.rowN N R k).take j ++ [(Gr.rowN N R k)[j]] := (List.take_append_getElem hjr).symm
          have hmem : (Gr.rowN N R k)[j] < N := (Gr.mem_row.1 (List.getElem_mem hjr)).1
          obtain ⟨u, hu⟩ : ∃ u, u = (Gr.rowN N R k)[j] := ⟨_, rfl⟩
          rw [← hu] at p4 hfresh htk hmem
          clear r41 r42 hval hu hsj
          have y1 := hVj.out.cell hmem
          have yf := hVj.out.free u
          have hcb : Gr.part (Gr.cnt N R k) ((Gr.rowN N R k).take j) u ≤ 100000 := by have := Gr.cnt_le N R k u; unfold Gr.part; split <;> omega
          obtain ⟨cu, hcu⟩ : ∃ x, x = Gr.part (Gr.cnt N R k) ((Gr.rowN N R k).take j) u := ⟨_, rfl⟩
          rw [← hcu] at y1 hcb
          have hVn := (hVj.out.set u (.int .i64 ((cu : Int) + 1))).congr (f' := fun v => .int .i64 (Gr.part (Gr.cnt N R k) ((Gr.rowN N R k).take (j + 1)) v : Nat)) fun v _ => by
            unfold updV
            rw [htk, Gr.part_snoc _ hfresh]
            by_cases e : v = u
            · rw [if_pos e, if_pos e, ← hcu]; simp
            · rw [if_neg e, if_neg e]
          have hu0 : (0 : Int) ≤ (u : Int) := by omega
          have hu1 : (u : Int) < (N : Int) := by omega
          have hbn : Below D w2 (wr.setCell ⟨D, u, none⟩ (.int .i64 ((cu : Int) + 1))) := hbj.setCell (Nat.le_refl _) _
          have HVn := Lib.hid hVn
          have Hbn := Lib.hid hbn
          clear hVj hcu hVn hbn htk hfresh
          go_wp2_with fail
          go_roundw
          case rel => exact ⟨j + 1, by omega, by go_num, HVn, Hbn.out⟩
          case measure => simp [intOf]; omega
        · have hji : ¬ ((j : Int) < (L : Int)) := by omega
          have hVn : RowKit.Hid (Vec wr D 3 N (fun v => .int .i64 (Gr.cnt N R (k + 1) v : Nat))) := Lib.hid (hVj.out.congr fun v hv => by
            rw [List.take_of_length_le (by have := Hrl2.out; omega), Gr.part_row N R k hv])
          clear hVj
          go_wp2_with fail
          go_roundw
          case rel => exact ⟨k + 1, by omega, by go_num, hVn, hbj⟩
          case measure => simp [intOf]; omega
    · have hki : ¬ ((k : Int) < (N : Int)) := by omega
      obtain rfl : N = k := by omega
      have hV1 : RowKit.Hid (Vec wr D 3 N (fun v => .int .i64 (Gr.bef N R [] v : Nat))) := Lib.hid (hV.out.congr fun v _ => by rw [Gr.cnt_bef])
      have hDw := hV.out.lt
      clear hV hlt hk hki
      have hv5 := Vec.made wr (.bool false) 4 N
      have hb5 := alloc_below wr (.cells (madeCells #[.bool false] N) 4)
      obtain ⟨w5, hw5⟩ : ∃ x, x = wr.alloc (.cells (madeCells #[.bool false] N) 4) := ⟨_, rfl⟩
      have hex5 := hw5.symm
      rw [← hw5] at hv5 hb5
      have hV5 : RowKit.Hid (Vec w5 D 3 N (fun v => .int .i64 (Gr.bef N R [] v : Nat))) := Lib.hid (hV1.out.below hb5)
      have hb05 : Below D w2 w5 := hb.trans (hb5.mono (by omega))
      obtain ⟨E, hE⟩ : ∃ E, E = wr.heap.size := ⟨_, rfl⟩
      rw [← hE] at hv5 hDw
      have hsz5 : E + 1 ≤ w5.heap.size := by rw [hE, hw5]; simp
      have Hv5 := Lib.hid (hv5.congr (f' := fun v => .bool (([] : List Nat).contains v)) fun v _ => by simp)
      clear hV1 hb hb5 hw5 hv5
      go_upto_region 15 with fail
      rw [← hE]
      clear hex5 hE hmk2
      go_step3
      go_wp2_with fail
      go_loopg [12, 47] N (fun gn v i wr => ∃ done : List Nat, RowKit.Hid (gn = N - done.length) ∧ done.length ≤ N ∧ i = .int .i64 done.length ∧ RowKit.Hid (Gr.topo N R (N - done.length) done = Gr.topo N R N []) ∧ Own EInt 3 (E + 1) wr v (natI done) ∧ RowKit.Hid (Vec wr D 3 N (fun v => .int .i64 (Gr.bef N R done v : Nat))) ∧ RowKit.Hid (Vec wr E 4 N (fun v => .bool (done.contains v))) ∧ Below D w2 wr ∧ E + 1 ≤ wr.heap.size)
      case atStart => exact ⟨[], Lib.hid rfl, Nat.zero_le _, rfl, Lib.hid rfl, Own.nil _ _ _ _, hV5, Hv5, hb05, hsz5⟩
      case round =>
        clear hV5 Hv5 hb05 hsz5
        obtain ⟨done, hgn, hdl, rfl, htopo, ho, hVd, hVe, hbw, hsz⟩ := hrel
        obtain ⟨k, hkd⟩ : ∃ k, k = done.length := ⟨_, rfl⟩
        rw [← hkd] at hgn hdl htopo ⊢
        have Hkd := Lib.hid hkd
        clear hkd
        obtain ⟨vo, hvo⟩ : ∃ x, x = u12 := ⟨_, rfl⟩
        rw [← hvo] at ho ⊢
        clear hvo
        have Ho := Lib.hid ho
        clear ho
        by_cases hlt : k < N
        · have hki : (k : Int) < (N : Int) := by omega
          have hk0 : (0 : Int) ≤ (k : Int) := by omega
          go_wp2_with fail
          obtain ⟨wo, hwo⟩ : ∃ x : World, x = wr := ⟨_, rfl⟩
          rw [← hwo] at hVd hVe hbw hsz Ho ⊢
          clear hwo
          go_loopg [12, 50] N (fun gm v i wj => ∃ p : Nat, RowKit.Hid (gm = N - p) ∧ p ≤ N ∧ i = .int .i64 p ∧ vo = v ∧ wo = wj ∧ RowKit.Hid (∀ u, u < p → Gr.freeB N R done u = false))
          case atStart => exact ⟨0, Lib.hid rfl, Nat.zero_le _, rfl, rfl, rfl, Lib.hid fun u hu => by omega⟩
          case round =>
            obtain ⟨p, hgm, hp, rfl, rfl, rfl, hfree⟩ := hrel
            by_cases hpl : p < N
            · have hpi : (p : Int) < (N : Int) := by omega
              have hp0 : (0 : Int) ≤ (p : Int) := by omega
              have y1 := hVe.out.cell hpl
              have y2 := hVd.out.cell hpl
              have yf := hVe.out.free p
              have hfb := Gr.free_bef (n := N) (R := R) (done := done) (v := p)
              have hcb := Gr.bef_le N R done p
              obtain ⟨cb, hcbe⟩ : ∃ x, x = Gr.bef N R done p := ⟨_, rfl⟩
              obtain ⟨bd, hbde⟩ : ∃ x, x = done.contains p := ⟨_, rfl⟩
              rw [← hcbe] at y2 hfb hcb
              rw [← hbde] at y1 hfb
              have Hfb := Lib.hid hfb
              have Hbde := Lib.hid hbde
              have Hcbe := Lib.hid hcbe
              clear hfb hbde hcbe
              cases bd
              · by_cases hc0 : 0 < cb
                · have hc1 : (0 : Int) < (cb : Int) := by omega
                  have hfr : RowKit.Hid (∀ u, u < p + 1 → Gr.freeB N R done u = false) := Lib.hid fun u hu => by
                    by_cases e : u = p
                    · subst e; rw [Hfb.out]; simp; omega
                    · exact hfree.out u (by omega)
                  clear hfree
                  go_wp2_with fail
                  go_roundg (N - (p + 1))
                  case measure => rw [hgm.out]; omega
                  case rel => exact ⟨p + 1, Lib.hid rfl, by omega, by go_num, rfl, rfl, hfr⟩
                · obtain rfl : cb = 0 := by omega
                  have hfp : Gr.freeB N R done p = true := by rw [Hfb.out]; simp
                  have hpk : Gr.pick N R done = some p := Gr.pick_mk hpl hfp hfree.out
                  have hnd : p ∉ done := fun hm => by have := Hbde.out; simp [hm] at this
                  have htp : Gr.topo N R (N - (k + 1)) (done ++ [p]) = Gr.topo N R N [] := by
                    rw [← htopo.out, show N - k = (N - (k + 1)) + 1 by omega, Gr.topo_some hpk]
                  have hVe2 : RowKit.Hid (Vec (wo.setCell ⟨E, p, none⟩ (.bool true)) E 4 N (fun v => .bool ((done ++ [p]).contains v))) := Lib.hid ((hVe.out.set p (.bool true)).congr fun v _ => by
                    unfold updV
                    by_cases e : v = p
                    · rw [if_pos e, e]; simp
                    · rw [if_neg e]; simp [e])
                  have hVd2 : RowKit.Hid (Vec (wo.setCell ⟨E, p, none⟩ (.bool true)) D 3 N (fun v => .int .i64 ((Gr.bef N R done v : Int) - if v ∈ (Gr.rowN N R p).take 0 then 1 else 0))) := Lib.hid ((hVd.out.other (by omega) _ _).congr fun v _ => by simp)
                  have hb6 : Below D w2 (wo.setCell ⟨E, p, none⟩ (.bool true)) := hbw.setCell (by show D ≤ E; omega) _
                  have ho6 : Own EInt 3 (E + 1) (wo.setCell ⟨E, p, none⟩ (.bool true)) vo (natI done) := OwnI.stay Ho.out fun g hg => heap_setOther _ (by have := (Ho.out.lt g hg).1; omega) _ _
                  obtain ⟨w6, hw6⟩ : ∃ x, x = wo.setCell ⟨E, p, none⟩ (.bool true) := ⟨_, rfl⟩
                  have hsz6 : E + 1 ≤ w6.heap.size := by rw [hw6]; simpa using hsz
                  have hw6' := hw6.symm
                  rw [← hw6] at hVe2 hVd2 hb6 ho6
                  have hpr : -9223372036854775808 ≤ (p : Int) ∧ (p : Int) ≤ 9223372036854775807 := by omega
                  have Ho7 := Lib.hid (ho6.below (alloc_below w6 (.cells #[.int .i64 p] 3)))
                  have Hs7 : RowKit.Hid (Sl EInt (fun b => some b ≠ vo.ownBlock) (w6.alloc (.cells #[.int .i64 p] 3)) (some ⟨w6.heap.size, 0, none⟩) [(p : Int)]) := Lib.hid (sl_one (heap_alloc_new w6 _) ⟨rfl, hpr⟩ ho6.fresh)
                  have Hb7 := Lib.hid (hb6.alloc (by omega) (.cells #[.int .i64 p] 3))
                  have Hb67 := Lib.hid (alloc_below w6 (.cells #[.int .i64 p] 3))
                  have Htp := Lib.hid htp
                  have Hnd := Lib.hid hnd
                  have hkl : (natI done).length = k := by rw [natI_len, ← Hkd.out]
                  have Hkl := Lib.hid hkl
                  clear hw6 hb6 ho6 hpr htp hnd hfp hpk hfree hVe hVd hkl Hfb Hbde Hcbe
                  go_upto_region 22 with fail
                  clear hw6' y1 y2 yf
                  go_wp2_with (refine wpList_app EInt rfl rfl rfl rfl ti_ints Ho7.out rfl Hs7.out ?_ ?_ ?_ ?_)
                  · rw [Hkl.out]; simp [maxLen]; omega
                  · rw [Hkl.out]; simp; omega
                  · simp; omega
                  · intro v8 w8 ho8 hg8 hv8 hb8
                    have hVe8 := Lib.hid ((hVe2.out.below Hb67.out).keep (hb8.block E (by omega)))
                    have hVd8 := Lib.hid ((hVd2.out.below Hb67.out).keep (hb8.block D (by omega)))
                    have hb08 : Below D w2 w8 := Hb7.out.trans (hb8.mono (by omega))
                    have hsz8 : E + 1 ≤ w8.heap.size := by have := Hb67.out.size; have := hb8.size; omega
                    have hlist : natI done ++ [(p : Int)] = natI (done ++ [p]) := by unfold natI; simp
                    rw [hlist] at ho8
                    have Ho8 := Lib.hid ho8
                    have q1 := cell_thru (HR.out.cell p hpl) (by rw [← HD.out]; exact hb08)
                    obtain ⟨a3, c3, hv3, hc31, hc32, hs31⟩ := HR.out.row p hpl
                    have hrl := Gr.row_len N R p
                    have hrl2 := Gr.rowI_len N R p
                    rw [hv3] at q1
                    obtain ⟨L, hL⟩ : ∃ x, x = (Gr.rowI N R p).length := ⟨_, rfl⟩
                    rw [← hL] at q1 hc31 hrl2
                    have hLN : (L : Int) ≤ 400 := by omega
                    have Hs31 := Lib.hid hs31
                    have HL := Lib.hid hL
                    have Hrl2 := Lib.hid hrl2
                    clear hs31 hv3 hL hrl2 ho8 hg8 hv8 hb8 hlist Ho7 Hs7 Hb7 hVe2 hVd2
                    go_upto_region 23 with fail
                    go_wp2_with fail
                    go_loopg [76] L (fun gj i wj => ∃ j : Nat, RowKit.Hid (gj = L - j) ∧ j ≤ L ∧ i = .int .i64 j ∧ RowKit.Hid (Vec wj D 3 N (fun v => .int .i64 ((Gr.bef N R done v : Int) - if v ∈ (Gr.rowN N R p).take j then 1 else 0))) ∧ RowKit.Hid (Vec wj E 4 N (fun v => .bool ((done ++ [p]).contains v))) ∧ RowKit.Hid (Own EInt 3 (E + 1) wj v8 (natI (done ++ [p]))) ∧ Below D w2 wj ∧ E + 1 ≤ wj.heap.size)
                    case atStart => exact ⟨0, Lib.hid rfl, Nat.zero_le _, rfl, hVd8, hVe8, Ho8, hb08, hsz8⟩
                    case round =>
                      clear hVd8 hVe8 Ho8 hb08 hsz8 q1
                      obtain ⟨j, hgj, hj, rfl, hVj, hVk, hOj, hbj, hszj⟩ := hrel
                      by_cases hjl : j < L
                      · have hji : (j : Int) < (L : Int) := by omega
                        have hj0 : (0 : Int) ≤ (j : Int) := by omega
                        have hsj := Hs31.out.below (by decide) (show Below w2.heap.size w2 wr by rw [← HD.out]; exact hbj)
                        obtain ⟨b4, o4, rfl, p4, r41, r42⟩ := SlI.at hsj j (by rw [← HL.out]; exact hjl)
                        have hjr : j < (Gr.rowN N R p).length := by rw [← Hrl2.out]; exact hjl
                        have hval : (Gr.rowI N R p)[j]'(by rw [← HL.out]; exact hjl) = (((Gr.rowN N R p)[j] : Nat) : Int) := by simp [Gr.rowI]
                        rw [hval] at p4
                        have hfresh := Gr.take_fresh (Gr.row_nodup N R p) hjr
                        have htk : (Gr.rowN N R p).take (j + 1) = (Gr.rowN N R p).take j ++ [(Gr.rowN N R p)[j]] := (List.take_append_getElem hjr).symm
                        have hmem : (Gr.rowN N R p)[j] < N := (Gr.mem_row.1 (List.getElem_mem hjr)).1
                        obtain ⟨u, hu⟩ : ∃ u, u = (Gr.rowN N R p)[j] := ⟨_, rfl⟩
                        rw [← hu] at p4 hfresh htk hmem
                        clear r41 r42 hval hu hsj
                        have y1 := hVj.out.cell hmem
                        have yf := hVj.out.free u
                        rw [if_neg hfresh, Int.sub_zero] at y1
                        have hcb := Gr.bef_le N R done u
                        obtain ⟨cu, hcu⟩ : ∃ x, x = Gr.bef N R done u := ⟨_, rfl⟩
                        rw [← hcu] at y1 hcb
                        have hVn := (hVj.out.set u (.int .i64 ((cu : Int) - 1))).congr (f' := fun v => .int .i64 ((Gr.bef N R done v : Int) - if v ∈ (Gr.rowN N R p).take (j + 1) then 1 else 0)) fun v _ => by
                          unfold updV
                          rw [htk]
                          by_cases e : v = u
                          · rw [if_pos e, e, ← hcu]; simp
                          · rw [if_neg e]; simp [e]
                        have hu0 : (0 : Int) ≤ (u : Int) := by omega
                        have hu1 : (u : Int) < (N : Int) := by omega
                        have hbn : Below D w2 (wr.setCell ⟨D, u, none⟩ (.int .i64 ((cu : Int) - 1))) := hbj.setCell (Nat.le_refl _) _
                        have HVn := Lib.hid hVn
                        have Hbn := Lib.hid hbn
                        have HVk : RowKit.Hid (Vec (wr.setCell ⟨D, u, none⟩ (.int .i64 ((cu : Int) - 1))) E 4 N (fun v => .bool ((done ++ [p]).contains v))) := Lib.hid (hVk.out.other (by omega) _ _)
                        have HOj : RowKit.Hid (Own EInt 3 (E + 1) (wr.setCell ⟨D, u, none⟩ (.int .i64 ((cu : Int) - 1))) v8 (natI (done ++ [p]))) := Lib.hid (OwnI.stay hOj.out fun g hg => heap_setOther _ (by have := (hOj.out.lt g hg).1; omega) _ _)
                        have Hszj : RowKit.Hid (E + 1 ≤ (wr.setCell ⟨D, u, none⟩ (.int .i64 ((cu : Int) - 1))).heap.size) := Lib.hid (by simpa using hszj)
                        clear hVj hcu hVn hbn htk hfresh hVk hOj
                        go_wp2_with fail
                        go_roundg (L - (j + 1))
                        case measure => rw [hgj.out]; omega
                        case rel => exact ⟨j + 1, Lib.hid rfl, by omega, by go_num, HVn, HVk, HOj, Hbn.out, Hszj.out⟩
                      · have hji : ¬ ((j : Int) < (L : Int)) := by omega
                        have hVn : RowKit.Hid (Vec wr D 3 N (fun v => .int .i64 (Gr.bef N R (done ++ [p]) v : Nat))) := Lib.hid (hVj.out.congr fun v hv => by
                          rw [List.take_of_length_le (by have := Hrl2.out; omega), Gr.bef_snoc hpl Hnd.out]
                          by_cases h : R p v = true
                          · rw [if_pos (Gr.mem_row.2 ⟨hv, h⟩), if_pos h]; simp
                          · rw [if_neg (fun hm => h (Gr.mem_row.1 hm).2), if_neg h]; simp)
                        have Hlen : RowKit.Hid ((done ++ [p]).length = k + 1) := Lib.hid (by simp [← Hkd.out])
                        clear hVj
                        go_wp2_with fail
                        go_roundg (N - (k + 1))
                        case measure => rw [hgn.out]; omega
                        case rel => exact ⟨done ++ [p], Lib.hid (by rw [Hlen.out]), by rw [Hlen.out]; omega, by rw [Hlen.out]; go_num, Lib.hid (by rw [Hlen.out]; exact Htp.out), hOj.out, hVn, hVk, hbj, hszj⟩
              · have hfr : RowKit.Hid (∀ u, u < p + 1 → Gr.freeB N R done u = false) := Lib.hid fun u hu => by
                  by_cases e : u = p
                  · subst e; rw [Hfb.out]; simp
                  · exact hfree.out u (by omega)
                clear hfree
                go_wp2_with fail
                go_roundg (N - (p + 1))
                case measure => rw [hgm.out]; omega
                case rel => exact ⟨p + 1, Lib.hid rfl, by omega, by go_num, rfl, rfl, hfr⟩
            · have hpi : ¬ ((p : Int) < (N : Int)) := by omega
              have hnone : Gr.topo N R N [] = none := by
                rw [← htopo.out, show N - k = (N - k - 1) + 1 by omega]
                exact Gr.topo_none (Gr.pick_no fun u hu => hfree.out u (by omega))
              have Hnone := Lib.hid hnone
              clear hnone
              go_wp2_with fail
              refine bodyPost_ret (v := .tuple #[.slice none 0 0, .bool false]) (by simp [results, Try.results18, go_sem]) rfl ?_
              refine ⟨.slice none 0 0, ?_, ?_, ?_⟩
              · rw [← HRe.out, Hnone.out]; rfl
              · rw [← HRe.out, Hnone.out]; exact Own.nil _ _ _ _
              · exact Hb.out.trans (hbw.mono hBD)
        · have hki : ¬ ((k : Int) < (N : Int)) := by omega
          obtain rfl : N = k := by omega
          have hdn : Gr.topo N R N [] = some done := by rw [← htopo.out, Nat.sub_self]; rfl
          have Hdn := Lib.hid hdn
          clear hdn
          go_wp2_with fail
          refine bodyPost_ret (v := .tuple #[vo, .bool true]) (by simp [results, Try.results18, go_sem]) rfl ?_
          refine ⟨vo, ?_, ?_, ?_⟩
          · rw [← HRe.out, Hdn.out]; rfl
          · rw [← HRe.out, Hdn.out]; exact Ho.out.base (by omega)
          · exact Hb.out.trans (hbw.mono hBD)
end Go.Proofs.Yticpbiccgnfecaa

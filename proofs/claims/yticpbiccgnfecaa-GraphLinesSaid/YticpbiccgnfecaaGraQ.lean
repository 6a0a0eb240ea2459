
/-
  What can be reached: the reference's table.
-/
import Derived.Test.YticpbiccgnfecaaGraR
namespace Go.Proofs.Yticpbiccgnfecaa
open Go.RowKit
set_option linter.unusedVariables false

theorem Mtx.sl {ts tb : Nat} {w : World} {g n m k : Nat} {rows cp : Nat → Nat} {f : Nat → Nat → Bool} (h : Mtx ts tb w g n m k rows cp f) {ok : Nat → Prop} {i : Nat} (hi : i < k) (hok : ok (rows i)) : Sl EBool ok w (some ⟨rows i, 0, none⟩) ((List.range m).map (f i)) := by
  intro j x hx
  rw [List.getElem?_map] at hx
  have hj : j < m := by
    rcases Nat.lt_or_ge j m with h | h
    · exact h
    · rw [List.getElem?_eq_none (by simpa using h)] at hx; cases hx
  rw [List.getElem?_range hj] at hx
  simp at hx; subst hx
  refine ⟨rows i, 0, rfl, hok, [.bool (f i j)], rfl, fun q v hq => ?_⟩
  have hq0 : q = 0 := by have := (List.getElem?_eq_some_iff.1 hq).1; simp at this; exact this
  subst hq0
  simp at hq; subst hq
  have := h.at hi hj
  simpa [EBool] using this
theorem Own.vecB {te base : Nat} {w : World} {v : Value} {l : List Bool} (h : Own EBool te base w v l) (hl : 0 < l.length) : ∃ g c, v = .slice (some ⟨g, 0, none⟩) l.length c ∧ base ≤ g ∧ Vec w g te l.length (fun j => .bool (l.getD j false)) ∧ l.length ≤ c ∧ c ≤ maxLen := by
  rcases h with ⟨_, rfl⟩ | ⟨g, cap, cur, rfl, hg, hh, h1, h2, h3, h4⟩
  · simp at hl
  · refine ⟨g, cap, rfl, hg, ⟨cur, hh, by rw [h3]; show l.length ≤ cap * 1; omega, fun k hk => ?_⟩, h1, h2⟩
    obtain ⟨cs, hr, hc⟩ := h4 k l[k] (List.getElem?_eq_getElem hk)
    have hr' : cs = [.bool l[k]] := hr
    subst hr'
    have := hc 0 _ rfl
    simpa [EBool, List.getD, hk] using this

theorem mid_put (R : Gr.Rel) (k i j : Nat) (h1 : Gr.wayB R k i k = true) (h2 : Gr.wayB R k k j = true) (a b : Nat) : updB (Gr.midB R k i j) i j true a b = Gr.midB R k i (j + 1) a b := by
  rw [Gr.midB_step]
  unfold updB
  by_cases e : a = i ∧ b = j
  · rw [if_pos e, if_pos e]; simp [Gr.wayB, h1, h2]
  · rw [if_neg e, if_neg e]
theorem mid_not (R : Gr.Rel) (k i j : Nat) (h : Gr.wayB R k i k = false ∨ Gr.wayB R k k j = false) (a b : Nat) : Gr.midB R k i j a b = Gr.midB R k i (j + 1) a b := by
  rw [Gr.midB_step]
  by_cases e : a = i ∧ b = j
  · rw [if_pos e, e.1, e.2, Gr.midB_here]
    rcases h with h | h <;> simp [Gr.wayB, h]
  · rw [if_neg e]

set_option maxRecDepth 4096 in
set_option maxHeartbeats 1600000 in
theorem ref07_Reach (B g N : Nat) (rows cp : Nat → Nat) (R : Gr.Rel) (w : World) (hB : w.heap.size = B) (hM : Mtx 33 4 w g N N N rows cp R) (hNl : N ≤ 100000) :
    Calls Try.prog 16 #[.slice (some ⟨g, 0, none⟩) N N] w (MtxPost B N (Gr.wayB R N) w) := by
  have hN0 : (0 : Int) ≤ (N : Int) := by omega
  have hN1 : (N : Int) ≤ 100000 := by omega
  have hmk := run_make_row' (P := Try.prog) 29 33 (.slice none 0 0) 24 Try.underlying29 (by kernel_rfl) rfl .i64 .i64 N (by omega) (by omega)
  have hgr := Mtx.made (ts := 33) (tb := 4) w N N (fun _ => 0) (fun _ => 0) R
  have hb0 := alloc_below w (.cells (madeCells #[.slice none 0 0] N) 33)
  obtain ⟨w3, hw3⟩ : ∃ x, x = w.alloc (.cells (madeCells #[.slice none 0 0] N) 33) := ⟨_, rfl⟩
  have hex3 := hw3.symm
  rw [← hw3] at hgr hb0
  rw [hB] at hgr hb0
  have HM := Lib.hid hM
  have hgB : g < B := by rw [← hB]; exact hM.vec.lt
  have hrB : ∀ i, i < N → rows i < B := fun i hi => by rw [← hB]; exact (hM.row i hi).lt
  have HrB := Lib.hid hrB
  have HB := Lib.hid hB
  clear hM hw3 hrB
  go_enter Try.func16, Try.ntmps16
  go_upto_region 3 with fail
  clear hex3 hB hmk
  go_wp2_with fail
  go_loopw [15] (fun i wr => ∃ k : Nat, k ≤ N ∧ i = .int .i64 k ∧ (∃ rows' cp', Mtx 33 4 wr B N N k rows' cp' R) ∧ Below B w wr) (fun i _ => N - (intOf i).toNat)
  case atStart => exact ⟨0, Nat.zero_le _, rfl, ⟨_, _, hgr⟩, hb0⟩
  case round =>
    clear hgr hb0
    obtain ⟨k, hk, rfl, ⟨rows', cp', hM⟩, hb⟩ := hrel
    by_cases hlt : k < N
    · have hki : (k : Int) < (N : Int) := by omega
      have hk0 : (0 : Int) ≤ (k : Int) := by omega
      have hgw := hM.vec.lt
      obtain ⟨w5, hw5⟩ : ∃ x, x = wr.alloc (.cells #[] 4) := ⟨_, rfl⟩
      have hb5 : Below wr.heap.size wr w5 := by subst hw5; exact alloc_below wr _
      have ho5 : Own EBool 4 wr.heap.size w5 (.slice (some ⟨wr.heap.size, 0, none⟩) 0 0) [] := by subst hw5; exact own_empty EBool 4 wr (by decide)
      have hb05 : Below B w w5 := hb.trans (hb5.mono (by omega))
      have hMs := HM.out.low hgB HrB.out hb05.block
      have q1 := hMs.cell hlt
      have hcap := hMs.cap k hlt
      have hs5 := hMs.sl (ok := fun b => some b ≠ (Value.slice (some ⟨wr.heap.size, 0, none⟩) 0 0).ownBlock) hlt (by simp [Value.ownBlock]; have := HrB.out k hlt; omega)
      obtain ⟨L, hL⟩ : ∃ L, L = (List.range N).map (R k) := ⟨_, rfl⟩
      rw [← hL] at hs5
      have hLl : L.length = N := by rw [hL]; simp
      obtain ⟨rk, hrk⟩ : ∃ x, x = rows k := ⟨_, rfl⟩
      obtain ⟨ck, hck⟩ : ∃ x, x = cp k := ⟨_, rfl⟩
      rw [← hrk, ← hck] at q1
      rw [← hrk] at hs5
      rw [← hck] at hcap
      obtain ⟨hcap1, hcap2⟩ := hcap
      have hsz5 : wr.heap.size ≤ w5.heap.size := hb5.size
      have Ho5 := Lib.hid ho5
      have Hs5 := Lib.hid hs5
      have HLl := Lib.hid hLl
      have HL := Lib.hid hL
      have HMr := Lib.hid hM
      have Hb5 := Lib.hid hb5
      have Hb := Lib.hid hb
      subst hw5
      have Hsz5 := Lib.hid hsz5
      clear hM hb hb5 hsz5 ho5 hs5 hLl hL hMs hb05 hrk hck
      have x2 := HMr.out.vec.cell hlt
      rw [if_neg (by omega)] at x2
      have xf := HMr.out.vec.free k
      go_wp2_with (refine wpList_app EBool rfl rfl rfl rfl ti_bools Ho5.out HLl.out.symm Hs5.out ?_ ?_ ?_ ?_)
      · rw [HLl.out]; simp [maxLen]; omega
      · rw [HLl.out]; simp; omega
      · exact Hsz5.out
      · intro v7 w7 ho7 hg7 hv7 hb7
        obtain ⟨r7, c7, rfl, hr7, hvec7, hc7, hm7⟩ := ho7.vecB (by rw [HLl.out]; omega)
        rw [HLl.out] at hvec7 hc7
        have hbx : Below wr.heap.size wr w7 := Hb5.out.trans hb7
        have hMn := (HMr.out.push hlt hbx (r := r7) (c := c7) (q := fun j => L.getD j false) hr7 hvec7 ⟨hc7, hm7⟩).congr (f' := R) fun i j hi hj => by
          by_cases e : i = k
          · subst e; rw [if_pos rfl, HL.out]; simp [List.getD, hj]
          · rw [if_neg e]
        have y2 := cell_thru x2 hbx
        have yf : w7.frozen? ⟨B, k, none⟩ = false := (hbx.frozen (p := ⟨B, k, none⟩) HMr.out.vec.lt).trans xf
        have hbn : Below B w (w7.setCell ⟨B, k, none⟩ (.slice (some ⟨r7, 0, none⟩) L.length c7)) := (Hb.out.trans (hbx.mono (Nat.le_of_lt hgw))).setCell (Nat.le_refl _) _
        have HMn := Lib.hid hMn
        have Hbn := Lib.hid hbn
        clear hMn hbn hvec7 ho7 hg7 hv7 hb7 hbx x2 xf
        go_wp2_with fail
        go_roundw
        case rel => exact ⟨k + 1, by omega, by go_num, ⟨_, _, by rw [HLl.out]; exact HMn.out⟩, Hbn.out⟩
        case measure => simp [intOf]; omega
    · have hki : ¬ ((k : Int) < (N : Int)) := by omega
      obtain rfl : k = N := by omega
      have HM2 := Lib.hid hM
      have Hb := Lib.hid hb
      clear hM hb hlt hk hki
      go_wp2_with fail
      have step : ∀ (k' : Nat), k' = k → True := fun _ _ => trivial
      clear step
      obtain ⟨N, hNe⟩ : ∃ N, N = k := ⟨_, rfl⟩
      subst hNe
      go_loopw [6] (fun v wk => ∃ k : Nat, k ≤ N ∧ v = .int .i64 k ∧ RowKit.Hid (Mtx 33 4 wk B N N N rows' cp' (Gr.wayB R k)) ∧ Below B w wk) (fun v _ => N - (intOf v).toNat)
      case atStart => exact ⟨0, Nat.zero_le _, rfl, HM2, Hb.out⟩
      case round =>
        clear HM2 Hb
        obtain ⟨k, hk, rfl, hMk, hbk⟩ := hrel
        by_cases hlt : k < N
        · have hki : (k : Int) < (N : Int) := by omega
          have hk0 : (0 : Int) ≤ (k : Int) := by omega
          have hMi0 : RowKit.Hid (Mtx 33 4 wr B N N N rows' cp' (Gr.midB R k 0 0)) := Lib.hid (hMk.out.congr fun a b _ _ => (Gr.midB_zero R k a b).symm)
          clear hMk
          go_wp2_with fail
          go_loopw [7] (fun v wi => ∃ i : Nat, i ≤ N ∧ v = .int .i64 i ∧ RowKit.Hid (Mtx 33 4 wi B N N N rows' cp' (Gr.midB R k i 0)) ∧ Below B w wi) (fun v _ => N - (intOf v).toNat)
          case atStart => exact ⟨0, Nat.zero_le _, rfl, hMi0, hbk⟩
          case round =>
            clear hMi0 hbk
            obtain ⟨i, hi, rfl, hMi, hbi⟩ := hrel
            by_cases hil : i < N
            · have hii : (i : Int) < (N : Int) := by omega
              have hi0 : (0 : Int) ≤ (i : Int) := by omega
              go_wp2_with fail
              go_loopw [8] (fun v wj => ∃ j : Nat, j ≤ N ∧ v = .int .i64 j ∧ RowKit.Hid (Mtx 33 4 wj B N N N rows' cp' (Gr.midB R k i j)) ∧ Below B w wj) (fun v _ => N - (intOf v).toNat)
              case atStart => exact ⟨0, Nat.zero_le _, rfl, hMi, hbi⟩
              case round =>
                clear hMi hbi
                obtain ⟨j, hj, rfl, hMj, hbj⟩ := hrel
                by_cases hjl : j < N
                · have hji : (j : Int) < (N : Int) := by omega
                  have hj0 : (0 : Int) ≤ (j : Int) := by omega
                  have y1 := hMj.out.cell hil
                  have y2 := hMj.out.at hil hlt
                  have y3 := hMj.out.cell hlt
                  have y4 := hMj.out.at hlt hjl
                  have yf := (hMj.out.row i hil).free j
                  have y5 := hMj.out.at hil hjl
                  rw [Gr.midB_row] at y2
                  rw [Gr.midB_col] at y4
                  have hfar := hMj.out.far i hil
                  obtain ⟨b1, hb1⟩ : ∃ x, x = Gr.wayB R k i k := ⟨_, rfl⟩
                  obtain ⟨b2, hb2⟩ : ∃ x, x = Gr.wayB R k k j := ⟨_, rfl⟩
                  have HMp := Lib.hid (hMj.out.put (j := j) hil true)
                  obtain ⟨ri, hri⟩ : ∃ x, x = rows' i := ⟨_, rfl⟩
                  obtain ⟨rk, hrk⟩ : ∃ x, x = rows' k := ⟨_, rfl⟩
                  obtain ⟨ci, hci⟩ : ∃ x, x = cp' i := ⟨_, rfl⟩
                  obtain ⟨ck, hck⟩ : ∃ x, x = cp' k := ⟨_, rfl⟩
                  rw [← hri, ← hci] at y1
                  rw [← hri, ← hb1] at y2
                  rw [← hrk, ← hck] at y3
                  rw [← hrk, ← hb2] at y4
                  rw [← hri] at y5 yf hfar HMp
                  have Hb1 := Lib.hid hb1
                  have Hb2 := Lib.hid hb2
                  clear hri hrk hci hck hb1 hb2
                  cases b1
                  · have hMn : RowKit.Hid (Mtx 33 4 wr B N N N rows' cp' (Gr.midB R k i (j + 1))) := Lib.hid (hMj.out.congr fun a b _ _ => mid_not R k i j (.inl Hb1.out.symm) a b)
                    clear hMj
                    go_wp2_with fail
                    go_roundw
                    case rel => exact ⟨j + 1, by omega, by go_num, hMn, hbj⟩
                    case measure => simp [intOf]; omega
                  · cases b2
                    · have hMn : RowKit.Hid (Mtx 33 4 wr B N N N rows' cp' (Gr.midB R k i (j + 1))) := Lib.hid (hMj.out.congr fun a b _ _ => mid_not R k i j (.inr Hb2.out.symm) a b)
                      clear hMj
                      go_wp2_with fail
                      go_roundw
                      case rel => exact ⟨j + 1, by omega, by go_num, hMn, hbj⟩
                      case measure => simp [intOf]; omega
                    · have hMn : RowKit.Hid (Mtx 33 4 (wr.setCell ⟨ri, j, none⟩ (.bool true)) B N N N rows' cp' (Gr.midB R k i (j + 1))) := Lib.hid (HMp.out.congr fun a b _ _ => mid_put R k i j Hb1.out.symm Hb2.out.symm a b)
                      have hbn : Below B w (wr.setCell ⟨ri, j, none⟩ (.bool true)) := hbj.setCell (by show B ≤ ri; omega) _
                      have Hbn := Lib.hid hbn
                      clear hMj HMp hbn
                      go_wp2_with fail
                      go_roundw
                      case rel => exact ⟨j + 1, by omega, by go_num, hMn, Hbn.out⟩
                      case measure => simp [intOf]; omega
                · have hji : ¬ ((j : Int) < (N : Int)) := by omega
                  obtain rfl : j = N := by omega
                  have hMn : RowKit.Hid (Mtx 33 4 wr B j j j rows' cp' (Gr.midB R k (i + 1) 0)) := Lib.hid (hMj.out.congr fun a b _ hb => Gr.midB_next R k i j hb)
                  clear hMj
                  go_wp2_with fail
                  go_roundw
                  case rel => exact ⟨i + 1, by omega, by go_num, hMn, hbj⟩
                  case measure => simp [intOf]; omega
            · have hii : ¬ ((i : Int) < (N : Int)) := by omega
              obtain rfl : i = N := by omega
              have hMn : RowKit.Hid (Mtx 33 4 wr B i i i rows' cp' (Gr.wayB R (k + 1))) := Lib.hid (hMi.out.congr fun a b ha _ => Gr.midB_end R k i ha)
              clear hMi
              go_wp2_with fail
              go_roundw
              case rel => exact ⟨k + 1, by omega, by go_num, hMn, hbi⟩
              case measure => simp [intOf]; omega
        · have hki : ¬ ((k : Int) < (N : Int)) := by omega
          obtain rfl : k = N := by omega
          go_wp2_with fail
          go_ret
          exact ⟨B, rows', cp', rfl, hMk.out, hbk⟩
end Go.Proofs.Yticpbiccgnfecaa

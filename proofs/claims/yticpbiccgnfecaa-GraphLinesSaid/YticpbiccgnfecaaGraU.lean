
/-
  The order that the reference makes.
-/
import Derived.Test.YticpbiccgnfecaaGraO
namespace Go.Proofs.Yticpbiccgnfecaa
open Go.RowKit
set_option linter.unusedVariables false

namespace Gr
/-- as the reference finds out whether v is free: so far -/
def frU (R : Rel) (done : List Nat) (v j : Nat) : Bool := !done.contains v && (List.range j).all fun u => !R u v || done.contains u
theorem frU_zero (R : Rel) (done : List Nat) (v : Nat) : frU R done v 0 = !done.contains v := by simp [frU]
theorem frU_succ (R : Rel) (done : List Nat) (v j : Nat) : frU R done v (j + 1) = (frU R done v j && (done.contains j || !R j v)) := by
  unfold frU
  rw [List.range_succ, List.all_append]
  simp only [List.all_cons, List.all_nil, Bool.and_true]
  cases done.contains v <;> cases done.contains j <;> cases R j v <;> simp
theorem frU_all (n : Nat) (R : Rel) (done : List Nat) (v : Nat) : frU R done v n = freeB n R done v := rfl
/-- the least free one of those from q on, or none (-1) -/
def lowF (n : Nat) (R : Rel) (done : List Nat) (q : Nat) (x : Int) : Prop :=
  (x = -1 ∧ ∀ u, q ≤ u → u < n → freeB n R done u = false) ∨ ∃ p : Nat, x = p ∧ q ≤ p ∧ p < n ∧ freeB n R done p = true ∧ ∀ u, q ≤ u → u < p → freeB n R done u = false
theorem lowF_start (n : Nat) (R : Rel) (done : List Nat) : lowF n R done n (-1) := .inl ⟨rfl, fun u h1 h2 => by omega⟩
theorem lowF_yes {n : Nat} {R : Rel} {done : List Nat} {q : Nat} {x : Int} (h : lowF n R done (q + 1) x) (hq : q < n) (hf : freeB n R done q = true) : lowF n R done q q :=
  .inr ⟨q, rfl, Nat.le_refl _, hq, hf, fun u h1 h2 => by omega⟩
theorem lowF_no {n : Nat} {R : Rel} {done : List Nat} {q : Nat} {x : Int} (h : lowF n R done (q + 1) x) (hf : freeB n R done q = false) : lowF n R done q x := by
  rcases h with ⟨h1, h2⟩ | ⟨p, h1, h2, h3, h4, h5⟩
  · refine .inl ⟨h1, fun u hu1 hu2 => ?_⟩
    by_cases e : u = q
    · rw [e]; exact hf
    · exact h2 u (by omega) hu2
  · refine .inr ⟨p, h1, by omega, h3, h4, fun u hu1 hu2 => ?_⟩
    by_cases e : u = q
    · rw [e]; exact hf
    · exact h5 u (by omega) hu2
theorem lowF_fin {n : Nat} {R : Rel} {done : List Nat} {x : Int} (h : lowF n R done 0 x) : (x = -1 ∧ pick n R done = none) ∨ ∃ p : Nat, x = p ∧ p < n ∧ pick n R done = some p := by
  rcases h with ⟨h1, h2⟩ | ⟨p, h1, h2, h3, h4, h5⟩
  · exact .inl ⟨h1, pick_no fun u hu => h2 u (Nat.zero_le _) hu⟩
  · exact .inr ⟨p, h1, h3, pick_mk h3 h4 fun u hu => h5 u (Nat.zero_le _) hu⟩
end Gr

set_option maxRecDepth 4096 in
set_option maxHeartbeats 1600000 in
theorem ref07_Order (B g N : Nat) (rows cp : Nat → Nat) (R : Gr.Rel) (w : World) (hB : w.heap.size = B) (hM : Mtx 33 4 w g N N N rows cp R) (hNl : N ≤ 100000) :
    Calls Try.prog 19 #[.slice (some ⟨g, 0, none⟩) N N] w (OrdPost B N R w) := by
  have hN0 : (0 : Int) ≤ (N : Int) := by omega
  have hN1 : (N : Int) ≤ 100000 := by omega
  have hmk2 := run_make_row' (P := Try.prog) 33 4 (.bool false) 1 Try.underlying33 (by kernel_rfl) rfl .i64 .i64 N (by omega) (by omega)
  have ho1 := own_empty EInt 3 w (by decide)
  have hb1 := alloc_below w (.cells #[] 3)
  obtain ⟨w1, hw1⟩ : ∃ x, x = w.alloc (.cells #[] 3) := ⟨_, rfl⟩
  have hs1 : w1.heap.size = B + 1 := by rw [hw1, ← hB]; simp
  rw [← hw1] at ho1 hb1
  have hex1 := hw1.symm
  have hv2 := Vec.made w1 (.bool false) 4 N
  have hb2 := alloc_below w1 (.cells (madeCells #[.bool false] N) 4)
  obtain ⟨w2, hw2⟩ : ∃ x, x = w1.alloc (.cells (madeCells #[.bool false] N) 4) := ⟨_, rfl⟩
  rw [← hw2] at hv2 hb2
  have hex2 := hw2.symm
  have ho2 := ho1.below hb2
  have hs2 : B + 2 ≤ w2.heap.size := by rw [hw2]; simp [hs1]
  have hb02 : Below B w w2 := by rw [← hB]; exact hb1.trans (hb2.mono hb1.size)
  rw [hB] at ho2
  rw [hs1] at hv2
  have Hv2 := Lib.hid (hv2.congr (f' := fun v => .bool (([] : List Nat).contains v)) fun v _ => by simp)
  have Ho2 := Lib.hid ho2
  have HM := Lib.hid hM
  have hgB : g < B := by rw [← hB]; exact hM.vec.lt
  have hrB : ∀ i, i < N → rows i < B := fun i hi => by rw [← hB]; exact (hM.row i hi).lt
  have HrB := Lib.hid hrB
  have HB := Lib.hid hB
  obtain ⟨E, hE⟩ : ∃ E, E = B + 1 := ⟨_, rfl⟩
  rw [← hE] at hs1 Hv2
  have hBE : B < E := by omega
  have hs2' : E + 1 ≤ w2.heap.size := by omega
  have HE := Lib.hid hE
  rw [hE] at hs1
  clear hM hw1 hrB hw2 ho1 hb1 hv2 hb2 ho2 hE
  go_enter Try.func19, Try.ntmps19
  go_upto_region 3 with fail
  clear hex1
  go_wp2_with fail
  rw [← HE.out]
  clear hex2 hmk2 hB hs1 hs2
  go_loopg [5] N (fun gn v wr => ∃ done : List Nat, RowKit.Hid (gn = N - done.length) ∧ done.length ≤ N ∧ RowKit.Hid (Gr.topo N R (N - done.length) done = Gr.topo N R N []) ∧ RowKit.Hid (Own EInt 3 B wr v (natI done)) ∧ RowKit.Hid (some E ≠ v.ownBlock) ∧ RowKit.Hid (Vec wr E 4 N (fun v => .bool (done.contains v))) ∧ Below B w wr ∧ E + 1 ≤ wr.heap.size)
  case atStart => exact ⟨[], Lib.hid rfl, Nat.zero_le _, Lib.hid rfl, Ho2, Lib.hid (by simp [Value.ownBlock]; omega), Hv2, hb02, hs2'⟩
  case round =>
    clear Ho2 Hv2 hb02 hs2'
    obtain ⟨done, hgn, hdl, htopo, hO, hnE, hV, hbw, hsz⟩ := hrel
    obtain ⟨k, hkd⟩ : ∃ k, k = done.length := ⟨_, rfl⟩
    rw [← hkd] at hgn hdl htopo
    obtain ⟨a4, c4, rfl, hc4, hm4, hx1, hx2⟩ := hO.out.shape k (by rw [natI_len]; exact hkd)
    have Hkd := Lib.hid hkd
    have hcm : (c4 : Int) ≤ 9223372036854775807 := by unfold maxLen at hm4; omega
    clear hkd hm4 hx1 hx2
    by_cases hlt : k < N
    · have hki : (k : Int) < (N : Int) := by omega
      have hk0 : (0 : Int) ≤ (k : Int) := by omega
      obtain ⟨wo, hwo⟩ : ∃ x : World, x = wr := ⟨_, rfl⟩
      rw [← hwo] at hV hbw hsz hO ⊢
      clear hwo
      go_wp2_with fail
      go_loopg [7, 8] N (fun gm x i wj => ∃ (q : Nat) (z : Int), RowKit.Hid (gm = q) ∧ q ≤ N ∧ i = .int .i64 ((q : Int) - 1) ∧ x = .int .i64 z ∧ RowKit.Hid (Gr.lowF N R done q z) ∧ wo = wj)
      case atStart => exact ⟨N, -1, Lib.hid rfl, Nat.le_refl _, rfl, rfl, Lib.hid (Gr.lowF_start N R done), rfl⟩
      case round =>
        obtain ⟨q, z, hgm, hq, rfl, rfl, hlow, rfl⟩ := hrel
        by_cases hq0 : 0 < q
        · obtain ⟨p, rfl⟩ : ∃ p, q = p + 1 := ⟨q - 1, by omega⟩
          have hpe : ((p + 1 : Nat) : Int) - 1 = (p : Int) := by omega
          rw [hpe]
          have hp0 : (0 : Int) ≤ (p : Int) := by omega
          have hpN : (p : Int) < (N : Int) := by omega
          have hpl : p < N := by omega
          have y1 := hV.out.cell hpl
          have hf0 : RowKit.Hid ((!done.contains p) = Gr.frU R done p 0) := Lib.hid (Gr.frU_zero R done p).symm
          obtain ⟨bp, hbp⟩ : ∃ x, x = done.contains p := ⟨_, rfl⟩
          rw [← hbp] at y1 hf0
          clear hbp hpe hq0
          go_wp2_with fail
          go_loopg [9, 10] N (fun gj f i wj => ∃ j : Nat, RowKit.Hid (gj = N - j) ∧ j ≤ N ∧ i = .int .i64 j ∧ (∃ bf, f = .bool bf ∧ RowKit.Hid (bf = Gr.frU R done p j)) ∧ wo = wj)
          case atStart => exact ⟨0, Lib.hid rfl, Nat.zero_le _, rfl, ⟨_, rfl, hf0⟩, rfl⟩
          case round =>
            clear hf0 y1
            obtain ⟨j, hgj, hj, rfl, ⟨bf, rfl, hbf⟩, rfl⟩ := hrel
            by_cases hjl : j < N
            · have hji : (j : Int) < (N : Int) := by omega
              have hj0 : (0 : Int) ≤ (j : Int) := by omega
              have hMs := HM.out.low hgB HrB.out hbw.block
              have y2 := hV.out.cell hjl
              have y3 := hMs.cell hjl
              have y4 := hMs.at hjl hpl
              have hsn := Gr.frU_succ R done p j
              rw [← hbf.out] at hsn
              obtain ⟨bj, hbj⟩ : ∃ x, x = done.contains j := ⟨_, rfl⟩
              obtain ⟨br, hbr⟩ : ∃ x, x = R j p := ⟨_, rfl⟩
              obtain ⟨rj, hrj⟩ : ∃ x, x = rows j := ⟨_, rfl⟩
              obtain ⟨cj, hcj⟩ : ∃ x, x = cp j := ⟨_, rfl⟩
              rw [← hbj] at y2 hsn
              rw [← hrj, ← hcj] at y3
              rw [← hrj, ← hbr] at y4
              rw [← hbr] at hsn
              have Hsn := Lib.hid hsn
              clear hMs hsn hbj hbr hrj hcj hbf
              cases bf
              · go_wp2_with fail
                go_roundg (N - (j + 1))
                case measure => rw [hgj.out]; omega
                case rel => exact ⟨j + 1, Lib.hid rfl, by omega, by go_num, ⟨_, rfl, Lib.hid (by rw [Hsn.out]; rfl)⟩, rfl⟩
              · cases bj
                · cases br
                  · go_wp2_with fail
                    go_roundg (N - (j + 1))
                    case measure => rw [hgj.out]; omega
                    case rel => exact ⟨j + 1, Lib.hid rfl, by omega, by go_num, ⟨_, rfl, Lib.hid (by rw [Hsn.out]; rfl)⟩, rfl⟩
                  · go_wp2_with fail
                    go_roundg (N - (j + 1))
                    case measure => rw [hgj.out]; omega
                    case rel => exact ⟨j + 1, Lib.hid rfl, by omega, by go_num, ⟨_, rfl, Lib.hid (by rw [Hsn.out]; rfl)⟩, rfl⟩
                · go_wp2_with fail
                  go_roundg (N - (j + 1))
                  case measure => rw [hgj.out]; omega
                  case rel => exact ⟨j + 1, Lib.hid rfl, by omega, by go_num, ⟨_, rfl, Lib.hid (by rw [Hsn.out]; cases br <;> rfl)⟩, rfl⟩
            · have hji : ¬ ((j : Int) < (N : Int)) := by omega
              obtain rfl : N = j := by omega
              have hfb : bf = Gr.freeB N R done p := hbf.out
              have Hfb := Lib.hid hfb
              clear hbf hfb
              cases bf
              · go_wp2_with fail
                go_roundg p
                case measure => rw [hgm.out]; omega
                case rel => exact ⟨p, z, Lib.hid rfl, by omega, by go_num, rfl, Lib.hid (Gr.lowF_no hlow.out Hfb.out.symm), rfl⟩
              · go_wp2_with fail
                go_roundg p
                case measure => rw [hgm.out]; omega
                case rel => exact ⟨p, p, Lib.hid rfl, by omega, by go_num, rfl, Lib.hid (Gr.lowF_yes hlow.out hpl Hfb.out.symm), rfl⟩
        · obtain rfl : q = 0 := by omega
          rcases Gr.lowF_fin hlow.out with ⟨rfl, hpk⟩ | ⟨p, rfl, hpl, hpk⟩
          · have hnone : Gr.topo N R N [] = none := by
              rw [← htopo.out, show N - k = (N - k - 1) + 1 by omega]
              exact Gr.topo_none hpk
            have Hnone := Lib.hid hnone
            clear hnone hpk hlow
            go_wp2_with fail
            refine bodyPost_ret (v := .tuple #[.slice none 0 0, .bool false]) (by simp [results, Try.results19, go_sem]) rfl ?_
            refine ⟨.slice none 0 0, ?_, ?_, hbw⟩
            · rw [Hnone.out]; rfl
            · rw [Hnone.out]; exact Own.nil _ _ _ _
          · have hp0 : (0 : Int) ≤ (p : Int) := by omega
            have hpN : (p : Int) < (N : Int) := by omega
            have y1 := hV.out.cell hpl
            have yf := hV.out.free p
            have htp : Gr.topo N R (N - (k + 1)) (done ++ [p]) = Gr.topo N R N [] := by
              rw [← htopo.out, show N - k = (N - (k + 1)) + 1 by omega, Gr.topo_some hpk]
            have hVe2 : RowKit.Hid (Vec (wo.setCell ⟨E, p, none⟩ (.bool true)) E 4 N (fun v => .bool ((done ++ [p]).contains v))) := Lib.hid ((hV.out.set p (.bool true)).congr fun v _ => by
              unfold updV
              by_cases e : v = p
              · rw [if_pos e, e]; simp
              · rw [if_neg e]; simp [e])
            have hb6 : Below B w (wo.setCell ⟨E, p, none⟩ (.bool true)) := hbw.setCell (by show B ≤ E; omega) _
            have ho6 : Own EInt 3 B (wo.setCell ⟨E, p, none⟩ (.bool true)) (.slice a4 k c4) (natI done) := OwnI.stay hO.out fun g hg => heap_setOther _ (fun e => hnE.out (by rw [← e]; exact hg.symm)) _ _
            obtain ⟨w6, hw6⟩ : ∃ x, x = wo.setCell ⟨E, p, none⟩ (.bool true) := ⟨_, rfl⟩
            have hsz6 : E + 1 ≤ w6.heap.size := by rw [hw6]; simpa using hsz
            have hw6' := hw6.symm
            rw [← hw6] at hVe2 hb6 ho6
            have hpr : -9223372036854775808 ≤ (p : Int) ∧ (p : Int) ≤ 9223372036854775807 := by omega
            have Ho7 := Lib.hid (ho6.below (alloc_below w6 (.cells #[.int .i64 p] 3)))
            have Hs7 : RowKit.Hid (Sl EInt (fun b => some b ≠ (Value.slice a4 k c4).ownBlock) (w6.alloc (.cells #[.int .i64 p] 3)) (some ⟨w6.heap.size, 0, none⟩) [(p : Int)]) := Lib.hid (sl_one (heap_alloc_new w6 _) ⟨rfl, hpr⟩ ho6.fresh)
            have Hb7 := Lib.hid (hb6.alloc (by omega) (.cells #[.int .i64 p] 3))
            have Hb67 := Lib.hid (alloc_below w6 (.cells #[.int .i64 p] 3))
            have Htp := Lib.hid htp
            have hkl : (natI done).length = k := by rw [natI_len, ← Hkd.out]
            have Hkl := Lib.hid hkl
            clear hw6 hb6 ho6 hpr htp hpk hlow hV hO hkl
            go_upto_region 19 with fail
            clear hw6' y1 yf
            go_wp2_with (refine wpList_app EInt rfl rfl rfl rfl ti_ints Ho7.out rfl Hs7.out ?_ ?_ ?_ ?_)
            · rw [Hkl.out]; simp [maxLen]; omega
            · rw [Hkl.out]; simp; omega
            · simp; omega
            · intro v8 w8 ho8 hg8 hv8 hb8
              have hE7 : E < (w6.alloc (.cells #[.int .i64 p] 3)).heap.size := by simp; omega
              have hVe8 := Lib.hid ((hVe2.out.below Hb67.out).keep (hg8.block E hE7 hnE.out))
              have hb08 : Below B w w8 := Hb7.out.trans hb8
              have hsz8 : E + 1 ≤ w8.heap.size := by have := Hb67.out.size; have := hb8.size; omega
              have hlist : natI done ++ [(p : Int)] = natI (done ++ [p]) := by unfold natI; simp
              rw [hlist] at ho8
              have Ho8 := Lib.hid ho8
              have HnE8 : RowKit.Hid (some E ≠ v8.ownBlock) := Lib.hid (by
                rcases hv8 with h | ⟨b, h, h2⟩
                · rw [h]; exact hnE.out
                · rw [h]; intro e; injection e with e; omega)
              have Hlen : RowKit.Hid ((done ++ [p]).length = k + 1) := Lib.hid (by simp [← Hkd.out])
              clear ho8 hg8 hv8 hb8 hlist Ho7 Hs7 Hb7 hVe2
              go_wp2_with fail
              go_roundg (N - (k + 1))
              case measure => rw [hgn.out]; omega
              case rel => exact ⟨done ++ [p], Lib.hid (by rw [Hlen.out]), by rw [Hlen.out]; omega, Lib.hid (by rw [Hlen.out]; exact Htp.out), Ho8, HnE8, hVe8, hb08, hsz8⟩
    · have hki : ¬ ((k : Int) < (N : Int)) := by omega
      obtain rfl : N = k := by omega
      have hdn : Gr.topo N R N [] = some done := by rw [← htopo.out, Nat.sub_self]; rfl
      have Hdn := Lib.hid hdn
      clear hdn
      go_wp2_with fail
      refine bodyPost_ret (v := .tuple #[.slice a4 N c4, .bool true]) (by simp [results, Try.results19, go_sem]) rfl ?_
      refine ⟨.slice a4 N c4, ?_, ?_, hbw⟩
      · rw [Hdn.out]; rfl
      · rw [Hdn.out]; exact hO.out
end Go.Proofs.Yticpbiccgnfecaa

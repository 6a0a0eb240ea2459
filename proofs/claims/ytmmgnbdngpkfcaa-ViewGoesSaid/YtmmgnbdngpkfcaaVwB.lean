/-
  What is laid, walked; whether a member leads; how many are most.
-/
import Derived.Test.YtmmgnbdngpkfcaaVwA
namespace Go.Proofs.Ytmmgnbdngpkfcaa
open Go.RowKit
set_option linter.unusedVariables false

theorem alloc_size (w : World) (o : Obj) : (w.alloc o).heap.size = w.heap.size + 1 := by simp
theorem alloc3_heap (w : World) (o1 o2 o3 : Obj) : (((w.alloc o1).alloc o2).alloc o3).heap[w.heap.size]? = some o1 ∧ (((w.alloc o1).alloc o2).alloc o3).heap[w.heap.size + 1]? = some o2 ∧ (((w.alloc o1).alloc o2).alloc o3).heap[w.heap.size + 2]? = some o3 ∧ Below w.heap.size w (((w.alloc o1).alloc o2).alloc o3) := by
  have z1 := alloc_size w o1
  have z2 := alloc_size (w.alloc o1) o2
  have b1 := alloc_below w o1
  have b2 := alloc_below (w.alloc o1) o2
  have b3 := alloc_below ((w.alloc o1).alloc o2) o3
  refine ⟨?_, ?_, ?_, b1.trans ((b2.mono (by omega)).trans (b3.mono (by omega)))⟩
  · rw [b3.block _ (by omega), b2.block _ (by omega)]; exact heap_alloc_new w o1
  · rw [b3.block _ (by omega), ← z1]; exact heap_alloc_new _ o2
  · rw [show w.heap.size + 2 = ((w.alloc o1).alloc o2).heap.size by omega]; exact heap_alloc_new _ o3
set_option maxHeartbeats 3200000 in
theorem vw_Lay (ok : Nat → Prop) (k : Vw.Keep) (r : Vw.Rc) (la : Option Addr) (ln lc : Nat) (da : Option Addr) (dn dc : Nat) (w : World) (hln : ln = k.log.length) (hlc : ln ≤ lc ∧ lc ≤ maxLen) (hlog : Sl EBytes ok w la k.log)
    (hdn : dn = r.data.length) (hdc : dn ≤ dc ∧ dc ≤ maxLen) (hdat : Sl EU8 ok w da r.data) (hok : ∀ k, w.heap.size ≤ k → ok k) (hl : ln ≤ 100000) (ha : -9223372036854775808 ≤ r.a ∧ r.a ≤ 9223372036854775807) :
    Calls Try.prog 54 #[.agg #[.int .i64 k.view, .int .i64 k.normal, .slice la ln lc], .agg #[.int .i64 r.kind, .int .i64 r.a, .int .i64 r.b, .slice da dn dc]] w fun e w' =>
      ∃ la' lc', e = .returned (.agg #[.int .i64 (Vw.lay k r).view, .int .i64 (Vw.lay k r).normal, .slice la' (Vw.lay k r).log.length lc']) ∧ ((Vw.lay k r).log.length ≤ lc' ∧ lc' ≤ maxLen) ∧ Sl EBytes ok w' la' (Vw.lay k r).log ∧ Below w.heap.size w w' := by
  obtain ⟨kv, kn, kl⟩ := k
  obtain ⟨rk, ra, rb, rd⟩ := r
  dsimp only at hln hlog hdn hdat ha ⊢
  obtain ⟨B, hB⟩ : ∃ B, B = w.heap.size := ⟨_, rfl⟩
  have Hlog := Lib.hid hlog
  have Hdat := Lib.hid hdat
  have Hln := Lib.hid hln
  have Hdn := Lib.hid hdn
  have Hok := Lib.hid hok
  have HB := Lib.hid hB
  have Hdc := Lib.hid hdc
  rw [← hB]
  clear hlog hdat hln hdn hok hB hdc
  obtain ⟨w3, hw3⟩ : ∃ x, x = ((w.alloc (.cells #[.int .i64 kv, .int .i64 kn, .slice la ln lc] 95)).alloc (.cells #[.int .i64 rk, .int .i64 ra, .int .i64 rb, .slice da dn dc] 98)).alloc (.cells #[.int .i64 0, .int .i64 0, .slice none 0 0] 95) := ⟨_, rfl⟩
  obtain ⟨h0, h1, h2, hb3⟩ := alloc3_heap w (.cells #[.int .i64 kv, .int .i64 kn, .slice la ln lc] 95) (.cells #[.int .i64 rk, .int .i64 ra, .int .i64 rb, .slice da dn dc] 98) (.cells #[.int .i64 0, .int .i64 0, .slice none 0 0] 95)
  rw [← hw3, ← HB.out] at h0 h1 h2 hb3
  have c00 : w3.cell? ⟨B, 0, none⟩ = some (.int .i64 kv) := by simp [World.cell?, h0]
  have c01 : w3.cell? ⟨B, 1, none⟩ = some (.int .i64 kn) := by simp [World.cell?, h0]
  have c02 : w3.cell? ⟨B, 2, none⟩ = some (.slice la ln lc) := by simp [World.cell?, h0]
  have c10 : w3.cell? ⟨B + 1, 0, none⟩ = some (.int .i64 rk) := by simp [World.cell?, h1]
  have c11 : w3.cell? ⟨B + 1, 1, none⟩ = some (.int .i64 ra) := by simp [World.cell?, h1]
  have c12 : w3.cell? ⟨B + 1, 2, none⟩ = some (.int .i64 rb) := by simp [World.cell?, h1]
  have c13 : w3.cell? ⟨B + 1, 3, none⟩ = some (.slice da dn dc) := by simp [World.cell?, h1]
  have f0 : ∀ o, w3.frozen? ⟨B, o, none⟩ = false := fun o => by simp [World.frozen?, h0]
  have c20 : w3.cell? ⟨B + 1 + 1, 0, none⟩ = some (.int .i64 0) := by simp [World.cell?, h2]
  have c21 : w3.cell? ⟨B + 1 + 1, 1, none⟩ = some (.int .i64 0) := by simp [World.cell?, h2]
  have c22 : w3.cell? ⟨B + 1 + 1, 2, none⟩ = some (.slice none 0 0) := by simp [World.cell?, h2]
  have f2 : ∀ o, w3.frozen? ⟨B + 1 + 1, o, none⟩ = false := fun o => by simp [World.frozen?, h2]
  have Hw3 := Lib.hid hw3
  clear hw3
  go_enter Try.func54, Try.ntmps54
  go_upto_region 1 with fail
  rw [← HB.out, ← Hw3.out]
  have H0 := Lib.hid h0
  have H1 := Lib.hid h1
  have H2 := Lib.hid h2
  have Hb3 := Lib.hid hb3
  clear h0 h1 h2 hb3
  obtain ⟨ok2, hok2⟩ : ∃ ok2 : Nat → Prop, ok2 = fun k => ok k ∧ (k < B ∨ B + 3 ≤ k) := ⟨_, rfl⟩
  have hz3 : w3.heap.size = B + 3 := by rw [Hw3.out, HB.out]; simp
  have hlg3 : Sl EBytes ok2 w3 la kl := Hlog.out.mono (by decide) fun k hk hlt => ⟨Hb3.out.block k (by rw [HB.out]; exact hlt), by rw [hok2]; exact ⟨hk, .inl (by rw [HB.out]; exact hlt)⟩⟩
  have hdt3 : Sl EU8 ok2 w3 da rd := Hdat.out.mono (by decide) fun k hk hlt => ⟨Hb3.out.block k (by rw [HB.out]; exact hlt), by rw [hok2]; exact ⟨hk, .inl (by rw [HB.out]; exact hlt)⟩⟩
  have hok3 : ∀ k, w3.heap.size ≤ k → ok2 k := fun k hk => by rw [hok2]; exact ⟨Hok.out k (by rw [← HB.out]; omega), .inr (by omega)⟩
  have hfin : ∀ (w4 W' : World) (la' : Option Addr) (l' : List (List (BitVec 8))) (v n : Int) (ln' lc' : Nat) (x y z : Value), Below w3.heap.size w3 w4 → Only (fun k => B ≤ k ∧ k < B + 3) w4 W' → W'.heap[B + 1 + 1]? = some (.cells #[x, y, z] 95 (0, 0)) → Sl EBytes ok2 w4 la' l' →
      (((W'.setCell ⟨B + 1 + 1, 0, none⟩ (.int .i64 v)).setCell ⟨B + 1 + 1, 1, none⟩ (.int .i64 n)).setCell ⟨B + 1 + 1, 2, none⟩ (.slice la' ln' lc')).heap[B + 1 + 1]? = some (.cells #[.int .i64 v, .int .i64 n, .slice la' ln' lc'] 95 (0, 0)) ∧
      Sl EBytes ok (((W'.setCell ⟨B + 1 + 1, 0, none⟩ (.int .i64 v)).setCell ⟨B + 1 + 1, 1, none⟩ (.int .i64 n)).setCell ⟨B + 1 + 1, 2, none⟩ (.slice la' ln' lc')) la' l' ∧
      Below B w (((W'.setCell ⟨B + 1 + 1, 0, none⟩ (.int .i64 v)).setCell ⟨B + 1 + 1, 1, none⟩ (.int .i64 n)).setCell ⟨B + 1 + 1, 2, none⟩ (.slice la' ln' lc')) := by
    intro w4 W' la' l' v n ln' lc' x y z hb4 ho hh hs
    have hO : Only (fun k => B ≤ k ∧ k < B + 3) w4 (((W'.setCell ⟨B + 1 + 1, 0, none⟩ (.int .i64 v)).setCell ⟨B + 1 + 1, 1, none⟩ (.int .i64 n)).setCell ⟨B + 1 + 1, 2, none⟩ (.slice la' ln' lc')) :=
      ((ho.setCell (p := ⟨B + 1 + 1, 0, none⟩) (.inl ⟨by show B ≤ B + 1 + 1; omega, by show B + 1 + 1 < B + 3; omega⟩) _).setCell (p := ⟨B + 1 + 1, 1, none⟩) (.inl ⟨by show B ≤ B + 1 + 1; omega, by show B + 1 + 1 < B + 3; omega⟩) _).setCell (p := ⟨B + 1 + 1, 2, none⟩) (.inl ⟨by show B ≤ B + 1 + 1; omega, by show B + 1 + 1 < B + 3; omega⟩) _
    refine ⟨?_, hs.mono (by decide) fun k hk hlt => ?_, ?_⟩
    · rw [heap_set (heap_set (heap_set hh 0 _) 1 _) 2 _]
      rfl
    · rw [hok2] at hk
      exact ⟨hO.block k hlt (by omega), hk.1⟩
    · have hb4' : Below B w3 w4 := hb4.mono (by omega)
      exact Hb3.out.trans (hb4'.trans (hO.below (by have := hb4.size; omega) fun k hk => hk.1))
  have Hlg3 := Lib.hid hlg3
  have Hdt3 := Lib.hid hdt3
  have Hok3 := Lib.hid hok3
  have Hfin := Lib.hid hfin
  have Hz3 := Lib.hid hz3
  clear hlg3 hdt3 hok3 hfin hz3 hok2
  by_cases k1 : rk = 1
  · subst k1
    go_wp2_with fail
    go_region
    go_wp2_with fail
    have ho : Only (fun k => B ≤ k ∧ k < B + 3) w3 ((w3.setCell ⟨B, 0, none⟩ (.int .i64 ra)).setCell ⟨B, 1, none⟩ (.int .i64 rb)) :=
      ((Only.refl (fun k => B ≤ k ∧ k < B + 3) w3).setCell (p := ⟨B, 0, none⟩) (.inl ⟨Nat.le_refl _, by show B < B + 3; omega⟩) (.int .i64 ra)).setCell (p := ⟨B, 1, none⟩) (.inl ⟨Nat.le_refl _, by show B < B + 3; omega⟩) (.int .i64 rb)
    obtain ⟨f1, f2, f3⟩ := Hfin.out w3 ((w3.setCell ⟨B, 0, none⟩ (.int .i64 ra)).setCell ⟨B, 1, none⟩ (.int .i64 rb)) la kl ra rb ln lc _ _ _ (Below.refl _ _) ho (by rw [heap_setOther _ (by omega), heap_setOther _ (by omega)]; exact H2.out) Hlg3.out
    obtain ⟨W5, hW5⟩ : ∃ x, x = ((((w3.setCell ⟨B, 0, none⟩ (.int .i64 ra)).setCell ⟨B, 1, none⟩ (.int .i64 rb)).setCell ⟨B + 1 + 1, 0, none⟩ (.int .i64 ra)).setCell ⟨B + 1 + 1, 1, none⟩ (.int .i64 rb)).setCell ⟨B + 1 + 1, 2, none⟩ (.slice la ln lc) := ⟨_, rfl⟩
    rw [← hW5] at f1 f2 f3 ⊢
    clear hW5
    have f1' : W5.drew.heap[B + 1 + 1]? = _ := f1
    refine bodyPost_ret (v := .agg #[.int .i64 ra, .int .i64 rb, .slice la ln lc]) (results_cell_row Try.results54 _ _ (B + 1 + 1) 95 _ (0, 0) _ rfl f1' Try.underlying95 rfl (by kernel_rfl)) rfl ?_
    have e : Vw.lay ⟨kv, kn, kl⟩ ⟨1, ra, rb, rd⟩ = ⟨ra, rb, kl⟩ := rfl
    rw [e]
    exact ⟨la, lc, by rw [Hln.out], by rw [← Hln.out]; exact hlc, f2.heap (by decide) rfl, f3.drew⟩
  · have k1' : (rk == 1) = false := by simpa using k1
    by_cases k2 : rk = 2
    · subst k2
      have hA : ∀ X : World, Below w3.heap.size w3 X → X.heap[w3.heap.size]? = some (.cells #[.slice da dn dc] 49 (0, 0)) → w3.heap.size < X.heap.size → Sl EBytes ok2 X la kl ∧ Sl EBytes ok2 X (some ⟨w3.heap.size, 0, none⟩) [rd] ∧ (∀ k, X.heap.size ≤ k → ok2 k) := by
        intro X hX hh hz
        refine ⟨Hlg3.out.below (by decide) hX, sl_one hh ?_ (Hok3.out _ (Nat.le_refl _)), fun k hk => Hok3.out k (by omega)⟩
        exact ⟨da, dc, by rw [← Hdn.out], by rw [← Hdn.out]; exact Hdc.out.1, Hdc.out.2, Hdt3.out.below (by decide) hX⟩
      have HA := Lib.hid hA
      have hthru : ∀ W : World, Below w3.heap.size w3 W → W.cell? ⟨B, 2, none⟩ = some (.slice la ln lc) ∧ W.frozen? ⟨B, 2, none⟩ = false := fun W hW => ⟨cell_thru c02 hW, by rw [hW.frozen (p := ⟨B, 2, none⟩) (by show B < w3.heap.size; rw [Hz3.out]; omega)]; exact f0 2⟩
      have kA1 := (hthru _ (alloc_below w3 (.cells #[.slice da dn dc] 49))).1
      have kA2 := (hthru _ (alloc_below w3 (.cells #[.slice da dn dc] 49))).2
      have Hthru := Lib.hid hthru
      have HbA := Lib.hid (alloc_below w3 (.cells #[.slice da dn dc] 49))
      have HhA := Lib.hid (heap_alloc_new w3 (.cells #[.slice da dn dc] 49))
      clear hA hthru
      go_wp2_with fail
      go_region_law ((first
        | (go_simp
           go_at_call 92
           refine (vw_clip la ln lc _ hlc.1).mono ?_
           rintro e w4 ⟨rfl, rfl⟩)
        | (rw [if_pos (by simp [Region.wanted])]
           have hbX : ∀ {X : World}, Below w3.heap.size w3 X → X = X → Below w3.heap.size w3 X := fun h _ => h
           refine step_app_full EBytes (by rfl) (by rfl) (by rfl) ti_texts Hln.out (HA.out _ (by first | exact HbA.out | exact HbA.out.drew) HhA.out (by simp)).1 rfl (HA.out _ (by first | exact HbA.out | exact HbA.out.drew) HhA.out (by simp)).2.1 (by simp) (HA.out _ (by first | exact HbA.out | exact HbA.out.drew) HhA.out (by simp)).2.2 (by rw [← Hln.out]; unfold maxLen; show ln + 1 ≤ _; omega) (by rw [← Hln.out]; show (ln + 1) * 24 ≤ _; omega) ?_
           intro g5 c5 w5 hc5 hs5 hb5
           have hb35 : Below w3.heap.size w3 w5 := Below.trans (by first | exact HbA.out | exact HbA.out.drew) (hb5.mono (by simp))
           have k5 := (Hthru.out _ hb35).1
           have kf5 := (Hthru.out _ hb35).2)))
      all_goals
        have hB2 := (hb35.block (B + 2) (by rw [Hz3.out]; omega)).trans H2.out
        have c20' : w5.cell? ⟨B + 1 + 1, 0, none⟩ = some (.int .i64 0) := by simp [World.cell?, hB2]
        have c21' : w5.cell? ⟨B + 1 + 1, 1, none⟩ = some (.int .i64 0) := by simp [World.cell?, hB2]
        have c22' : w5.cell? ⟨B + 1 + 1, 2, none⟩ = some (.slice none 0 0) := by simp [World.cell?, hB2]
        have f2' : ∀ o, w5.frozen? ⟨B + 1 + 1, o, none⟩ = false := fun o => by simp [World.frozen?, hB2]
        have hB0 := (hb35.block B (by rw [Hz3.out]; omega)).trans H0.out
        have c00' : w5.cell? ⟨B, 0, none⟩ = some (.int .i64 kv) := by simp [World.cell?, hB0]
        have c01' : w5.cell? ⟨B, 1, none⟩ = some (.int .i64 kn) := by simp [World.cell?, hB0]
        have HB2 := Lib.hid hB2
        have Hb35 := Lib.hid hb35
        have Hs5 := Lib.hid hs5
        have Hc5 := Lib.hid hc5
        clear hB0 hB2 hb35 hs5 hc5 hb5
        go_wp2_with fail
        have ho : Only (fun k => B ≤ k ∧ k < B + 3) w5 (w5.setCell ⟨B, 2, none⟩ (.slice (some ⟨g5, 0, none⟩) (kl.length + 1) c5)) := (Only.refl _ w5).setCell (p := ⟨B, 2, none⟩) (.inl ⟨Nat.le_refl _, by show B < B + 3; omega⟩) _
        obtain ⟨f1, f2, f3⟩ := Hfin.out w5 (w5.setCell ⟨B, 2, none⟩ (.slice (some ⟨g5, 0, none⟩) (kl.length + 1) c5)) (some ⟨g5, 0, none⟩) (kl ++ [rd]) kv kn (kl.length + 1) c5 _ _ _ Hb35.out ho (by rw [heap_setOther _ (by omega)]; exact HB2.out) Hs5.out
        refine bodyPost_ret (v := .agg #[.int .i64 kv, .int .i64 kn, .slice (some ⟨g5, 0, none⟩) (kl.length + 1) c5]) (results_cell_row Try.results54 _ _ (B + 1 + 1) 95 _ (0, 0) _ rfl f1 Try.underlying95 rfl (by kernel_rfl)) rfl ?_
        have e : Vw.lay ⟨kv, kn, kl⟩ ⟨2, ra, rb, rd⟩ = ⟨kv, kn, kl ++ [rd]⟩ := rfl
        rw [e]
        exact ⟨_, c5, by rw [List.length_append]; rfl, by rw [List.length_append]; exact Hc5.out, f2, f3⟩
    · have k2' : (rk == 2) = false := by simpa using k2
      by_cases k3 : rk = 3
      · subst k3
        obtain ⟨j, hj, hjl⟩ : ∃ j : Nat, (min (max ra 0) (kl.length : Int)).toNat = j ∧ j ≤ ln := ⟨_, rfl, by rw [Hln.out]; omega⟩
        have hjd : (ra < 0 ∧ j = 0) ∨ (0 ≤ ra ∧ (ra : Int) ≤ ln ∧ j = ra.toNat) ∨ (0 ≤ ra ∧ (ln : Int) < ra ∧ j = ln) := by
          have := Hln.out
          rcases Int.lt_or_le ra 0 with h | h
          · exact .inl ⟨h, by omega⟩
          · rcases Int.lt_or_le (ln : Int) ra with h2 | h2
            · exact .inr (.inr ⟨h, h2, by omega⟩)
            · exact .inr (.inl ⟨h, h2, by omega⟩)
        have htk : Sl EBytes ok2 w3 la (kl.take j) := by
          intro i x hx
          rw [List.getElem?_take] at hx
          split at hx
          · exact Hlg3.out i x hx
          · cases hx
        have hC := vw_cloneT ok2 la j lc (kl.take j) w3 (by rw [List.length_take, ← Hln.out]; omega) htk Hok3.out (by omega)
        have HC := Lib.hid hC
        have e : Vw.lay ⟨kv, kn, kl⟩ ⟨3, ra, rb, rd⟩ = ⟨kv, kn, kl.take j⟩ := by
          show Vw.Keep.mk kv kn (kl.take (min (max ra 0) (kl.length : Int)).toNat) = _
          rw [hj]
        have hjt : (kl.take j).length = j := by rw [List.length_take, ← Hln.out]; omega
        have He := Lib.hid e
        have Hjt := Lib.hid hjt
        have Hj := Lib.hid hj
        clear htk hC e hj hjt
        have hend : ∀ (a5 : Option Addr) (c5 : Nat) (w5 : World), (j ≤ c5 ∧ c5 ≤ maxLen) → Sl EBytes ok2 w5 a5 (kl.take j) → Below w3.heap.size w3 w5 →
          w5.cell? ⟨B + 1 + 1, 0, none⟩ = some (.int .i64 0) ∧ w5.cell? ⟨B + 1 + 1, 1, none⟩ = some (.int .i64 0) ∧ w5.cell? ⟨B + 1 + 1, 2, none⟩ = some (.slice none 0 0) ∧ (∀ o, w5.frozen? ⟨B + 1 + 1, o, none⟩ = false) ∧
          w5.cell? ⟨B, 0, none⟩ = some (.int .i64 kv) ∧ w5.cell? ⟨B, 1, none⟩ = some (.int .i64 kn) ∧ w5.cell? ⟨B, 2, none⟩ = some (.slice la ln lc) ∧ (∀ o, w5.frozen? ⟨B, o, none⟩ = false) ∧ w5.heap[B + 1 + 1]? = some (.cells #[.int .i64 0, .int .i64 0, .slice none 0 0] 95 (0, 0)) := by
          intro a5 c5 w5 hc5 hs5 hb5
          have hB2 := (hb5.block (B + 2) (by rw [Hz3.out]; omega)).trans H2.out
          have hB0 := (hb5.block B (by rw [Hz3.out]; omega)).trans H0.out
          exact ⟨by simp [World.cell?, hB2], by simp [World.cell?, hB2], by simp [World.cell?, hB2], fun o => by simp [World.frozen?, hB2], by simp [World.cell?, hB0], by simp [World.cell?, hB0], by simp [World.cell?, hB0], fun o => by simp [World.frozen?, hB0], hB2⟩
        have Hend := Lib.hid hend
        clear hend
        rcases hjd with ⟨h1, rfl⟩ | ⟨h1, h2, rfl⟩ | ⟨h1, h2, rfl⟩
        all_goals
          go_wp2_with fail
          refine HC.out.mono ?_
          rintro e w5 ⟨a5, c5, rfl, hc5, hs5, hb5⟩
          obtain ⟨q0, q1, q2, q3, q4, q5, q6, q7, q8⟩ := Hend.out a5 c5 w5 hc5 hs5 hb5
          have Hb5 := Lib.hid hb5
          have Hs5 := Lib.hid hs5
          have Hc5 := Lib.hid hc5
          have Hq8 := Lib.hid q8
          clear hb5 hs5 hc5 q8
          go_wp2_with fail
          have ho : ∀ v, Only (fun k => B ≤ k ∧ k < B + 3) w5 (w5.setCell ⟨B, 2, none⟩ v) := fun v => (Only.refl _ w5).setCell (p := ⟨B, 2, none⟩) (.inl ⟨Nat.le_refl _, by show B < B + 3; omega⟩) _
          obtain ⟨f1, f2, f3⟩ := Hfin.out w5 (w5.setCell ⟨B, 2, none⟩ (.slice a5 _ c5)) a5 _ kv kn _ c5 _ _ _ Hb5.out (ho _) (by rw [heap_setOther _ (by omega)]; exact Hq8.out) Hs5.out
          refine bodyPost_ret (v := .agg #[.int .i64 kv, .int .i64 kn, .slice a5 _ c5]) (results_cell_row Try.results54 _ _ (B + 1 + 1) 95 _ (0, 0) _ rfl f1 Try.underlying95 rfl (by kernel_rfl)) rfl ?_
          rw [He.out]
          exact ⟨a5, c5, congrArg (fun n => Ending.returned (Value.agg #[.int .i64 kv, .int .i64 kn, .slice a5 n c5])) Hjt.out.symm, ⟨Nat.le_trans (Nat.le_of_eq Hjt.out) Hc5.out.1, Hc5.out.2⟩, f2, f3⟩
      · have k3' : (rk == 3) = false := by simpa using k3
        go_wp2_with fail
        obtain ⟨f1, f2, f3⟩ := Hfin.out w3 w3 la kl kv kn ln lc _ _ _ (Below.refl _ _) (Only.refl _ w3) H2.out Hlg3.out
        refine bodyPost_ret (v := .agg #[.int .i64 kv, .int .i64 kn, .slice la ln lc]) (results_cell_row Try.results54 _ _ (B + 1 + 1) 95 _ (0, 0) _ rfl f1 Try.underlying95 rfl (by kernel_rfl)) rfl ?_
        have e : Vw.lay ⟨kv, kn, kl⟩ ⟨rk, ra, rb, rd⟩ = ⟨kv, kn, kl⟩ := by unfold Vw.lay; simp [k1, k2, k3]
        rw [e]
        exact ⟨la, lc, by rw [Hln.out], by rw [← Hln.out]; exact hlc, f2, f3⟩
end Go.Proofs.Ytmmgnbdngpkfcaa

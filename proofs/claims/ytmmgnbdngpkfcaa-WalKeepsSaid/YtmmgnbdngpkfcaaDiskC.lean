
/-
  A disk's calls: Clear, Flush, Read, Safe.
-/
import Derived.Test.YtmmgnbdngpkfcaaDiskB
import Derived.Test.YtmmgnbdngpkfcaaRef01
namespace Go.Proofs.Ytmmgnbdngpkfcaa
open Go.RowKit
set_option linter.unusedVariables false

/-- one tape's cells are written, with what the tape had -/
theorem DkM.retape {F : Nat → Prop} {w w' : World} {g : Nat} {D : Dk.Dsk} {vs os : Nat → Value} (h : DkM F w g D vs os) {k : Nat} (hk : k < 4) {v o : Value} {x : Dk.Tp} (ho : Only (· = g) w w') (hh : w'.heap[g]? = some (.cells (Dk.cells (Dk.upd vs k v) (Dk.upd os k o) (Dk.setT D k x)) 140 (0, 0)))
    (hv : Own EU8 5 0 w' v x.b) (hold : Own EU8 5 0 w' o x.old) (h1 : ∀ y, v.ownBlock = some y → (vs k).ownBlock = some y) (h2 : ∀ y, o.ownBlock = some y → (vs k).ownBlock = some y ∨ (os k).ownBlock = some y) (h3 : ∀ y, v.ownBlock = some y → o.ownBlock ≠ some y) :
    DkM F w' g (Dk.setT D k x) (Dk.upd vs k v) (Dk.upd os k o) := by
  refine ⟨hh, fun i hi => ?_, fun i hi => ?_, h.fg, fun i hi y hy => ?_, fun i hi y hy => ?_, fun i j hi hj hij y hy => ?_, fun i j hi hj y hy => ?_, fun y hy => Nat.lt_of_lt_of_le (h.flt y hy) ho.size⟩
  · by_cases hik : i = k
    · subst hik; simp only [Dk.upd_same, Dk.setT]; exact hv
    · simp only [Dk.upd_other _ _ _ _ hik, Dk.setT]; exact (h.own i hi).u8_only ho fun y hy => (h.fv i hi y hy).2
  · by_cases hik : i = k
    · subst hik; simp only [Dk.upd_same, Dk.setT]; exact hold
    · simp only [Dk.upd_other _ _ _ _ hik, Dk.setT]; exact (h.old i hi).u8_only ho fun y hy => (h.fo i hi y hy).2
  · by_cases hik : i = k
    · subst hik; rw [Dk.upd_same] at hy; exact h.fv i hi y (h1 y hy)
    · rw [Dk.upd_other _ _ _ _ hik] at hy; exact h.fv i hi y hy
  · by_cases hik : i = k
    · subst hik; rw [Dk.upd_same] at hy
      rcases h2 y hy with h4 | h4
      · exact h.fv i hi y h4
      · exact h.fo i hi y h4
    · rw [Dk.upd_other _ _ _ _ hik] at hy; exact h.fo i hi y hy
  · by_cases hik : i = k
    · subst hik
      rw [Dk.upd_same] at hy
      rw [Dk.upd_other _ _ _ _ (fun e => hij e.symm)]
      exact h.vv i j hi hj hij y (h1 y hy)
    · rw [Dk.upd_other _ _ _ _ hik] at hy
      by_cases hjk : j = k
      · subst hjk; rw [Dk.upd_same]; exact fun e => h.vv i j hi hj hij y hy (h1 y e)
      · rw [Dk.upd_other _ _ _ _ hjk]; exact h.vv i j hi hj hij y hy
  · by_cases hik : i = k
    · subst hik
      rw [Dk.upd_same] at hy
      by_cases hji : j = i
      · subst hji; rw [Dk.upd_same]; exact h3 y hy
      · rw [Dk.upd_other _ _ _ _ hji]; exact h.vo i j hi hj y (h1 y hy)
    · rw [Dk.upd_other _ _ _ _ hik] at hy
      by_cases hjk : j = k
      · subst hjk; rw [Dk.upd_same]; intro e
        rcases h2 y e with h4 | h4
        · exact h.vv i j hi hj hik y hy h4
        · exact h.vo i j hi hj y hy h4
      · rw [Dk.upd_other _ _ _ _ hjk]; exact h.vo i j hi hj y hy
/-- a beginning of what is owned -/
theorem Own.cut {te : TypeId} {base : Nat} {w : World} {a : Option Addr} {n c : Nat} {l : List (BitVec 8)} (h : Own EU8 te base w (.slice a n c) l) (k : Nat) (hk : k ≤ l.length) : Own EU8 te base w (.slice a k c) (l.take k) := by
  rcases h with ⟨hv, rfl⟩ | ⟨g, cap, cur, hv, hg, hh, h1, h2, h3, h4⟩
  · injection hv with e1 e2 e3
    subst e1; subst e2; subst e3
    obtain rfl : k = 0 := by simpa using hk
    exact .inl ⟨rfl, rfl⟩
  · injection hv with e1 e2 e3
    subst e1; subst e2; subst e3
    have hl : (l.take k).length = k := by rw [List.length_take]; omega
    refine .inr ⟨g, c, cur, by rw [hl], hg, hh, by rw [hl]; omega, h2, h3, fun i x hi => ?_⟩
    rw [List.getElem?_take] at hi
    split at hi
    · exact h4 i x hi
    · cases hi
theorem Dk.setT_setT (D : Dk.Dsk) (k : Nat) (x y : Dk.Tp) : Dk.setT (Dk.setT D k x) k y = Dk.setT D k y := by
  unfold Dk.setT
  congr 1
  funext j
  unfold Dk.upd
  by_cases h : j = k
  · rw [if_pos h, if_pos h]
  · rw [if_neg h, if_neg h]; simp only [if_neg h]
/-- another cell of the block is written -/
theorem cell_set_ne {w : World} {g a b : Nat} {u v : Value} (hne : a ≠ b) (hc : w.cell? ⟨g, b, none⟩ = some v) : (w.setCell ⟨g, a, none⟩ u).cell? ⟨g, b, none⟩ = some v := by
  obtain ⟨w0, h0⟩ : ∃ x, x = w.cell? ⟨g, b, none⟩ := ⟨_, rfl⟩
  rw [← hc]
  simp only [World.cell?, World.setCell]
  rw [Array.getElem?_modify]
  rw [if_pos rfl]
  cases hh : w.heap[g]? with
  | none => rfl
  | some o =>
    cases o with
    | cells cs t fr => simp [hne]
    | _ => rfl
theorem Dk.setT_get (D : Dk.Dsk) (k : Nat) (x : Dk.Tp) : (Dk.setT D k x).t k = x := by unfold Dk.setT; exact Dk.upd_same _ _ _
theorem Dk.upd_upd {α : Type} (f : Nat → α) (k : Nat) (x y : α) : Dk.upd (Dk.upd f k x) k y = Dk.upd f k y := by
  funext j
  unfold Dk.upd
  split <;> rfl
theorem Dk.upd_self {α : Type} (f : Nat → α) (k : Nat) : Dk.upd f k (f k) = f := by
  funext j
  unfold Dk.upd
  split
  · rename_i h; rw [h]
  · rfl

theorem cell_set_ne_d {w : World} {g a b : Nat} {u v : Value} (hne : a ≠ b) (hc : w.cell? ⟨g, b, none⟩ = some v) : (w.setCell ⟨g, a, none⟩ u).drew.cell? ⟨g, b, none⟩ = some v := cell_set_ne (w := w) hne hc
theorem cell_set_ne_d2 {w : World} {g a b c : Nat} {u v y : Value} (hne : a ≠ b) (hne2 : c ≠ b) (hc : w.cell? ⟨g, b, none⟩ = some v) : ((w.setCell ⟨g, a, none⟩ u).setCell ⟨g, c, none⟩ y).drew.cell? ⟨g, b, none⟩ = some v :=
  cell_set_ne (w := w.setCell ⟨g, a, none⟩ u) hne2 (cell_set_ne (w := w) hne hc)

set_option maxRecDepth 100000 in
set_option maxHeartbeats 1600000 in
theorem disk_Clear {F : Nat → Prop} (g : Nat) (D : Dk.Dsk) (t : Int) (w : World) (h : DkAt F w g D) (hok : Dk.Ok D) (ha : 0 ≤ D.acts ∧ D.acts ≤ 9000000000000000000) :
    Calls Try.prog 29 #[.pointer (some ⟨g, 0, none⟩), .int .i64 t] w fun e w' => e = .returned (.int .i64 (Dk.clear D t).2) ∧ DkAt F w' g (Dk.clear D t).1 ∧ Only F w w' := by
  obtain ⟨vs, os, h⟩ := h
  obtain ⟨A, hA⟩ : ∃ A, A = Dk.clear D t := ⟨_, rfl⟩
  rw [← hA]
  rcases Dk.err_cases D t with ⟨he, he2⟩ | ⟨he, k, rfl, hk⟩
  · have happ : A = (D, Dk.err D t) := by rw [hA]; unfold Dk.clear; rw [if_pos he]
    obtain ⟨r, hr⟩ : ∃ r, r = Dk.err D t := ⟨_, rfl⟩
    rw [← hr] at he happ he2
    have hr' : (r != 0) = true := by simpa using he
    have Hr := Lib.hid hr
    have Happ := Lib.hid happ
    clear hA happ he he2 hr
    go_enter Try.func29, Try.ntmps29
    go_wp2_with fail
    refine (disk_right g D vs os t _ h).mono ?_
    rw [← Hr.out]
    rintro e w1 ⟨rfl, rfl⟩
    go_wp2_with fail
    go_ret
    exact ⟨by rw [Happ.out]; rfl, by rw [Happ.out]; exact ⟨vs, os, h⟩, Only.refl _ _⟩
  · have He := Lib.hid he
    obtain ⟨x, hx⟩ : ∃ x, x = D.t k := ⟨_, rfl⟩
    have hown := h.own k hk
    have hold := h.old k hk
    rw [← hx] at hown hold
    obtain ⟨av, cv, hv, hcv, hcm, hrv, hown'⟩ := hown.shape x.b.length rfl
    have cb := h.c_b hk
    have cs := h.c_safe hk
    have co := h.c_old hk
    have cfr := h.c_fresh hk
    rw [hv] at cb
    rw [← hx] at cs cfr
    have hsf : x.safe ≤ x.b.length := by rw [hx]; exact hok.safe k
    have hxl : (x.b.length : Int) ≤ D.room := by rw [hx]; exact hok.len k
    have hr1 := hok.room1
    have cf := h.cf
    have i0 : (0 : Int) ≤ (k : Int) := by omega
    have i1 : (k : Int) < 4 := by omega
    have i2 : (x.safe : Int) ≤ (cv : Int) := by omega
    have i3 : (0 : Int) ≤ (x.safe : Int) := by omega
    have hA2 : A = Dk.act (Dk.setT D k (Dk.clearT x)) := by rw [hA]; unfold Dk.clear; rw [if_neg (by rw [he]; decide), Int.toNat_natCast, hx]
    have HA2 := Lib.hid hA2
    have Hx := Lib.hid hx
    have Hv := Lib.hid hv
    have hokC : Dk.Ok (Dk.setT D k (Dk.clearT x)) := by
      refine Dk.ok_setT hok _ _ (by simp [Dk.clearT]) (by simp [Dk.clearT]; exact hok.room0) ?_
      have h1 := hok.old k
      rw [← hx] at h1
      simp only [Dk.clearT]
      split
      · exact h1
      · rw [List.length_take]; omega
    clear hA hA2 he hx hv
    cases hfr : x.fresh
    · rw [hfr] at cfr
      have hct : Dk.clearT x = ⟨[], 0, x.b.take x.safe, true⟩ := by unfold Dk.clearT; rw [hfr]; rfl
      have Hct := Lib.hid hct
      have Hfr := Lib.hid hfr
      clear hct hfr
      go_enter Try.func29, Try.ntmps29
      go_wp2_with fail
      refine (disk_right g D vs os k _ h).mono ?_
      rw [He.out]
      rintro e w1 ⟨rfl, rfl⟩
      go_wp2_with fail
      go_region_held3 (fun W => W.cell? ⟨g, k * 4, none⟩ = some (.slice av x.b.length cv) ∧ W.cell? ⟨g, k * 4 + 1, none⟩ = some (.int .i64 x.safe)) (first | (go_keep; done) | exact ⟨cell_set_ne_d (by omega) cb, cell_set_ne_d (by omega) cs⟩ | exact ⟨cell_set_ne_d2 (by omega) (by omega) cb, cell_set_ne_d2 (by omega) (by omega) cs⟩) (fail)
      go_wp2_with fail
      have hO : Only (· = g) w ((((w.setCell ⟨g, k * 4 + 2, none⟩ (.slice av x.safe cv)).setCell ⟨g, k * 4 + 3, none⟩ (.bool true)).setCell ⟨g, k * 4, none⟩ (.slice none 0 0)).setCell ⟨g, k * 4 + 1, none⟩ (.int .i64 0)).drew := by
        have := ((((Only.setCell (S := (· = g)) (Only.refl _ w) (p := ⟨g, k * 4 + 2, none⟩) (.inl rfl) (.slice av x.safe cv)).setCell (p := ⟨g, k * 4 + 3, none⟩) (.inl rfl) (.bool true)).setCell (p := ⟨g, k * 4, none⟩) (.inl rfl) (.slice none 0 0)).setCell (p := ⟨g, k * 4 + 1, none⟩) (.inl rfl) (.int .i64 0))
        exact this.trans (Below.only (S := (· = g)) ((Below.refl _ _).drew)) fun _ _ h => h
      have hH : ((((w.setCell ⟨g, k * 4 + 2, none⟩ (.slice av x.safe cv)).setCell ⟨g, k * 4 + 3, none⟩ (.bool true)).setCell ⟨g, k * 4, none⟩ (.slice none 0 0)).setCell ⟨g, k * 4 + 1, none⟩ (.int .i64 0)).drew.heap[g]? = some (.cells (Dk.cells (Dk.upd vs k (.slice none 0 0)) (Dk.upd os k (.slice av x.safe cv)) (Dk.setT D k (Dk.clearT x))) 140 (0, 0)) := by
        have h4 := heap_set (heap_set (heap_set (heap_set h.heap (k * 4 + 2) (.slice av x.safe cv)) (k * 4 + 3) (.bool true)) (k * 4) (.slice none 0 0)) (k * 4 + 1) (.int .i64 (0 : Nat))
        rw [Dk.set_old hk _ _ _ _ (x.b.take x.safe), Dk.set_fresh hk, Dk.set_b hk _ _ _ _ [], Dk.set_safe hk] at h4
        simp only [Dk.setT_get, Dk.setT_setT] at h4
        rw [Hct.out]
        exact h4
      have hgo : (Value.slice av x.safe cv).ownBlock = (vs k).ownBlock := by rw [Hv.out]; cases av <;> rfl
      have hM := h.retape hk hO hH (by rw [Hct.out]; exact Own.nil _ _ _ _) (by rw [Hct.out]; exact (hown'.cut x.safe hsf).u8_only hO fun y hy => (h.fv k hk y (by rw [← hgo]; exact hy)).2) (fun y hy => by simp [Value.ownBlock] at hy) (fun y hy => .inl (by rw [← hgo]; exact hy)) (fun y hy => by simp [Value.ownBlock] at hy)
      refine (disk_act g _ _ _ _ hM hokC ha).mono ?_
      rintro e w9 ⟨rfl, hM9, hO9⟩
      go_wp2_with fail
      go_ret
      exact ⟨by rw [HA2.out]; rfl, by rw [HA2.out]; exact ⟨_, _, hM9⟩, (hO.trans hO9 fun _ _ h => h).mono fun y hy => by subst hy; exact h.fg⟩
    · rw [hfr] at cfr
      have hct : Dk.clearT x = ⟨[], 0, x.old, true⟩ := by unfold Dk.clearT; rw [hfr]; rfl
      have Hct := Lib.hid hct
      have Hfr := Lib.hid hfr
      clear hct hfr
      go_enter Try.func29, Try.ntmps29
      go_wp2_with fail
      refine (disk_right g D vs os k _ h).mono ?_
      rw [He.out]
      rintro e w1 ⟨rfl, rfl⟩
      go_wp2_with fail
      have hO : Only (· = g) w ((w.setCell ⟨g, k * 4, none⟩ (.slice none 0 0)).setCell ⟨g, k * 4 + 1, none⟩ (.int .i64 0)) :=
        (Only.setCell (S := (· = g)) (Only.refl _ w) (p := ⟨g, k * 4, none⟩) (.inl rfl) (.slice none 0 0)).setCell (p := ⟨g, k * 4 + 1, none⟩) (.inl rfl) (.int .i64 0)
      have hH : ((w.setCell ⟨g, k * 4, none⟩ (.slice none 0 0)).setCell ⟨g, k * 4 + 1, none⟩ (.int .i64 0)).heap[g]? = some (.cells (Dk.cells (Dk.upd vs k (.slice none 0 0)) (Dk.upd os k (os k)) (Dk.setT D k (Dk.clearT x))) 140 (0, 0)) := by
        have h4 := heap_set (heap_set h.heap (k * 4) (.slice none 0 0)) (k * 4 + 1) (.int .i64 (0 : Nat))
        rw [Dk.set_b hk _ _ _ _ [], Dk.set_safe hk] at h4
        simp only [Dk.setT_get, Dk.setT_setT] at h4
        rw [Hct.out, Dk.upd_self]
        have e : ({ b := [], safe := 0, old := (D.t k).old, fresh := (D.t k).fresh } : Dk.Tp) = ⟨[], 0, x.old, true⟩ := by rw [← Hx.out, Hfr.out]
        rw [e] at h4
        exact h4
      have hM := h.retape hk hO hH (by rw [Hct.out]; exact Own.nil _ _ _ _) (by rw [Hct.out]; exact hold.u8_only hO fun y hy => (h.fo k hk y hy).2) (fun y hy => by simp [Value.ownBlock] at hy) (fun y hy => .inr hy) (fun y hy => by simp [Value.ownBlock] at hy)
      refine (disk_act g _ _ _ _ hM hokC ha).mono ?_
      rintro e w9 ⟨rfl, hM9, hO9⟩
      go_wp2_with fail
      go_ret
      exact ⟨by rw [HA2.out]; rfl, by rw [HA2.out]; exact ⟨_, _, hM9⟩, (hO.trans hO9 fun _ _ h => h).mono fun y hy => by subst hy; exact h.fg⟩

set_option maxRecDepth 100000 in
set_option maxHeartbeats 1600000 in
theorem disk_Flush {F : Nat → Prop} (g : Nat) (D : Dk.Dsk) (t : Int) (w : World) (h : DkAt F w g D) (hok : Dk.Ok D) (ha : 0 ≤ D.acts ∧ D.acts ≤ 9000000000000000000) :
    Calls Try.prog 31 #[.pointer (some ⟨g, 0, none⟩), .int .i64 t] w fun e w' => e = .returned (.int .i64 (Dk.flush D t).2) ∧ DkAt F w' g (Dk.flush D t).1 ∧ Only F w w' := by
  obtain ⟨vs, os, h⟩ := h
  obtain ⟨A, hA⟩ : ∃ A, A = Dk.flush D t := ⟨_, rfl⟩
  rw [← hA]
  rcases Dk.err_cases D t with ⟨he, he2⟩ | ⟨he, k, rfl, hk⟩
  · have happ : A = (D, Dk.err D t) := by rw [hA]; unfold Dk.flush; rw [if_pos he]
    obtain ⟨r, hr⟩ : ∃ r, r = Dk.err D t := ⟨_, rfl⟩
    rw [← hr] at he happ he2
    have hr' : (r != 0) = true := by simpa using he
    have Hr := Lib.hid hr
    have Happ := Lib.hid happ
    clear hA happ he he2 hr
    go_enter Try.func31, Try.ntmps31
    go_wp2_with fail
    refine (disk_right g D vs os t _ h).mono ?_
    rw [← Hr.out]
    rintro e w1 ⟨rfl, rfl⟩
    go_wp2_with fail
    go_ret
    exact ⟨by rw [Happ.out]; rfl, by rw [Happ.out]; exact ⟨vs, os, h⟩, Only.refl _ _⟩
  · have He := Lib.hid he
    obtain ⟨x, hx⟩ : ∃ x, x = D.t k := ⟨_, rfl⟩
    obtain ⟨r, hr⟩ : ∃ r, r = (Dk.act D).2 := ⟨_, rfl⟩
    have hA2 : A = if r ≠ 0 then Dk.act D else (Dk.setT (Dk.act D).1 k (Dk.flushT x), 0) := by rw [hA]; unfold Dk.flush; rw [if_neg (by rw [he]; decide), ← hr, Int.toNat_natCast, hx]
    have hxa : x = (Dk.act D).1.t k := by rw [hx]; unfold Dk.act; split <;> rfl
    have HA2 := Lib.hid hA2
    have Hx := Lib.hid hx
    have Hr := Lib.hid hr
    have Hxa := Lib.hid hxa
    clear hA hA2 he hx hr hxa
    go_enter Try.func31, Try.ntmps31
    go_wp2_with fail
    refine (disk_right g D vs os k _ h).mono ?_
    rw [He.out]
    rintro e w1 ⟨rfl, rfl⟩
    go_wp2_with fail
    refine (disk_act g D vs os _ h hok ha).mono ?_
    rw [← Hr.out]
    rintro e w2 ⟨rfl, hM, hO⟩
    by_cases hr0 : r = 0
    · have hAA : A = (Dk.setT (Dk.act D).1 k (Dk.flushT x), 0) := by rw [HA2.out, if_neg (by simp [hr0])]
      have HAA := Lib.hid hAA
      subst hr0
      have hown := hM.own k hk
      rw [← Hxa.out] at hown
      obtain ⟨av, cv, hv, hcv, hcm, hrv, hown'⟩ := hown.shape x.b.length rfl
      have cb := hM.c_b hk
      have cs := hM.c_safe hk
      have co := hM.c_old hk
      have cfr := hM.c_fresh hk
      have cf := hM.cf
      rw [hv] at cb
      have i0 : (0 : Int) ≤ (k : Int) := by omega
      have i1 : (k : Int) < 4 := by omega
      obtain ⟨D1, hD1⟩ : ∃ D1, D1 = (Dk.act D).1 := ⟨_, rfl⟩
      rw [← hD1] at hM cs cfr
      have HD1 := Lib.hid hD1
      have Hv := Lib.hid hv
      clear hAA hv hD1
      go_wp2_with fail
      go_ret
      have hO2 : Only (· = g) w2 (((w2.setCell ⟨g, k * 4 + 1, none⟩ (.int .i64 x.b.length)).setCell ⟨g, k * 4 + 2, none⟩ (.slice none 0 0)).setCell ⟨g, k * 4 + 3, none⟩ (.bool false)) :=
        ((Only.setCell (S := (· = g)) (Only.refl _ w2) (p := ⟨g, k * 4 + 1, none⟩) (.inl rfl) _).setCell (p := ⟨g, k * 4 + 2, none⟩) (.inl rfl) _).setCell (p := ⟨g, k * 4 + 3, none⟩) (.inl rfl) _
      have hH : (((w2.setCell ⟨g, k * 4 + 1, none⟩ (.int .i64 x.b.length)).setCell ⟨g, k * 4 + 2, none⟩ (.slice none 0 0)).setCell ⟨g, k * 4 + 3, none⟩ (.bool false)).heap[g]? = some (.cells (Dk.cells (Dk.upd vs k (vs k)) (Dk.upd os k (.slice none 0 0)) (Dk.setT D1 k (Dk.flushT x))) 140 (0, 0)) := by
        have h4 := heap_set (heap_set (heap_set hM.heap (k * 4 + 1) (.int .i64 x.b.length)) (k * 4 + 2) (.slice none 0 0)) (k * 4 + 3) (.bool false)
        rw [Dk.set_safe hk, Dk.set_old hk _ _ _ _ [], Dk.set_fresh hk] at h4
        simp only [Dk.setT_get, Dk.setT_setT] at h4
        rw [Dk.upd_self]
        have e : ({ b := (D1.t k).b, safe := x.b.length, old := [], fresh := false } : Dk.Tp) = Dk.flushT x := by rw [HD1.out, ← Hxa.out]; rfl
        rw [e] at h4
        exact h4
      have hM2 := hM.retape hk hO2 hH (hown.u8_only hO2 fun y hy => (hM.fv k hk y hy).2) (Own.nil _ _ _ _) (fun y hy => hy) (fun y hy => by simp [Value.ownBlock] at hy) (fun y hy => by simp [Value.ownBlock])
      exact ⟨by rw [HAA.out]; rfl, by rw [HAA.out, ← HD1.out]; exact ⟨_, _, hM2⟩, (hO.trans hO2 fun _ _ h => h).mono fun y hy => by subst hy; exact h.fg⟩
    · have hAA : A = Dk.act D := by rw [HA2.out, if_pos hr0]
      have HAA := Lib.hid hAA
      have hr' : (r != 0) = true := by simpa using hr0
      clear hr0 hAA
      go_wp2_with fail
      go_ret
      exact ⟨by rw [HAA.out, ← Hr.out]; rfl, by rw [HAA.out]; exact ⟨_, _, hM⟩, hO.mono fun y hy => by subst hy; exact h.fg⟩

/-- what slices.Clone makes -/
theorem clone_nil (B : Nat) (w : World) (hB : w.heap.size = B) :
    Calls Try.prog 76 #[.slice none 0 0] w fun e w' => e = .returned (.slice none 0 0) ∧ w = w' := by
  have heq := Lib.run_eql_slice_nil (P := Try.prog) w 49 5 none 0 0 0 0 Try.underlying49
  go_enter Try.func76, Try.ntmps76
  go_wp2_with fail
  go_ret
  exact ⟨rfl, rfl⟩
set_option maxRecDepth 100000 in
theorem clone_some (ad : Addr) (n c : Nat) (l : List (BitVec 8)) (w : World) (hr : RB w (some ad) n l) (hl : n ≤ 140737488355328) :
    Calls Try.prog 76 #[.slice (some ad) n c] w fun e w' => ∃ v, e = .returned v ∧ Own EU8 5 w.heap.size w' v l ∧ Below w.heap.size w w' := by
  obtain ⟨rfl, hs⟩ := hr
  have hb0 : Below w.heap.size w (w.alloc (.cells #[] 5)) := (Below.refl _ _).alloc (Nat.le_refl _) _
  have hs' : Sl EU8 (fun b => some b ≠ (Value.slice (some ⟨w.heap.size, 0, none⟩) 0 0).ownBlock) (w.alloc (.cells #[] 5)) (some ad) l :=
    hs.mono (by decide) fun k _ hk => ⟨heap_alloc_old w _ hk, by simp [Value.ownBlock]; omega⟩
  have heq := Lib.run_eql_slice_nil (P := Try.prog) w 49 5 (some ad) l.length c 0 0 Try.underlying49
  have hoE := own_empty EU8 5 w (by decide)
  go_enter Try.func76, Try.ntmps76
  go_wp2_with (first
    | (refine wpList_app EU8 rfl rfl (by rfl) (by rfl) ti_bytes hoE rfl hs' (by simp only [List.length_nil, Nat.zero_add, maxLen]; omega) (by simp only [List.length_nil, Nat.zero_add]; omega) (by simp) ?_
       intro v' w' ho hg hv hb))
  go_ret
  exact ⟨_, rfl, ho, hb0.trans hb⟩
end Go.Proofs.Ytmmgnbdngpkfcaa

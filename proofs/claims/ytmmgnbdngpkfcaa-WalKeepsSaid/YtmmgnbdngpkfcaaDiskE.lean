
/-
  A disk's calls: Crash.
-/
import Derived.Test.YtmmgnbdngpkfcaaDiskD
import Derived.Deep.RegionLaw
namespace Go.Proofs.Ytmmgnbdngpkfcaa
open Go.RowKit
set_option linter.unusedVariables false

/-- a tape is laid anew -/
theorem DkM.fresh {F : Nat → Prop} {w w' : World} {g : Nat} {D : Dk.Dsk} {vs os : Nat → Value} (h : DkM F w g D vs os) {k : Nat} (hk : k < 4) {v : Value} {x : Dk.Tp} (ho : Only (· = g) w w') (hh : w'.heap[g]? = some (.cells (Dk.cells (Dk.upd vs k v) (Dk.upd os k (.slice none 0 0)) (Dk.setT D k x)) 140 (0, 0)))
    (hv : Own EU8 5 w.heap.size w' v x.b) (hold : x.old = []) :
    DkM (fun y => F y ∨ v.ownBlock = some y) w' g (Dk.setT D k x) (Dk.upd vs k v) (Dk.upd os k (.slice none 0 0)) ∧ Turns F w (fun y => F y ∨ v.ownBlock = some y) w' := by
  have hgs := h.lt
  have hnew : ∀ y, v.ownBlock = some y → w.heap.size ≤ y ∧ y < w'.heap.size := fun y hy => hv.lt y hy
  refine ⟨⟨hh, fun i hi => ?_, fun i hi => ?_, .inl h.fg, fun i hi y hy => ?_, fun i hi y hy => ?_, fun i j hi hj hij y hy => ?_, fun i j hi hj y hy => ?_, fun y hy => ?_⟩, ⟨ho.mono fun y hy => by subst hy; exact h.fg, fun y hy => ?_⟩⟩
  · by_cases hik : i = k
    · subst hik; simp only [Dk.upd_same, Dk.setT]; exact hv.base (Nat.zero_le _)
    · simp only [Dk.upd_other _ _ _ _ hik, Dk.setT]; exact (h.own i hi).u8_only ho fun y hy => (h.fv i hi y hy).2
  · by_cases hik : i = k
    · subst hik; simp only [Dk.upd_same, Dk.setT]; rw [hold]; exact Own.nil _ _ _ _
    · simp only [Dk.upd_other _ _ _ _ hik, Dk.setT]; exact (h.old i hi).u8_only ho fun y hy => (h.fo i hi y hy).2
  · by_cases hik : i = k
    · subst hik; rw [Dk.upd_same] at hy; exact ⟨.inr hy, by have := hnew y hy; omega⟩
    · rw [Dk.upd_other _ _ _ _ hik] at hy; exact ⟨.inl (h.fv i hi y hy).1, (h.fv i hi y hy).2⟩
  · by_cases hik : i = k
    · subst hik; rw [Dk.upd_same] at hy; simp [Value.ownBlock] at hy
    · rw [Dk.upd_other _ _ _ _ hik] at hy; exact ⟨.inl (h.fo i hi y hy).1, (h.fo i hi y hy).2⟩
  · by_cases hik : i = k
    · subst hik
      rw [Dk.upd_same] at hy
      rw [Dk.upd_other _ _ _ _ (fun e => hij e.symm)]
      exact fun e => by have := h.flt y (h.fv j hj y e).1; have := hnew y hy; omega
    · rw [Dk.upd_other _ _ _ _ hik] at hy
      by_cases hjk : j = k
      · subst hjk; rw [Dk.upd_same]; exact fun e => by have := h.flt y (h.fv i hi y hy).1; have := hnew y e; omega
      · rw [Dk.upd_other _ _ _ _ hjk]; exact h.vv i j hi hj hij y hy
  · by_cases hjk : j = k
    · subst hjk; rw [Dk.upd_same]; simp [Value.ownBlock]
    · rw [Dk.upd_other _ _ _ _ hjk]
      by_cases hik : i = k
      · subst hik; rw [Dk.upd_same] at hy; exact fun e => by have := h.flt y (h.fo j hj y e).1; have := hnew y hy; omega
      · rw [Dk.upd_other _ _ _ _ hik] at hy; exact h.vo i j hi hj y hy
  · rcases hy with hy | hy
    · exact Nat.lt_of_lt_of_le (h.flt y hy) ho.size
    · exact (hnew y hy).2
  · rcases hy with hy | hy
    · exact .inl hy
    · exact .inr (hnew y hy).1

theorem sl_int {ok : Nat → Prop} {w : World} {a : Option Addr} {l : List Int} (h : Sl EInt ok w a l) (k : Nat) (hk : k < l.length) :
    ∃ b o, a = some ⟨b, o, none⟩ ∧ w.cell? ⟨b, o + k, none⟩ = some (.int .i64 l[k]) ∧ -9223372036854775808 ≤ l[k] ∧ l[k] ≤ 9223372036854775807 := by
  obtain ⟨b, o, rfl, _, cs, hr, hc⟩ := h k l[k] (List.getElem?_eq_getElem hk)
  have hr' : cs = [.int .i64 l[k]] := hr.1
  subst hr'
  have := hc 0 _ rfl
  exact ⟨b, o, rfl, by simpa [EInt] using this, hr.2⟩
namespace Dk
/-- so many tapes are through -/
def crashK (D : Dsk) (keeps : List Int) (k : Nat) : Dsk := { D with t := fun i => if i < k then crashT (D.t i) (keeps.getD i 0) else D.t i }
theorem crashK_zero (D : Dsk) (keeps : List Int) : crashK D keeps 0 = D := by
  unfold crashK
  congr 1
theorem crashK_succ (D : Dsk) (keeps : List Int) (k : Nat) : crashK D keeps (k + 1) = setT (crashK D keeps k) k (crashT (D.t k) (keeps.getD k 0)) := by
  unfold crashK setT
  congr 1
  funext i
  unfold upd
  by_cases h1 : i = k
  · subst h1; rw [if_pos (by omega), if_pos rfl]
  · rw [if_neg h1]
    by_cases h2 : i < k
    · rw [if_pos (by omega)]; simp only [if_pos h2]
    · rw [if_neg (by omega)]; simp only [if_neg h2]
theorem crashK_get (D : Dsk) (keeps : List Int) (k : Nat) : (crashK D keeps k).t k = D.t k := by
  unfold crashK
  simp
theorem ok_crashK {D : Dsk} (h : Ok D) (keeps : List Int) (k : Nat) : Ok (crashK D keeps k) := by
  have e : ∀ i, (crashK D keeps k).t i = if i < k then crashT (D.t i) (keeps.getD i 0) else D.t i := fun i => rfl
  refine ⟨h.room0, h.room1, h.fuse0, h.fuse1, fun i => ?_, fun i => ?_, fun i => ?_⟩ <;> (rw [e]; split)
  · exact Nat.le_refl _
  · exact h.safe i
  · exact crashB_len _ _ _ (h.len i) (h.old i)
  · exact h.len i
  · simp [crashT]; exact h.room0
  · exact h.old i
end Dk

/-- a disk is what of it is seen -/
theorem DkM.eqv {F : Nat → Prop} {w : World} {g : Nat} {D D' : Dk.Dsk} {vs os : Nat → Value} (h : DkM F w g D vs os) (h1 : ∀ i, i < 4 → D'.t i = D.t i) (h2 : D'.room = D.room) (h3 : D'.acts = D.acts) (h4 : D'.fuse = D.fuse) (h5 : D'.down = D.down) : DkM F w g D' vs os := by
  refine ⟨?_, fun i hi => by rw [h1 i hi]; exact h.own i hi, fun i hi => by rw [h1 i hi]; exact h.old i hi, h.fg, h.fv, h.fo, h.vv, h.vo, h.flt⟩
  rw [Dk.cells_congr (D := D') (D' := D) (fun _ _ => rfl) (fun _ _ => rfl) (fun i hi => by rw [h1 i hi]; exact ⟨rfl, rfl⟩) h2 h3 h4 h5]
  exact h.heap

set_option maxRecDepth 100000 in
set_option maxHeartbeats 3200000 in
theorem disk_Crash {F : Nat → Prop} (g : Nat) (D : Dk.Dsk) (a : Option Addr) (n c : Nat) (keeps : List Int) (w : World) (h : DkAt F w g D) (hok : Dk.Ok D) (hn : n = keeps.length) (hs : Sl EInt (fun k => ¬ F k) w a keeps) :
    Calls Try.prog 43 #[.pointer (some ⟨g, 0, none⟩), .slice a n c] w fun e w' => e = .returned (.tuple #[]) ∧ ∃ F', DkAt F' w' g (Dk.crash D keeps) ∧ Turns F w F' w' := by
  subst hn
  obtain ⟨vs, os, h⟩ := h
  go_enter Try.func43, Try.ntmps43
  go_wp2_with fail
  go_loopw [9] (fun i wr => ∃ (k : Nat) (F' : Nat → Prop) (vs' os' : Nat → Value), k ≤ 4 ∧ i = .int .i64 k ∧ DkM F' wr g (Dk.crashK D keeps k) vs' os' ∧ Turns F w F' wr) (fun i _ => 4 - (intOf i).toNat)
  case atStart => exact ⟨0, F, vs, os, Nat.zero_le _, rfl, by rw [Dk.crashK_zero]; exact h, Turns.refl _ _⟩
  case round =>
    obtain ⟨k, F', vs', os', hk, rfl, hM, hT⟩ := hrel
    by_cases hlt : k < 4
    · have hki : (k : Int) < 4 := by omega
      have i0 : (0 : Int) ≤ (k : Int) := by omega
      obtain ⟨x, hx⟩ : ∃ x, x = D.t k := ⟨_, rfl⟩
      have hown := hM.own k hlt
      have hold := hM.old k hlt
      have cb := hM.c_b hlt
      have cs := hM.c_safe hlt
      have co := hM.c_old hlt
      have cfr := hM.c_fresh hlt
      have cf := hM.cf
      rw [Dk.crashK_get, ← hx] at hown hold cs cfr
      have hokK := Dk.ok_crashK hok keeps k
      have hsf := hok.safe k
      have hxl := hok.len k
      have hxo := hok.old k
      have hr1 := hok.room1
      rw [← hx] at hsf hxl hxo
      have hsr := Sl.mono (ok' := fun _ => True) (by decide) hs fun q hq hlt => ⟨hT.only.block q hlt hq, trivial⟩
      obtain ⟨kp, hkp⟩ : ∃ z, z = keeps.getD k 0 := ⟨_, rfl⟩
      have Hx := Lib.hid hx
      have Hkp := Lib.hid hkp
      clear hx
      go_upto_if 20 with fail
      go_cut [6] (fun s wx => s = .int .i64 kp ∧ wx = wr)
      case first =>
        by_cases hkl : k < keeps.length
        · have hkl' : (k : Int) < (keeps.length : Int) := by omega
          obtain ⟨b1, o1, rfl, hc1, _⟩ := sl_int hsr k hkl
          have hz : keeps[k] = kp := by rw [Hkp.out, List.getD_eq_getElem?_getD, List.getElem?_eq_getElem hkl]; rfl
          rw [hz] at hc1
          clear hz hkp
          go_wp2_with fail
          go_meet
          exact ⟨rfl, rfl⟩
        · have hkl' : ¬ ((k : Int) < (keeps.length : Int)) := by omega
          have hz : kp = 0 := by rw [Hkp.out, List.getD_eq_getElem?_getD, List.getElem?_eq_none (by omega)]; rfl
          subst hz
          clear hkp
          go_wp2_with fail
          go_meet
          exact ⟨rfl, rfl⟩
      obtain ⟨h6, hwc⟩ := hcut
      have hkr : -9223372036854775808 ≤ kp ∧ kp ≤ 9223372036854775807 := by
        by_cases hkl : k < keeps.length
        · obtain ⟨_, _, _, _, h1⟩ := sl_int hsr k hkl
          rw [Hkp.out, List.getD_eq_getElem?_getD, List.getElem?_eq_getElem hkl]; exact h1
        · rw [Hkp.out, List.getD_eq_getElem?_getD, List.getElem?_eq_none (by omega)]; exact ⟨by decide, by decide⟩
      subst h6
      obtain ⟨wy, hwy⟩ : ∃ x, x = wc := ⟨_, rfl⟩
      subst hwy
      rw [hwc]
      clear hwc hkp hsr
      obtain ⟨v0, hv0⟩ : ∃ v, v = vs' k := ⟨_, rfl⟩
      obtain ⟨u0, hu0⟩ : ∃ v, v = os' k := ⟨_, rfl⟩
      rw [← hv0] at hown cb
      rw [← hu0] at hold co
      have Hv0 := Lib.hid hv0
      have Hu0 := Lib.hid hu0
      clear hv0 hu0
      obtain ⟨av, cv, rfl, hcv, hcm, hrv, hown'⟩ := hown.shape x.b.length rfl
      obtain ⟨au, cu, rfl, hcu, hcum, hru, hold'⟩ := hold.shape x.old.length rfl
      have hset : ∀ v1 : Value, (wr.setCell ⟨g, k * 4, none⟩ v1).heap[g]? = some (.cells (Dk.cells (Dk.upd vs' k v1) os' (Dk.crashK D keeps k)) 140 (0, 0)) ∧ Only (· = g) wr (wr.setCell ⟨g, k * 4, none⟩ v1) := fun v1 => by
        have h4 := heap_set hM.heap (k * 4) v1
        rw [Dk.set_b hlt _ _ _ _ ((Dk.crashK D keeps k).t k).b] at h4
        have e : Dk.setT (Dk.crashK D keeps k) k { (Dk.crashK D keeps k).t k with b := ((Dk.crashK D keeps k).t k).b } = Dk.crashK D keeps k := by
          show ({ Dk.crashK D keeps k with t := Dk.upd (Dk.crashK D keeps k).t k ((Dk.crashK D keeps k).t k) } : Dk.Dsk) = _
          rw [Dk.upd_self]
        rw [e] at h4
        exact ⟨h4, Only.setCell (S := (· = g)) (Only.refl _ _) (p := ⟨g, k * 4, none⟩) (.inl rfl) _⟩
      have Hset := Lib.hid hset
      obtain ⟨l1, hl1⟩ : ∃ l, l = Dk.crashB x kp := ⟨_, rfl⟩
      have hl1l : (l1.length : Int) ≤ D.room := by rw [hl1]; exact Dk.crashB_len x kp D.room hxl hxo
      have Hl1 := Lib.hid hl1
      have hq : ¬ (x.fresh = true ∧ kp < 0) → ∃ q : Nat, (q : Int) = (x.safe : Int) + min (max kp 0) ((x.b.length : Int) - (x.safe : Int)) ∧ l1 = x.b.take q ∧ q ≤ x.b.length := fun hn => by
        refine ⟨((x.safe : Int) + min (max kp 0) ((x.b.length : Int) - (x.safe : Int))).toNat, by omega, ?_, by omega⟩
        rw [hl1]; unfold Dk.crashB; rw [if_neg hn]
      have hend : ∀ q : Nat, q ≤ x.b.length → l1 = x.b.take q → ∀ wx : World, wx = (wr.setCell ⟨g, k * 4, none⟩ (.slice av q cv)).drew → ∃ v1, wx.heap[g]? = some (.cells (Dk.cells (Dk.upd vs' k v1) os' (Dk.crashK D keeps k)) 140 (0, 0)) ∧ Own EU8 5 0 wx v1 l1 ∧ Only (· = g) wr wx := fun q hql hlq wx hwx => by
        subst hwx
        obtain ⟨e1, e2⟩ := Hset.out (.slice av q cv)
        have hgo : (Value.slice av q cv).ownBlock = (vs' k).ownBlock := by rw [← Hv0.out]; cases av <;> rfl
        have e3 : Only (· = g) wr (wr.setCell ⟨g, k * 4, none⟩ (.slice av q cv)).drew := e2.trans (Below.only (S := (· = g)) ((Below.refl _ _).drew)) fun _ _ h => h
        rw [hlq]
        exact ⟨_, e1, (hown'.cut q hql).u8_only e3 fun y hy => (hM.fv k hlt y (by rw [← hgo]; exact hy)).2, e3⟩
      have Hq := Lib.hid hq
      have Hend := Lib.hid hend
      clear hset hq hend hl1
      by_cases hf : x.fresh = true
      · rw [hf] at cfr
        by_cases hk0 : kp < 0
        · have hB : l1 = x.old := by rw [Hl1.out]; unfold Dk.crashB; rw [if_pos ⟨hf, hk0⟩]
          have HBo := Lib.hid hB
          clear hB
          go_upto_if 32 with fail
          go_cut [] (fun wx => ∃ v1, wx.heap[g]? = some (.cells (Dk.cells (Dk.upd vs' k v1) os' (Dk.crashK D keeps k)) 140 (0, 0)) ∧ Own EU8 5 0 wx v1 l1 ∧ Only (· = g) wr wx)
          case first =>
            go_wp2_with fail
            go_meet
            obtain ⟨e1, e2⟩ := Hset.out (.slice au x.old.length cu)
            exact ⟨_, e1, by rw [HBo.out]; exact hold'.u8_only e2 fun y hy => (hM.fo k hlt y (by rw [← Hu0.out]; exact hy)).2, e2⟩
          obtain ⟨v1, hh1, ho1, hO1⟩ := hcut
          obtain ⟨wz, hwz⟩ : ∃ z, z = wc := ⟨_, rfl⟩
          subst hwz
          obtain ⟨a1, c1, rfl, hc1, hm1, hr1', ho1'⟩ := ho1.shape l1.length rfl
          have b0 : wz.cell? ⟨g, k * 4, none⟩ = some (.slice a1 l1.length c1) := by simp [World.cell?, hh1, Dk.get_b hlt, Dk.upd_same]
          have b1 : wz.cell? ⟨g, k * 4 + 1, none⟩ = some (.int .i64 ((Dk.crashK D keeps k).t k).safe) := by simp [World.cell?, hh1, Dk.get_safe hlt]
          have b2 : wz.cell? ⟨g, k * 4 + 2, none⟩ = some (os' k) := by simp [World.cell?, hh1, Dk.get_old hlt]
          have b3 : wz.cell? ⟨g, k * 4 + 3, none⟩ = some (.bool ((Dk.crashK D keeps k).t k).fresh) := by simp [World.cell?, hh1, Dk.get_fresh hlt]
          have bf : ∀ o, wz.frozen? ⟨g, o, none⟩ = false := fun o => by simp [World.frozen?, hh1]
          have hgz : g < wz.heap.size := cell_lt b0
          have ho1d := ho1'.u8_only (Below.only (S := fun _ => False) ((Below.refl wz.heap.size wz).drew)) fun _ _ h => h
          have hl1b : l1.length ≤ 4194304 := by omega
          have hcl := clone_own (.slice a1 l1.length c1) l1 wz.heap.size wz.drew (by rfl) ho1d (by omega)
          have Hcl := Lib.hid hcl
          have hthru : ∀ (w5 : World), Below wz.heap.size wz.drew w5 → ∀ (o : Nat) (u : Value), wz.cell? ⟨g, o, none⟩ = some u → w5.cell? ⟨g, o, none⟩ = some u := fun w5 hb o u h => cell_thru (w := wz.drew) h hb
          have hthruf : ∀ (w5 : World), Below wz.heap.size wz.drew w5 → ∀ (o : Nat), w5.frozen? ⟨g, o, none⟩ = false := fun w5 hb o => (hb.frozen (p := ⟨g, o, none⟩) hgz).trans (bf o)
          have Hthru := Lib.hid hthru
          have Hthruf := Lib.hid hthruf
          clear ho1 hr1' hcl hthru hthruf
          go_wp2_with fail
          go_region_law ((go_simp; go_at_call 76; refine (Hcl.out).mono ?_; rintro e w5 ⟨v5, rfl, ho5, hb5⟩; obtain ⟨a5, c5, rfl, hc5, hm5, hr5, ho5'⟩ := ho5.shape l1.length rfl; have k0 := Hthru.out w5 hb5 _ _ b0; have k1 := Hthru.out w5 hb5 _ _ b1; have k2 := Hthru.out w5 hb5 _ _ b2; have k3 := Hthru.out w5 hb5 _ _ b3; have kf := Hthruf.out w5 hb5))
          all_goals
            have hfin : DkM (fun y => F' y ∨ (Value.slice a5 l1.length c5).ownBlock = some y) ((((w5.setCell ⟨g, k * 4, none⟩ (.slice a5 l1.length c5)).setCell ⟨g, k * 4 + 1, none⟩ (.int .i64 l1.length)).setCell ⟨g, k * 4 + 2, none⟩ (.slice none 0 0)).setCell ⟨g, k * 4 + 3, none⟩ (.bool false)) g (Dk.crashK D keeps (k + 1)) (Dk.upd vs' k (.slice a5 l1.length c5)) (Dk.upd os' k (.slice none 0 0)) ∧
                Turns F w (fun y => F' y ∨ (Value.slice a5 l1.length c5).ownBlock = some y) ((((w5.setCell ⟨g, k * 4, none⟩ (.slice a5 l1.length c5)).setCell ⟨g, k * 4 + 1, none⟩ (.int .i64 l1.length)).setCell ⟨g, k * 4 + 2, none⟩ (.slice none 0 0)).setCell ⟨g, k * 4 + 3, none⟩ (.bool false)) := by
              have hset : Only (· = g) w5 ((((w5.setCell ⟨g, k * 4, none⟩ (.slice a5 l1.length c5)).setCell ⟨g, k * 4 + 1, none⟩ (.int .i64 l1.length)).setCell ⟨g, k * 4 + 2, none⟩ (.slice none 0 0)).setCell ⟨g, k * 4 + 3, none⟩ (.bool false)) :=
                (((Only.setCell (S := (· = g)) (Only.refl _ w5) (p := ⟨g, k * 4, none⟩) (.inl rfl) _).setCell (p := ⟨g, k * 4 + 1, none⟩) (.inl rfl) _).setCell (p := ⟨g, k * 4 + 2, none⟩) (.inl rfl) _).setCell (p := ⟨g, k * 4 + 3, none⟩) (.inl rfl) _
              have hz5 : Only (· = g) wz w5 := (Below.only (S := (· = g)) ((Below.refl wz.heap.size wz).drew)).trans (Below.only (S := (· = g)) (w := wz.drew) hb5) fun _ _ h => h
              have hall : Only (· = g) wr ((((w5.setCell ⟨g, k * 4, none⟩ (.slice a5 l1.length c5)).setCell ⟨g, k * 4 + 1, none⟩ (.int .i64 l1.length)).setCell ⟨g, k * 4 + 2, none⟩ (.slice none 0 0)).setCell ⟨g, k * 4 + 3, none⟩ (.bool false)) := (hO1.trans hz5 fun _ _ h => h).trans hset fun _ _ h => h
              have hh5 : w5.heap[g]? = some (.cells (Dk.cells (Dk.upd vs' k (.slice a1 l1.length c1)) os' (Dk.crashK D keeps k)) 140 (0, 0)) := by rw [hb5.block g hgz]; exact hh1
              have h4 := heap_set (heap_set (heap_set (heap_set hh5 (k * 4) (.slice a5 l1.length c5)) (k * 4 + 1) (.int .i64 l1.length)) (k * 4 + 2) (.slice none 0 0)) (k * 4 + 3) (.bool false)
              rw [Dk.set_b hlt _ _ _ _ l1, Dk.set_safe hlt, Dk.set_old hlt _ _ _ _ [], Dk.set_fresh hlt, Dk.upd_upd] at h4
              simp only [Dk.setT_get, Dk.setT_setT] at h4
              have hx' : Dk.crashT (D.t k) (keeps.getD k 0) = ⟨l1, l1.length, [], false⟩ := by rw [← Hx.out, ← Hkp.out, Dk.crashT, ← Hl1.out]
              rw [Dk.crashK_succ, hx']
              obtain ⟨m1, m2⟩ := hM.fresh hlt (x := ⟨l1, l1.length, [], false⟩) hall h4 ((ho5'.base hO1.size).u8_only hset fun y hy e => by have := (ho5'.lt y hy).1; omega) rfl
              exact ⟨m1, hT.trans m2⟩
            have Hfin := Lib.hid hfin
            clear hfin
            go_wp2_with fail
            go_roundw
            case rel => exact ⟨k + 1, _, _, _, by omega, by go_num, Hfin.out.1, Hfin.out.2⟩
            case measure => simp [intOf]; omega
        · obtain ⟨q, hqi, hlq, hql⟩ := Hq.out (fun h => hk0 h.2)
          have hk0' : decide (kp < 0) = false := by simpa using hk0
          go_upto_if 32 with fail
          go_cut [] (fun wx => ∃ v1, wx.heap[g]? = some (.cells (Dk.cells (Dk.upd vs' k v1) os' (Dk.crashK D keeps k)) 140 (0, 0)) ∧ Own EU8 5 0 wx v1 l1 ∧ Only (· = g) wr wx)
          case first =>
            have Hlq := Lib.hid hlq
            have Hqi := Lib.hid hqi
            have i2 : IntKind.i64.wrap ((x.b.length : Int) - (x.safe : Int)) = (x.b.length : Int) - (x.safe : Int) := IntWalk.i64_in _ (by omega)
            have i3 : (q : Int) ≤ (cv : Int) := by omega
            have i4 : (0 : Int) ≤ (q : Int) := by omega
            have w1 : IntKind.i64.wrap (x.safe : Int) = (x.safe : Int) := IntWalk.i64_in _ (by omega)
            have w2 : IntKind.i64.wrap (x.b.length : Int) = (x.b.length : Int) := IntWalk.i64_in _ (by omega)
            clear hlq hqi
            have hfin : ∀ wx : World, wx = (wr.setCell ⟨g, k * 4, none⟩ (.slice av q cv)).drew → ∃ v1, wx.heap[g]? = some (.cells (Dk.cells (Dk.upd vs' k v1) os' (Dk.crashK D keeps k)) 140 (0, 0)) ∧ Own EU8 5 0 wx v1 l1 ∧ Only (· = g) wr wx := Hend.out q hql Hlq.out
            have Hfin := Lib.hid hfin
            clear hfin
            have hm1' : 0 ≤ kp := by omega
            have hif1 : (if kp < 0 then 0 else kp) = kp := if_neg hk0
            by_cases hm2 : (x.b.length : Int) - (x.safe : Int) < kp
            · have hqs : q = x.b.length := by have := Hqi.out; omega
              subst hqs
              have i5 : IntKind.i64.wrap ((x.safe : Int) + ((x.b.length : Int) - (x.safe : Int))) = (x.b.length : Int) := by rw [IntWalk.i64_in _ (by omega)]; omega
              go_wp2_with fail
              go_still_tail 26, (by kernel_rfl)
              change wpList _ _ _ _ _ wr.drew
              obtain ⟨wd, hwd⟩ : ∃ wd, wd = wr.drew := ⟨_, rfl⟩
              have hMd := hM.drew
              rw [← hwd] at hMd ⊢
              have d0 := hMd.c_b hlt
              have d1 := hMd.c_safe hlt
              have df := hMd.cf
              rw [← Hv0.out] at d0
              rw [Dk.crashK_get, ← Hx.out] at d1
              have Hwd := Lib.hid hwd
              clear hwd hMd
              go_wp2_with fail
              go_meet
              exact Hfin.out _ (by rw [Hwd.out]; rfl)
            · have hif : (if (x.b.length : Int) - (x.safe : Int) < kp then (x.b.length : Int) - (x.safe : Int) else kp) = kp := if_neg hm2
              have hm2' : kp ≤ (x.b.length : Int) - (x.safe : Int) := by omega
              have i5 : IntKind.i64.wrap ((x.safe : Int) + kp) = (q : Int) := by rw [IntWalk.i64_in _ (by omega), Hqi.out]; omega
              go_wp2_with fail
              go_still_tail 26, (by kernel_rfl)
              change wpList _ _ _ _ _ wr.drew
              obtain ⟨wd, hwd⟩ : ∃ wd, wd = wr.drew := ⟨_, rfl⟩
              have hMd := hM.drew
              rw [← hwd] at hMd ⊢
              have d0 := hMd.c_b hlt
              have d1 := hMd.c_safe hlt
              have df := hMd.cf
              rw [← Hv0.out] at d0
              rw [Dk.crashK_get, ← Hx.out] at d1
              have Hwd := Lib.hid hwd
              clear hwd hMd
              go_wp2_with fail
              go_meet
              exact Hfin.out _ (by rw [Hwd.out]; rfl)
          clear hlq hqi hql
          obtain ⟨v1, hh1, ho1, hO1⟩ := hcut
          obtain ⟨wz, hwz⟩ : ∃ z, z = wc := ⟨_, rfl⟩
          subst hwz
          obtain ⟨a1, c1, rfl, hc1, hm1, hr1', ho1'⟩ := ho1.shape l1.length rfl
          have b0 : wz.cell? ⟨g, k * 4, none⟩ = some (.slice a1 l1.length c1) := by simp [World.cell?, hh1, Dk.get_b hlt, Dk.upd_same]
          have b1 : wz.cell? ⟨g, k * 4 + 1, none⟩ = some (.int .i64 ((Dk.crashK D keeps k).t k).safe) := by simp [World.cell?, hh1, Dk.get_safe hlt]
          have b2 : wz.cell? ⟨g, k * 4 + 2, none⟩ = some (os' k) := by simp [World.cell?, hh1, Dk.get_old hlt]
          have b3 : wz.cell? ⟨g, k * 4 + 3, none⟩ = some (.bool ((Dk.crashK D keeps k).t k).fresh) := by simp [World.cell?, hh1, Dk.get_fresh hlt]
          have bf : ∀ o, wz.frozen? ⟨g, o, none⟩ = false := fun o => by simp [World.frozen?, hh1]
          have hgz : g < wz.heap.size := cell_lt b0
          have ho1d := ho1'.u8_only (Below.only (S := fun _ => False) ((Below.refl wz.heap.size wz).drew)) fun _ _ h => h
          have hl1b : l1.length ≤ 4194304 := by omega
          have hcl := clone_own (.slice a1 l1.length c1) l1 wz.heap.size wz.drew (by rfl) ho1d (by omega)
          have Hcl := Lib.hid hcl
          have hthru : ∀ (w5 : World), Below wz.heap.size wz.drew w5 → ∀ (o : Nat) (u : Value), wz.cell? ⟨g, o, none⟩ = some u → w5.cell? ⟨g, o, none⟩ = some u := fun w5 hb o u h => cell_thru (w := wz.drew) h hb
          have hthruf : ∀ (w5 : World), Below wz.heap.size wz.drew w5 → ∀ (o : Nat), w5.frozen? ⟨g, o, none⟩ = false := fun w5 hb o => (hb.frozen (p := ⟨g, o, none⟩) hgz).trans (bf o)
          have Hthru := Lib.hid hthru
          have Hthruf := Lib.hid hthruf
          clear ho1 hr1' hcl hthru hthruf
          go_wp2_with fail
          go_region_law ((go_simp; go_at_call 76; refine (Hcl.out).mono ?_; rintro e w5 ⟨v5, rfl, ho5, hb5⟩; obtain ⟨a5, c5, rfl, hc5, hm5, hr5, ho5'⟩ := ho5.shape l1.length rfl; have k0 := Hthru.out w5 hb5 _ _ b0; have k1 := Hthru.out w5 hb5 _ _ b1; have k2 := Hthru.out w5 hb5 _ _ b2; have k3 := Hthru.out w5 hb5 _ _ b3; have kf := Hthruf.out w5 hb5))
          all_goals
            have hfin : DkM (fun y => F' y ∨ (Value.slice a5 l1.length c5).ownBlock = some y) ((((w5.setCell ⟨g, k * 4, none⟩ (.slice a5 l1.length c5)).setCell ⟨g, k * 4 + 1, none⟩ (.int .i64 l1.length)).setCell ⟨g, k * 4 + 2, none⟩ (.slice none 0 0)).setCell ⟨g, k * 4 + 3, none⟩ (.bool false)) g (Dk.crashK D keeps (k + 1)) (Dk.upd vs' k (.slice a5 l1.length c5)) (Dk.upd os' k (.slice none 0 0)) ∧
                Turns F w (fun y => F' y ∨ (Value.slice a5 l1.length c5).ownBlock = some y) ((((w5.setCell ⟨g, k * 4, none⟩ (.slice a5 l1.length c5)).setCell ⟨g, k * 4 + 1, none⟩ (.int .i64 l1.length)).setCell ⟨g, k * 4 + 2, none⟩ (.slice none 0 0)).setCell ⟨g, k * 4 + 3, none⟩ (.bool false)) := by
              have hset : Only (· = g) w5 ((((w5.setCell ⟨g, k * 4, none⟩ (.slice a5 l1.length c5)).setCell ⟨g, k * 4 + 1, none⟩ (.int .i64 l1.length)).setCell ⟨g, k * 4 + 2, none⟩ (.slice none 0 0)).setCell ⟨g, k * 4 + 3, none⟩ (.bool false)) :=
                (((Only.setCell (S := (· = g)) (Only.refl _ w5) (p := ⟨g, k * 4, none⟩) (.inl rfl) _).setCell (p := ⟨g, k * 4 + 1, none⟩) (.inl rfl) _).setCell (p := ⟨g, k * 4 + 2, none⟩) (.inl rfl) _).setCell (p := ⟨g, k * 4 + 3, none⟩) (.inl rfl) _
              have hz5 : Only (· = g) wz w5 := (Below.only (S := (· = g)) ((Below.refl wz.heap.size wz).drew)).trans (Below.only (S := (· = g)) (w := wz.drew) hb5) fun _ _ h => h
              have hall : Only (· = g) wr ((((w5.setCell ⟨g, k * 4, none⟩ (.slice a5 l1.length c5)).setCell ⟨g, k * 4 + 1, none⟩ (.int .i64 l1.length)).setCell ⟨g, k * 4 + 2, none⟩ (.slice none 0 0)).setCell ⟨g, k * 4 + 3, none⟩ (.bool false)) := (hO1.trans hz5 fun _ _ h => h).trans hset fun _ _ h => h
              have hh5 : w5.heap[g]? = some (.cells (Dk.cells (Dk.upd vs' k (.slice a1 l1.length c1)) os' (Dk.crashK D keeps k)) 140 (0, 0)) := by rw [hb5.block g hgz]; exact hh1
              have h4 := heap_set (heap_set (heap_set (heap_set hh5 (k * 4) (.slice a5 l1.length c5)) (k * 4 + 1) (.int .i64 l1.length)) (k * 4 + 2) (.slice none 0 0)) (k * 4 + 3) (.bool false)
              rw [Dk.set_b hlt _ _ _ _ l1, Dk.set_safe hlt, Dk.set_old hlt _ _ _ _ [], Dk.set_fresh hlt, Dk.upd_upd] at h4
              simp only [Dk.setT_get, Dk.setT_setT] at h4
              have hx' : Dk.crashT (D.t k) (keeps.getD k 0) = ⟨l1, l1.length, [], false⟩ := by rw [← Hx.out, ← Hkp.out, Dk.crashT, ← Hl1.out]
              rw [Dk.crashK_succ, hx']
              obtain ⟨m1, m2⟩ := hM.fresh hlt (x := ⟨l1, l1.length, [], false⟩) hall h4 ((ho5'.base hO1.size).u8_only hset fun y hy e => by have := (ho5'.lt y hy).1; omega) rfl
              exact ⟨m1, hT.trans m2⟩
            have Hfin := Lib.hid hfin
            clear hfin
            go_wp2_with fail
            go_roundw
            case rel => exact ⟨k + 1, _, _, _, by omega, by go_num, Hfin.out.1, Hfin.out.2⟩
            case measure => simp [intOf]; omega
      · have hf' : x.fresh = false := by simpa using hf
        rw [hf'] at cfr
        obtain ⟨q, hqi, hlq, hql⟩ := Hq.out (fun h => hf h.1)
        clear hf hf'
        go_upto_if 32 with fail
        go_cut [] (fun wx => ∃ v1, wx.heap[g]? = some (.cells (Dk.cells (Dk.upd vs' k v1) os' (Dk.crashK D keeps k)) 140 (0, 0)) ∧ Own EU8 5 0 wx v1 l1 ∧ Only (· = g) wr wx)
        case first =>
          have Hlq := Lib.hid hlq
          have Hqi := Lib.hid hqi
          have i2 : IntKind.i64.wrap ((x.b.length : Int) - (x.safe : Int)) = (x.b.length : Int) - (x.safe : Int) := IntWalk.i64_in _ (by omega)
          have i3 : (q : Int) ≤ (cv : Int) := by omega
          have i4 : (0 : Int) ≤ (q : Int) := by omega
          have w1 : IntKind.i64.wrap (x.safe : Int) = (x.safe : Int) := IntWalk.i64_in _ (by omega)
          have w2 : IntKind.i64.wrap (x.b.length : Int) = (x.b.length : Int) := IntWalk.i64_in _ (by omega)
          clear hlq hqi
          have hfin : ∀ wx : World, wx = (wr.setCell ⟨g, k * 4, none⟩ (.slice av q cv)).drew → ∃ v1, wx.heap[g]? = some (.cells (Dk.cells (Dk.upd vs' k v1) os' (Dk.crashK D keeps k)) 140 (0, 0)) ∧ Own EU8 5 0 wx v1 l1 ∧ Only (· = g) wr wx := Hend.out q hql Hlq.out
          have Hfin := Lib.hid hfin
          clear hfin
          by_cases hm1 : kp < 0
          · have hm2 : ¬ ((x.b.length : Int) - (x.safe : Int) < 0) := by omega
            have hif : (if (x.b.length : Int) - (x.safe : Int) < 0 then (x.b.length : Int) - (x.safe : Int) else 0) = 0 := if_neg hm2
            have hqs : q = x.safe := by have := Hqi.out; omega
            subst hqs
            go_wp2_with fail
            go_still_tail 26, (by kernel_rfl)
            change wpList _ _ _ _ _ wr.drew
            obtain ⟨wd, hwd⟩ : ∃ wd, wd = wr.drew := ⟨_, rfl⟩
            have hMd := hM.drew
            rw [← hwd] at hMd ⊢
            have d0 := hMd.c_b hlt
            have d1 := hMd.c_safe hlt
            have df := hMd.cf
            rw [← Hv0.out] at d0
            rw [Dk.crashK_get, ← Hx.out] at d1
            have Hwd := Lib.hid hwd
            clear hwd hMd
            go_wp2_with fail
            go_meet
            exact Hfin.out _ (by rw [Hwd.out]; rfl)
          · have hm1' : 0 ≤ kp := by omega
            have hif1 : (if kp < 0 then 0 else kp) = kp := if_neg hm1
            by_cases hm2 : (x.b.length : Int) - (x.safe : Int) < kp
            · have hqs : q = x.b.length := by have := Hqi.out; omega
              subst hqs
              have i5 : IntKind.i64.wrap ((x.safe : Int) + ((x.b.length : Int) - (x.safe : Int))) = (x.b.length : Int) := by rw [IntWalk.i64_in _ (by omega)]; omega
              go_wp2_with fail
              go_still_tail 26, (by kernel_rfl)
              change wpList _ _ _ _ _ wr.drew
              obtain ⟨wd, hwd⟩ : ∃ wd, wd = wr.drew := ⟨_, rfl⟩
              have hMd := hM.drew
              rw [← hwd] at hMd ⊢
              have d0 := hMd.c_b hlt
              have d1 := hMd.c_safe hlt
              have df := hMd.cf
              rw [← Hv0.out] at d0
              rw [Dk.crashK_get, ← Hx.out] at d1
              have Hwd := Lib.hid hwd
              clear hwd hMd
              go_wp2_with fail
              go_meet
              exact Hfin.out _ (by rw [Hwd.out]; rfl)
            · have hif : (if (x.b.length : Int) - (x.safe : Int) < kp then (x.b.length : Int) - (x.safe : Int) else kp) = kp := if_neg hm2
              have hm2' : kp ≤ (x.b.length : Int) - (x.safe : Int) := by omega
              have i5 : IntKind.i64.wrap ((x.safe : Int) + kp) = (q : Int) := by rw [IntWalk.i64_in _ (by omega), Hqi.out]; omega
              go_wp2_with fail
              go_still_tail 26, (by kernel_rfl)
              change wpList _ _ _ _ _ wr.drew
              obtain ⟨wd, hwd⟩ : ∃ wd, wd = wr.drew := ⟨_, rfl⟩
              have hMd := hM.drew
              rw [← hwd] at hMd ⊢
              have d0 := hMd.c_b hlt
              have d1 := hMd.c_safe hlt
              have df := hMd.cf
              rw [← Hv0.out] at d0
              rw [Dk.crashK_get, ← Hx.out] at d1
              have Hwd := Lib.hid hwd
              clear hwd hMd
              go_wp2_with fail
              go_meet
              exact Hfin.out _ (by rw [Hwd.out]; rfl)
        clear hlq hqi hql
        obtain ⟨v1, hh1, ho1, hO1⟩ := hcut
        obtain ⟨wz, hwz⟩ : ∃ z, z = wc := ⟨_, rfl⟩
        subst hwz
        obtain ⟨a1, c1, rfl, hc1, hm1, hr1', ho1'⟩ := ho1.shape l1.length rfl
        have b0 : wz.cell? ⟨g, k * 4, none⟩ = some (.slice a1 l1.length c1) := by simp [World.cell?, hh1, Dk.get_b hlt, Dk.upd_same]
        have b1 : wz.cell? ⟨g, k * 4 + 1, none⟩ = some (.int .i64 ((Dk.crashK D keeps k).t k).safe) := by simp [World.cell?, hh1, Dk.get_safe hlt]
        have b2 : wz.cell? ⟨g, k * 4 + 2, none⟩ = some (os' k) := by simp [World.cell?, hh1, Dk.get_old hlt]
        have b3 : wz.cell? ⟨g, k * 4 + 3, none⟩ = some (.bool ((Dk.crashK D keeps k).t k).fresh) := by simp [World.cell?, hh1, Dk.get_fresh hlt]
        have bf : ∀ o, wz.frozen? ⟨g, o, none⟩ = false := fun o => by simp [World.frozen?, hh1]
        have hgz : g < wz.heap.size := cell_lt b0
        have ho1d := ho1'.u8_only (Below.only (S := fun _ => False) ((Below.refl wz.heap.size wz).drew)) fun _ _ h => h
        have hl1b : l1.length ≤ 4194304 := by omega
        have hcl := clone_own (.slice a1 l1.length c1) l1 wz.heap.size wz.drew (by rfl) ho1d (by omega)
        have Hcl := Lib.hid hcl
        have hthru : ∀ (w5 : World), Below wz.heap.size wz.drew w5 → ∀ (o : Nat) (u : Value), wz.cell? ⟨g, o, none⟩ = some u → w5.cell? ⟨g, o, none⟩ = some u := fun w5 hb o u h => cell_thru (w := wz.drew) h hb
        have hthruf : ∀ (w5 : World), Below wz.heap.size wz.drew w5 → ∀ (o : Nat), w5.frozen? ⟨g, o, none⟩ = false := fun w5 hb o => (hb.frozen (p := ⟨g, o, none⟩) hgz).trans (bf o)
        have Hthru := Lib.hid hthru
        have Hthruf := Lib.hid hthruf
        clear ho1 hr1' hcl hthru hthruf
        go_wp2_with fail
        go_region_law ((go_simp; go_at_call 76; refine (Hcl.out).mono ?_; rintro e w5 ⟨v5, rfl, ho5, hb5⟩; obtain ⟨a5, c5, rfl, hc5, hm5, hr5, ho5'⟩ := ho5.shape l1.length rfl; have k0 := Hthru.out w5 hb5 _ _ b0; have k1 := Hthru.out w5 hb5 _ _ b1; have k2 := Hthru.out w5 hb5 _ _ b2; have k3 := Hthru.out w5 hb5 _ _ b3; have kf := Hthruf.out w5 hb5))
        all_goals
          have hfin : DkM (fun y => F' y ∨ (Value.slice a5 l1.length c5).ownBlock = some y) ((((w5.setCell ⟨g, k * 4, none⟩ (.slice a5 l1.length c5)).setCell ⟨g, k * 4 + 1, none⟩ (.int .i64 l1.length)).setCell ⟨g, k * 4 + 2, none⟩ (.slice none 0 0)).setCell ⟨g, k * 4 + 3, none⟩ (.bool false)) g (Dk.crashK D keeps (k + 1)) (Dk.upd vs' k (.slice a5 l1.length c5)) (Dk.upd os' k (.slice none 0 0)) ∧
              Turns F w (fun y => F' y ∨ (Value.slice a5 l1.length c5).ownBlock = some y) ((((w5.setCell ⟨g, k * 4, none⟩ (.slice a5 l1.length c5)).setCell ⟨g, k * 4 + 1, none⟩ (.int .i64 l1.length)).setCell ⟨g, k * 4 + 2, none⟩ (.slice none 0 0)).setCell ⟨g, k * 4 + 3, none⟩ (.bool false)) := by
            have hset : Only (· = g) w5 ((((w5.setCell ⟨g, k * 4, none⟩ (.slice a5 l1.length c5)).setCell ⟨g, k * 4 + 1, none⟩ (.int .i64 l1.length)).setCell ⟨g, k * 4 + 2, none⟩ (.slice none 0 0)).setCell ⟨g, k * 4 + 3, none⟩ (.bool false)) :=
              (((Only.setCell (S := (· = g)) (Only.refl _ w5) (p := ⟨g, k * 4, none⟩) (.inl rfl) _).setCell (p := ⟨g, k * 4 + 1, none⟩) (.inl rfl) _).setCell (p := ⟨g, k * 4 + 2, none⟩) (.inl rfl) _).setCell (p := ⟨g, k * 4 + 3, none⟩) (.inl rfl) _
            have hz5 : Only (· = g) wz w5 := (Below.only (S := (· = g)) ((Below.refl wz.heap.size wz).drew)).trans (Below.only (S := (· = g)) (w := wz.drew) hb5) fun _ _ h => h
            have hall : Only (· = g) wr ((((w5.setCell ⟨g, k * 4, none⟩ (.slice a5 l1.length c5)).setCell ⟨g, k * 4 + 1, none⟩ (.int .i64 l1.length)).setCell ⟨g, k * 4 + 2, none⟩ (.slice none 0 0)).setCell ⟨g, k * 4 + 3, none⟩ (.bool false)) := (hO1.trans hz5 fun _ _ h => h).trans hset fun _ _ h => h
            have hh5 : w5.heap[g]? = some (.cells (Dk.cells (Dk.upd vs' k (.slice a1 l1.length c1)) os' (Dk.crashK D keeps k)) 140 (0, 0)) := by rw [hb5.block g hgz]; exact hh1
            have h4 := heap_set (heap_set (heap_set (heap_set hh5 (k * 4) (.slice a5 l1.length c5)) (k * 4 + 1) (.int .i64 l1.length)) (k * 4 + 2) (.slice none 0 0)) (k * 4 + 3) (.bool false)
            rw [Dk.set_b hlt _ _ _ _ l1, Dk.set_safe hlt, Dk.set_old hlt _ _ _ _ [], Dk.set_fresh hlt, Dk.upd_upd] at h4
            simp only [Dk.setT_get, Dk.setT_setT] at h4
            have hx' : Dk.crashT (D.t k) (keeps.getD k 0) = ⟨l1, l1.length, [], false⟩ := by rw [← Hx.out, ← Hkp.out, Dk.crashT, ← Hl1.out]
            rw [Dk.crashK_succ, hx']
            obtain ⟨m1, m2⟩ := hM.fresh hlt (x := ⟨l1, l1.length, [], false⟩) hall h4 ((ho5'.base hO1.size).u8_only hset fun y hy e => by have := (ho5'.lt y hy).1; omega) rfl
            exact ⟨m1, hT.trans m2⟩
          have Hfin := Lib.hid hfin
          clear hfin
          go_wp2_with fail
          go_roundw
          case rel => exact ⟨k + 1, _, _, _, by omega, by go_num, Hfin.out.1, Hfin.out.2⟩
          case measure => simp [intOf]; omega
    · have hki : ¬ ((k : Int) < 4) := by omega
      have c18 := hM.c_fuse
      have c19 := hM.c_down
      have cf := hM.cf
      have hk4 : k = 4 := by omega
      have Hk4 := Lib.hid hk4
      clear hk4
      go_wp2_with fail
      refine bodyPost_end (v := .tuple #[]) (by simp [results, Try.results43, go_sem]) rfl ?_
      have ho : Only (· = g) wr ((wr.setCell ⟨g, 18, none⟩ (.int .i64 0)).setCell ⟨g, 19, none⟩ (.bool false)) := (Only.setCell (S := (· = g)) (Only.refl _ _) (p := ⟨g, 18, none⟩) (.inl rfl) _).setCell (p := ⟨g, 19, none⟩) (.inl rfl) _
      have h2 := heap_set (heap_set hM.heap 18 (.int .i64 0)) 19 (.bool false)
      rw [Dk.set_fuse, Dk.set_down] at h2
      have hM2 := hM.self ho h2 (fun _ _ => rfl) (fun _ _ => rfl)
      have e := Hk4.out
      subst e
      refine ⟨rfl, F', ⟨vs', os', hM2.eqv (fun i hi => ?_) rfl rfl rfl rfl⟩, hT.trans ⟨ho.mono fun y hy => by subst hy; exact hM.fg, fun y hy => .inl hy⟩⟩
      show Dk.crashT (D.t i) (keeps.getD i 0) = if i < 4 then Dk.crashT (D.t i) (keeps.getD i 0) else D.t i
      rw [if_pos hi]
end Go.Proofs.Ytmmgnbdngpkfcaa

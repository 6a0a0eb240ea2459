
/-
  A disk's calls: Append.
-/
import Derived.Test.YtmmgnbdngpkfcaaDiskA
namespace Go.Proofs.Ytmmgnbdngpkfcaa
open Go.RowKit
set_option linter.unusedVariables false

theorem Dk.err_cases (D : Dk.Dsk) (t : Int) : (Dk.err D t ≠ 0 ∧ (Dk.err D t = 1 ∨ Dk.err D t = 2)) ∨ (Dk.err D t = 0 ∧ ∃ k : Nat, t = k ∧ k < 4) := by
  unfold Dk.err
  by_cases h : t < 0 ∨ 4 ≤ t
  · rw [if_pos h]; exact .inl ⟨by decide, .inl rfl⟩
  · rw [if_neg h]
    cases D.down
    · exact .inr ⟨rfl, t.toNat, by omega, by omega⟩
    · exact .inl ⟨by decide, .inr rfl⟩

theorem grown_only {w w' : World} {row : Option Nat} (h : w.grownBy w' row) : Only (fun k => row = some k) w w' :=
  ⟨h.os, h.tape, h.output, h.size, fun k hk hn => h.block k hk fun e => hn e.symm⟩
theorem DkM.drew {F : Nat → Prop} {w : World} {g : Nat} {D : Dk.Dsk} {vs os : Nat → Value} (h : DkM F w g D vs os) : DkM F w.drew g D vs os :=
  h.only (S := fun _ => False) (Below.only ((Below.refl _ _).drew)) fun _ _ h => h
/-- bytes are put at the end of a tape -/
theorem DkM.put {F : Nat → Prop} {w wA : World} {g : Nat} {D : Dk.Dsk} {vs os : Nat → Value} (h : DkM F w g D vs os) {k : Nat} (hk : k < 4) {v : Value} {b : List (BitVec 8)} (ho : Own EU8 5 0 wA v b) (hg : w.grownBy wA (vs k).ownBlock) (hv : v.ownBlock = (vs k).ownBlock ∨ ∃ x, v.ownBlock = some x ∧ w.heap.size ≤ x) :
    DkM (fun x => F x ∨ v.ownBlock = some x) (wA.setCell ⟨g, k * 4, none⟩ v) g (Dk.setT D k { D.t k with b := b }) (Dk.upd vs k v) os ∧ Turns F w (fun x => F x ∨ v.ownBlock = some x) (wA.setCell ⟨g, k * 4, none⟩ v) := by
  have hgs := h.lt
  have hgo : (vs k).ownBlock ≠ some g := fun e => (h.fv k hk g e).2 rfl
  have hset : Only (· = g) wA (wA.setCell ⟨g, k * 4, none⟩ v) := Only.setCell (S := (· = g)) (Only.refl _ _) (p := ⟨g, k * 4, none⟩) (.inl rfl) _
  have hO : Only (fun x => (vs k).ownBlock = some x ∨ x = g) w (wA.setCell ⟨g, k * 4, none⟩ v) :=
    ((grown_only hg).mono fun _ h => .inl h).trans (hset.mono fun _ h => .inr h) fun _ _ h => h
  have hnew : ∀ x, v.ownBlock = some x → x ≠ g ∧ (F x ∨ w.heap.size ≤ x) := fun x hx => by
    rcases hv with e | ⟨y, e, hy⟩
    · rw [e] at hx; obtain ⟨h1, h2⟩ := h.fv k hk x hx; exact ⟨h2, .inl h1⟩
    · rw [e] at hx; injection hx with hx; subst hx; exact ⟨by omega, .inr hy⟩
  have hsep : ∀ j, j < 4 → j ≠ k → ∀ x, v.ownBlock = some x → (vs j).ownBlock ≠ some x := fun j hj hjk x hx e => by
    rcases hv with e2 | ⟨y, e2, hy⟩
    · rw [e2] at hx; exact h.vv k j hk hj (fun h => hjk h.symm) x hx e
    · rw [e2] at hx; injection hx with hx; subst hx; have := h.flt _ (h.fv j hj _ e).1; omega
  have hsepo : ∀ j, j < 4 → ∀ x, v.ownBlock = some x → (os j).ownBlock ≠ some x := fun j hj x hx e => by
    rcases hv with e2 | ⟨y, e2, hy⟩
    · rw [e2] at hx; exact h.vo k j hk hj x hx e
    · rw [e2] at hx; injection hx with hx; subst hx; have := h.flt _ (h.fo j hj _ e).1; omega
  refine ⟨⟨?_, fun i hi => ?_, fun i hi => ?_, .inl h.fg, fun i hi x hx => ?_, fun i hi x hx => ?_, fun i j hi hj hij x hx => ?_, fun i j hi hj x hx => ?_, fun x hx => ?_⟩, ⟨hO.mono fun x hx => ?_, fun x hx => ?_⟩⟩
  · have h1 : wA.heap[g]? = some (.cells (Dk.cells vs os D) 140 (0, 0)) := by rw [hg.block g hgs fun e => hgo e.symm]; exact h.heap
    have h2 := heap_set h1 (k * 4) v
    rw [Dk.set_b hk vs os D v b] at h2
    exact h2
  · by_cases hik : i = k
    · subst hik
      simp only [Dk.upd_same, Dk.setT]
      exact ho.u8_only hset fun x hx => (hnew x hx).1
    · simp only [Dk.upd_other _ _ _ _ hik, Dk.setT]
      exact (h.own i hi).u8_only hO fun x hx hS => by
        rcases hS with hS | hS
        · exact h.vv i k hi hk hik x hx hS
        · exact (h.fv i hi x hx).2 hS
  · have e : ((Dk.setT D k { D.t k with b := b }).t i).old = (D.t i).old := by
      by_cases hik : i = k
      · subst hik; simp only [Dk.setT, Dk.upd_same]
      · simp only [Dk.setT, Dk.upd_other _ _ _ _ hik]
    rw [e]
    exact (h.old i hi).u8_only hO fun x hx hS => by
      rcases hS with hS | hS
      · exact h.vo k i hk hi x hS hx
      · exact (h.fo i hi x hx).2 hS
  · by_cases hik : i = k
    · subst hik; rw [Dk.upd_same] at hx; exact ⟨.inr hx, (hnew x hx).1⟩
    · rw [Dk.upd_other _ _ _ _ hik] at hx; obtain ⟨h1, h2⟩ := h.fv i hi x hx; exact ⟨.inl h1, h2⟩
  · obtain ⟨h1, h2⟩ := h.fo i hi x hx; exact ⟨.inl h1, h2⟩
  · by_cases hik : i = k
    · subst hik
      rw [Dk.upd_same] at hx
      rw [Dk.upd_other _ _ _ _ (fun e => hij e.symm)]
      exact hsep j hj (fun e => hij e.symm) x hx
    · rw [Dk.upd_other _ _ _ _ hik] at hx
      by_cases hjk : j = k
      · subst hjk; rw [Dk.upd_same]; exact fun e => hsep i hi hik x e hx
      · rw [Dk.upd_other _ _ _ _ hjk]; exact h.vv i j hi hj hij x hx
  · by_cases hik : i = k
    · subst hik; rw [Dk.upd_same] at hx; exact hsepo j hj x hx
    · rw [Dk.upd_other _ _ _ _ hik] at hx; exact h.vo i j hi hj x hx
  · rcases hx with hx | hx
    · exact Nat.lt_of_lt_of_le (h.flt x hx) hO.size
    · have := (ho.lt x hx).2; exact Nat.lt_of_lt_of_le this hset.size
  · rcases hx with hx | hx
    · exact (h.fv k hk x hx).1
    · subst hx; exact h.fg
  · rcases hx with hx | hx
    · exact .inl hx
    · rcases (hnew x hx).2 with h | h
      · exact .inl h
      · exact .inr h

set_option maxRecDepth 100000 in
set_option maxHeartbeats 1600000 in
theorem disk_Append {F : Nat → Prop} (g : Nat) (D : Dk.Dsk) (t : Int) (a : Option Addr) (n c : Nat) (b : List (BitVec 8)) (w : World) (h : DkAt F w g D) (hok : Dk.Ok D) (ha : 0 ≤ D.acts ∧ D.acts ≤ 9000000000000000000) (hn : n = b.length) (hs : Sl EU8 (fun k => ¬ F k) w a b) (hl : b.length ≤ 140737488355328) :
    Calls Try.prog 30 #[.pointer (some ⟨g, 0, none⟩), .int .i64 t, .slice a n c] w fun e w' => e = .returned (.int .i64 (Dk.app D t b).2) ∧ ∃ F', DkAt F' w' g (Dk.app D t b).1 ∧ Turns F w F' w' := by
  subst hn
  obtain ⟨vs, os, h⟩ := h
  obtain ⟨A, hA⟩ : ∃ A, A = Dk.app D t b := ⟨_, rfl⟩
  rw [← hA]
  rcases Dk.err_cases D t with ⟨he, he2⟩ | ⟨he, k, rfl, hk⟩
  · have happ : A = (D, Dk.err D t) := by rw [hA]; unfold Dk.app; rw [if_pos he]
    obtain ⟨r, hr⟩ : ∃ r, r = Dk.err D t := ⟨_, rfl⟩
    rw [← hr] at he happ he2
    have hr' : (r != 0) = true := by simpa using he
    have Hr := Lib.hid hr
    have Happ := Lib.hid happ
    clear hA happ he he2 hr
    go_enter Try.func30, Try.ntmps30
    go_wp2_with fail
    refine (disk_right g D vs os t _ h).mono ?_
    rw [← Hr.out]
    rintro e w1 ⟨rfl, rfl⟩
    go_wp2_with fail
    go_ret
    exact ⟨by rw [Happ.out]; rfl, F, by rw [Happ.out]; exact ⟨vs, os, h⟩, Turns.refl _ _⟩
  · have He := Lib.hid he
    obtain ⟨x, hx⟩ : ∃ x, x = D.t k := ⟨_, rfl⟩
    have hown := h.own k hk
    rw [← hx] at hown
    obtain ⟨av, cv, hv, hcv, hcm, hrv, hown'⟩ := hown.shape x.b.length rfl
    have c16 := h.c_room
    have cb := h.c_b hk
    rw [hv] at cb
    have hxl : (x.b.length : Int) ≤ D.room := by rw [hx]; exact hok.len k
    have hr0 := hok.room0
    have hr1 := hok.room1
    obtain ⟨rm, hrm⟩ : ∃ r, r = D.room := ⟨_, rfl⟩
    rw [← hrm] at c16 hxl hr0 hr1
    have i0 : (0 : Int) ≤ (k : Int) := by omega
    have i1 : (k : Int) < 4 := by omega
    have i2 : IntKind.i64.wrap (rm - (x.b.length : Int)) = rm - (x.b.length : Int) := IntWalk.i64_in _ (by omega)
    have hA2 := hA
    unfold Dk.app at hA2
    rw [if_neg (by rw [he]; decide), Int.toNat_natCast, ← hx, ← hrm] at hA2
    have HA2 := Lib.hid hA2
    have Hx := Lib.hid hx
    have Hrm := Lib.hid hrm
    have Hv := Lib.hid hv
    clear hA hA2 he hx hrm hv
    go_enter Try.func30, Try.ntmps30
    go_wp2_with fail
    refine (disk_right g D vs os k _ h).mono ?_
    rw [He.out]
    rintro e w1 ⟨rfl, rfl⟩
    go_wp2_with fail
    go_region_held3 (fun W => W.cell? ⟨g, 16, none⟩ = some (.int .i64 rm) ∧ W.cell? ⟨g, k * 4, none⟩ = some (.slice av x.b.length cv)) (go_keep) (fail)
    by_cases hfull : rm - (x.b.length : Int) < (b.length : Int)
    · have hAA : A = (D, 40) := by rw [HA2.out, if_pos hfull]
      have HAA := Lib.hid hAA
      clear hAA
      go_wp2_with fail
      go_ret
      exact ⟨by rw [HAA.out]; rfl, F, by rw [HAA.out]; exact ⟨vs, os, h.drew⟩, ⟨Below.only ((Below.refl _ _).drew), fun k hk => .inl hk⟩⟩
    · have hAA : A = Dk.act (Dk.setT D k { x with b := x.b ++ b }) := by rw [HA2.out, if_neg hfull]
      have HAA := Lib.hid hAA
      have hd := h.drew
      have hs' : Sl EU8 (fun q => some q ≠ (Value.slice av x.b.length cv).ownBlock) w.drew a b := hs.mono (by decide) fun q hq _ => ⟨rfl, fun e => hq (h.fv k hk q (by rw [Hv.out]; exact e.symm)).1⟩
      have hown2 := hd.own k hk
      rw [Hv.out, ← Hx.out] at hown2
      have d0 := hd.c_b hk
      rw [Hv.out] at d0
      clear hAA hown hown' hrv cb c16 hs
      go_wp2_with (first
        | (refine wpList_app EU8 rfl rfl (by rfl) (by rfl) ti_bytes hown2 rfl hs' (by unfold maxLen; omega) (by omega) (Nat.zero_le _) ?_
           intro v8 w8 ho8 hg8 hv8 hb8
           obtain ⟨a8, c8, rfl, hc8, hm8, hr8, ho8'⟩ := ho8.shape (x.b.length + b.length) (by simp)
           have k2 : w8.cell? ⟨g, k * 4, none⟩ = some (.slice av x.b.length cv) := by
             have e := cell_keep (o := k * 4) (hg8.block g (by simpa using h.lt) (fun e => (h.fv k hk g (by rw [Hv.out]; exact e.symm)).2 rfl))
             rw [e]; exact d0
           have kf : w8.frozen? ⟨g, k * 4, none⟩ = false := by
             have e := hg8.block g (by simpa using h.lt) (fun e => (h.fv k hk g (by rw [Hv.out]; exact e.symm)).2 rfl)
             have e2 := e.trans hd.heap
             simp [World.frozen?, e2]))
      rw [← Hv.out] at hg8 hv8
      obtain ⟨hM, hT⟩ := hd.put hk ho8' hg8 hv8
      rw [← Hx.out] at hM
      have hok2 : Dk.Ok (Dk.setT D k { x with b := x.b ++ b }) := by
        refine Dk.ok_setT hok _ _ ?_ ?_ ?_
        · have := hok.safe k; rw [← Hx.out] at this; simp; omega
        · rw [← Hrm.out]; simp only [List.length_append]; omega
        · have := hok.old k; rw [← Hx.out] at this; exact this
      refine (disk_act g _ _ _ _ hM hok2 ha).mono ?_
      rintro e w9 ⟨rfl, hM9, hO9⟩
      go_wp2_with fail
      go_ret
      refine ⟨by rw [HAA.out]; rfl, _, by rw [HAA.out]; exact ⟨_, _, hM9⟩, ?_⟩
      have hT0 : Turns F w F w.drew := ⟨Below.only ((Below.refl _ _).drew), fun k hk => .inl hk⟩
      exact (hT0.trans hT).trans ⟨hO9.mono fun q hq => .inl (by subst hq; exact h.fg), fun q hq => .inl hq⟩
end Go.Proofs.Ytmmgnbdngpkfcaa


/-
  A disk's calls: New, right, act, Acts, Down, Fuse, Safe.
-/
import Derived.Test.YtmmgnbdngpkfcaaDisk
namespace Go.Proofs.Ytmmgnbdngpkfcaa
open Go.RowKit
set_option linter.unusedVariables false

theorem DkM.c_room {F : Nat → Prop} {w : World} {g : Nat} {D : Dk.Dsk} {vs os : Nat → Value} (h : DkM F w g D vs os) : w.cell? ⟨g, 16, none⟩ = some (.int .i64 D.room) := by simp [World.cell?, h.heap, Dk.cells]
theorem DkM.c_acts {F : Nat → Prop} {w : World} {g : Nat} {D : Dk.Dsk} {vs os : Nat → Value} (h : DkM F w g D vs os) : w.cell? ⟨g, 17, none⟩ = some (.int .i64 D.acts) := by simp [World.cell?, h.heap, Dk.cells]
theorem DkM.c_fuse {F : Nat → Prop} {w : World} {g : Nat} {D : Dk.Dsk} {vs os : Nat → Value} (h : DkM F w g D vs os) : w.cell? ⟨g, 18, none⟩ = some (.int .i64 D.fuse) := by simp [World.cell?, h.heap, Dk.cells]
theorem DkM.c_down {F : Nat → Prop} {w : World} {g : Nat} {D : Dk.Dsk} {vs os : Nat → Value} (h : DkM F w g D vs os) : w.cell? ⟨g, 19, none⟩ = some (.bool D.down) := by simp [World.cell?, h.heap, Dk.cells]
theorem DkM.c_b {F : Nat → Prop} {w : World} {g : Nat} {D : Dk.Dsk} {vs os : Nat → Value} (h : DkM F w g D vs os) {t : Nat} (ht : t < 4) : w.cell? ⟨g, t * 4, none⟩ = some (vs t) := by simp [World.cell?, h.heap, Dk.get_b ht]
theorem DkM.c_safe {F : Nat → Prop} {w : World} {g : Nat} {D : Dk.Dsk} {vs os : Nat → Value} (h : DkM F w g D vs os) {t : Nat} (ht : t < 4) : w.cell? ⟨g, t * 4 + 1, none⟩ = some (.int .i64 (D.t t).safe) := by simp [World.cell?, h.heap, Dk.get_safe ht]
theorem DkM.c_old {F : Nat → Prop} {w : World} {g : Nat} {D : Dk.Dsk} {vs os : Nat → Value} (h : DkM F w g D vs os) {t : Nat} (ht : t < 4) : w.cell? ⟨g, t * 4 + 2, none⟩ = some (os t) := by simp [World.cell?, h.heap, Dk.get_old ht]
theorem DkM.c_fresh {F : Nat → Prop} {w : World} {g : Nat} {D : Dk.Dsk} {vs os : Nat → Value} (h : DkM F w g D vs os) {t : Nat} (ht : t < 4) : w.cell? ⟨g, t * 4 + 3, none⟩ = some (.bool (D.t t).fresh) := by simp [World.cell?, h.heap, Dk.get_fresh ht]
theorem DkM.cf {F : Nat → Prop} {w : World} {g : Nat} {D : Dk.Dsk} {vs os : Nat → Value} (h : DkM F w g D vs os) : ∀ o, w.frozen? ⟨g, o, none⟩ = false := fun o => by simp [World.frozen?, h.heap]
theorem DkM.lt {F : Nat → Prop} {w : World} {g : Nat} {D : Dk.Dsk} {vs os : Nat → Value} (h : DkM F w g D vs os) : g < w.heap.size := (Array.getElem?_eq_some_iff.1 h.heap).1
/-- the disk's own block is written, but for what it owns -/
theorem DkM.self {F : Nat → Prop} {w w' : World} {g : Nat} {D D' : Dk.Dsk} {vs os : Nat → Value} (h : DkM F w g D vs os) (ho : Only (· = g) w w') (hh : w'.heap[g]? = some (.cells (Dk.cells vs os D') 140 (0, 0))) (hb : ∀ i, i < 4 → (D'.t i).b = (D.t i).b) (hold : ∀ i, i < 4 → (D'.t i).old = (D.t i).old) : DkM F w' g D' vs os :=
  ⟨hh, fun i hi => by rw [hb i hi]; exact (h.own i hi).u8_only ho fun x hx => (h.fv i hi x hx).2, fun i hi => by rw [hold i hi]; exact (h.old i hi).u8_only ho fun x hx => (h.fo i hi x hx).2, h.fg, h.fv, h.fo, h.vv, h.vo, fun k hk => Nat.lt_of_lt_of_le (h.flt k hk) ho.size⟩

/-- a new disk -/
theorem new_done (w : World) (r m : Int) (hm : m = min (max r 0) 4194304) : DkAt (· = w.heap.size) (w.alloc (.cells #[.slice none 0 0, .int .i64 0, .slice none 0 0, .bool false, .slice none 0 0, .int .i64 0, .slice none 0 0, .bool false, .slice none 0 0, .int .i64 0, .slice none 0 0, .bool false, .slice none 0 0, .int .i64 0, .slice none 0 0, .bool false, .int .i64 m, .int .i64 0, .int .i64 0, .bool false] 140)) w.heap.size (Dk.new r) := by
  refine ⟨fun _ => .slice none 0 0, fun _ => .slice none 0 0, ?_, fun i hi => Own.nil _ _ _ _, fun i hi => Own.nil _ _ _ _, rfl, fun i hi x hx => by simp [Value.ownBlock] at hx, fun i hi x hx => by simp [Value.ownBlock] at hx, fun i j _ _ _ x hx => by simp [Value.ownBlock] at hx, fun i j _ _ x hx => by simp [Value.ownBlock] at hx, fun k hk => by simp; omega⟩
  rw [heap_alloc_new w _]
  subst hm
  rfl

set_option maxRecDepth 100000 in
set_option maxHeartbeats 800000 in
theorem disk_New (r : Int) (B : Nat) (w : World) (hB : w.heap.size = B) (hr : -9223372036854775808 ≤ r ∧ r ≤ 9223372036854775807) :
    Calls Try.prog 25 #[.int .i64 r] w fun e w' => e = .returned (.pointer (some ⟨B, 0, none⟩)) ∧ DkAt (· = B) w' B (Dk.new r) ∧ Below B w w' ∧ w'.heap.size = B + 1 := by
  subst hB
  obtain ⟨T, hT⟩ : ∃ T : Prop, T = True := ⟨_, rfl⟩
  by_cases h0 : r < 0
  · go_enter Try.func25, Try.ntmps25
    go_wp2_with fail
    go_ret
    exact ⟨rfl, new_done w r 0 (by omega), (Below.refl _ _).alloc (Nat.le_refl _) _, by simp⟩
  · have h0' : 0 ≤ r := by omega
    by_cases h4 : 4194304 < r
    · go_enter Try.func25, Try.ntmps25
      go_wp2_with fail
      go_ret
      exact ⟨rfl, new_done w r 4194304 (by omega), (Below.refl _ _).alloc (Nat.le_refl _) _, by simp⟩
    · have h4' : r ≤ 4194304 := by omega
      go_enter Try.func25, Try.ntmps25
      go_wp2_with fail
      go_ret
      exact ⟨rfl, new_done w r r (by omega), (Below.refl _ _).alloc (Nat.le_refl _) _, by simp⟩

theorem disk_right {F : Nat → Prop} (g : Nat) (D : Dk.Dsk) (vs os : Nat → Value) (t : Int) (w : World) (h : DkM F w g D vs os) :
    Calls Try.prog 75 #[.pointer (some ⟨g, 0, none⟩), .int .i64 t] w fun e w' => e = .returned (.int .i64 (Dk.err D t)) ∧ w = w' := by
  obtain ⟨r, hr⟩ : ∃ r, r = Dk.err D t := ⟨_, rfl⟩
  rw [← hr]
  have c19 := h.c_down
  by_cases h0 : t < 0
  · have h0' : decide (t < 0) = true := by simpa using h0
    have hz : r = 1 := by rw [hr]; unfold Dk.err; rw [if_pos (.inl h0)]
    subst hz
    clear hr h0
    go_enter Try.func75, Try.ntmps75
    go_wp2_with fail
    go_ret
    exact ⟨rfl, rfl⟩
  have h0' : decide (t < 0) = false := by simpa using h0
  by_cases h4 : 4 ≤ t
  · have h4' : decide (4 ≤ t) = true := by simpa using h4
    have hz : r = 1 := by rw [hr]; unfold Dk.err; rw [if_pos (.inr h4)]
    subst hz
    clear hr h0 h4
    go_enter Try.func75, Try.ntmps75
    go_wp2_with fail
    go_ret
    exact ⟨rfl, rfl⟩
  have h4' : decide (4 ≤ t) = false := by simpa using h4
  have hz : r = if D.down = true then 2 else 0 := by rw [hr]; unfold Dk.err; rw [if_neg (by omega)]
  cases hd : D.down
  · rw [hd] at c19 hz
    obtain rfl : r = 0 := hz
    clear hr h0 h4 hd
    go_enter Try.func75, Try.ntmps75
    go_wp2_with fail
    go_ret
    exact ⟨rfl, rfl⟩
  · rw [hd] at c19 hz
    obtain rfl : r = 2 := hz
    clear hr h0 h4 hd
    go_enter Try.func75, Try.ntmps75
    go_wp2_with fail
    go_ret
    exact ⟨rfl, rfl⟩

set_option maxRecDepth 100000 in
set_option maxHeartbeats 800000 in
theorem disk_act {F : Nat → Prop} (g : Nat) (D : Dk.Dsk) (vs os : Nat → Value) (w : World) (h : DkM F w g D vs os) (hok : Dk.Ok D) (ha : 0 ≤ D.acts ∧ D.acts ≤ 9000000000000000000) :
    Calls Try.prog 79 #[.pointer (some ⟨g, 0, none⟩)] w fun e w' => e = .returned (.int .i64 (Dk.act D).2) ∧ DkM F w' g (Dk.act D).1 vs os ∧ Only (· = g) w w' := by
  have c17 := h.c_acts
  have c18 := h.c_fuse
  have c19 := h.c_down
  have cf := h.cf
  obtain ⟨f, hf⟩ : ∃ f, f = D.fuse := ⟨_, rfl⟩
  obtain ⟨n, hn⟩ : ∃ n, n = D.acts := ⟨_, rfl⟩
  obtain ⟨dn, hdn⟩ : ∃ n, n = D.down := ⟨_, rfl⟩
  have f0 := hok.fuse0
  have f1 := hok.fuse1
  rw [← hf] at c18 f0 f1
  rw [← hn] at c17 ha
  rw [← hdn] at c19
  by_cases h1 : f = 1
  · have h1' : (f == 1) = true := by simpa using h1
    have hact : Dk.act D = ({ D with fuse := 0, down := true }, 2) := by unfold Dk.act; rw [if_pos (by rw [← hf, h1])]
    rw [hact]
    have Hact := Lib.hid hact
    clear h1 hact hf hn hdn
    go_enter Try.func79, Try.ntmps79
    go_wp2_with fail
    go_ret
    have ho : Only (· = g) w ((w.setCell ⟨g, 18, none⟩ (.int .i64 0)).setCell ⟨g, 19, none⟩ (.bool true)) := ((Only.setCell (S := (· = g)) (Only.refl _ _) (p := ⟨g, 18, none⟩) (.inl rfl) _).setCell (p := ⟨g, 19, none⟩) (.inl rfl) _)
    refine ⟨rfl, h.self ho ?_ (fun _ _ => rfl) (fun _ _ => rfl), ho⟩
    have h2 := heap_set (heap_set h.heap 18 (.int .i64 0)) 19 (.bool true)
    rw [Dk.set_fuse, Dk.set_down] at h2
    exact h2
  · have h1' : (f == 1) = false := by simpa using h1
    have hdone : ∀ f' : Int, f' = max 0 (f - 1) → DkM F ((w.setCell ⟨g, 18, none⟩ (.int .i64 f')).setCell ⟨g, 17, none⟩ (.int .i64 (n + 1))) g (Dk.act D).1 vs os ∧ Only (· = g) w ((w.setCell ⟨g, 18, none⟩ (.int .i64 f')).setCell ⟨g, 17, none⟩ (.int .i64 (n + 1))) ∧ (Dk.act D).2 = 0 := fun f' hf' => by
      have hact : Dk.act D = ({ D with fuse := f', acts := n + 1 }, 0) := by unfold Dk.act; rw [if_neg (by rw [← hf]; exact h1), hf', hf, hn]
      rw [hact]
      have ho : Only (· = g) w ((w.setCell ⟨g, 18, none⟩ (.int .i64 f')).setCell ⟨g, 17, none⟩ (.int .i64 (n + 1))) := ((Only.setCell (S := (· = g)) (Only.refl _ _) (p := ⟨g, 18, none⟩) (.inl rfl) _).setCell (p := ⟨g, 17, none⟩) (.inl rfl) _)
      refine ⟨h.self ho ?_ (fun _ _ => rfl) (fun _ _ => rfl), ho, rfl⟩
      have h2 := heap_set (heap_set h.heap 18 (.int .i64 f')) 17 (.int .i64 (n + 1))
      rw [Dk.set_fuse, Dk.set_acts] at h2
      exact h2
    have Hdone := Lib.hid hdone
    clear hdone
    obtain ⟨rd, hrd⟩ : ∃ r, r = (Dk.act D).2 := ⟨_, rfl⟩
    have hrd0 : rd = 0 := by rw [hrd]; exact (Hdone.out _ rfl).2.2
    rw [← hrd, hrd0]
    clear h1 hf hn hdn hrd hrd0
    by_cases hf1 : 1 < f
    · have hf2 : 0 < f - 1 := by omega
      go_enter Try.func79, Try.ntmps79
      go_wp2_with fail
      go_ret
      obtain ⟨a1, a2, _⟩ := Hdone.out (f - 1) (by omega)
      exact ⟨rfl, a1, a2⟩
    · have hf2 : f - 1 ≤ 0 := by omega
      go_enter Try.func79, Try.ntmps79
      go_wp2_with fail
      go_ret
      obtain ⟨a1, a2, _⟩ := Hdone.out 0 (by omega)
      exact ⟨rfl, a1, a2⟩
end Go.Proofs.Ytmmgnbdngpkfcaa

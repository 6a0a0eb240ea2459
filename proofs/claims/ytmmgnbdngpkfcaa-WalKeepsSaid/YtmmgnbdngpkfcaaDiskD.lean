
/-
  A disk's calls: Read, Safe, Acts, Down, Fuse, Crash.
-/
import Derived.Test.YtmmgnbdngpkfcaaDiskC
namespace Go.Proofs.Ytmmgnbdngpkfcaa
open Go.RowKit
set_option linter.unusedVariables false

theorem clone_own (v : Value) (l : List (BitVec 8)) (B : Nat) (w : World) (hB : w.heap.size = B) (h : Own EU8 5 0 w v l) (hl : l.length ≤ 140737488355328) :
    Calls Try.prog 76 #[v] w fun e w' => ∃ v', e = .returned v' ∧ Own EU8 5 B w' v' l ∧ Below B w w' := by
  subst hB
  rcases h with ⟨rfl, rfl⟩ | ⟨g, cap, cur, rfl, hg, hh, h1, h2, h3, h4⟩
  · refine (clone_nil _ w rfl).mono ?_
    rintro e w' ⟨rfl, rfl⟩
    exact ⟨_, rfl, Own.nil _ _ _ _, Below.refl _ _⟩
  · have hr : RB w (some ⟨g, 0, none⟩) l.length l := by
      obtain ⟨a, c, e, _, _, hs⟩ := (Own.sl (E := EU8) (te := 5) (base := 0) (w := w) (v := .slice (some ⟨g, 0, none⟩) l.length cap) (l := l) (.inr ⟨g, cap, cur, rfl, hg, hh, h1, h2, h3, h4⟩))
      injection e with e1 e2 e3
      subst e1
      exact ⟨rfl, hs⟩
    exact clone_some _ _ _ _ w hr hl

set_option maxRecDepth 100000 in
theorem disk_Read {F : Nat → Prop} (g : Nat) (D : Dk.Dsk) (t : Int) (B : Nat) (w : World) (hB : w.heap.size = B) (h : DkAt F w g D) (hok : Dk.Ok D) :
    Calls Try.prog 27 #[.pointer (some ⟨g, 0, none⟩), .int .i64 t] w fun e w' => ∃ v, e = .returned (.tuple #[v, .int .i64 (Dk.read D t).2]) ∧ Own EU8 5 B w' v (Dk.read D t).1 ∧ Below B w w' := by
  obtain ⟨vs, os, h⟩ := h
  obtain ⟨A, hA⟩ : ∃ A, A = Dk.read D t := ⟨_, rfl⟩
  rw [← hA]
  have HB := Lib.hid hB
  rcases Dk.err_cases D t with ⟨he, he2⟩ | ⟨he, k, rfl, hk⟩
  · have happ : A = ([], Dk.err D t) := by rw [hA]; unfold Dk.read; rw [if_pos he]
    obtain ⟨r, hr⟩ : ∃ r, r = Dk.err D t := ⟨_, rfl⟩
    rw [← hr] at he happ he2
    have hr' : (r != 0) = true := by simpa using he
    have Hr := Lib.hid hr
    have Happ := Lib.hid happ
    clear hA happ he he2 hr hB
    go_enter Try.func27, Try.ntmps27
    go_wp2_with fail
    refine (disk_right g D vs os t _ h).mono ?_
    rw [← Hr.out]
    rintro e w1 ⟨rfl, rfl⟩
    go_wp2_with fail
    refine bodyPost_ret (v := .tuple #[.slice none 0 0, .int .i64 r]) (by simp [results, Try.results27, go_sem]) rfl ?_
    exact ⟨_, by rw [Happ.out], by rw [Happ.out]; exact Own.nil _ _ _ _, Below.refl _ _⟩
  · have He := Lib.hid he
    have hAA : A = ((D.t k).b, 0) := by rw [hA]; unfold Dk.read; rw [if_neg (by rw [he]; decide)]; rfl
    have HAA := Lib.hid hAA
    have cb := h.c_b hk
    have hown := h.own k hk
    have hl := hok.len k
    have hr1 := hok.room1
    have i0 : (0 : Int) ≤ (k : Int) := by omega
    have i1 : (k : Int) < 4 := by omega
    obtain ⟨l, hll⟩ : ∃ l, l = (D.t k).b := ⟨_, rfl⟩
    rw [← hll] at hown hl
    have Hl := Lib.hid hll
    clear hA hAA he hB hll
    go_enter Try.func27, Try.ntmps27
    go_wp2_with fail
    refine (disk_right g D vs os k _ h).mono ?_
    rw [He.out]
    rintro e w1 ⟨rfl, rfl⟩
    go_wp2_with fail
    refine (clone_own (vs k) l B _ HB.out hown (by omega)).mono ?_
    rintro e w1 ⟨v1, rfl, ho1, hb1⟩
    go_wp2_with fail
    refine bodyPost_ret (v := .tuple #[v1, .int .i64 0]) (by simp [results, Try.results27, go_sem]) rfl ?_
    exact ⟨_, by rw [HAA.out], by rw [HAA.out, ← Hl.out]; exact ho1, hb1⟩

theorem disk_Down {F : Nat → Prop} (g : Nat) (D : Dk.Dsk) (w : World) (h : DkAt F w g D) :
    Calls Try.prog 44 #[.pointer (some ⟨g, 0, none⟩)] w fun e w' => e = .returned (.bool D.down) ∧ w = w' := by
  obtain ⟨vs, os, h⟩ := h
  have c := h.c_down
  go_enter Try.func44, Try.ntmps44
  go_wp2_with fail
  go_ret
  exact ⟨rfl, rfl⟩
theorem disk_Fuse {F : Nat → Prop} (g : Nat) (D : Dk.Dsk) (n : Int) (w : World) (h : DkAt F w g D) :
    Calls Try.prog 42 #[.pointer (some ⟨g, 0, none⟩), .int .i64 n] w fun e w' => e = .returned (.tuple #[]) ∧ DkAt F w' g (Dk.fuse D n) ∧ Only F w w' := by
  obtain ⟨vs, os, h⟩ := h
  have c := h.c_fuse
  have cf := h.cf
  have hdone : ∀ m : Int, m = max 0 n → DkAt F (w.setCell ⟨g, 18, none⟩ (.int .i64 m)) g (Dk.fuse D n) ∧ Only F w (w.setCell ⟨g, 18, none⟩ (.int .i64 m)) := fun m hm => by
    have ho : Only (· = g) w (w.setCell ⟨g, 18, none⟩ (.int .i64 m)) := Only.setCell (S := (· = g)) (Only.refl _ _) (p := ⟨g, 18, none⟩) (.inl rfl) _
    refine ⟨⟨vs, os, h.self ho ?_ (fun _ _ => rfl) (fun _ _ => rfl)⟩, ho.mono fun y hy => by subst hy; exact h.fg⟩
    have h2 := heap_set h.heap 18 (.int .i64 m)
    rw [Dk.set_fuse] at h2
    rw [hm] at h2
    rw [hm]
    exact h2
  have Hdone := Lib.hid hdone
  clear hdone
  by_cases hn : 0 < n
  · go_enter Try.func42, Try.ntmps42
    go_wp2_with fail
    refine bodyPost_end (v := .tuple #[]) (by simp [results, Try.results42, go_sem]) rfl ?_
    exact ⟨rfl, Hdone.out n (by omega)⟩
  · have hn' : n ≤ 0 := by omega
    go_enter Try.func42, Try.ntmps42
    go_wp2_with fail
    refine bodyPost_end (v := .tuple #[]) (by simp [results, Try.results42, go_sem]) rfl ?_
    exact ⟨rfl, Hdone.out 0 (by omega)⟩
end Go.Proofs.Ytmmgnbdngpkfcaa

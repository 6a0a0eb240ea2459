/-
  The functions by which the statements of frames say what they say.
-/
import Derived.Test.YtcmkkilhipnbcaaFrameEnc
namespace Go.Proofs.Ytcmkkilhipnbcaa
open Go.RowKit
set_option linter.unusedVariables false

set_option maxHeartbeats 400000 in
theorem law4_four (B : Nat) (x : BitVec 64) (w : World) (hB : w.heap.size = B) :
    Calls Try.prog 34 #[.int .u64 (bv x)] w fun e w' => ∃ a c, e = .returned (.slice a 4 c) ∧ RB w' a 4 (Frm.q4 x) ∧ Own EU8 5 B w' (.slice a 4 c) (Frm.q4 x) ∧ Below B w w' := by
  subst hB
  go_enter Try.func34, Try.ntmps34
  go_wp2
  go_ret
  refine ⟨_, _, rfl, ⟨rfl, sl_cells (heap_alloc_new w _) rfl trivial⟩, .inr ⟨w.heap.size, 4, _, rfl, Nat.le_refl _, heap_alloc_new w _, Nat.le_refl _, by unfold maxLen; omega, rfl, ?_⟩, (Below.refl _ _).alloc (Nat.le_refl _) _⟩
  intro k y hy
  refine ⟨[.int .u8 (bv y)], rfl, fun j u hj => ?_⟩
  have hj0 : j = 0 := by have := (List.getElem?_eq_some_iff.1 hj).1; simp at this; exact this
  subst hj0
  simp at hj; subst hj
  have hk : k < 4 := (List.getElem?_eq_some_iff.1 hy).1
  have : k = 0 ∨ k = 1 ∨ k = 2 ∨ k = 3 := by omega
  rcases this with rfl | rfl | rfl | rfl <;> (simp [Frm.q4] at hy; subst hy; simp [EU8])

set_option maxHeartbeats 400000 in
theorem law4_same (k1 : Int) (a1 : Option Addr) (n1 c1 : Nat) (d1 : List (BitVec 8)) (k2 : Int) (a2 : Option Addr) (n2 c2 : Nat) (d2 : List (BitVec 8)) (w : World) (h1 : RB w a1 n1 d1) (h2 : RB w a2 n2 d2) :
    Calls Try.prog 27 #[.agg #[.int .i64 k1, .slice a1 n1 c1], .agg #[.int .i64 k2, .slice a2 n2 c2]] w fun e w' => e = .returned (.bool (k1 == k2 && d1 == d2)) ∧ Below w.heap.size w w' := by
  have hb : ∀ o1 o2, Below w.heap.size w ((w.alloc o1).alloc o2) := fun o1 o2 => ((Below.refl _ _).alloc (Nat.le_refl _) _).alloc (by simp) _
  cases hk : (k1 == k2)
  · go_enter Try.func27, Try.ntmps27
    go_wp2
    go_ret
    exact ⟨rfl, hb _ _⟩
  · go_enter Try.func27, Try.ntmps27
    go_wp2_with (go_at_call 20; refine (ref_Same _ _ _ _ _ _ d1 d2 _ (h1.below (hb _ _)) (h2.below (hb _ _))).mono ?_; rintro e w' ⟨rfl, rfl⟩)
    go_ret
    exact ⟨by simp, hb _ _⟩

theorem head_enc : Frm.enc 1 [] = [1#8, 0#8, 0#8, 0#8] ++ (Frm.enc 1 []).drop 4 := by decide +kernel

set_option maxHeartbeats 400000 in
theorem law4_head (w : World) : Calls Try.prog 23 #[] w fun e w' => e = .returned (.bool true) ∧ Below w.heap.size w w' := by
  go_enter Try.func23, Try.ntmps23
  go_wp2_with fail
  refine (frame_Encode_ok 1 none 0 0 [] w (by omega) (by omega) (RB.nil _ _)).mono ?_
  rintro e w1 ⟨v, rfl, ho, hb⟩
  obtain ⟨a, c, rfl, _, _, hr, _⟩ := ho.shape 12 (by rw [Frm.enc_len]; rfl)
  rw [head_enc] at hr
  obtain ⟨b, o, rfl, hc⟩ := SB.all hr.2 (by simp)
  have h0 : w1.cell? ⟨b, o, none⟩ = some (.int .u8 1) := hc 0 (by simp)
  have h3 : w1.cell? ⟨b, o + 3, none⟩ = some (.int .u8 0) := hc 3 (by simp)
  clear hc hr ho
  go_wp2
  go_ret
  exact ⟨rfl, hb⟩
end Go.Proofs.Ytcmkkilhipnbcaa

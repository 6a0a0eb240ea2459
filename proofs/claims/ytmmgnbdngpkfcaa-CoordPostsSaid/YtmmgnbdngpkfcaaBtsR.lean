
/-
  The reader of bits, as memory.
-/
import Derived.Test.YtmmgnbdngpkfcaaBtsW
import Derived.Test.YtmmgnbdngpkfcaaBtsRd
namespace Go.Proofs.Ytmmgnbdngpkfcaa
open Go.RowKit
set_option linter.unusedVariables false

/-- a reader of bits: its block, its bytes -/
def RdAt (ok : Nat → Prop) (w : World) (g : Nat) (b : List (BitVec 8)) (r : Bts.Rd) : Prop :=
  ∃ a c, w.heap[g]? = some (.cells #[.slice a b.length c, .int .i64 r.at_, .int .i64 r.bad] 195 (0, 0)) ∧ Sl EU8 (fun k => k ≠ g ∧ ok k) w a b ∧ r.at_ ≤ 8 * b.length ∧ -9223372036854775808 ≤ r.bad ∧ r.bad ≤ 9223372036854775807
theorem RdAt.lt {ok : Nat → Prop} {w : World} {g : Nat} {b : List (BitVec 8)} {r : Bts.Rd} (h : RdAt ok w g b r) : g < w.heap.size := by
  obtain ⟨a, c, hh, _⟩ := h
  exact (Array.getElem?_eq_some_iff.1 hh).1
theorem RdAt.keep {ok : Nat → Prop} {w w' : World} {g : Nat} {b : List (BitVec 8)} {r : Bts.Rd} (h : RdAt ok w g b r) (hb : Below w.heap.size w w') : RdAt ok w' g b r := by
  have hl := h.lt
  obtain ⟨a, c, hh, hs, ha⟩ := h
  exact ⟨a, c, by rw [hb.block g hl]; exact hh, hs.mono (by decide) fun k hk hkl => ⟨hb.block k hkl, hk⟩, ha⟩
/-- the reader's block is written -/
theorem RdAt.set {ok : Nat → Prop} {w : World} {g : Nat} {b : List (BitVec 8)} {r r' : Bts.Rd} {cs : Array Value} {w' : World} (h : RdAt ok w g b r) (a : Option Addr) (c : Nat) (hh : w.heap[g]? = some (.cells #[.slice a b.length c, .int .i64 r.at_, .int .i64 r.bad] 195 (0, 0)))
    (h' : w'.heap[g]? = some (.cells #[.slice a b.length c, .int .i64 r'.at_, .int .i64 r'.bad] 195 (0, 0))) (ho : Only (· = g) w w') (hat : r'.at_ ≤ 8 * b.length) (hbad : -9223372036854775808 ≤ r'.bad ∧ r'.bad ≤ 9223372036854775807) : RdAt ok w' g b r' := by
  obtain ⟨a', c', hh2, hs, _⟩ := h
  rw [hh] at hh2
  simp only [Option.some.injEq, Obj.cells.injEq, Array.mk.injEq, List.cons.injEq, Value.slice.injEq, true_and, and_true] at hh2
  obtain ⟨rfl, rfl⟩ := hh2
  exact ⟨a, c, h', hs.mono (by decide) fun k hk hkl => ⟨ho.block k hkl hk.1, hk⟩, hat, hbad⟩

theorem RdAt.only {ok : Nat → Prop} {w w' : World} {g : Nat} {b : List (BitVec 8)} {r : Bts.Rd} {S : Nat → Prop} (h : RdAt ok w g b r) (hS : Only S w w') (hg : ¬ S g) (hk : ∀ k, ok k → ¬ S k) : RdAt ok w' g b r := by
  have hl := h.lt
  obtain ⟨a, c, hh, hs, ha⟩ := h
  exact ⟨a, c, by rw [hS.block g hl hg]; exact hh, hs.mono (by decide) fun k hk' hkl => ⟨hS.block k hkl (hk k hk'.2), hk'⟩, ha⟩

set_option maxRecDepth 4096 in
set_option maxHeartbeats 800000 in
theorem bits_Read (B : Nat) (a : Option Addr) (n c : Nat) (b : List (BitVec 8)) (w : World) (hB : w.heap.size = B) (hr : RB w a n b) (hl : n ≤ 1099511627776) :
    Calls Try.prog 116 #[.slice a n c] w fun e w' => ∃ g, e = .returned (.pointer (some ⟨g, 0, none⟩)) ∧ B ≤ g ∧ RdAt (fun k => B ≤ k ∧ k < g) w' g b ⟨0, 0⟩ ∧ Below B w w' := by
  subst hB
  obtain ⟨rfl, hs⟩ := hr
  have hs1 : Sl EU8 (fun k => some k ≠ (Value.slice none 0 0).ownBlock) w a b := hs.mono (by decide) fun k _ _ => ⟨rfl, by simp [Value.ownBlock]⟩
  go_enter Try.func116, Try.ntmps116
  go_wp2_with (first
    | (refine wpList_app EU8 (l2 := b) rfl rfl (by rfl) (by rfl) ti_bytes (Own.nil EU8 5 w.heap.size w) rfl hs1 (by unfold maxLen; simp; omega) (by simp; omega) (Nat.le_refl _) ?_
       intro v2 w2 ho2 hg2 hv2 hb2
       obtain ⟨a2, c2, rfl, hc2, hm2, hr2, ho2'⟩ := ho2.shape b.length (by simp)
       rw [List.nil_append] at hr2))
  go_ret
  refine ⟨w2.heap.size, rfl, hb2.size, ⟨a2, c2, heap_alloc_new w2 _, ?_, Nat.zero_le _, by decide, by decide⟩, hb2.alloc hb2.size _⟩
  exact ho2'.slB.mono (by decide) fun k hB hk => ⟨heap_alloc_old w2 _ hk, by omega, hB, hk⟩

theorem bits_Left {ok : Nat → Prop} (g : Nat) (b : List (BitVec 8)) (r : Bts.Rd) (w : World) (hr : RdAt ok w g b r) (hl : b.length ≤ 1099511627776) :
    Calls Try.prog 146 #[.pointer (some ⟨g, 0, none⟩)] w fun e w' => e = .returned (.int .i64 (Bts.left b r)) ∧ Below w.heap.size w w' := by
  obtain ⟨a, c, hh, hs, hat, hbd⟩ := hr
  have c0 : w.cell? ⟨g, 0, none⟩ = some (.slice a b.length c) := by simp [World.cell?, hh]
  have c1 : w.cell? ⟨g, 1, none⟩ = some (.int .i64 r.at_) := by simp [World.cell?, hh]
  have c2 : w.cell? ⟨g, 2, none⟩ = some (.int .i64 r.bad) := by simp [World.cell?, hh]
  obtain ⟨p, e⟩ := r
  dsimp only at *
  by_cases h0 : e = 0
  · subst h0
    have hlf : ((Bts.left b ⟨p, 0⟩ : Nat) : Int) = 8 * (b.length : Int) - p := by unfold Bts.left; simp; omega
    have Hlf := Lib.hid hlf
    clear hlf
    have i1 : IntKind.i64.wrap (8 * (b.length : Int)) = 8 * (b.length : Int) := IntWalk.i64_in _ (by omega)
    have i2 : IntKind.i64.wrap (8 * (b.length : Int) - (p : Int)) = 8 * (b.length : Int) - (p : Int) := IntWalk.i64_in _ (by omega)
    go_enter Try.func146, Try.ntmps146
    go_wp2
    go_region_held3 (fun W => W.cell? ⟨g, 0, none⟩ = some (.slice a b.length c) ∧ W.cell? ⟨g, 1, none⟩ = some (.int .i64 p))
      (go_keep)
      (fail)
    go_wp2
    go_ret
    rw [Hlf.out]
    exact ⟨rfl, (Below.refl _ _).drew⟩
  · have hlf : ((Bts.left b ⟨p, e⟩ : Nat) : Int) = 0 := by unfold Bts.left; simp [h0]
    have Hlf := Lib.hid hlf
    clear hlf
    go_enter Try.func146, Try.ntmps146
    go_wp2
    go_ret
    rw [Hlf.out]
    exact ⟨rfl, Below.refl _ _⟩

theorem bits_Err {ok : Nat → Prop} (g : Nat) (b : List (BitVec 8)) (r : Bts.Rd) (w : World) (hr : RdAt ok w g b r) :
    Calls Try.prog 128 #[.pointer (some ⟨g, 0, none⟩)] w fun e w' => e = .returned (.int .i64 r.bad) ∧ w = w' := by
  obtain ⟨a, c, hh, hs, hat, hbd⟩ := hr
  have c2 : w.cell? ⟨g, 2, none⟩ = some (.int .i64 r.bad) := by simp [World.cell?, hh]
  go_enter Try.func128, Try.ntmps128
  go_wp2
  go_ret
  exact ⟨rfl, rfl⟩

theorem bits_fail {ok : Nat → Prop} (g : Nat) (b : List (BitVec 8)) (r : Bts.Rd) (e : Int) (w : World) (hr : RdAt ok w g b r) (he : -9223372036854775808 ≤ e ∧ e ≤ 9223372036854775807) :
    Calls Try.prog 145 #[.pointer (some ⟨g, 0, none⟩), .int .i64 e] w fun x w' => x = .returned (.int .u64 0) ∧ RdAt ok w' g b (Bts.failed r e) ∧ Only (· = g) w w' := by
  have hr0 := hr
  obtain ⟨a, c, hh, hs, hat, hbd⟩ := hr
  have c2 : w.cell? ⟨g, 2, none⟩ = some (.int .i64 r.bad) := by simp [World.cell?, hh]
  have cf : ∀ o, w.frozen? ⟨g, o, none⟩ = false := fun o => by simp [World.frozen?, hh]
  by_cases h0 : r.bad = 0
  · rw [h0] at c2
    have hf : Bts.failed r e = ⟨r.at_, e⟩ := by unfold Bts.failed; rw [if_pos h0]
    have Hf := Lib.hid hf
    clear hf
    go_enter Try.func145, Try.ntmps145
    go_wp2
    go_ret
    have ho : Only (· = g) w (w.setCell ⟨g, 2, none⟩ (.int .i64 e)) := Only.setCell (S := fun x => x = g) (Only.refl _ _) (p := ⟨g, 2, none⟩) (.inl rfl) _
    refine ⟨rfl, ?_, ho⟩
    rw [Hf.out]
    exact hr0.set (cs := #[]) a c hh (by have := heap_set hh 2 (.int .i64 e); simpa using this) ho hat he
  · have hf : Bts.failed r e = r := by unfold Bts.failed; rw [if_neg h0]
    have Hf := Lib.hid hf
    clear hf
    go_enter Try.func145, Try.ntmps145
    go_wp2
    go_ret
    rw [Hf.out]
    exact ⟨rfl, hr0, Only.refl _ _⟩

end Go.Proofs.Ytmmgnbdngpkfcaa

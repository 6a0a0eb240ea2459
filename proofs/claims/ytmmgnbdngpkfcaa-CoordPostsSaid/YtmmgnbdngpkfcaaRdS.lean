
/-
  The reader of bits as a stream: what its calls tell and leave.
-/
import Derived.Test.YtmmgnbdngpkfcaaPars
import Derived.Test.YtmmgnbdngpkfcaaBtsRNum
namespace Go.Proofs.Ytmmgnbdngpkfcaa
open Go.RowKit
set_option linter.unusedVariables false

/-- a reader: what is left of its bits, or why it stopped -/
def RdS (ok : Nat → Prop) (w : World) (g : Nat) (b : List (BitVec 8)) (s : Bts.St) : Prop := ∃ r, RdAt ok w g b r ∧ Bts.IsS b r s
theorem RdS.lt {ok : Nat → Prop} {w : World} {g : Nat} {b : List (BitVec 8)} {s : Bts.St} (h : RdS ok w g b s) : g < w.heap.size := by obtain ⟨r, h, _⟩ := h; exact h.lt
theorem RdS.keep {ok : Nat → Prop} {w w' : World} {g : Nat} {b : List (BitVec 8)} {s : Bts.St} (h : RdS ok w g b s) (hb : Below w.heap.size w w') : RdS ok w' g b s := by obtain ⟨r, h, hs⟩ := h; exact ⟨r, h.keep hb, hs⟩
theorem RdS.only {ok : Nat → Prop} {w w' : World} {g : Nat} {b : List (BitVec 8)} {s : Bts.St} {S : Nat → Prop} (h : RdS ok w g b s) (hS : Only S w w') (hg : ¬ S g) (hk : ∀ k, ok k → ¬ S k) : RdS ok w' g b s := by obtain ⟨r, h, hs⟩ := h; exact ⟨r, h.only hS hg hk, hs⟩

theorem bits_ReadS (B : Nat) (a : Option Addr) (n c : Nat) (b : List (BitVec 8)) (w : World) (hB : w.heap.size = B) (hr : RB w a n b) (hl : n ≤ 1099511627776) :
    Calls Try.prog 116 #[.slice a n c] w fun e w' => ∃ g, e = .returned (.pointer (some ⟨g, 0, none⟩)) ∧ B ≤ g ∧ RdS (fun k => B ≤ k ∧ k < g) w' g b (.inl (Bts.bitsOf b)) ∧ Below B w w' := by
  refine (bits_Read B a n c b w hB hr hl).mono ?_
  rintro e w' ⟨g, rfl, hg, h1, h2⟩
  exact ⟨g, rfl, hg, ⟨_, h1, Bts.start_S b⟩, h2⟩
theorem bits_GetS {ok : Nat → Prop} (g : Nat) (b : List (BitVec 8)) (s : Bts.St) (n : Nat) (m : Int) (w : World) (hr : RdS ok w g b s) (hl : b.length ≤ 1099511627776) (hm : m = n) (hn : n ≤ 64) :
    Calls Try.prog 144 #[.pointer (some ⟨g, 0, none⟩), .int .i64 m] w fun e w' => e = .returned (.int .u64 (bv (Bts.runS (Bts.getP n) 0#64 s).1)) ∧ RdS ok w' g b (Bts.runS (Bts.getP n) 0#64 s).2 ∧ Only (· = g) w w' := by
  obtain ⟨r, h, hs⟩ := hr
  subst hm
  obtain ⟨h1, h2⟩ := Bts.getR_S hs (n : Int)
  rw [show Bts.clamp (n : Int) = n by unfold Bts.clamp; omega] at h1 h2
  refine (bits_Get g b r n w h hl (by omega)).mono ?_
  rintro e w' ⟨rfl, h3, h4⟩
  exact ⟨by rw [← h1], ⟨_, h3, h2⟩, h4⟩
theorem bits_RNumS {ok : Nat → Prop} (g : Nat) (b : List (BitVec 8)) (s : Bts.St) (w : World) (hr : RdS ok w g b s) (hl : b.length ≤ 1099511627776) :
    Calls Try.prog 117 #[.pointer (some ⟨g, 0, none⟩)] w fun e w' => e = .returned (.int .u64 (bv (Bts.runS Bts.numP 0#64 s).1)) ∧ RdS ok w' g b (Bts.runS Bts.numP 0#64 s).2 ∧ Only (· = g) w w' := by
  obtain ⟨r, h, hs⟩ := hr
  obtain ⟨h1, h2⟩ := Bts.numR_S hs
  refine (bits_RNum g b r w h hl).mono ?_
  rintro e w' ⟨rfl, h3, h4⟩
  exact ⟨by rw [← h1], ⟨_, h3, h2⟩, h4⟩
theorem bits_RIntS {ok : Nat → Prop} (g : Nat) (b : List (BitVec 8)) (s : Bts.St) (w : World) (hr : RdS ok w g b s) (hl : b.length ≤ 1099511627776) :
    Calls Try.prog 127 #[.pointer (some ⟨g, 0, none⟩)] w fun e w' => e = .returned (.int .i64 (Bts.runS Bts.intP 0 s).1) ∧ RdS ok w' g b (Bts.runS Bts.intP 0 s).2 ∧ Only (· = g) w w' := by
  obtain ⟨r, h, hs⟩ := hr
  obtain ⟨h1, h2⟩ := Bts.intR_S hs
  refine (bits_RInt g b r w h hl).mono ?_
  rintro e w' ⟨rfl, h3, h4⟩
  exact ⟨by rw [← h1], ⟨_, h3, h2⟩, h4⟩
theorem bits_ErrS {ok : Nat → Prop} (g : Nat) (b : List (BitVec 8)) (s : Bts.St) (w : World) (hr : RdS ok w g b s) :
    Calls Try.prog 128 #[.pointer (some ⟨g, 0, none⟩)] w fun e w' => e = .returned (.int .i64 (Bts.errS s)) ∧ w = w' := by
  obtain ⟨r, h, hs⟩ := hr
  refine (bits_Err g b r w h).mono ?_
  rintro e w' ⟨rfl, rfl⟩
  exact ⟨by rw [Bts.err_S hs], rfl⟩
theorem bits_EndS {ok : Nat → Prop} (g : Nat) (b : List (BitVec 8)) (s : Bts.St) (w : World) (hr : RdS ok w g b s) (hl : b.length ≤ 1099511627776) :
    Calls Try.prog 118 #[.pointer (some ⟨g, 0, none⟩)] w fun e w' => e = .returned (.int .i64 (Bts.endS s)) ∧ Below w.heap.size w w' := by
  obtain ⟨r, h, hs⟩ := hr
  refine (bits_End g b r w h hl).mono ?_
  rintro e w' ⟨rfl, h2⟩
  exact ⟨by rw [Bts.end_S hs], h2⟩
end Go.Proofs.Ytmmgnbdngpkfcaa


/-
  Frames as they come in.
-/
import Derived.Test.YtmmgnbdngpkfcaaOpen
import Derived.Test.YtmmgnbdngpkfcaaCrcHead
namespace Go.Proofs.Ytmmgnbdngpkfcaa
open Go.RowKit
set_option linter.unusedVariables false

def EFrame : Enc (Int × List (BitVec 8)) := EPair EInt EBytes

theorem frame_rep {ok : Nat → Prop} {w : World} {cs : List Value} {x : Int × List (BitVec 8)} (h : EFrame.rep ok w cs x) :
    ∃ a c, cs = [.int .i64 x.1, .slice a x.2.length c] ∧ x.2.length ≤ c ∧ c ≤ maxLen ∧ Sl EU8 ok w a x.2 := by
  obtain ⟨c1, c2, rfl, h1, a, c, rfl, h2, h3, h4⟩ := h
  obtain rfl : c1 = [.int .i64 x.1] := h1.1
  exact ⟨a, c, rfl, h2, h3, h4⟩

/-- at least what a frame counts -/
def mFrame (x : Int × List (BitVec 8)) : Nat := 1 + bulkL (fun _ => 1) x.2

theorem mFrame_len {x : Int × List (BitVec 8)} {n : Nat} (h : mFrame x ≤ n) : x.2.length ≤ n := by
  unfold mFrame at h
  have := bulkL_len (fun _ : BitVec 8 => 1) (fun _ => Nat.le_refl _) x.2
  omega

theorem reads_frame : Reads Try.prog 150 EFrame mFrame := by
  refine reads_struct (E := EPair EInt EBytes) (m := fun x => 1 + bulkL (fun _ => 1) x.2) Try.underlying150 (by kernel_rfl) ?_
  refine fields_cons (off := 0) (A := EInt) (B := EBytes) (m := fun _ => 1) (n := bulkL (fun _ => 1)) (by rfl) (by kernel_rfl) (reads_int Try.underlying3) ?_
  exact fields_one (off := 1) (by rfl) (by kernel_rfl) reads_bytes
end Go.Proofs.Ytmmgnbdngpkfcaa

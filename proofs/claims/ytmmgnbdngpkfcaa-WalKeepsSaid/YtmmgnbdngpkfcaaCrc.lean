
/-
  The check sum as a function of bits: one step, a byte, a text; and forth and back.
-/
import Derived.Test.YtmmgnbdngpkfcaaNum
namespace Go.Proofs.Ytmmgnbdngpkfcaa.Crc
set_option linter.unusedVariables false

def step (x : BitVec 32) : BitVec 32 := (x >>> 1) ^^^ (2197175160#32 &&& -(x &&& 1#32))
def steps : Nat → BitVec 32 → BitVec 32
  | 0, x => x
  | n + 1, x => step (steps n x)
def byte (x : BitVec 32) (c : BitVec 8) : BitVec 32 := steps 8 (x ^^^ c.setWidth 32)
def run (x : BitVec 32) (l : List (BitVec 8)) : BitVec 32 := l.foldl byte x
def more (s : BitVec 32) (l : List (BitVec 8)) : BitVec 32 := ~~~(run (~~~s) l)
def sum (l : List (BitVec 8)) : BitVec 32 := more 0#32 l

/-- a step back -/
def back (x : BitVec 32) : BitVec 32 := ((x ^^^ (2197175160#32 &&& -(x >>> 31))) <<< 1) ||| (x >>> 31)
def backs : Nat → BitVec 32 → BitVec 32
  | 0, x => x
  | n + 1, x => back (backs n x)
def less (s : BitVec 32) (c : BitVec 8) : BitVec 32 := ~~~(backs 8 (~~~s) ^^^ c.setWidth 32)
def lesses : Nat → BitVec 32 → BitVec 32
  | 0, x => x
  | n + 1, x => less (lesses n x) 0#8
def patch (s want : BitVec 32) : List (BitVec 8) :=
  let d := lesses 4 want ^^^ s
  [d.setWidth 8, (d >>> 8).setWidth 8, (d >>> 16).setWidth 8, (d >>> 24).setWidth 8]
/-- the reference's step: by halves -/
theorem step_even (x : BitVec 32) (h : (x &&& 1#32 == 1#32) = false) : step x = x >>> 1 := by
  have h0 : x &&& 1#32 = 0#32 := by
    have h1 : x &&& 1#32 ≠ 1#32 := by simpa using h
    apply BitVec.eq_of_toNat_eq
    have h2 : (x &&& 1#32).toNat ≠ 1 := fun e => h1 (BitVec.eq_of_toNat_eq (by simpa using e))
    have h3 : (x &&& 1#32).toNat ≤ 1 := by rw [BitVec.toNat_and]; exact Nat.and_le_right
    simp at h2 h3 ⊢; omega
  unfold step; rw [h0]; simp
theorem step_odd (x : BitVec 32) (h : (x &&& 1#32 == 1#32) = true) : step x = (x >>> 1) ^^^ 2197175160#32 := by
  have h0 : x &&& 1#32 = 1#32 := by simpa using h
  unfold step; rw [h0]; congr 1
theorem run_snoc (x : BitVec 32) (l : List (BitVec 8)) (k : Nat) (h : k < l.length) : run x (l.take (k + 1)) = byte (run x (l.take k)) l[k] := by
  unfold run
  rw [List.take_succ_eq_append_getElem h, List.foldl_append]; rfl
theorem run_append (x : BitVec 32) (l m : List (BitVec 8)) : run x (l ++ m) = run (run x l) m := by
  unfold run; exact List.foldl_append ..
end Go.Proofs.Ytmmgnbdngpkfcaa.Crc


/-
  Reading bits: the plain functions.
-/
import Derived.Test.YtmmgnbdngpkfcaaBts
namespace Go.Proofs.Ytmmgnbdngpkfcaa.Bts
set_option linter.unusedVariables false

def bitsOf (b : Bytes) : Bits := (b.map fun c => low (c.setWidth 64) 8).flatten
theorem bitsOf_nil : bitsOf [] = [] := rfl
theorem bitsOf_cons (c : BitVec 8) (b : Bytes) : bitsOf (c :: b) = low (c.setWidth 64) 8 ++ bitsOf b := by simp [bitsOf]
theorem bitsOf_app (a b : Bytes) : bitsOf (a ++ b) = bitsOf a ++ bitsOf b := by simp [bitsOf]
theorem bitsOf_len (b : Bytes) : (bitsOf b).length = 8 * b.length := by
  induction b with
  | nil => rfl
  | cons c b ih => rw [bitsOf_cons, List.length_append, low_len, ih, List.length_cons]; omega
theorem bitsOf_get (b : Bytes) (p : Nat) (h : p / 8 < b.length) : (bitsOf b)[p]? = some (b[p / 8].getLsbD (7 - p % 8)) := by
  induction b generalizing p with
  | nil => simp at h
  | cons c b ih =>
    rw [bitsOf_cons]
    by_cases hp : p < 8
    · rw [List.getElem?_append_left (by rw [low_len]; exact hp), low_get _ _ _ hp]
      have e : p / 8 = 0 := by omega
      simp only [e, List.getElem_cons_zero]
      rw [BitVec.getLsbD_setWidth, show p % 8 = p by omega]
      simp; omega
    · rw [List.getElem?_append_right (by rw [low_len]; omega), low_len, ih (p - 8) (by simp at h; omega)]
      have e : p / 8 = (p - 8) / 8 + 1 := by omega
      simp only [e, List.getElem_cons_succ]
      rw [show (p - 8) % 8 = p % 8 by omega]
def val (l : Bits) : BitVec 64 := l.foldl (fun (x : BitVec 64) (b : Bool) => x <<< 1 ||| (if b then 1#64 else 0#64)) 0#64
theorem val_snoc (l : Bits) (b : Bool) : val (l ++ [b]) = val l <<< 1 ||| (if b then 1#64 else 0#64) := by simp [val]
theorem val_take (l : Bits) (k : Nat) (h : k < l.length) : val (l.take (k + 1)) = val (l.take k) <<< 1 ||| (if l[k] then 1#64 else 0#64) := by
  rw [List.take_add_one, List.getElem?_eq_getElem h, Option.toList_some, val_snoc]

theorem val_fold (c : Bits) (x : BitVec 64) : c.foldl (fun (x : BitVec 64) (b : Bool) => x <<< 1 ||| (if b then 1#64 else 0#64)) x = x <<< c.length ||| val c := by
  induction c generalizing x with
  | nil => simp [val]
  | cons b c ih =>
    have e : val (b :: c) = (if b then 1#64 else 0#64) <<< c.length ||| val c := by
      unfold val
      rw [List.foldl_cons, ih]
      simp [val]
    rw [List.foldl_cons, ih, e, BitVec.shiftLeft_or_distrib, BitVec.or_assoc, List.length_cons, ← BitVec.shiftLeft_add, Nat.add_comm 1]
theorem val_app (a c : Bits) : val (a ++ c) = val a <<< c.length ||| val c := by
  unfold val
  rw [List.foldl_append, val_fold]
  rfl

/-- where a reader is, and why it stopped -/
structure Rd where
  at_ : Nat
  bad : Int
def left (b : Bytes) (r : Rd) : Nat := if r.bad = 0 then 8 * b.length - r.at_ else 0
def failed (r : Rd) (e : Int) : Rd := ⟨r.at_, if r.bad = 0 then e else r.bad⟩
def rest (b : Bytes) (r : Rd) : Bits := if r.bad = 0 then (bitsOf b).drop r.at_ else []
theorem rest_len (b : Bytes) (r : Rd) : (rest b r).length = left b r := by
  unfold rest left
  split
  · rw [List.length_drop, bitsOf_len]
  · rfl
/-- n bits: the number, where the reader is then -/
def getR (b : Bytes) (r : Rd) (n : Int) : BitVec 64 × Rd :=
  if left b r < clamp n then (0#64, failed r 10) else (val ((rest b r).take (clamp n)), ⟨r.at_ + clamp n, r.bad⟩)
/-- how many noughts stand ahead -/
def lead (l : Bits) : Nat := (l.takeWhile (fun b => !b)).length
theorem lead_le (l : Bits) : lead l ≤ l.length := by
  unfold lead
  induction l with
  | nil => simp
  | cons b l ih => cases b <;> simp; exact ih
theorem lead_cons (b : Bool) (l : Bits) : lead (b :: l) = if b then 0 else lead l + 1 := by
  unfold lead; cases b <;> simp
/-- noughts, then what isn't one: that many stand ahead -/
theorem lead_at {l : Bits} {z : Nat} (h0 : ∀ i, i < z → l[i]? = some false) (h1 : l[z]? ≠ some false) : lead l = z := by
  induction z generalizing l with
  | zero =>
    cases l with
    | nil => rfl
    | cons b l => rw [lead_cons]; cases b <;> simp at h1 ⊢
  | succ z ih =>
    cases l with
    | nil => have := h0 0 (by omega); simp at this
    | cons b l =>
      have hb := h0 0 (by omega)
      simp at hb; subst hb
      rw [lead_cons]
      simp only [Bool.false_eq_true, if_false]
      rw [ih (l := l) (fun i hi => by have := h0 (i + 1) (by omega); simpa using this) (by simpa using h1)]
theorem lead_ge {l : Bits} {z : Nat} (h0 : ∀ i, i < z → l[i]? = some false) : z ≤ lead l := by
  induction z generalizing l with
  | zero => omega
  | succ z ih =>
    cases l with
    | nil => have := h0 0 (by omega); simp at this
    | cons b l =>
      have hb := h0 0 (by omega)
      simp at hb; subst hb
      rw [lead_cons]
      simp only [Bool.false_eq_true, if_false]
      have := ih (l := l) (fun i hi => by have := h0 (i + 1) (by omega); simpa using this)
      omega
theorem lead_zero {l : Bits} {i : Nat} (h : i < lead l) : l[i]? = some false := by
  induction l generalizing i with
  | nil => simp [lead] at h
  | cons b l ih =>
    rw [lead_cons] at h
    cases b with
    | true => simp at h
    | false =>
      cases i with
      | zero => rfl
      | succ i => simp at h ⊢; exact ih h
theorem lead_one {l : Bits} (h : lead l < l.length) : l[lead l]? = some true := by
  induction l with
  | nil => simp at h
  | cons b l ih =>
    rw [lead_cons] at h ⊢
    cases b with
    | true => simp
    | false => simp at h ⊢; exact ih h
/-- a number -/
def numR (b : Bytes) (r : Rd) : BitVec 64 × Rd :=
  if r.bad ≠ 0 then (0#64, r)
  else if 65 ≤ lead (rest b r) then (0#64, ⟨r.at_ + 65, 11⟩)
  else if lead (rest b r) = (rest b r).length then (0#64, ⟨r.at_ + lead (rest b r), 10⟩)
  else if (rest b r).length < 2 * lead (rest b r) + 1 then (0#64, ⟨r.at_ + (lead (rest b r) + 1), 10⟩)
  else if lead (rest b r) = 64 then (if val (((rest b r).drop 65).take 64) = 0#64 then (BitVec.allOnes 64, ⟨r.at_ + 129, 0⟩) else (0#64, ⟨r.at_ + 129, 11⟩))
  else ((1#64 <<< lead (rest b r) ||| val (((rest b r).drop (lead (rest b r) + 1)).take (lead (rest b r)))) - 1#64, ⟨r.at_ + (2 * lead (rest b r) + 1), 0⟩)
/-- a number that may be below nought -/
def unzig (x : BitVec 64) : Int := if x.toNat % 2 = 1 then -((x.toNat / 2 : Nat) : Int) - 1 else ((x.toNat / 2 : Nat) : Int)
def intR (b : Bytes) (r : Rd) : Int × Rd := (unzig (numR b r).1, (numR b r).2)
/-- what stands at the end -/
def endR (b : Bytes) (r : Rd) : Int := if r.bad ≠ 0 then r.bad else if 7 < (rest b r).length ∨ (rest b r).any id = true then 12 else 0
end Go.Proofs.Ytmmgnbdngpkfcaa.Bts

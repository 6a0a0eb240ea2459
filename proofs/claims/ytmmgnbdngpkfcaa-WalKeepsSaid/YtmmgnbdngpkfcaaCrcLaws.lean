
/-
  The check sum's laws: a step has one way back, it is linear; bytes by bits.
-/
import Derived.Test.YtmmgnbdngpkfcaaCrc
namespace Go.Proofs.Ytmmgnbdngpkfcaa.Crc
set_option linter.unusedVariables false

def pol : BitVec 32 := 2197175160#32

theorem and1 (x : BitVec 32) : x &&& 1#32 = if x[0] then 1#32 else 0#32 := by
  apply BitVec.eq_of_getElem_eq
  intro i hi
  by_cases h0 : i = 0
  · subst h0; cases h : x[0] <;> simp [h]
  · cases h : x[0] <;> simp [h0]

theorem step_eq (x : BitVec 32) : step x = (x >>> 1) ^^^ (if x[0] then pol else 0#32) := by
  unfold step
  rw [and1]
  cases x[0]
  · simp
  · simp only [if_true]; congr 1

theorem shr31 (x : BitVec 32) : x >>> 31 = if x[31] then 1#32 else 0#32 := by
  apply BitVec.eq_of_getElem_eq
  intro i hi
  by_cases h0 : i = 0
  · subst h0; cases h : x[31] <;> simp [h]
  · have hg : x.getLsbD (31 + i) = false := BitVec.getLsbD_of_ge _ _ (by omega)
    cases h : x[31] <;> simp [h0, hg]

theorem back_eq (x : BitVec 32) : back x = ((x ^^^ (if x[31] then pol else 0#32)) <<< 1) ||| (if x[31] then 1#32 else 0#32) := by
  unfold back
  rw [shr31]
  cases x[31]
  · simp
  · simp only [if_true]; congr 2

theorem pol31 : pol[31] = true := by decide

theorem back_step (x : BitVec 32) : back (step x) = x := by
  have ht : (step x)[31] = x[0] := by
    rw [step_eq]
    cases h : x[0]
    · simp
    · simp [pol31]
  rw [back_eq, ht, step_eq]
  apply BitVec.eq_of_getElem_eq
  intro i hi
  by_cases h0 : i = 0
  · subst h0; cases h : x[0] <;> simp
  · have e : x.getLsbD (1 + (i - 1)) = x[i] := by rw [show 1 + (i - 1) = i by omega, BitVec.getLsbD_eq_getElem hi]
    cases h : x[0]
    · simp [h0, e]
    · simp [h0, e, BitVec.xor_assoc]

theorem step_back (x : BitVec 32) : step (back x) = x := by
  have ht : (back x)[0] = x[31] := by
    rw [back_eq]
    cases h : x[31] <;> simp
  rw [step_eq, ht, back_eq]
  apply BitVec.eq_of_getElem_eq
  intro i hi
  by_cases h0 : i = 31
  · subst h0; cases h : x[31] <;> simp [pol31]
  · have h32 : 1 + i < 32 := by omega
    cases h : x[31] <;> simp [h32]

theorem steps_back (n : Nat) : ∀ x, steps n (backs n x) = x := by
  induction n with
  | zero => intro x; rfl
  | succ n ih =>
    intro x
    have comm : ∀ m y, steps m (step y) = step (steps m y) := by
      intro m; induction m with
      | zero => intro y; rfl
      | succ m ihm => intro y; show step (steps m (step y)) = _; rw [ihm]; rfl
    show step (steps n (back (backs n x))) = x
    rw [← comm, step_back, ih]
theorem backs_step (n : Nat) : ∀ x, backs n (steps n x) = x := by
  induction n with
  | zero => intro x; rfl
  | succ n ih =>
    intro x
    have comm : ∀ m y, backs m (back y) = back (backs m y) := by
      intro m; induction m with
      | zero => intro y; rfl
      | succ m ihm => intro y; show back (backs m (back y)) = _; rw [ihm]; rfl
    show back (backs n (step (steps n x))) = x
    rw [← comm, back_step, ih]

theorem less_byte (x : BitVec 32) (c : BitVec 8) : less (~~~(byte x c)) c = ~~~x := by
  unfold less byte
  rw [BitVec.not_not, backs_step, BitVec.xor_assoc, BitVec.xor_self, BitVec.xor_zero]
theorem byte_less (s : BitVec 32) (c : BitVec 8) : byte (~~~(less s c)) c = ~~~s := by
  unfold less byte
  rw [BitVec.not_not, BitVec.xor_assoc, BitVec.xor_self, BitVec.xor_zero, steps_back]
theorem less_more (s : BitVec 32) (c : BitVec 8) : less (more s [c]) c = s := by
  show less (~~~(byte (~~~s) c)) c = s
  rw [less_byte, BitVec.not_not]
theorem more_less (s : BitVec 32) (c : BitVec 8) : more (less s c) [c] = s := by
  show ~~~(byte (~~~(less s c)) c) = s
  rw [byte_less, BitVec.not_not]
theorem sum_less (l : List (BitVec 8)) (k : Nat) (h : k < l.length) : less (sum (l.take (k + 1))) l[k] = sum (l.take k) := by
  unfold sum more
  rw [run_snoc _ _ _ h, less_byte]

/-! linear -/
theorem step_xor (x y : BitVec 32) : step (x ^^^ y) = step x ^^^ step y := by
  rw [step_eq, step_eq, step_eq]
  have h : (x ^^^ y)[0] = (x[0] != y[0]) := by simp
  have hs : (x ^^^ y) >>> 1 = (x >>> 1) ^^^ (y >>> 1) := BitVec.ushiftRight_xor_distrib ..
  rw [h, hs]
  have sw : ∀ p q r t : BitVec 32, (p ^^^ q) ^^^ (r ^^^ t) = (p ^^^ r) ^^^ (q ^^^ t) := by
    intro p q r t
    rw [BitVec.xor_assoc, BitVec.xor_assoc, ← BitVec.xor_assoc q, BitVec.xor_comm q r, BitVec.xor_assoc r]
  cases x[0] <;> cases y[0] <;> simp
  · rw [← BitVec.xor_assoc]
  · rw [BitVec.xor_assoc, BitVec.xor_comm _ pol, ← BitVec.xor_assoc]
  · rw [← sw, BitVec.xor_self, BitVec.xor_zero]
theorem steps_xor (n : Nat) (x y : BitVec 32) : steps n (x ^^^ y) = steps n x ^^^ steps n y := by
  induction n with
  | zero => rfl
  | succ n ih => show step (steps n (x ^^^ y)) = _; rw [ih, step_xor]; rfl
theorem step_zero : step 0#32 = 0#32 := by decide
theorem steps_zero (n : Nat) : steps n 0#32 = 0#32 := by
  induction n with
  | zero => rfl
  | succ n ih => show step (steps n 0#32) = _; rw [ih, step_zero]
theorem steps_inj (n : Nat) {x y : BitVec 32} (h : steps n x = steps n y) : x = y := by
  have := congrArg (backs n) h; rwa [backs_step, backs_step] at this
theorem steps_add (m n : Nat) (x : BitVec 32) : steps (m + n) x = steps n (steps m x) := by
  induction n with
  | zero => rfl
  | succ n ih => show step (steps (m + n) x) = _; rw [ih]; rfl
theorem byte_xor (x y : BitVec 32) (c d : BitVec 8) : byte (x ^^^ y) (c ^^^ d) = byte x c ^^^ byte y d := by
  unfold byte
  rw [← steps_xor]
  congr 1
  have : (c ^^^ d).setWidth 32 = c.setWidth 32 ^^^ d.setWidth 32 := BitVec.setWidth_xor ..
  rw [this, BitVec.xor_assoc, BitVec.xor_assoc, ← BitVec.xor_assoc y, BitVec.xor_comm y, BitVec.xor_assoc]
theorem run_xor : ∀ (l m : List (BitVec 8)) (x y : BitVec 32), l.length = m.length → run (x ^^^ y) (l.zipWith (· ^^^ ·) m) = run x l ^^^ run y m
  | [], [], x, y, _ => rfl
  | c :: l, d :: m, x, y, h => by
    show run (byte (x ^^^ y) (c ^^^ d)) _ = run (byte x c) l ^^^ run (byte y d) m
    rw [byte_xor]
    exact run_xor l m _ _ (by simpa using h)
  | [], _ :: _, _, _, h => by simp at h
  | _ :: _, [], _, _, h => by simp at h

theorem not_xor3 (p q r : BitVec 32) : ~~~p ^^^ ~~~q ^^^ ~~~r = ~~~(p ^^^ q ^^^ r) := by
  apply BitVec.eq_of_getLsbD_eq
  intro i hi
  simp [hi]
theorem sum_three (a b c : List (BitVec 8)) (h1 : a.length = b.length) (h2 : a.length = c.length) :
    sum ((a.zipWith (· ^^^ ·) b).zipWith (· ^^^ ·) c) = sum a ^^^ sum b ^^^ sum c := by
  unfold sum more
  rw [not_xor3, ← run_xor _ _ _ _ h1, ← run_xor _ _ _ _ (by simp; omega)]
  rfl
theorem sum_app (l o : List (BitVec 8)) : sum (l ++ o) = more (sum l) o := by
  unfold sum more
  rw [BitVec.not_not, run_append]

end Go.Proofs.Ytmmgnbdngpkfcaa.Crc

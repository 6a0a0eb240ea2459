
/-
  The check sum bit by bit: a change within 32 bits side by side changes it.
-/
import Derived.Test.YtmmgnbdngpkfcaaCrcLaws
namespace Go.Proofs.Ytmmgnbdngpkfcaa.Crc
set_option linter.unusedVariables false

def b2v (b : Bool) : BitVec 32 := if b then 1#32 else 0#32
/-- bit by bit, by a function of the place -/
def runF (f : Nat → Bool) : Nat → BitVec 32 → BitVec 32
  | 0, x => x
  | n + 1, x => step (runF f n x ^^^ b2v (f n))
def word (f : Nat → Bool) : Nat → BitVec 32
  | 0 => 0#32
  | n + 1 => word f n ^^^ (b2v (f n) <<< n)
def bitAt (l : List (BitVec 8)) (p : Nat) : Bool := (l.getD (p / 8) 0#8).getLsbD (p % 8)

theorem runF_congr {f g : Nat → Bool} {n : Nat} (h : ∀ i, i < n → f i = g i) (x : BitVec 32) : runF f n x = runF g n x := by
  induction n with
  | zero => rfl
  | succ n ih => simp only [runF]; rw [ih fun i hi => h i (by omega), h n (by omega)]
theorem runF_add (f : Nat → Bool) (m n : Nat) (x : BitVec 32) : runF f (m + n) x = runF (fun i => f (m + i)) n (runF f m x) := by
  induction n with
  | zero => rfl
  | succ n ih => show step (runF f (m + n) x ^^^ b2v (f (m + n))) = _; rw [ih]; rfl
theorem unit_steps : ∀ n, n < 32 → steps n (1#32 <<< n) = 1#32 := by decide +kernel
theorem b2v_steps (b : Bool) (n : Nat) (h : n < 32) : steps n (b2v b <<< n) = b2v b := by
  cases b
  · simp [b2v, steps_zero]
  · exact unit_steps n h
theorem feed (f : Nat → Bool) (n : Nat) (h : n ≤ 32) (x : BitVec 32) : runF f n x = steps n (x ^^^ word f n) := by
  induction n with
  | zero => simp [runF, steps, word]
  | succ n ih =>
    show step (runF f n x ^^^ b2v (f n)) = step (steps n (x ^^^ (word f n ^^^ (b2v (f n) <<< n))))
    rw [ih (by omega), ← BitVec.xor_assoc, steps_xor n (x ^^^ word f n), b2v_steps _ _ (by omega)]
theorem word_bit (f : Nat → Bool) (n : Nat) (h : n ≤ 32) (i : Nat) : (word f n).getLsbD i = (decide (i < n) && f i) := by
  induction n with
  | zero => simp [word]
  | succ n ih =>
    simp only [word, BitVec.getLsbD_xor, ih (by omega)]
    have hb : (b2v (f n) <<< n).getLsbD i = (decide (i = n) && f n) := by
      cases hf : f n
      · simp [b2v]
      · simp only [b2v, if_true, BitVec.getLsbD_shiftLeft, BitVec.getLsbD_one]
        by_cases hi : i = n
        · subst hi; simp; omega
        · by_cases h2 : i < n
          · simp [h2, hi]
          · have : i - n ≠ 0 := by omega
            simp [hi, this]
    rw [hb]
    by_cases hi : i = n
    · subst hi; simp
    · by_cases h2 : i < n
      · simp [h2, hi, show i < n + 1 by omega]
      · simp [h2, hi, show ¬ i < n + 1 by omega]
theorem word_byte (c : BitVec 8) : word c.getLsbD 8 = c.setWidth 32 := by
  apply BitVec.eq_of_getLsbD_eq
  intro i hi
  rw [word_bit _ _ (by omega), BitVec.getLsbD_setWidth]
  by_cases h : i < 8
  · simp [h, hi]
  · simp [h, BitVec.getLsbD_of_ge c i (by omega)]
theorem byte_feed (x : BitVec 32) (c : BitVec 8) : byte x c = runF c.getLsbD 8 x := by
  rw [feed _ _ (by omega), word_byte]; rfl
theorem run_feed (l : List (BitVec 8)) (x : BitVec 32) : ∀ k, k ≤ l.length → run x (l.take k) = runF (bitAt l) (8 * k) x := by
  intro k
  induction k with
  | zero => intro _; simp [run, runF]
  | succ k ih =>
    intro h
    rw [run_snoc _ _ _ (by omega), ih (by omega), byte_feed, show 8 * (k + 1) = 8 * k + 8 by omega, runF_add]
    refine runF_congr (fun i hi => ?_) _
    unfold bitAt
    rw [show (8 * k + i) / 8 = k by omega, show (8 * k + i) % 8 = i by omega]
    simp [List.getD, show k < l.length by omega]
theorem run_bits (l : List (BitVec 8)) (x : BitVec 32) : run x l = runF (bitAt l) (8 * l.length) x := by
  rw [← run_feed l x l.length (Nat.le_refl _), List.take_length]

theorem runF_zero {f : Nat → Bool} {n : Nat} (h : ∀ i, i < n → f i = false) (x : BitVec 32) : runF f n x = steps n x := by
  induction n with
  | zero => rfl
  | succ n ih => simp only [runF, steps]; rw [ih fun i hi => h i (by omega), h n (by omega)]; simp [b2v]

/-- bits in a window of at most 32 places, not all nought: no sum of nought -/
theorem window {f : Nat → Bool} {N at_ m : Nat} (hm : m ≤ 32) (hN : at_ + m ≤ N) (h1 : ∀ p, p < at_ → f p = false) (h2 : ∀ p, at_ + m ≤ p → p < N → f p = false) (h0 : runF f N 0#32 = 0#32) :
    ∀ p, p < N → f p = false := by
  have e : N = at_ + (m + (N - at_ - m)) := by omega
  rw [e, runF_add, runF_zero h1, steps_zero, runF_add, feed _ _ hm, runF_zero (fun i hi => h2 _ (by omega) (by omega))] at h0
  have h3 : word (fun i => f (at_ + i)) m = 0#32 := by
    have h4 := steps_inj (N - at_ - m) (h0.trans (steps_zero _).symm)
    have h5 := steps_inj m (h4.trans (steps_zero _).symm)
    simpa using h5
  intro p hp
  by_cases ha : p < at_
  · exact h1 p ha
  · by_cases hb : at_ + m ≤ p
    · exact h2 p hb hp
    · have := word_bit (fun i => f (at_ + i)) m hm (p - at_)
      rw [h3] at this
      simp [show p - at_ < m by omega, show at_ + (p - at_) = p by omega] at this
      exact this

theorem bits_ext {l m : List (BitVec 8)} (hl : l.length = m.length) (h : ∀ p, p < 8 * l.length → bitAt l p = bitAt m p) : l = m := by
  apply List.ext_getElem hl
  intro i hi hi'
  apply BitVec.eq_of_getLsbD_eq
  intro j hj
  have := h (8 * i + j) (by omega)
  unfold bitAt at this
  rw [show (8 * i + j) / 8 = i by omega, show (8 * i + j) % 8 = j by omega] at this
  simpa [List.getD, hi, hi'] using this

theorem xor_bits {l m : List (BitVec 8)} (hl : l.length = m.length) (p : Nat) : bitAt (l.zipWith (· ^^^ ·) m) p = (bitAt l p ^^ bitAt m p) := by
  unfold bitAt
  by_cases h : p / 8 < l.length
  · have h2 : p / 8 < m.length := by omega
    simp [List.getD, List.getElem?_zipWith, h, h2]
  · have h2 : ¬ p / 8 < m.length := by omega
    simp [List.getD, List.getElem?_zipWith, h, h2]

/-- texts of one length that differ within a window of 32 bits are alike when their sums are -/
theorem sum_window {l m : List (BitVec 8)} (hl : l.length = m.length) {at_ k : Nat} (hk : k ≤ 32) (hN : at_ + k ≤ 8 * l.length)
    (h1 : ∀ p, p < at_ → bitAt l p = bitAt m p) (h2 : ∀ p, at_ + k ≤ p → p < 8 * l.length → bitAt l p = bitAt m p) : (l == m) = (sum l == sum m) := by
  rw [Bool.eq_iff_iff, beq_iff_eq, beq_iff_eq]
  refine ⟨fun h => by rw [h], fun h => ?_⟩
  have hr : run (BitVec.allOnes 32) l = run (BitVec.allOnes 32) m := by
    have := congrArg (fun x => ~~~x) h
    simpa [sum, more] using this
  have hz : run 0#32 (l.zipWith (· ^^^ ·) m) = 0#32 := by
    have := run_xor l m (BitVec.allOnes 32) (BitVec.allOnes 32) hl
    rw [hr, BitVec.xor_self, BitVec.xor_self] at this
    exact this
  rw [run_bits] at hz
  have hlen : (l.zipWith (· ^^^ ·) m).length = l.length := by simp; omega
  rw [hlen] at hz
  have hw := window hk hN (fun p hp => by rw [xor_bits hl, h1 p hp, Bool.xor_self]) (fun p hp hp2 => by rw [xor_bits hl, h2 p hp hp2, Bool.xor_self]) hz
  exact bits_ext hl fun p hp => by
    have := hw p hp
    rw [xor_bits hl] at this
    simpa using this

/-- a bit turned -/
def flip (l : List (BitVec 8)) (p : Nat) : List (BitVec 8) := l.set (p / 8) (l.getD (p / 8) 0#8 ^^^ (1#8 <<< (p % 8)))
theorem flip_len (l : List (BitVec 8)) (p : Nat) : (flip l p).length = l.length := by simp [flip]
theorem flip_bit (l : List (BitVec 8)) (p q : Nat) (hp : p < 8 * l.length) : bitAt (flip l p) q = (bitAt l q ^^ decide (q = p)) := by
  unfold bitAt flip
  by_cases h : q / 8 = p / 8
  · have hlt : p / 8 < l.length := by omega
    rw [h]
    simp only [List.getD, List.getElem?_set, hlt, if_true, Option.getD_some]
    rw [BitVec.getLsbD_xor, BitVec.getLsbD_shiftLeft]
    congr 1
    have h8 : q % 8 < 8 := Nat.mod_lt _ (by decide)
    by_cases hq : q = p
    · subst hq; simp [h8]
    · by_cases h2 : q % 8 < p % 8
      · simp [h2, hq]
      · have : q % 8 - p % 8 ≠ 0 := by omega
        simp [h2, hq, BitVec.getLsbD_one, this]
  · have hq : q ≠ p := fun e => h (by rw [e])
    simp only [List.getD, List.getElem?_set, if_neg (Ne.symm h)]
    simp [hq]

/-- the law's burst, after so many bits -/
def burst (l : List (BitVec 8)) (at_ : Nat) (w : BitVec 32) : Nat → List (BitVec 8)
  | 0 => l
  | i + 1 => if w.getLsbD i && decide (at_ + i < 8 * l.length) then flip (burst l at_ w i) (at_ + i) else burst l at_ w i
theorem burst_len (l : List (BitVec 8)) (at_ : Nat) (w : BitVec 32) (i : Nat) : (burst l at_ w i).length = l.length := by
  induction i with
  | zero => rfl
  | succ i ih => simp only [burst]; split <;> simp [flip_len, ih]
theorem burst_bit (l : List (BitVec 8)) (at_ : Nat) (w : BitVec 32) (i q : Nat) (h : q < at_ ∨ at_ + i ≤ q) : bitAt (burst l at_ w i) q = bitAt l q := by
  induction i with
  | zero => rfl
  | succ i ih =>
    simp only [burst]
    split
    · rename_i hc
      simp at hc
      rw [flip_bit _ _ _ (by rw [burst_len]; exact hc.2), ih (by omega)]
      simp [show q ≠ at_ + i by omega]
    · exact ih (by omega)
theorem burst_sum (l : List (BitVec 8)) (at_ : Nat) (w : BitVec 32) (h : at_ ≤ 8 * l.length) : (l == burst l at_ w 32) = (sum l == sum (burst l at_ w 32)) := by
  by_cases hN : at_ + 32 ≤ 8 * l.length
  · exact sum_window (burst_len l at_ w 32).symm (k := 32) (Nat.le_refl _) hN (fun p hp => (burst_bit l at_ w 32 p (.inl hp)).symm) (fun p hp _ => (burst_bit l at_ w 32 p (.inr hp)).symm)
  · exact sum_window (burst_len l at_ w 32).symm (at_ := at_) (k := 8 * l.length - at_) (by omega) (by omega) (fun p hp => (burst_bit l at_ w 32 p (.inl hp)).symm) (fun p hp hp2 => by omega)
end Go.Proofs.Ytmmgnbdngpkfcaa.Crc

/-
  The check sum's four bytes: the one way to any sum.
-/
import Derived.Test.YtcmkkilhipnbcaaCrcBurst
namespace Go.Proofs.Ytcmkkilhipnbcaa.Crc
set_option linter.unusedVariables false

theorem backs_add (m n : Nat) (x : BitVec 32) : backs (m + n) x = backs n (backs m x) := by
  induction n with
  | zero => rfl
  | succ n ih => show back (backs (m + n) x) = _; rw [ih]; rfl
theorem less0 (x : BitVec 32) : less x 0#8 = ~~~(backs 8 (~~~x)) := by unfold less; simp
theorem lesses_eq (n : Nat) (x : BitVec 32) : lesses n x = ~~~(backs (8 * n) (~~~x)) := by
  induction n with
  | zero => simp [lesses, backs]
  | succ n ih => rw [lesses, less0, ih, BitVec.not_not, show 8 * (n + 1) = 8 * n + 8 by omega, backs_add]

def four (d : BitVec 32) : List (BitVec 8) := [d.setWidth 8, (d >>> 8).setWidth 8, (d >>> 16).setWidth 8, (d >>> 24).setWidth 8]
theorem four_bit (d : BitVec 32) (p : Nat) (h : p < 32) : bitAt (four d) p = d.getLsbD p := by
  unfold bitAt four
  have h8 : p % 8 < 8 := Nat.mod_lt _ (by decide)
  have : p / 8 = 0 ∨ p / 8 = 1 ∨ p / 8 = 2 ∨ p / 8 = 3 := by omega
  rcases this with e | e | e | e
  · rw [e]
    show (d.setWidth 8).getLsbD _ = _
    simp [h8]
    congr 1; omega
  · rw [e]
    show ((d >>> 8).setWidth 8).getLsbD _ = _
    simp [h8]
    congr 1; omega
  · rw [e]
    show ((d >>> 16).setWidth 8).getLsbD _ = _
    simp [h8]
    congr 1; omega
  · rw [e]
    show ((d >>> 24).setWidth 8).getLsbD _ = _
    simp [h8]
    congr 1; omega
theorem word_four (d : BitVec 32) : word (bitAt (four d)) 32 = d := by
  apply BitVec.eq_of_getLsbD_eq
  intro i hi
  rw [word_bit _ _ (by omega), four_bit d i hi]; simp [hi]

theorem run_four (x : BitVec 32) (o : List (BitVec 8)) (h : o.length = 4) : run x o = steps 32 (x ^^^ word (bitAt o) 32) := by
  rw [run_bits, h, feed _ _ (by omega)]

theorem sum_app (l o : List (BitVec 8)) : sum (l ++ o) = more (sum l) o := by
  unfold sum more
  rw [BitVec.not_not, run_append]

theorem patch_eq (s want : BitVec 32) : patch s want = four (~~~(backs 32 (~~~want)) ^^^ s) := by
  unfold patch
  rw [lesses_eq]; rfl

theorem patch_key (s y : BitVec 32) : ~~~s ^^^ (~~~y ^^^ s) = y := by
  apply BitVec.eq_of_getLsbD_eq
  intro i hi
  simp only [BitVec.getLsbD_xor, BitVec.getLsbD_not]
  cases s.getLsbD i <;> cases y.getLsbD i <;> simp [hi]

theorem patch_sum (s want : BitVec 32) : more s (patch s want) = want := by
  unfold more
  rw [run_four _ _ (by simp [patch]), patch_eq, word_four, patch_key, steps_back, BitVec.not_not]

theorem patch_only (s want : BitVec 32) (o : List (BitVec 8)) (h : o.length = 4) : (more s o == want) = (o == patch s want) := by
  rw [Bool.eq_iff_iff, beq_iff_eq, beq_iff_eq]
  refine ⟨fun e => ?_, fun e => by rw [e, patch_sum]⟩
  have h2 := patch_sum s want
  rw [← e] at h2
  have h3 : run (~~~s) (patch s want) = run (~~~s) o := by
    have := congrArg (fun x => ~~~x) h2
    rw [e] at this
    simp only [more, BitVec.not_not] at this
    rw [this]
    have e2 := congrArg (fun x => ~~~x) e
    simp only [more, BitVec.not_not] at e2
    exact e2.symm
  rw [run_four _ _ (by simp [patch]), run_four _ _ h] at h3
  have h4 := steps_inj 32 h3
  have h5 : word (bitAt (patch s want)) 32 = word (bitAt o) 32 := by
    have := congrArg (fun x => ~~~s ^^^ x) h4
    simpa [← BitVec.xor_assoc] using this
  refine bits_ext (by simp [h, patch]) fun p hp => ?_
  have hp' : p < 32 := by omega
  have := congrArg (fun x => x.getLsbD p) h5
  simp only [word_bit _ 32 (Nat.le_refl _), decide_eq_true hp', Bool.true_and] at this
  exact this.symm
end Go.Proofs.Ytcmkkilhipnbcaa.Crc

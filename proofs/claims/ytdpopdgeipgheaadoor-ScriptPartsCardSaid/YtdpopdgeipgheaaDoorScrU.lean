
/-
  Scripts that are small: their bits; steps that come in; what stands ahead of a place in a slice of steps.
-/
import Derived.Test.YtdpopdgeipgheaaDoorScrEq
namespace Go.Proofs.YtdpopdgeipgheaaDoor
open Go.RowKit
set_option linter.unusedVariables false

theorem stp_ok {ok : Nat → Prop} {w : World} {a : Option Addr} {L : List Sc.Step} (h : Sl EStp ok w a L) : ∀ s ∈ L, Sc.stepOk s := by
  intro s hs
  obtain ⟨j, hj, rfl⟩ := List.getElem_of_mem hs
  obtain ⟨b, o, aK, cK, _, _, _, _, _, _, i0, i1, i2, hcK, hmK, hsK⟩ := sl_stp h j hj
  refine ⟨i0, i1, i2, by unfold maxLen at hmK; omega, fun k hk => ?_⟩
  obtain ⟨q, hq, rfl⟩ := List.getElem_of_mem hk
  obtain ⟨_, _, _, _, _, r⟩ := sl_i hsK q hq
  exact r
namespace Sc
theorem small_bits {c : Conf} {L : List Step} (hc : c.1.length = 15) (hl : L.length ≤ 200) (hk : ∀ s ∈ L, s.2.2.2.length ≤ 50) : (allBits (c, L)).length ≤ 1400000 := by
  have h1 := numsBits_len c.1
  have h2 := num_le (BitVec.ofInt 64 L.length)
  have h3 := stepsBits_len L 50 hk
  have h4 : L.length * (516 + 50 * 129) ≤ 200 * (516 + 50 * 129) := Nat.mul_le_mul_right _ hl
  simp only [allBits, confBits, List.length_append, Bts.low_len]
  rw [hc] at h1
  omega
theorem enc_zero {c : Conf} {L : List Step} (hc : check c = 0) (hl : L.length ≤ 200) : encErr (c, L) = 0 := by
  unfold encErr; rw [if_pos hc, if_neg (by show ¬ 20000 < L.length; omega)]
theorem all_ok {c : Conf} {L : List Step} (h15 : c.1.length = 15) (hc : check c = 0) (hl : L.length ≤ 200) (hs : ∀ s ∈ L, stepOk s) : allOk (c, L) :=
  ⟨⟨h15, hc⟩, by show L.length ≤ 20000; omega, hs⟩
end Sc
/-- what stands ahead of i in a slice of steps -/
theorem cutT {ok : Nat → Prop} {w : World} {a : Option Addr} {c : Nat} {L : List Sc.Step} (h : Sl EStp ok w a L) (i : Nat) (hi : i ≤ L.length) (hc : L.length ≤ c) :
    ∃ a', (∀ W : World, (Instr.slice 27 (.slice a L.length c) none (some (.int .i64 (i : Int))) none).run Tryd.prog W = .ok (.slice a' i c) W) ∧ Sl EStp ok w a' (L.take i) := by
  refine ⟨if c = 0 then a else a.map (·.add (0 * 4)), ?_, ?_⟩
  · obtain ⟨i0, z, hi0, hz, hsz, hby, hzc⟩ := (ti_stps).info
    intro W
    have e3 : (i : Int) ≤ (c : Int) := by omega
    have e4 : i0.size = 4 := hsz
    simp [Instr.slice, run_underlying (ti_stps).under, Instr.sliceBounds, run_sliceBound, sizeOf, typeInfo, hi0, e3]
  · have := h.cut (c := c) (i := 0) (j := i) (Nat.zero_le _) hi hc (decide (c = 0)) (by simp; omega)
    simp only [decide_eq_true_eq, List.drop_zero, Nat.sub_zero] at this
    exact this
end Go.Proofs.YtdpopdgeipgheaaDoor

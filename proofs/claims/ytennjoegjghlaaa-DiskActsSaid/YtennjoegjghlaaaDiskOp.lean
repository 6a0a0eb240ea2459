
/-
  A script's steps for a disk: how they come in.
-/
import Derived.Test.YtennjoegjghlaaaDiskSureWalk
import Derived.Test.YtennjoegjghlaaaOpen
namespace Go.Proofs.Ytennjoegjghlaaa
open Go.RowKit
set_option linter.unusedVariables false

/-- a step: what, which tape, a number, bytes, numbers -/
abbrev DStep : Type := Int × Int × Int × List (BitVec 8) × List Int
def EStep : Enc DStep := EPair EInt (EPair EInt (EPair EInt (EPair EBytes EInts)))

theorem step_rep {ok : Nat → Prop} {w : World} {cs : List Value} {x : DStep} (h : EStep.rep ok w cs x) :
    ∃ aB cB aK cK, cs = [.int .i64 x.1, .int .i64 x.2.1, .int .i64 x.2.2.1, .slice aB x.2.2.2.1.length cB, .slice aK x.2.2.2.2.length cK] ∧ (-9223372036854775808 ≤ x.1 ∧ x.1 ≤ 9223372036854775807) ∧ (-9223372036854775808 ≤ x.2.1 ∧ x.2.1 ≤ 9223372036854775807) ∧ (-9223372036854775808 ≤ x.2.2.1 ∧ x.2.2.1 ≤ 9223372036854775807) ∧
      x.2.2.2.1.length ≤ cB ∧ cB ≤ maxLen ∧ Sl EU8 ok w aB x.2.2.2.1 ∧ x.2.2.2.2.length ≤ cK ∧ cK ≤ maxLen ∧ Sl EInt ok w aK x.2.2.2.2 := by
  obtain ⟨c1, r1, rfl, h1, c2, r2, rfl, h2, c3, r3, rfl, h3, c4, c5, rfl, h4, h5⟩ := h
  obtain rfl : c1 = [.int .i64 x.1] := h1.1
  obtain rfl : c2 = [.int .i64 x.2.1] := h2.1
  obtain rfl : c3 = [.int .i64 x.2.2.1] := h3.1
  obtain ⟨aB, cB, rfl, b1, b2, b3⟩ := h4
  obtain ⟨aK, cK, rfl, k1, k2, k3⟩ := h5
  exact ⟨aB, cB, aK, cK, rfl, h1.2, h2.2, h3.2, b1, b2, b3, k1, k2, k3⟩
theorem reads_dbytes : Reads Try.prog 25 EBytes (bulkL (fun _ => 1)) := reads_slice (by decide) Try.underlying25 (by kernel_rfl) (reads_u8 Try.underlying5)
theorem reads_dints : Reads Try.prog 37 EInts (bulkL (fun _ => 1)) := reads_slice (by decide) Try.underlying37 (by kernel_rfl) (reads_int Try.underlying3)
theorem reads_step : Reads Try.prog 45 EStep (fun _ => 1) := by
  have h : Reads Try.prog 45 EStep (fun x => 1 + (1 + (1 + (bulkL (fun _ => 1) x.2.2.2.1 + bulkL (fun _ => 1) x.2.2.2.2)))) := by
    refine reads_struct (E := EStep) (m := fun x => 1 + (1 + (1 + (bulkL (fun _ => 1) x.2.2.2.1 + bulkL (fun _ => 1) x.2.2.2.2)))) Try.underlying45 (by kernel_rfl) ?_
    refine fields_cons (off := 0) (A := EInt) (B := EPair EInt (EPair EInt (EPair EBytes EInts))) (m := fun _ => 1) (n := fun x => 1 + (1 + (bulkL (fun _ => 1) x.2.2.1 + bulkL (fun _ => 1) x.2.2.2))) (by rfl) (by kernel_rfl) (reads_int Try.underlying3) ?_
    refine fields_cons (off := 1) (A := EInt) (B := EPair EInt (EPair EBytes EInts)) (m := fun _ => 1) (n := fun x => 1 + (bulkL (fun _ => 1) x.2.1 + bulkL (fun _ => 1) x.2.2)) (by rfl) (by kernel_rfl) (reads_int Try.underlying3) ?_
    refine fields_cons (off := 2) (A := EInt) (B := EPair EBytes EInts) (m := fun _ => 1) (n := fun x => bulkL (fun _ => 1) x.1 + bulkL (fun _ => 1) x.2) (by rfl) (by kernel_rfl) (reads_int Try.underlying3) ?_
    refine fields_cons (off := 3) (A := EBytes) (B := EInts) (m := bulkL (fun _ => 1)) (n := bulkL (fun _ => 1)) (by rfl) (by kernel_rfl) reads_dbytes ?_
    exact fields_one (off := 4) (by rfl) (by kernel_rfl) reads_dints
  intro H enc w fuel cs d ps hd
  obtain ⟨x, hx, hm⟩ := h hd
  exact ⟨x, hx, by simp only at hm ⊢; omega⟩
theorem reads_steps : Reads Try.prog 43 (ESlice EStep (by decide)) (bulkL (fun _ => 1)) := reads_slice (by decide) Try.underlying43 (by kernel_rfl) reads_step
theorem sl_step {ok : Nat → Prop} {w : World} {a : Option Addr} {ts : List DStep} (h : Sl EStep ok w a ts) (k : Nat) (hk : k < ts.length) :
    ∃ b o aB cB aK cK, a = some ⟨b, o, none⟩ ∧ w.cell? ⟨b, o + k * 5, none⟩ = some (.int .i64 ts[k].1) ∧ w.cell? ⟨b, o + k * 5 + 1, none⟩ = some (.int .i64 ts[k].2.1) ∧ w.cell? ⟨b, o + k * 5 + 2, none⟩ = some (.int .i64 ts[k].2.2.1) ∧ w.cell? ⟨b, o + k * 5 + 3, none⟩ = some (.slice aB ts[k].2.2.2.1.length cB) ∧ w.cell? ⟨b, o + k * 5 + 4, none⟩ = some (.slice aK ts[k].2.2.2.2.length cK) ∧
      (-9223372036854775808 ≤ ts[k].1 ∧ ts[k].1 ≤ 9223372036854775807) ∧ (-9223372036854775808 ≤ ts[k].2.1 ∧ ts[k].2.1 ≤ 9223372036854775807) ∧ (-9223372036854775808 ≤ ts[k].2.2.1 ∧ ts[k].2.2.1 ≤ 9223372036854775807) ∧
      ts[k].2.2.2.1.length ≤ cB ∧ cB ≤ maxLen ∧ Sl EU8 ok w aB ts[k].2.2.2.1 ∧ ts[k].2.2.2.2.length ≤ cK ∧ cK ≤ maxLen ∧ Sl EInt ok w aK ts[k].2.2.2.2 := by
  obtain ⟨b, o, rfl, _, cs, hr, hc⟩ := h k ts[k] (List.getElem?_eq_getElem hk)
  obtain ⟨aB, cB, aK, cK, rfl, h2, h3, h4, h5⟩ := step_rep hr
  have hz : EStep.sz = 5 := rfl
  rw [hz] at hc
  refine ⟨b, o, aB, cB, aK, cK, rfl, by simpa using hc 0 _ rfl, ?_, ?_, ?_, ?_, h2, h3, h4, h5⟩
  · have := hc 1 _ rfl; rw [Nat.add_assoc]; exact this
  · have := hc 2 _ rfl; rw [Nat.add_assoc]; exact this
  · have := hc 3 _ rfl; rw [Nat.add_assoc]; exact this
  · have := hc 4 _ rfl; rw [Nat.add_assoc]; exact this
end Go.Proofs.Ytennjoegjghlaaa

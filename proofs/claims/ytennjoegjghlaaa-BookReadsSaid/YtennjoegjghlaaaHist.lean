
/-
  Events and operations: how they come in, how the document's code compares and copies them.
-/
import Derived.Test.YtennjoegjghlaaaBook
import Derived.Test.YtennjoegjghlaaaRef01
namespace Go.Proofs.Ytennjoegjghlaaa
open Go.RowKit
set_option linter.unusedVariables false

def EOp : Enc Bk.Op := EPair EInt (EPair EInt EInt)
def EOps : Enc (List Bk.Op) := ESlice EOp (by decide)
def EEv : Enc Bk.Ev := EPair EInt (EPair EInt EOps)

theorem op_rep {ok : Nat → Prop} {w : World} {cs : List Value} {x : Bk.Op} (h : EOp.rep ok w cs x) :
    cs = [.int .i64 x.1, .int .i64 x.2.1, .int .i64 x.2.2] ∧ (-9223372036854775808 ≤ x.1 ∧ x.1 ≤ 9223372036854775807) ∧ (-9223372036854775808 ≤ x.2.1 ∧ x.2.1 ≤ 9223372036854775807) ∧ (-9223372036854775808 ≤ x.2.2 ∧ x.2.2 ≤ 9223372036854775807) := by
  obtain ⟨c1, r1, rfl, h1, c2, c3, rfl, h2, h3⟩ := h
  obtain rfl : c1 = [.int .i64 x.1] := h1.1
  obtain rfl : c2 = [.int .i64 x.2.1] := h2.1
  obtain rfl : c3 = [.int .i64 x.2.2] := h3.1
  exact ⟨rfl, h1.2, h2.2, h3.2⟩
theorem ev_rep {ok : Nat → Prop} {w : World} {cs : List Value} {x : Bk.Ev} (h : EEv.rep ok w cs x) :
    ∃ a c, cs = [.int .i64 x.1, .int .i64 x.2.1, .slice a x.2.2.length c] ∧ (-9223372036854775808 ≤ x.1 ∧ x.1 ≤ 9223372036854775807) ∧ (-9223372036854775808 ≤ x.2.1 ∧ x.2.1 ≤ 9223372036854775807) ∧ x.2.2.length ≤ c ∧ c ≤ maxLen ∧ Sl EOp ok w a x.2.2 := by
  obtain ⟨c1, r1, rfl, h1, c2, c3, rfl, h2, h3⟩ := h
  obtain rfl : c1 = [.int .i64 x.1] := h1.1
  obtain rfl : c2 = [.int .i64 x.2.1] := h2.1
  obtain ⟨a, c, rfl, h4, h5, h6⟩ := h3
  exact ⟨a, c, rfl, h1.2, h2.2, h4, h5, h6⟩

theorem reads_op : Reads Try.prog 79 EOp (fun _ => 1) := by
  have h : Reads Try.prog 79 EOp (fun _ => 1 + (1 + 1)) := by
    refine reads_struct (E := EOp) (m := fun _ => 1 + (1 + 1)) Try.underlying79 (by kernel_rfl) ?_
    refine fields_cons (off := 0) (A := EInt) (B := EPair EInt EInt) (m := fun _ => 1) (n := fun _ => 1 + 1) (by rfl) (by kernel_rfl) (reads_int Try.underlying3) ?_
    refine fields_cons (off := 1) (A := EInt) (B := EInt) (m := fun _ => 1) (n := fun _ => 1) (by rfl) (by kernel_rfl) (reads_int Try.underlying3) ?_
    exact fields_one (off := 2) (by rfl) (by kernel_rfl) (reads_int Try.underlying3)
  intro H enc w fuel cs d ps hd
  obtain ⟨x, hx, hm⟩ := h hd
  exact ⟨x, hx, by simp only at hm ⊢; omega⟩
theorem reads_ops : Reads Try.prog 67 EOps (bulkL (fun _ => 1)) := reads_slice (by decide) Try.underlying67 (by kernel_rfl) reads_op
theorem reads_ev : Reads Try.prog 69 EEv (fun _ => 1) := by
  have h : Reads Try.prog 69 EEv (fun x => 1 + (1 + bulkL (fun _ => 1) x.2.2)) := by
    refine reads_struct (E := EEv) (m := fun x => 1 + (1 + bulkL (fun _ => 1) x.2.2)) Try.underlying69 (by kernel_rfl) ?_
    refine fields_cons (off := 0) (A := EInt) (B := EPair EInt EOps) (m := fun _ => 1) (n := fun x => 1 + bulkL (fun _ => 1) x.2) (by rfl) (by kernel_rfl) (reads_int Try.underlying3) ?_
    refine fields_cons (off := 1) (A := EInt) (B := EOps) (m := fun _ => 1) (n := bulkL (fun _ => 1)) (by rfl) (by kernel_rfl) (reads_int Try.underlying3) ?_
    exact fields_one (off := 2) (by rfl) (by kernel_rfl) reads_ops
  intro H enc w fuel cs d ps hd
  obtain ⟨x, hx, hm⟩ := h hd
  exact ⟨x, hx, by simp only at hm ⊢; omega⟩
theorem reads_evs : Reads Try.prog 22 (ESlice EEv (by decide)) (bulkL (fun _ => 1)) := reads_slice (by decide) Try.underlying22 (by kernel_rfl) reads_ev

theorem sl_op {ok : Nat → Prop} {w : World} {a : Option Addr} {ts : List Bk.Op} (h : Sl EOp ok w a ts) (k : Nat) (hk : k < ts.length) :
    ∃ b o, a = some ⟨b, o, none⟩ ∧ w.cell? ⟨b, o + k * 3, none⟩ = some (.int .i64 ts[k].1) ∧ w.cell? ⟨b, o + k * 3 + 1, none⟩ = some (.int .i64 ts[k].2.1) ∧ w.cell? ⟨b, o + k * 3 + 2, none⟩ = some (.int .i64 ts[k].2.2) ∧
      (-9223372036854775808 ≤ ts[k].1 ∧ ts[k].1 ≤ 9223372036854775807) ∧ (-9223372036854775808 ≤ ts[k].2.1 ∧ ts[k].2.1 ≤ 9223372036854775807) ∧ (-9223372036854775808 ≤ ts[k].2.2 ∧ ts[k].2.2 ≤ 9223372036854775807) := by
  obtain ⟨b, o, rfl, _, cs, hr, hc⟩ := h k ts[k] (List.getElem?_eq_getElem hk)
  obtain ⟨rfl, h2, h3, h4⟩ := op_rep hr
  have hz : EOp.sz = 3 := rfl
  rw [hz] at hc
  refine ⟨b, o, rfl, by simpa using hc 0 _ rfl, ?_, ?_, h2, h3, h4⟩
  · have := hc 1 _ rfl; rw [Nat.add_assoc]; exact this
  · have := hc 2 _ rfl; rw [Nat.add_assoc]; exact this
theorem sl_ev {ok : Nat → Prop} {w : World} {a : Option Addr} {ts : List Bk.Ev} (h : Sl EEv ok w a ts) (k : Nat) (hk : k < ts.length) :
    ∃ b o a' c', a = some ⟨b, o, none⟩ ∧ w.cell? ⟨b, o + k * 3, none⟩ = some (.int .i64 ts[k].1) ∧ w.cell? ⟨b, o + k * 3 + 1, none⟩ = some (.int .i64 ts[k].2.1) ∧ w.cell? ⟨b, o + k * 3 + 2, none⟩ = some (.slice a' ts[k].2.2.length c') ∧
      ts[k].2.2.length ≤ c' ∧ c' ≤ maxLen ∧ Sl EOp ok w a' ts[k].2.2 ∧ (-9223372036854775808 ≤ ts[k].1 ∧ ts[k].1 ≤ 9223372036854775807) ∧ (-9223372036854775808 ≤ ts[k].2.1 ∧ ts[k].2.1 ≤ 9223372036854775807) := by
  obtain ⟨b, o, rfl, _, cs, hr, hc⟩ := h k ts[k] (List.getElem?_eq_getElem hk)
  obtain ⟨a', c', rfl, h2, h3, h4, h5, h6⟩ := ev_rep hr
  have hz : EEv.sz = 3 := rfl
  rw [hz] at hc
  refine ⟨b, o, a', c', rfl, by simpa using hc 0 _ rfl, ?_, ?_, h4, h5, h6, h2, h3⟩
  · have := hc 1 _ rfl; rw [Nat.add_assoc]; exact this
  · have := hc 2 _ rfl; rw [Nat.add_assoc]; exact this
end Go.Proofs.Ytennjoegjghlaaa

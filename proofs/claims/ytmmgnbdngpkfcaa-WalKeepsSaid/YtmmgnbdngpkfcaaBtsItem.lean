
/-
  The things that the statements write, as they come in.
-/
import Derived.Test.YtmmgnbdngpkfcaaBtsLaws
import Derived.Test.YtmmgnbdngpkfcaaRef01
namespace Go.Proofs.Ytmmgnbdngpkfcaa
open Go.RowKit
set_option linter.unusedVariables false

/-- a thing that is written: what kind, a number, how many bits, a number that may be below nought -/
abbrev BItem : Type := Int × BitVec 64 × Int × Int
def EItem : Enc BItem := EPair EInt (EPair EU64 (EPair EInt EInt))
theorem item_rep {ok : Nat → Prop} {w : World} {cs : List Value} {x : BItem} (h : EItem.rep ok w cs x) :
    cs = [.int .i64 x.1, .int .u64 (bv x.2.1), .int .i64 x.2.2.1, .int .i64 x.2.2.2] ∧ (-9223372036854775808 ≤ x.2.2.1 ∧ x.2.2.1 ≤ 9223372036854775807) ∧ (-9223372036854775808 ≤ x.2.2.2 ∧ x.2.2.2 ≤ 9223372036854775807) := by
  obtain ⟨c1, r1, rfl, h1, c2, r2, rfl, h2, c3, c4, rfl, h3, h4⟩ := h
  obtain rfl : c1 = [.int .i64 x.1] := h1.1
  obtain rfl : c2 = [.int .u64 (bv x.2.1)] := h2
  obtain rfl : c3 = [.int .i64 x.2.2.1] := h3.1
  obtain rfl : c4 = [.int .i64 x.2.2.2] := h4.1
  exact ⟨rfl, h3.2, h4.2⟩
/-- a thing of a slice of things -/
theorem sl_item {ok : Nat → Prop} {w : World} {a : Option Addr} {ts : List BItem} (h : Sl EItem ok w a ts) (k : Nat) (hk : k < ts.length) :
    ∃ b o, a = some ⟨b, o, none⟩ ∧ w.cell? ⟨b, o + k * 4, none⟩ = some (.int .i64 ts[k].1) ∧ w.cell? ⟨b, o + k * 4 + 1, none⟩ = some (.int .u64 (bv ts[k].2.1)) ∧ w.cell? ⟨b, o + k * 4 + 2, none⟩ = some (.int .i64 ts[k].2.2.1) ∧ w.cell? ⟨b, o + k * 4 + 3, none⟩ = some (.int .i64 ts[k].2.2.2) ∧
      (-9223372036854775808 ≤ ts[k].2.2.1 ∧ ts[k].2.2.1 ≤ 9223372036854775807) ∧ (-9223372036854775808 ≤ ts[k].2.2.2 ∧ ts[k].2.2.2 ≤ 9223372036854775807) := by
  obtain ⟨b, o, rfl, _, cs, hr, hc⟩ := h k ts[k] (List.getElem?_eq_getElem hk)
  obtain ⟨rfl, h3, h4⟩ := item_rep hr
  have hz : EItem.sz = 4 := rfl
  rw [hz] at hc
  refine ⟨b, o, rfl, by simpa using hc 0 _ rfl, ?_, ?_, ?_, h3, h4⟩
  · have := hc 1 _ rfl; rw [Nat.add_assoc]; exact this
  · have := hc 2 _ rfl; rw [Nat.add_assoc]; exact this
  · have := hc 3 _ rfl; rw [Nat.add_assoc]; exact this

namespace Bts
def itemBits (t : BItem) : Bits := if t.1 = 0 then put t.2.1 t.2.2.1 else if t.1 = 1 then num t.2.1 else int t.2.2.2
def itemsBits (ts : List BItem) : Bits := (ts.map itemBits).flatten
theorem itemsBits_snoc (ts : List BItem) (k : Nat) (h : k < ts.length) : itemsBits (ts.take (k + 1)) = itemsBits (ts.take k) ++ itemBits ts[k] := by
  unfold itemsBits
  rw [List.take_add_one, List.getElem?_eq_getElem h, List.map_append, List.flatten_append]
  simp
theorem itemsBits_split (ts : List BItem) (k : Nat) (h : k < ts.length) : itemsBits ts = itemsBits (ts.take k) ++ (itemBits ts[k] ++ itemsBits (ts.drop (k + 1))) := by
  conv => lhs; rw [← List.take_append_drop k ts, List.drop_eq_getElem_cons h]
  unfold itemsBits
  rw [List.map_append, List.flatten_append, List.map_cons, List.flatten_cons]
theorem itemBits_len (t : BItem) : (itemBits t).length ≤ 129 := by
  unfold itemBits
  split
  · unfold put; rw [low_len]; have := clamp_le t.2.2.1; omega
  · split
    · obtain ⟨z, h, _⟩ := num_len t.2.1; omega
    · unfold int; obtain ⟨z, h, _⟩ := num_len (zig t.2.2.2); omega
theorem itemsBits_len (ts : List BItem) : (itemsBits ts).length ≤ ts.length * 129 := by
  induction ts with
  | nil => simp [itemsBits]
  | cons t ts ih =>
    have := itemBits_len t
    simp only [itemsBits, List.map_cons, List.flatten_cons, List.length_append, List.length_cons] at ih ⊢
    rw [Nat.add_mul]; omega
end Bts
end Go.Proofs.Ytmmgnbdngpkfcaa


/-
  What comes into the law CoordPosts: messages, an answer; the law's posts.
-/
import Derived.Test.YtmmgnbdngpkfcaaPoN
import Derived.Test.YtmmgnbdngpkfcaaRef01
namespace Go.Proofs.Ytmmgnbdngpkfcaa
open Go.RowKit
set_option linter.unusedVariables false

/-- a message that comes in: its numbers; its lists as they lie -/
def EMs : Enc Ms where
  sz := 12
  rep _ _ cs m := cs = m.row.toList ∧ (∃ a n c, m.lv = .slice a n c) ∧ (∃ a n c, m.dv = .slice a n c) ∧ (-9223372036854775808 ≤ m.frm ∧ m.frm ≤ 9223372036854775807)
  len h := by rw [h.1]; rfl
  one h := by
    obtain ⟨rfl, ⟨a, n, c, h1⟩, ⟨b, k, d, h2⟩, _⟩ := h
    intro u hu
    simp only [Ms.row, List.mem_cons, List.not_mem_nil, or_false] at hu
    rcases hu with rfl | rfl | rfl | rfl | rfl | rfl | rfl | rfl | rfl | rfl | rfl | rfl
    all_goals first
      | rfl
      | (rw [h1]; rfl)
      | (rw [h2]; rfl)
  mono h _ := h
def ETexts : Enc (List (List (BitVec 8))) := ESlice EBytes (by decide)
theorem reads_texts : Reads Try.prog 50 ETexts (bulkL (bulkL (fun _ => 1))) := reads_slice (by decide) Try.underlying50 (by kernel_rfl) reads_bytes
abbrev EMsgC : Enc (Int × Int × Int × Int × Int × Int × Int × Int × Int × Int × List (List (BitVec 8)) × List (BitVec 8)) := EPair EInt (EPair EInt (EPair EInt (EPair EInt (EPair EInt (EPair EInt (EPair EInt (EPair EInt (EPair EInt (EPair EInt (EPair ETexts EBytes))))))))))
theorem readsE_struct {α : Type} {P : Program} {t : TypeId} {fs : Array Field} {E : Enc α} (h : P.underlying t = some (.struct fs)) (hc : P.cellsOf t = E.sz) (hr : ∃ m : α → Nat, FieldsRead P fs.toList 0 E m) : ∃ m : α → Nat, Reads P t E m := by
  obtain ⟨m, hr⟩ := hr; exact ⟨m, reads_struct h hc hr⟩
theorem fieldsE_cons {α β : Type} {P : Program} {f : Field} {fs : List Field} {off : Nat} {A : Enc α} {B : Enc β} (hr : ∃ m : α → Nat, Reads P f.type A m) (ho : f.offset = off) (hc : P.cellsOf f.type = A.sz) (hrest : ∃ n : β → Nat, FieldsRead P fs (off + A.sz) B n) : ∃ m : α × β → Nat, FieldsRead P (f :: fs) off (EPair A B) m := by
  obtain ⟨m, hr⟩ := hr; obtain ⟨n, hrest⟩ := hrest; exact ⟨_, fields_cons ho hc hr hrest⟩
theorem fieldsE_one {α : Type} {P : Program} {f : Field} {off : Nat} {E : Enc α} (hr : ∃ m : α → Nat, Reads P f.type E m) (ho : f.offset = off) (hc : P.cellsOf f.type = E.sz) : ∃ m : α → Nat, FieldsRead P [f] off E m := by
  obtain ⟨m, hr⟩ := hr; exact ⟨m, fields_one ho hc hr⟩
theorem readsE_int : ∃ m : Int → Nat, Reads Try.prog 3 EInt m := ⟨_, reads_int Try.underlying3⟩
theorem reads_msgC : ∃ m : _ → Nat, Reads Try.prog 89 EMsgC m := by
  refine readsE_struct Try.underlying89 (by kernel_rfl) ?_
  refine fieldsE_cons readsE_int (by rfl) (by kernel_rfl) ?_
  refine fieldsE_cons readsE_int (by rfl) (by kernel_rfl) ?_
  refine fieldsE_cons readsE_int (by rfl) (by kernel_rfl) ?_
  refine fieldsE_cons readsE_int (by rfl) (by kernel_rfl) ?_
  refine fieldsE_cons readsE_int (by rfl) (by kernel_rfl) ?_
  refine fieldsE_cons readsE_int (by rfl) (by kernel_rfl) ?_
  refine fieldsE_cons readsE_int (by rfl) (by kernel_rfl) ?_
  refine fieldsE_cons readsE_int (by rfl) (by kernel_rfl) ?_
  refine fieldsE_cons readsE_int (by rfl) (by kernel_rfl) ?_
  refine fieldsE_cons readsE_int (by rfl) (by kernel_rfl) ?_
  refine fieldsE_cons ⟨_, reads_texts⟩ (by rfl) (by kernel_rfl) ?_
  exact fieldsE_one ⟨_, reads_bytes⟩ (by rfl) (by kernel_rfl)
theorem reads_ms : Reads Try.prog 89 EMs (fun _ => 1) := by
  obtain ⟨m, h⟩ := reads_msgC
  intro H enc w fuel cs d ps hd
  obtain ⟨x, hx, _⟩ := h hd
  obtain ⟨k, x1, x2, x3, x4, x5, x6, x7, x8, x9, L, D⟩ := x
  obtain ⟨c0, r0, rfl, h0, c1, r1, rfl, h1, c2, r2, rfl, h2, c3, r3, rfl, h3, c4, r4, rfl, h4, c5, r5, rfl, h5, c6, r6, rfl, h6, c7, r7, rfl, h7, c8, r8, rfl, h8, c9, r9, rfl, h9, cL, cD, rfl, hL, hD⟩ := hx
  obtain rfl : c0 = [.int .i64 k] := h0.1
  obtain rfl : c1 = [.int .i64 x1] := h1.1
  obtain rfl : c2 = [.int .i64 x2] := h2.1
  obtain rfl : c3 = [.int .i64 x3] := h3.1
  obtain rfl : c4 = [.int .i64 x4] := h4.1
  obtain rfl : c5 = [.int .i64 x5] := h5.1
  obtain rfl : c6 = [.int .i64 x6] := h6.1
  obtain rfl : c7 = [.int .i64 x7] := h7.1
  obtain rfl : c8 = [.int .i64 x8] := h8.1
  obtain rfl : c9 = [.int .i64 x9] := h9.1
  obtain ⟨aL, kL, rfl, l1, l2, l3⟩ := hL
  obtain ⟨aD, kD, rfl, d1, d2, d3⟩ := hD
  exact ⟨⟨k, x1, x2, x3, x4, x5, x6, x7, x8, x9, .slice aL L.length kL, .slice aD D.length kD⟩, ⟨rfl, ⟨_, _, _, rfl⟩, ⟨_, _, _, rfl⟩, h1.2⟩, bulk_pos _⟩
theorem reads_mss : Reads Try.prog 83 (ESlice EMs (by decide)) (bulkL (fun _ => 1)) := reads_slice (by decide) Try.underlying83 (by kernel_rfl) reads_ms

/-- an answer that comes in -/
def EAn : Enc Co.An where
  sz := 8
  rep ok w cs a := ∃ av c, cs = (ansRow a (.slice av a.vals.length c)).toList ∧ a.vals.length ≤ c ∧ c ≤ maxLen ∧ Sl EInt ok w av a.vals ∧ Bts.i64 a.err ∧ Bts.i64 a.at_ ∧ Bts.i64 a.by_ ∧ Bts.i64 a.home ∧ enR a.e
  len h := by obtain ⟨_, _, rfl, _⟩ := h; rfl
  one h := by
    obtain ⟨av, c, rfl, _⟩ := h
    intro u hu
    simp only [ansRow, List.mem_cons, List.not_mem_nil, or_false] at hu
    rcases hu with rfl | rfl | rfl | rfl | rfl | rfl | rfl | rfl <;> rfl
  mono h hk := by
    obtain ⟨av, c, e, h1, h2, h3, r⟩ := h
    exact ⟨av, c, e, h1, h2, h3.mono (by decide) hk, r⟩
abbrev EEnC : Enc (Int × Bool × Int) := EPair EInt (EPair EBool EInt)
abbrev EAnC : Enc (Int × List Int × Int × Int × Int × (Int × Bool × Int)) := EPair EInt (EPair (ESlice EInt (by decide)) (EPair EInt (EPair EInt (EPair EInt EEnC))))
theorem readsE_end : ∃ m : _ → Nat, Reads Try.prog 33 EEnC m := by
  refine readsE_struct Try.underlying33 (by kernel_rfl) ?_
  refine fieldsE_cons readsE_int (by rfl) (by kernel_rfl) ?_
  refine fieldsE_cons ⟨_, reads_bool Try.underlying4⟩ (by rfl) (by kernel_rfl) ?_
  exact fieldsE_one readsE_int (by rfl) (by kernel_rfl)
theorem readsE_errno : ∃ m : Int → Nat, Reads Try.prog 25 EInt m := ⟨_, reads_int Try.underlying25⟩
theorem reads_anC : ∃ m : _ → Nat, Reads Try.prog 41 EAnC m := by
  refine readsE_struct Try.underlying41 (by kernel_rfl) ?_
  refine fieldsE_cons readsE_errno (by rfl) (by kernel_rfl) ?_
  refine fieldsE_cons ⟨_, reads_slice (by decide) Try.underlying29 (by kernel_rfl) (reads_int Try.underlying3)⟩ (by rfl) (by kernel_rfl) ?_
  refine fieldsE_cons readsE_int (by rfl) (by kernel_rfl) ?_
  refine fieldsE_cons readsE_int (by rfl) (by kernel_rfl) ?_
  refine fieldsE_cons readsE_int (by rfl) (by kernel_rfl) ?_
  exact fieldsE_one readsE_end (by rfl) (by kernel_rfl)
theorem reads_an : Reads Try.prog 41 EAn (fun _ => 1) := by
  obtain ⟨m, h⟩ := reads_anC
  intro H enc w fuel cs d ps hd
  obtain ⟨x, hx, _⟩ := h hd
  obtain ⟨e, vs, x1, x2, x3, x4, x5, x6⟩ := x
  obtain ⟨c0, r0, rfl, h0, cV, r1, rfl, hV, c1, r2, rfl, h1, c2, r3, rfl, h2, c3, r4, rfl, h3, c4, r5, rfl, h4, c5, c6, rfl, h5, h6⟩ := hx
  obtain rfl : c0 = [.int .i64 e] := h0.1
  obtain rfl : c1 = [.int .i64 x1] := h1.1
  obtain rfl : c2 = [.int .i64 x2] := h2.1
  obtain rfl : c3 = [.int .i64 x3] := h3.1
  obtain rfl : c4 = [.int .i64 x4] := h4.1
  obtain rfl : c5 = [.bool x5] := h5
  obtain rfl : c6 = [.int .i64 x6] := h6.1
  obtain ⟨aV, kV, rfl, v1, v2, v3⟩ := hV
  exact ⟨⟨e, vs, x1, x2, x3, ⟨x4, x5, x6⟩⟩, ⟨aV, kV, rfl, v1, v2, v3, h0.2, h1.2, h2.2, h3.2, ⟨h4.2, h6.2⟩⟩, bulk_pos _⟩
end Go.Proofs.Ytmmgnbdngpkfcaa


/-
  What comes into the laws on members: what lasts, and records; a list in blocks that are left alone.
-/
import Derived.Test.YtmmgnbdngpkfcaaVwQ
import Derived.Test.YtmmgnbdngpkfcaaOpen
namespace Go.Proofs.Ytmmgnbdngpkfcaa
open Go.RowKit
set_option linter.unusedVariables false

/-- what is held besides lies in such blocks alone -/
def ERes {α : Type} (s : Nat → Prop) (E : Enc α) : Enc α where
  sz := E.sz
  rep ok w cs x := E.rep (fun b => ok b ∧ s b) w cs x
  len h := E.len h
  one h := E.one h
  mono h hk := E.mono h fun k hk1 hlt => ⟨(hk k hk1.1 hlt).1, (hk k hk1.1 hlt).2, hk1.2⟩
theorem ERes.of_sl {α : Type} {s ok : Nat → Prop} {E : Enc α} {w : World} {a : Option Addr} {l : List α} (h : Sl E (fun b => ok b ∧ s b) w a l) : Sl (ERes s E) ok w a l := by
  intro k x hx
  obtain ⟨b, o, e, hb, cs, hr, hc⟩ := h k x hx
  exact ⟨b, o, e, hb.1, cs, hr, hc⟩
/-- what is owned and holds such things can be read in such blocks -/
theorem Own.sl_res {α : Type} {s : Nat → Prop} {E : Enc α} {te base : Nat} {w : World} {v : Value} {l : List α} (h : Own (ERes s E) te base w v l) (hs : ∀ k, base ≤ k → s k) : ∃ a c, v = .slice a l.length c ∧ (l.length ≤ c ∧ c ≤ maxLen) ∧ Sl E s w a l := by
  rcases h with ⟨rfl, rfl⟩ | ⟨g, cap, cur, rfl, hg, hh, h1, h2, h3, h4⟩
  · exact ⟨none, 0, rfl, ⟨Nat.le_refl _, Nat.zero_le _⟩, Sl.nil _ _ _ _⟩
  · refine ⟨some ⟨g, 0, none⟩, cap, rfl, ⟨h1, h2⟩, fun k x hx => ?_⟩
    obtain ⟨cs, hr, hc⟩ := h4 k x hx
    refine ⟨g, 0, rfl, hs g hg, cs, E.mono hr fun b hb _ => ⟨rfl, hb.2⟩, fun j v hj => ?_⟩
    have := hc j v hj
    simp [World.cell?, hh]; exact this
theorem own_at {α : Type} (E : Enc α) (te base : Nat) {X : World} {g0 : Nat} (h : X.heap[g0]? = some (.cells #[] te (0, 0))) (hb : base ≤ g0) : Own E te base X (.slice (some ⟨g0, 0, none⟩) 0 0) [] :=
  .inr ⟨g0, 0, #[], rfl, hb, h, Nat.le_refl _, Nat.zero_le _, by simp, fun k x hx => by simp at hx⟩
theorem ti_res (s : Nat → Prop) : ElemInfo Try.prog 50 49 (ERes s EBytes).sz 24 := ti_texts
/-- a record that comes in -/
def ERecI : Enc Vw.Rc where
  sz := 4
  rep ok w cs r := ERec.rep ok w cs r ∧ (-9223372036854775808 ≤ r.a ∧ r.a ≤ 9223372036854775807)
  len h := ERec.len h.1
  one h := ERec.one h.1
  mono h hk := ⟨ERec.mono h.1 hk, h.2⟩
abbrev ERecC : Enc (Int × Int × Int × List (BitVec 8)) := EPair EInt (EPair EInt (EPair EInt EBytes))
theorem rfieldsE_cons {α β : Type} {P : Program} {f : Field} {fs : List Field} {off : Nat} {A : Enc α} {B : Enc β} (hr : ∃ m : α → Nat, Reads P f.type A m) (ho : f.offset = off) (hc : P.cellsOf f.type = A.sz) (hrest : ∃ n : β → Nat, FieldsRead P fs (off + A.sz) B n) : ∃ m : α × β → Nat, FieldsRead P (f :: fs) off (EPair A B) m := by
  obtain ⟨m, hr⟩ := hr; obtain ⟨n, hrest⟩ := hrest; exact ⟨_, fields_cons ho hc hr hrest⟩
theorem rfieldsE_one {α : Type} {P : Program} {f : Field} {off : Nat} {E : Enc α} (hr : ∃ m : α → Nat, Reads P f.type E m) (ho : f.offset = off) (hc : P.cellsOf f.type = E.sz) : ∃ m : α → Nat, FieldsRead P [f] off E m := by
  obtain ⟨m, hr⟩ := hr; exact ⟨m, fields_one ho hc hr⟩
theorem rreadsE_struct {α : Type} {P : Program} {t : TypeId} {fs : Array Field} {E : Enc α} (h : P.underlying t = some (.struct fs)) (hc : P.cellsOf t = E.sz) (hr : ∃ m : α → Nat, FieldsRead P fs.toList 0 E m) : ∃ m : α → Nat, Reads P t E m := by
  obtain ⟨m, hr⟩ := hr; exact ⟨m, reads_struct h hc hr⟩
theorem rreadsE_int : ∃ m : Int → Nat, Reads Try.prog 3 EInt m := ⟨_, reads_int Try.underlying3⟩
theorem rreads_bytes : Reads Try.prog 49 EBytes (bulkL (fun _ => 1)) := reads_slice (by decide) Try.underlying49 (by kernel_rfl) (reads_u8 Try.underlying5)
theorem rreads_byts : Reads Try.prog 50 (ESlice EBytes (by decide)) (bulkL (bulkL (fun _ => 1))) := reads_slice (by decide) Try.underlying50 (by kernel_rfl) rreads_bytes
theorem reads_recC : ∃ m : _ → Nat, Reads Try.prog 98 ERecC m := by
  refine rreadsE_struct Try.underlying98 (by kernel_rfl) ?_
  refine rfieldsE_cons rreadsE_int (by rfl) (by kernel_rfl) ?_
  refine rfieldsE_cons rreadsE_int (by rfl) (by kernel_rfl) ?_
  refine rfieldsE_cons rreadsE_int (by rfl) (by kernel_rfl) ?_
  exact rfieldsE_one ⟨_, rreads_bytes⟩ (by rfl) (by kernel_rfl)
theorem reads_rec : Reads Try.prog 98 ERecI (fun _ => 1) := by
  obtain ⟨m, h⟩ := reads_recC
  intro H enc w fuel cs d ps hd
  obtain ⟨x, hx, _⟩ := h hd
  obtain ⟨k, a, b, D⟩ := x
  obtain ⟨c0, r0, rfl, h0, c1, r1, rfl, h1, c2, r2, rfl, h2, h3⟩ := hx
  obtain rfl : c0 = [.int .i64 k] := h0.1
  obtain rfl : c1 = [.int .i64 a] := h1.1
  obtain rfl : c2 = [.int .i64 b] := h2.1
  obtain ⟨aD, kD, rfl, d1, d2, d3⟩ := h3
  exact ⟨⟨k, a, b, D⟩, ⟨⟨aD, kD, rfl, ⟨d1, d2⟩, d3⟩, h1.2⟩, bulk_pos _⟩
theorem reads_recs : Reads Try.prog 96 (ESlice ERecI (by decide)) (bulkL (fun _ => 1)) := reads_slice (by decide) Try.underlying96 (by kernel_rfl) reads_rec
/-- what lasts, as it comes in -/
def EKeepI : Enc Vw.Keep where
  sz := 3
  rep ok w cs k := ∃ la lc, cs = [.int .i64 k.view, .int .i64 k.normal, .slice la k.log.length lc] ∧ (k.log.length ≤ lc ∧ lc ≤ maxLen) ∧ Sl EBytes ok w la k.log
  len h := by obtain ⟨_, _, rfl, _⟩ := h; rfl
  one h := by
    obtain ⟨_, _, rfl, _⟩ := h
    intro u hu
    simp only [List.mem_cons, List.not_mem_nil, or_false] at hu
    rcases hu with rfl | rfl | rfl <;> rfl
  mono h hk := by
    obtain ⟨la, lc, e, h1, h2⟩ := h
    exact ⟨la, lc, e, h1, h2.mono (by decide) hk⟩
theorem reads_keep : Reads Try.prog 95 EKeepI (fun _ => 1) := by
  have hC : ∃ m : _ → Nat, Reads Try.prog 95 (EPair EInt (EPair EInt (ESlice EBytes (by decide)))) m := by
    refine rreadsE_struct Try.underlying95 (by kernel_rfl) ?_
    refine rfieldsE_cons rreadsE_int (by rfl) (by kernel_rfl) ?_
    refine rfieldsE_cons rreadsE_int (by rfl) (by kernel_rfl) ?_
    exact rfieldsE_one ⟨_, rreads_byts⟩ (by rfl) (by kernel_rfl)
  obtain ⟨m, h⟩ := hC
  intro H enc w fuel cs d ps hd
  obtain ⟨x, hx, _⟩ := h hd
  obtain ⟨v, n, l⟩ := x
  obtain ⟨c0, r0, rfl, h0, c1, r1, rfl, h1, h2⟩ := hx
  obtain rfl : c0 = [.int .i64 v] := h0.1
  obtain rfl : c1 = [.int .i64 n] := h1.1
  obtain ⟨aD, kD, rfl, d1, d2, d3⟩ := h2
  exact ⟨⟨v, n, l⟩, ⟨aD, kD, rfl, ⟨d1, d2⟩, d3⟩, bulk_pos _⟩
end Go.Proofs.Ytmmgnbdngpkfcaa

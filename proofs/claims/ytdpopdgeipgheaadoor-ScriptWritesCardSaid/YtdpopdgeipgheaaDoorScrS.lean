
/-
  Steps of a script and setups in memory: how they are read.
-/
import Derived.Test.YtdpopdgeipgheaaDoorScrC
namespace Go.Proofs.YtdpopdgeipgheaaDoor
open Go.RowKit
set_option linter.unusedVariables false

def EStp : Enc Sc.Step := EPair EInt (EPair EInt (EPair EInt EInts))
theorem stp_rep {ok : Nat → Prop} {w : World} {cs : List Value} {x : Sc.Step} (h : EStp.rep ok w cs x) :
    ∃ aK cK, cs = [.int .i64 x.1, .int .i64 x.2.1, .int .i64 x.2.2.1, .slice aK x.2.2.2.length cK] ∧ Bts.i64 x.1 ∧ Bts.i64 x.2.1 ∧ Bts.i64 x.2.2.1 ∧
      x.2.2.2.length ≤ cK ∧ cK ≤ maxLen ∧ Sl EInt ok w aK x.2.2.2 := by
  obtain ⟨c1, r1, rfl, h1, c2, r2, rfl, h2, c3, c4, rfl, h3, h4⟩ := h
  obtain rfl : c1 = [.int .i64 x.1] := h1.1
  obtain rfl : c2 = [.int .i64 x.2.1] := h2.1
  obtain rfl : c3 = [.int .i64 x.2.2.1] := h3.1
  obtain ⟨aK, cK, rfl, k1, k2, k3⟩ := h4
  exact ⟨aK, cK, rfl, h1.2, h2.2, h3.2, k1, k2, k3⟩
theorem reads_sints : Reads Tryd.prog 56 EInts (bulkL (fun _ => 1)) := reads_slice (by decide) Tryd.underlying56 (by kernel_rfl) (reads_int Tryd.underlying3)
theorem reads_stp : Reads Tryd.prog 58 EStp (fun _ => 1) := by
  have h : Reads Tryd.prog 58 EStp (fun x => 1 + (1 + (1 + (bulkL (fun _ => 1) x.2.2.2)))) := by
    refine reads_struct (E := EStp) (m := fun x => 1 + (1 + (1 + (bulkL (fun _ => 1) x.2.2.2)))) Tryd.underlying58 (by kernel_rfl) ?_
    refine fields_cons (off := 0) (A := EInt) (B := EPair EInt (EPair EInt EInts)) (m := fun _ => 1) (n := fun x => 1 + (1 + (bulkL (fun _ => 1) x.2.2))) (by rfl) (by kernel_rfl) (reads_int Tryd.underlying3) ?_
    refine fields_cons (off := 1) (A := EInt) (B := EPair EInt EInts) (m := fun _ => 1) (n := fun x => 1 + (bulkL (fun _ => 1) x.2)) (by rfl) (by kernel_rfl) (reads_int Tryd.underlying3) ?_
    refine fields_cons (off := 2) (A := EInt) (B := EInts) (m := fun _ => 1) (n := fun x => bulkL (fun _ => 1) x) (by rfl) (by kernel_rfl) (reads_int Tryd.underlying3) ?_
    exact fields_one (off := 3) (by rfl) (by kernel_rfl) reads_sints
  intro H enc w fuel cs d ps hd
  obtain ⟨x, hx, hm⟩ := h hd
  exact ⟨x, hx, by simp only at hm ⊢; omega⟩
theorem reads_stps : Reads Tryd.prog 27 (ESlice EStp (by decide)) (bulkL (fun _ => 1)) := reads_slice (by decide) Tryd.underlying27 (by kernel_rfl) reads_stp
theorem sl_stp {ok : Nat → Prop} {w : World} {a : Option Addr} {ts : List Sc.Step} (h : Sl EStp ok w a ts) (k : Nat) (hk : k < ts.length) :
    ∃ b o aK cK, a = some ⟨b, o, none⟩ ∧ ok b ∧ w.cell? ⟨b, o + k * 4, none⟩ = some (.int .i64 ts[k].1) ∧ w.cell? ⟨b, o + k * 4 + 1, none⟩ = some (.int .i64 ts[k].2.1) ∧ w.cell? ⟨b, o + k * 4 + 2, none⟩ = some (.int .i64 ts[k].2.2.1) ∧ w.cell? ⟨b, o + k * 4 + 3, none⟩ = some (.slice aK ts[k].2.2.2.length cK) ∧
      Bts.i64 ts[k].1 ∧ Bts.i64 ts[k].2.1 ∧ Bts.i64 ts[k].2.2.1 ∧ ts[k].2.2.2.length ≤ cK ∧ cK ≤ maxLen ∧ Sl EInt ok w aK ts[k].2.2.2 := by
  obtain ⟨b, o, rfl, hb, cs, hr, hc⟩ := h k ts[k] (List.getElem?_eq_getElem hk)
  obtain ⟨aK, cK, rfl, h2, h3, h4, h5⟩ := stp_rep hr
  have hz : EStp.sz = 4 := rfl
  rw [hz] at hc
  refine ⟨b, o, aK, cK, rfl, hb, by simpa using hc 0 _ rfl, ?_, ?_, ?_, h2, h3, h4, h5⟩
  · have := hc 1 _ rfl; rw [Nat.add_assoc]; exact this
  · have := hc 2 _ rfl; rw [Nat.add_assoc]; exact this
  · have := hc 3 _ rfl; rw [Nat.add_assoc]; exact this
theorem sl_i {ok : Nat → Prop} {w : World} {a : Option Addr} {l : List Int} (h : Sl EInt ok w a l) (k : Nat) (hk : k < l.length) :
    ∃ b o, a = some ⟨b, o, none⟩ ∧ ok b ∧ w.cell? ⟨b, o + k, none⟩ = some (.int .i64 l[k]) ∧ Bts.i64 l[k] := by
  obtain ⟨b, o, rfl, hb, cs, hr, hc⟩ := h k l[k] (List.getElem?_eq_getElem hk)
  obtain ⟨rfl, h2⟩ := hr
  have hz : EInt.sz = 1 := rfl
  rw [hz] at hc
  exact ⟨b, o, rfl, hb, by simpa using hc 0 _ rfl, h2⟩
theorem ti_stps : ElemInfo Tryd.prog 27 58 EStp.sz 48 := ElemInfo.mk' (z := .agg #[.int .i64 0, .int .i64 0, .int .i64 0, .slice none 0 0]) Tryd.underlying27 (by kernel_rfl) rfl (by decide)
theorem ti_rstps : ElemInfo Tryd.prog 41 72 EStp.sz 48 := ElemInfo.mk' (z := .agg #[.int .i64 0, .int .i64 0, .int .i64 0, .slice none 0 0]) Tryd.underlying41 (by kernel_rfl) rfl (by decide)

/-- a writer: nothing of what was there is turned by what comes -/
theorem Wrote.then {g : Nat} {v v1 : Value} {w w1 w2 : World} (h : Wrote g v w v1 w1) (hb : Below w1.heap.size w1 w2) : Wrote g v w v1 w2 :=
  h.trans ⟨Below.only hb, .inl rfl⟩
theorem Wrote.kept {g : Nat} {v1 : Value} {w w1 : World} (h : Wrote g (.slice none 0 0) w v1 w1) (k : Nat) (hk : k < w.heap.size) (hg : k ≠ g) : w1.heap[k]? = w.heap[k]? :=
  h.only.block k hk fun hs => by rcases hs with hs | hs; exact hg hs; cases hs
theorem Wrote.cell {g : Nat} {v1 : Value} {w w1 : World} (h : Wrote g (.slice none 0 0) w v1 w1) {b o : Nat} {u : Value} (hc : w.cell? ⟨b, o, none⟩ = some u) (hg : b ≠ g) : w1.cell? ⟨b, o, none⟩ = some u := by
  rw [cell_keep (h.kept b (cell_lt hc) hg)]; exact hc
/-- what a writer's call leaves of a block that is not its own -/
theorem Wrote.blk {g : Nat} {v v1 : Value} {w w1 : World} (h : Wrote g v w v1 w1) (k : Nat) (hk : k < w.heap.size) (hg : k ≠ g) (hv : v.ownBlock ≠ some k) : w1.heap[k]? = w.heap[k]? :=
  h.only.block k hk fun hs => by rcases hs with hs | hs; exact hg hs; exact hv hs
end Go.Proofs.YtdpopdgeipgheaaDoor

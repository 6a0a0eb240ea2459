
/-
  Messages that come in; the document's example; which messages are too big to be looked at.
-/
import Derived.Test.YtdpopdgeipgheaaWirP
namespace Go.Proofs.Ytdpopdgeipgheaa
open Go.RowKit
set_option linter.unusedVariables false

/-- a message: its kind, what stands inside -/
def EMsg : Enc (Int × Wi.Ins) where
  sz := 12
  rep ok w cs x := x.2.1.length = 9 ∧ ∃ aL cL aD cD, cs = (msgCells x.1 x.2.1 aL x.2.2.1.length cL aD x.2.2.2.length cD).toList ∧ x.2.2.1.length ≤ cL ∧ cL ≤ maxLen ∧ Sl EBytes ok w aL x.2.2.1 ∧ x.2.2.2.length ≤ cD ∧ cD ≤ maxLen ∧ Sl EU8 ok w aD x.2.2.2
  len h := by obtain ⟨_, aL, cL, aD, cD, rfl, _⟩ := h; rfl
  one h := by
    obtain ⟨_, aL, cL, aD, cD, rfl, _⟩ := h
    intro u hu
    exact (Array.all_eq_true_iff_forall_mem.1 (msg_one _ _ _ _ _ _ _ _)) u (by simpa using hu)
  mono h hk := by
    obtain ⟨h9, aL, cL, aD, cD, e, h1, h2, h3, h4, h5, h6⟩ := h
    exact ⟨h9, aL, cL, aD, cD, e, h1, h2, h3.mono (by decide) hk, h4, h5, h6.mono (by decide) hk⟩

def ETexts : Enc (List (List (BitVec 8))) := ESlice EBytes (by decide)
theorem reads_texts : Reads Try.prog 22 ETexts (bulkL (bulkL (fun _ => 1))) := reads_slice (by decide) Try.underlying22 (by kernel_rfl) reads_bytes
abbrev EMsgC : Enc (Int × Int × Int × Int × Int × Int × Int × Int × Int × Int × List (List (BitVec 8)) × List (BitVec 8)) := EPair EInt (EPair EInt (EPair EInt (EPair EInt (EPair EInt (EPair EInt (EPair EInt (EPair EInt (EPair EInt (EPair EInt (EPair ETexts EBytes))))))))))

theorem readsE_struct {α : Type} {P : Program} {t : TypeId} {fs : Array Field} {E : Enc α} (h : P.underlying t = some (.struct fs)) (hc : P.cellsOf t = E.sz) (hr : ∃ m : α → Nat, FieldsRead P fs.toList 0 E m) : ∃ m : α → Nat, Reads P t E m := by
  obtain ⟨m, hr⟩ := hr; exact ⟨m, reads_struct h hc hr⟩
theorem fieldsE_cons {α β : Type} {P : Program} {f : Field} {fs : List Field} {off : Nat} {A : Enc α} {B : Enc β} (hr : ∃ m : α → Nat, Reads P f.type A m) (ho : f.offset = off) (hc : P.cellsOf f.type = A.sz) (hrest : ∃ n : β → Nat, FieldsRead P fs (off + A.sz) B n) : ∃ m : α × β → Nat, FieldsRead P (f :: fs) off (EPair A B) m := by
  obtain ⟨m, hr⟩ := hr; obtain ⟨n, hrest⟩ := hrest; exact ⟨_, fields_cons ho hc hr hrest⟩
theorem fieldsE_one {α : Type} {P : Program} {f : Field} {off : Nat} {E : Enc α} (hr : ∃ m : α → Nat, Reads P f.type E m) (ho : f.offset = off) (hc : P.cellsOf f.type = E.sz) : ∃ m : α → Nat, FieldsRead P [f] off E m := by
  obtain ⟨m, hr⟩ := hr; exact ⟨m, fields_one ho hc hr⟩
theorem readsE_int : ∃ m : Int → Nat, Reads Try.prog 3 EInt m := ⟨_, reads_int Try.underlying3⟩
theorem reads_msgC : ∃ m : _ → Nat, Reads Try.prog 25 EMsgC m := by
  refine readsE_struct Try.underlying25 (by kernel_rfl) ?_
  refine fieldsE_cons readsE_int (by rfl) (by kernel_rfl) ?_
  refine fieldsE_cons readsE_int (by rfl) (by kernel_rfl) ?_
  refine fieldsE_cons readsE_int (by rfl) (by kernel_rfl) ?_
  refine fieldsE_cons readsE_int (by rfl) (by kernel_rfl) ?_
  refine fieldsE_cons readsE_int (by rfl) (by kernel_rfl) ?_
  refine fieldsE_cons readsE_int (by rfl) (by kernel_rfl) ?_
  refine fieldsE_cons readsE_int (by rfl) (by kernel_rfl) ?_
  refine fieldsE_cons readsE_int (by rfl) (by kernel_rfl) ?_
  refine fieldsE_cons readsE_int (by rfl) (by kernel_rfl) ?_
  refine fieldsE_cons readsE_int (by rfl) (by kernel_rfl) ?_
  refine fieldsE_cons ⟨_, reads_texts⟩ (by rfl) (by kernel_rfl) ?_
  exact fieldsE_one ⟨_, reads_bytes⟩ (by rfl) (by kernel_rfl)
theorem reads_msg : Reads Try.prog 25 EMsg (fun _ => 1) := by
  obtain ⟨m, h⟩ := reads_msgC
  intro H enc w fuel cs d ps hd
  obtain ⟨x, hx, _⟩ := h hd
  obtain ⟨k, x1, x2, x3, x4, x5, x6, x7, x8, x9, L, D⟩ := x
  refine ⟨(k, [x1, x2, x3, x4, x5, x6, x7, x8, x9], L, D), ?_, bulk_pos _⟩
  obtain ⟨c0, r0, rfl, h0, c1, r1, rfl, h1, c2, r2, rfl, h2, c3, r3, rfl, h3, c4, r4, rfl, h4, c5, r5, rfl, h5, c6, r6, rfl, h6, c7, r7, rfl, h7, c8, r8, rfl, h8, c9, r9, rfl, h9, cL, cD, rfl, hL, hD⟩ := hx
  obtain rfl : c0 = [.int .i64 k] := h0.1
  obtain rfl : c1 = [.int .i64 x1] := h1.1
  obtain rfl : c2 = [.int .i64 x2] := h2.1
  obtain rfl : c3 = [.int .i64 x3] := h3.1
  obtain rfl : c4 = [.int .i64 x4] := h4.1
  obtain rfl : c5 = [.int .i64 x5] := h5.1
  obtain rfl : c6 = [.int .i64 x6] := h6.1
  obtain rfl : c7 = [.int .i64 x7] := h7.1
  obtain rfl : c8 = [.int .i64 x8] := h8.1
  obtain rfl : c9 = [.int .i64 x9] := h9.1
  obtain ⟨aL, kL, rfl, l1, l2, l3⟩ := hL
  obtain ⟨aD, kD, rfl, d1, d2, d3⟩ := hD
  exact ⟨rfl, aL, kL, aD, kD, rfl, l1, l2, l3, d1, d2, d3⟩
/-- a message's value -/
theorem msg_val {w : World} {cs : Array Value} {x : Int × Wi.Ins} (h : EMsg.rep (fun _ => True) w cs.toList x) :
    ∃ aL cL aD cD, cs = msgCells x.1 x.2.1 aL x.2.2.1.length cL aD x.2.2.2.length cD ∧ x.2.1.length = 9 ∧ x.2.2.1.length ≤ cL ∧ cL ≤ maxLen ∧ Sl EBytes (fun _ => True) w aL x.2.2.1 ∧ x.2.2.2.length ≤ cD ∧ cD ≤ maxLen ∧ Sl EU8 (fun _ => True) w aD x.2.2.2 := by
  obtain ⟨h9, aL, cL, aD, cD, e, h1, h2, h3, h4, h5, h6⟩ := h
  exact ⟨aL, cL, aD, cD, Array.toList_inj.1 e, h9, h1, h2, h3, h4, h5, h6⟩

set_option maxRecDepth 100000 in
set_option maxHeartbeats 1600000 in
theorem law15_head (w : World) : Calls Try.prog 7 #[] w fun e w' => e = .returned (.bool true) ∧ Below w.heap.size w w' := by
  obtain ⟨h1, h2, h3, h4, h5⟩ := Wi.head_enc
  obtain ⟨L, hL⟩ : ∃ L, L = Wi.encOut 7 ([0, 0, 0, 0, 0, 0, 0, 0, 0], [], []) := ⟨_, rfl⟩
  rw [← hL] at h2 h3 h4 h5
  have H1 := Lib.hid h1
  have HL := Lib.hid hL
  clear hL h1
  go_enter Try.func7, Try.ntmps7
  go_wp2_with fail
  refine (wire_Encode w.heap.size 7 [0, 0, 0, 0, 0, 0, 0, 0, 0] none 0 0 [] none 0 0 [] w rfl rfl ⟨rfl, Sl.nil _ _ _ _⟩ (Nat.le_refl _) (Nat.zero_le _) (RB.nil _ _) (Nat.le_refl _) (Nat.zero_le _)).mono ?_
  rintro e w1 ⟨v, rfl, ho, hb⟩
  rw [← HL.out] at ho
  rw [H1.out]
  obtain ⟨a, c, rfl, _, _, hr, _⟩ := ho.shape 14 h2.symm
  obtain ⟨b, o, rfl, hc⟩ := SB.all hr.2 (by omega)
  have q0 : w1.cell? ⟨b, o, none⟩ = some (.int .u8 7) := by
    have := hc 0 (by omega)
    rw [(List.getElem?_eq_some_iff.1 h3).2] at this
    exact this
  have q12 : w1.cell? ⟨b, o + 12, none⟩ = some (.int .u8 255) := by
    have := hc 12 (by omega)
    rw [(List.getElem?_eq_some_iff.1 h4).2] at this
    exact this
  have q13 : w1.cell? ⟨b, o + 13, none⟩ = some (.int .u8 224) := by
    have := hc 13 (by omega)
    rw [(List.getElem?_eq_some_iff.1 h5).2] at this
    exact this
  clear hc hr ho h2 h3 h4 h5
  go_wp2
  go_ret
  exact ⟨rfl, hb⟩

namespace Wi
def big (x : Int × Ins) : Prop := 30 < x.2.2.1.length ∨ 4100 < x.2.2.2.length ∨ ∃ b ∈ x.2.2.1, 500 < b.length
instance (x : Int × Ins) : Decidable (big x) := by unfold big; infer_instance
end Wi

set_option maxRecDepth 100000 in
set_option maxHeartbeats 1600000 in
theorem law15_big (k : Int) (xs : List Int) (aL : Option Addr) (cL : Nat) (L : List (List (BitVec 8))) (aD : Option Addr) (cD : Nat) (D : List (BitVec 8)) (w : World) (hL : Sl EBytes (fun _ => True) w aL L) :
    Calls Try.prog 8 #[.agg (msgCells k xs aL L.length cL aD D.length cD)] w fun e w' => e = .returned (.bool (decide (Wi.big (k, xs, L, D)))) ∧ Below w.heap.size w w' := by
  obtain ⟨q, hq⟩ : ∃ q, q = decide (Wi.big (k, xs, L, D)) := ⟨_, rfl⟩
  rw [← hq]
  have Hq := Lib.hid hq
  obtain ⟨B, hB⟩ : ∃ B, B = w.heap.size := ⟨_, rfl⟩
  obtain ⟨w1, hw1⟩ : ∃ x, x = w.alloc (.cells (msgCells k xs aL L.length cL aD D.length cD) 25) := ⟨_, rfl⟩
  have hh1 : w1.heap[B]? = some (.cells (msgCells k xs aL L.length cL aD D.length cD) 25 (0, 0)) := by subst hw1; subst hB; exact heap_alloc_new w _
  have hb1 : Below B w w1 := by subst hw1; subst hB; exact (Below.refl _ _).alloc (Nat.le_refl _) _
  have l10 : w1.cell? ⟨B, 10, none⟩ = some (.slice aL L.length cL) := by simp [World.cell?, hh1, msgCells]
  have l11 : w1.cell? ⟨B, 11, none⟩ = some (.slice aD D.length cD) := by simp [World.cell?, hh1, msgCells]
  have hL1 : Sl EBytes (fun _ => True) w1 aL L := hL.below (by decide) (by rw [← hB]; exact hb1)
  have hBl : B < w1.heap.size := cell_lt l10
  have HB := Lib.hid hB
  rw [← hB]
  unfold msgCells at hw1 ⊢
  clear hq hh1 hL
  go_enter Try.func8, Try.ntmps8
  go_upto_region 1 with fail
  rw [← hw1, ← hB]
  clear hw1 hB
  by_cases g1 : 30 < L.length
  · have g1' : 30 < (L.length : Int) := by omega
    have hz : q = true := by rw [Hq.out]; exact decide_eq_true (.inl g1)
    have Hz := Lib.hid hz
    clear hz g1
    go_wp2_with fail
    go_ret
    exact ⟨by rw [Hz.out]; rfl, hb1⟩
  have g1' : ¬ 30 < (L.length : Int) := by omega
  by_cases g2 : 4100 < D.length
  · have g2' : 4100 < (D.length : Int) := by omega
    have hz : q = true := by rw [Hq.out]; exact decide_eq_true (.inr (.inl g2))
    have Hz := Lib.hid hz
    clear hz g1 g2
    go_wp2_with fail
    go_ret
    exact ⟨by rw [Hz.out]; rfl, hb1⟩
  have g2' : ¬ 4100 < (D.length : Int) := by omega
  have hqq : q = decide (∃ b ∈ L, 500 < b.length) := by
    rw [Hq.out]
    exact decide_eq_decide.2 ⟨fun h => by rcases h with h | h | h; exact absurd h g1; exact absurd h g2; exact h, fun h => .inr (.inr h)⟩
  have Hqq := Lib.hid hqq
  clear hqq g1 g2
  go_wp2_with fail
  go_loopw [18] (fun i wr => ∃ j : Nat, j ≤ L.length ∧ i = .int .i64 j ∧ (∀ b ∈ L.take j, b.length ≤ 500) ∧ wr = w1) (fun i _ => L.length - (intOf i).toNat)
  case atStart => exact ⟨0, Nat.zero_le _, rfl, by simp, rfl⟩
  case round =>
    obtain ⟨j, hj, rfl, hall, rfl⟩ := hrel
    by_cases hlt : j < L.length
    · have hji : (j : Int) < (L.length : Int) := by omega
      obtain ⟨b1, o1, a', c', rfl, p1, hc', hm', hs'⟩ := sl_text hL1 j hlt
      have htk : L.take (j + 1) = L.take j ++ [L[j]] := (List.take_append_getElem hlt).symm
      have hmem : L[j] ∈ L := List.getElem_mem hlt
      obtain ⟨b, hb⟩ : ∃ b, b = L[j] := ⟨_, rfl⟩
      rw [← hb] at p1 hs' htk hmem hc'
      clear hb
      by_cases g3 : 500 < b.length
      · have g3' : 500 < (b.length : Int) := by omega
        have hz : q = true := by rw [Hqq.out]; exact decide_eq_true ⟨b, hmem, g3⟩
        have Hz := Lib.hid hz
        clear hz g3 htk hmem hall
        go_wp2_with fail
        go_ret
        exact ⟨by rw [Hz.out]; rfl, hb1⟩
      · have g3' : ¬ 500 < (b.length : Int) := by omega
        have hall' : ∀ z ∈ L.take (j + 1), z.length ≤ 500 := by
          rw [htk]
          intro z hz
          rcases List.mem_append.1 hz with hz | hz
          · exact hall z hz
          · rw [List.mem_singleton.1 hz]; omega
        have Hall := Lib.hid hall'
        clear hall' hall htk hmem g3
        go_wp2_with fail
        go_roundw
        case rel => exact ⟨j + 1, by omega, by go_num, Hall.out, by first | rfl | trivial⟩
        case measure => simp [intOf]; omega
    · have hji : ¬ ((j : Int) < (L.length : Int)) := by omega
      rw [List.take_of_length_le (by omega)] at hall
      have hz : q = false := by
        rw [Hqq.out]
        refine decide_eq_false fun h => ?_
        obtain ⟨b, hb, h⟩ := h
        have := hall b hb; omega
      have Hz := Lib.hid hz
      clear hz hall
      go_wp2_with fail
      go_ret
      exact ⟨by rw [Hz.out]; rfl, hb1⟩
end Go.Proofs.Ytdpopdgeipgheaa


/-
  What the walk of the law CoordPosts stands on.
-/
import Derived.Test.YtmmgnbdngpkfcaaPoH
import Derived.Test.YtmmgnbdngpkfcaaCoH
namespace Go.Proofs.Ytmmgnbdngpkfcaa
open Go.RowKit
set_option linter.unusedVariables false

theorem and_low (n : Int) (k : Nat) (hk : k ≤ 32) (m : Int) (hm : m = 2 ^ k - 1) : bits .and .i64 n m = n % (2 ^ k : Nat) := by
  subst hm
  have h : bits .and .i64 n (2 ^ k - 1) = IntKind.i64.wrap ((BitVec.ofInt 64 n &&& BitVec.ofInt 64 (2 ^ k - 1)).toNat : Int) := rfl
  have h1 : 1 ≤ 2 ^ k := Nat.one_le_two_pow
  have h4 : 2 ^ k ≤ 2 ^ 32 := Nat.pow_le_pow_right (by decide) hk
  have h5 : (2 : Int) ^ k = ((2 ^ k : Nat) : Int) := by simp
  have e : (BitVec.ofInt 64 (2 ^ k - 1)).toNat = 2 ^ k - 1 := by
    rw [h5, BitVec.toNat_ofInt, Int.emod_eq_of_lt (by omega) (by omega)]
    omega
  rw [h]
  have h2 : (BitVec.ofInt 64 n &&& BitVec.ofInt 64 (2 ^ k - 1)).toNat = (BitVec.ofInt 64 n).toNat % 2 ^ k := by
    rw [BitVec.toNat_and, e]
    exact Nat.and_two_pow_sub_one_eq_mod _ k
  rw [h2, BitVec.toNat_ofInt]
  have h3 : 0 ≤ n % 18446744073709551616 := Int.emod_nonneg _ (by decide)
  have hd : (2 : Int) ^ 64 = 18446744073709551616 := by decide
  have hlt : (n % (2 ^ 64 : Int)).toNat % 2 ^ k < 2 ^ k := Nat.mod_lt _ (by omega)
  rw [IntWalk.i64_in _ (by omega)]
  rw [Int.natCast_emod, Int.toNat_of_nonneg (Int.emod_nonneg _ (by decide))]
  exact Int.emod_emod_of_dvd n (Int.natCast_dvd_natCast.2 (Nat.pow_dvd_pow 2 (by omega)))

theorem pm_at {w : World} {a : Option Addr} {m : Pm} {ok : Nat → Prop} (h : Sl EPm ok w a [m]) (k : Nat) (hk : k < 1) :
    ∃ b o d, a = some ⟨b, o, none⟩ ∧ d.oneCell' = true ∧ ∀ j v, (pmCells m d)[j]? = some v → w.cell? ⟨b, o + (k * 12 + j), none⟩ = some v := by
  have hk0 : k = 0 := by omega
  subst hk0
  obtain ⟨b, o, rfl, hb, cs, ⟨d, hd, rfl⟩, hc⟩ := h 0 m rfl
  exact ⟨b, o, d, rfl, hd, hc⟩
theorem ms_at {w : World} {a : Option Addr} {l : List Ms} {ok : Nat → Prop} (h : Sl EMs ok w a l) (k : Nat) (hk : k < l.length) :
    ∃ b o, a = some ⟨b, o, none⟩ ∧ ((∃ a n c, l[k].lv = .slice a n c) ∧ (∃ a n c, l[k].dv = .slice a n c) ∧ (-9223372036854775808 ≤ l[k].frm ∧ l[k].frm ≤ 9223372036854775807)) ∧ ∀ j v, l[k].row[j]? = some v → w.cell? ⟨b, o + (k * 12 + j), none⟩ = some v := by
  obtain ⟨b, o, rfl, hb, cs, ⟨rfl, h1⟩, hc⟩ := h k l[k] (List.getElem?_eq_getElem hk)
  exact ⟨b, o, rfl, h1, fun j v hv => hc j v (by rw [Array.getElem?_toList]; exact hv)⟩
theorem po_In_miss {g lm : Nat} {ov : Value} {P : Po} (m : Ms) (w : World) (h : PoA w g lm ov P) (ho : P.opn = true) (hm : ¬ (m.kind = 7 ∧ m.id = P.id ∧ m.sh = P.sh ∧ m.err = 0)) (hf : m.frm ≠ P.to_) : Calls Try.prog 49 #[.pointer (some ⟨g, 0, none⟩), .agg m.row] w (MissPost w.heap.size w) := by
  by_cases h1 : m.kind = 7
  · by_cases h2 : m.id = P.id
    · by_cases h3 : m.sh = P.sh
      · exact po_In_m5 m w h ⟨ho, h1, h2, h3, fun h4 => hm ⟨h1, h2, h3, h4⟩, hf⟩
      · exact po_In_m4 m w h ⟨ho, h1, h2, h3⟩
    · exact po_In_m3 m w h ⟨ho, h1, h2⟩
  · exact po_In_m2 m w h ⟨ho, h1⟩

/-- how far a question is -/
def Ph (k : Nat) (ld pp tk : Int) (P : Po) (l : List Pm) (ov : Value) : Prop :=
  (P.opn = true ∧ tk = 0 ∧ P.age = 0 ∧ l = [⟨77, P.to_, 1, k⟩] ∧ (k = 1 ∧ P.to_ = 1 ∨ P.to_ = ld)) ∨
  (P.opn = true ∧ k = 1 ∧ tk = 1 ∧ l = [] ∧ ov = .slice none 0 0 ∧ 2 ≤ ld ∧ P.to_ = ld - 1 ∧ P.age = pp ∧ 1 ≤ pp) ∨
  (P.opn = true ∧ k = 1 ∧ 1 ≤ tk ∧ tk ≤ 2 ∧ l = [⟨77, ld, 1, k⟩] ∧ P.to_ = ld ∧ P.age = 0 ∧ 2 ≤ ld) ∨
  (P.opn = false ∧ 0 ≤ tk ∧ tk ≤ 3 ∧ l = [] ∧ ov = .slice none 0 0 ∧ P.lead 1 = some ld)
structure Pst (nn pp : Int) (k : Nat) (P : Po) : Prop where
  me : P.me = 77
  nodes : P.nodes = nn
  pat : P.pat = pp
  id : P.id = k
  sh : P.sh = 1
  l0 : P.lead 0 = none
def QRel (w0 : World) (g lm : Nat) (nn pp ld : Int) (k : Nat) (tk : Int) (w : World) : Prop :=
  ∃ P ov l, PoA w g lm ov P ∧ Own EPm 89 w0.heap.size w ov l ∧ Only (fun j => j = g ∨ j = lm) w0 w ∧ Pst nn pp k P ∧ Ph k ld pp tk P l ov
/-- between two rounds -/
def RRel (w0 : World) (g lm : Nat) (nn pp ld : Int) (k : Nat) (w : World) : Prop :=
  ∃ P, PoA w g lm (.slice none 0 0) P ∧ Only (fun j => j = g ∨ j = lm) w0 w ∧ P.me = 77 ∧ P.nodes = nn ∧ P.pat = pp ∧ P.id = k - 1 ∧ P.opn = false ∧ (k = 1 ∧ P.lead 1 = none ∨ P.lead 1 = some ld) ∧ P.lead 0 = none

theorem ph_cases {k : Nat} {ld pp : Int} {tk : Nat} {P : Po} {l : List Pm} {ov : Value} (h : Ph k ld pp tk P l ov) (hl : 1 ≤ ld) :
    (P.opn = true ∧ tk ≤ 2 ∧ l = [⟨77, ld, 1, k⟩] ∧ P.to_ = ld) ∨
    (P.opn = true ∧ k = 1 ∧ tk = 0 ∧ l = [⟨77, 1, 1, k⟩] ∧ P.to_ = 1 ∧ 2 ≤ ld ∧ P.age = 0) ∨
    (P.opn = true ∧ k = 1 ∧ tk = 1 ∧ l = [] ∧ ov = .slice none 0 0 ∧ 2 ≤ ld ∧ P.to_ = ld - 1 ∧ P.age = pp ∧ 1 ≤ pp) ∨
    (P.opn = false ∧ tk ≤ 3 ∧ l = [] ∧ ov = .slice none 0 0 ∧ P.lead 1 = some ld) := by
  rcases h with ⟨h1, h2, h3, h4, h5⟩ | ⟨h1, h2, h3, h4⟩ | ⟨h1, h2, h3, h4, h5, h6, h7, h8⟩ | ⟨h1, h2, h3, h4⟩
  · by_cases hc : P.to_ = ld
    · exact .inl ⟨h1, by omega, by rw [h4, hc], hc⟩
    · rcases h5 with ⟨h5, h6⟩ | h5
      · exact .inr (.inl ⟨h1, h5, by omega, by rw [h4, h6], h6, by omega, h3⟩)
      · exact absurd h5 hc
  · exact .inr (.inr (.inl ⟨h1, h2, by omega, h4⟩))
  · exact .inl ⟨h1, by omega, h5, h6⟩
  · exact .inr (.inr (.inr ⟨h1, by omega, h4⟩))
def XDone (w3 : World) (g lm : Nat) (nn pp ld : Int) (k : Nat) (wx : World) : Prop :=
  ∃ P, PoA wx g lm (.slice none 0 0) P ∧ Only (fun j => j = g ∨ j = lm) w3 wx ∧ Pst nn pp k P ∧ P.opn = false ∧ P.lead 1 = some ld
def YDone (w3 : World) (g lm : Nat) (nn pp ld : Int) (k : Nat) (wx : World) : Prop :=
  ∃ P, PoA wx g lm (.slice none 0 0) P ∧ Only (fun j => j = g ∨ j = lm) w3 wx ∧ Pst nn pp k P ∧ P.opn = true ∧ P.to_ = ld - 1 ∧ P.age = max 0 (pp - 1)
def Two (A B : Prop) : Prop := A ∨ B
theorem pm_all (x1 x2 x3 x8 : Int) (d : Value) (hd : d.oneCell' = true) : (#[.int .i64 6, .int .i64 x1, .int .i64 x2, .int .i64 x3, .int .i64 0, .int .i64 0, .int .i64 0, .int .i64 0, .int .i64 x8, .int .i64 0, .slice none 0 0, d] : Array Value).all (·.oneCell') = true := by
  rw [Array.all_eq_true_iff_forall_mem]
  intro u hu
  simp only [List.mem_toArray, List.mem_cons, List.not_mem_nil, or_false] at hu
  rcases hu with rfl | rfl | rfl | rfl | rfl | rfl | rfl | rfl | rfl | rfl | rfl | rfl <;> first | rfl | exact hd
theorem size_msg : (Try.prog.info? 89).map (·.size) = some 12 := by kernel_rfl

def firstLoop : Code → Option Code
  | .loop c => some c
  | .seq a b => match firstLoop a with
    | some c => some c
    | none => firstLoop b
  | .block _ c => firstLoop c
  | .scope c => firstLoop c
  | .cond _ a b => match firstLoop a with
    | some c => some c
    | none => firstLoop b
  | _ => none
/-- the body of the loop over the ticks -/
noncomputable def cpBody : Code := (((Try.f10.body.bind firstLoop).bind firstLoop).getD .skip)
end Go.Proofs.Ytmmgnbdngpkfcaa

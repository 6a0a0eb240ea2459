
/-
  A post that asks one node after the other, in memory: its row; a question is sent.
-/
import Derived.Test.YtmmgnbdngpkfcaaCoZ
namespace Go.Proofs.Ytmmgnbdngpkfcaa
open Go.RowKit
set_option linter.unusedVariables false

/-- a post -/
structure Po where
  me : Int
  nodes : Int
  pat : Int
  id : Int
  opn : Bool
  sh : Int
  kd : Int
  to_ : Int
  age : Int
  lead : Int → Option Int
def poRow (P : Po) (lm : Nat) (ov : Value) : Array Value :=
  #[.int .i64 P.me, .int .i64 P.nodes, .int .i64 P.pat, .int .i64 P.id, .bool P.opn, .int .i64 P.sh, .int .i64 P.kd, .int .i64 0, .int .i64 0, .int .i64 0, .slice none 0 0, .slice none 0 0, .int .i64 0, .bool false, .int .i64 0, .int .i64 P.to_, .int .i64 P.age, .map (some lm), ov]
structure Po.Right (P : Po) : Prop where
  nodes : 1 ≤ P.nodes ∧ P.nodes ≤ 8
  pat : 0 ≤ P.pat ∧ P.pat ≤ 15
  id : 0 ≤ P.id ∧ P.id ≤ 100
  sh : 0 ≤ P.sh ∧ P.sh ≤ 100
  kd : 0 ≤ P.kd ∧ P.kd ≤ 100
  me : 0 ≤ P.me ∧ P.me ≤ 100
  to_ : 0 ≤ P.to_ ∧ P.to_ ≤ 100
  age : 0 ≤ P.age ∧ P.age ≤ 100
structure PoA (w : World) (g lm : Nat) (ov : Value) (P : Po) : Prop where
  row : w.heap[g]? = some (.cells (poRow P lm ov) 153 (0, 0))
  map : IMap w lm 16 (fun z => (P.lead z).map (.int .i64))
  few : ∀ z, (P.lead z).isSome = true → 0 ≤ z ∧ z < 8
  ne : g ≠ lm
  right : P.Right
  ov1 : ov.oneCell' = true
section
variable {w w' : World} {g lm : Nat} {ov : Value} {P : Po}
theorem PoA.lt (h : PoA w g lm ov P) : g < w.heap.size := (Array.getElem?_eq_some_iff.1 h.row).1
theorem PoA.only {S : Nat → Prop} (h : PoA w g lm ov P) (ho : Only S w w') (h1 : ¬ S g) (h2 : ¬ S lm) : PoA w' g lm ov P :=
  ⟨(ho.block g h.lt h1).trans h.row, h.map.keep (ho.block lm h.map.lt h2), h.few, h.ne, h.right, h.ov1⟩
theorem PoA.keep (h : PoA w g lm ov P) (hb : Below w.heap.size w w') : PoA w' g lm ov P := h.only (Below.only (S := fun _ => False) hb) (fun h => h) (fun h => h)
theorem PoA.cell (h : PoA w g lm ov P) (k : Nat) {v : Value} (hv : (poRow P lm ov)[k]? = some v) : w.cell? ⟨g, k, none⟩ = some v := by simp [World.cell?, h.row, hv]
theorem PoA.fr (h : PoA w g lm ov P) (o : Nat) : w.frozen? ⟨g, o, none⟩ = false := by simp [World.frozen?, h.row]
/-- the row is written anew -/
theorem PoA.set {ov' : Value} {P' : Po} (h : PoA w g lm ov P) (ho : Only (· = g) w w') (hr : w'.heap[g]? = some (.cells (poRow P' lm ov') 153 (0, 0))) (hl : P'.lead = P.lead) (hR : P'.Right) (hv : ov'.oneCell' = true) : PoA w' g lm ov' P' :=
  ⟨hr, by rw [hl]; exact h.map.keep (ho.block lm h.map.lt (Ne.symm h.ne)), by rw [hl]; exact h.few, h.ne, hR, hv⟩
end
/-- what goes out: from whom, to whom, of which shard, its number -/
structure Pm where
  frm : Int
  to_ : Int
  sh : Int
  id : Int
def pmCells (m : Pm) (d : Value) : List Value := [.int .i64 6, .int .i64 m.frm, .int .i64 m.to_, .int .i64 m.sh, .int .i64 0, .int .i64 0, .int .i64 0, .int .i64 0, .int .i64 m.id, .int .i64 0, .slice none 0 0, d]
def EPm : Enc Pm where
  sz := 12
  rep _ _ cs m := ∃ d : Value, d.oneCell' = true ∧ cs = pmCells m d
  len h := by obtain ⟨d, _, rfl⟩ := h; rfl
  one h := by
    obtain ⟨d, hd, rfl⟩ := h
    intro u hu
    simp only [pmCells, List.mem_cons, List.not_mem_nil, or_false] at hu
    rcases hu with rfl | rfl | rfl | rfl | rfl | rfl | rfl | rfl | rfl | rfl | rfl | rfl <;> first | rfl | exact hd
  mono h _ := h
theorem ti_msgs : ElemInfo Try.prog 83 89 EPm.sz 128 := ElemInfo.mk' (z := .agg #[.int .i64 0, .int .i64 0, .int .i64 0, .int .i64 0, .int .i64 0, .int .i64 0, .int .i64 0, .int .i64 0, .int .i64 0, .int .i64 0, .slice none 0 0, .slice none 0 0]) Try.underlying83 (by kernel_rfl) rfl (by decide)
end Go.Proofs.Ytmmgnbdngpkfcaa

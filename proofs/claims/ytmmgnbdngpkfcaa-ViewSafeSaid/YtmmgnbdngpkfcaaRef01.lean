
/-
  Bytes: how they come in, how the document's code compares and copies them.
-/
import Derived.Test.YtmmgnbdngpkfcaaRows
import Derived.Test.YtmmgnbdngpkfcaaOpen
import Derived.Test.YtmmgnbdngpkfcaaMem
namespace Go.Proofs.Ytmmgnbdngpkfcaa
open Go.RowKit
set_option linter.unusedVariables false

theorem reads_bytes : Reads Try.prog 49 EBytes (bulkL (fun _ => 1)) := reads_slice (by decide) Try.underlying49 (by kernel_rfl) (reads_u8 Try.underlying5)

theorem sb_lit (w w' : World) (te g o : Nat) (cs : Array Value) (l : List (BitVec 8)) (fr : Nat × Nat) (h : w.heap[g]? = some (.cells cs te fr)) (hc : cs.toList = l.map fun c => Value.int .u8 (bv c)) : SB w (some ⟨g, 0, none⟩) l := by
  intro k x hx
  refine ⟨g, 0, rfl, trivial, [.int .u8 (bv x)], rfl, fun j v hj => ?_⟩
  have hj0 : j = 0 := by
    have := (List.getElem?_eq_some_iff.1 hj).1
    simp at this; exact this
  subst hj0
  simp at hj; subst hj
  have : cs[k]? = some (.int .u8 (bv x)) := by
    rw [← Array.getElem?_toList, hc, List.getElem?_map, hx]; rfl
  simp [World.cell?, h, EU8, this]

/-- a slice of bytes: the table's row -/
theorem ti_bytes : ElemInfo Try.prog 49 5 1 1 := ElemInfo.mk' (z := .int .u8 0) Try.underlying49 (by kernel_rfl) rfl (by decide)

set_option maxHeartbeats 400000 in
theorem ref_Same (a1 a2 : Option Addr) (n1 n2 c1 c2 : Nat) (l m : List (BitVec 8)) (w : World) (hs : RB w a1 n1 l) (ht : RB w a2 n2 m) :
    Calls Try.prog 58 #[.slice a1 n1 c1, .slice a2 n2 c2] w fun e w' => e = .returned (.bool (l == m)) ∧ w = w' := by
  go_enter Try.func58, Try.ntmps58
  go_wp2_with (first
    | (refine wpList_tostr rfl rfl rfl Try.underlying49 Try.underlying5 Try.underlying9 hs.1 hs.2 ?_)
    | (refine wpList_tostr rfl rfl rfl Try.underlying49 Try.underlying5 Try.underlying9 ht.1 ht.2 ?_))
  go_ret
  exact ⟨rfl, rfl⟩

/-- bytes in new memory -/
def NewBytes (w0 : World) (l : List (BitVec 8)) (w : World) (e : Ending) (w' : World) : Prop :=
  ∃ v, e = .returned v ∧ Own EU8 5 w0.heap.size w' v l ∧ Below w0.heap.size w0 w'

theorem own_empty {α : Type} (E : Enc α) (te : TypeId) (w : World) (h : 0 < E.sz) : Own E te w.heap.size (w.alloc (.cells #[] te (0, 0))) (.slice (some ⟨w.heap.size, 0, none⟩) 0 0) ([] : List α) :=
  .inr ⟨w.heap.size, 0, #[], rfl, Nat.le_refl _, heap_alloc_new w _, Nat.le_refl _, Nat.zero_le _, by simp, fun k x hx => by simp at hx⟩

set_option maxHeartbeats 400000 in
theorem ref_Copy (a : Option Addr) (n c : Nat) (l : List (BitVec 8)) (w : World) (hr : RB w a n l) (hl : n ≤ 140737488355328) :
    Calls Try.prog 41 #[.slice a n c] w fun e w' => ∃ v, e = .returned v ∧ Own EU8 5 w.heap.size w' v l ∧ Below w.heap.size w w' := by
  obtain ⟨rfl, hs⟩ := hr
  have hb0 : Below w.heap.size w (w.alloc (.cells #[] 5)) := (Below.refl _ _).alloc (Nat.le_refl _) _
  have hs' : Sl EU8 (fun b => some b ≠ (Value.slice (some ⟨w.heap.size, 0, none⟩) 0 0).ownBlock) (w.alloc (.cells #[] 5)) a l :=
    hs.mono (by decide) fun k _ hk => ⟨heap_alloc_old w _ hk, by simp [Value.ownBlock]; omega⟩
  go_enter Try.func41, Try.ntmps41
  go_wp2_with (refine wpList_app EU8 rfl rfl rfl rfl ti_bytes (own_empty EU8 5 w (by decide)) rfl hs' ?_ ?_ ?_ ?_)
  · simp only [List.length_nil, Nat.zero_add, maxLen]; omega
  · simp only [List.length_nil, Nat.zero_add]; omega
  · simp
  · intro v' w' ho hg hv hb
    go_wp2
    go_ret
    exact ⟨_, rfl, ho, hb0.trans hb⟩

/-- the same, the heap's size given -/
theorem ref_Copy_at (B : Nat) (a : Option Addr) (n c : Nat) (l : List (BitVec 8)) (w : World) (hB : w.heap.size = B) (hr : RB w a n l) (hl : n ≤ 140737488355328) :
    Calls Try.prog 41 #[.slice a n c] w fun e w' => ∃ v, e = .returned v ∧ Own EU8 5 B w' v l ∧ Below B w w' := by
  subst hB; exact ref_Copy a n c l w hr hl

/-- a copy that is only read -/
theorem ref_Copy_read (a : Option Addr) (n c : Nat) (l : List (BitVec 8)) (w : World) (hr : RB w a n l) (hl : n ≤ 140737488355328) :
    Calls Try.prog 41 #[.slice a n c] w fun e w' => ∃ a' c', e = .returned (.slice a' n c') ∧ RB w' a' n l ∧ Below w.heap.size w w' := by
  refine (ref_Copy a n c l w hr hl).mono ?_
  rintro e w' ⟨v, rfl, ho, hb⟩
  obtain ⟨a', c', rfl, _, _, h⟩ := ho.sl
  exact ⟨a', c', by rw [hr.1], ⟨hr.1, h⟩, hb⟩
end Go.Proofs.Ytmmgnbdngpkfcaa

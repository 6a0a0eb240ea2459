
/-
  Rows that are sorted, freed of twins, copied: the library's contracts in this proof's words.
-/
import Derived.Test.YticpbiccgnfecaaGraShelf
import Derived.Test.YticpbiccgnfecaaGraA
namespace Go.Proofs.Yticpbiccgnfecaa
open Go.RowKit
set_option linter.unusedVariables false

namespace Gr
theorem compact_rise (d : Array Int) (hs : ∀ i j : Nat, i ≤ j → j < d.size → d[i]! ≤ d[j]!) : ∀ m : Nat, m ≤ d.size →
    (Lib.compactUpTo d m).Pairwise (· < ·) ∧ ∀ x, x ∈ Lib.compactUpTo d m ↔ ∃ j, j < m ∧ d[j]! = x
  | 0, _ => ⟨by simp [Lib.compactUpTo], fun x => by simp [Lib.compactUpTo]⟩
  | m + 1, hm => by
    obtain ⟨h1, h2⟩ := compact_rise d hs m (by omega)
    rw [Lib.compactUpTo_succ]
    by_cases hk : Lib.keeps d m = true
    · rw [if_pos hk]
      constructor
      · rw [List.pairwise_append]
        refine ⟨h1, by simp, fun a ha b hb => ?_⟩
        simp at hb; subst hb
        obtain ⟨j, hj, rfl⟩ := (h2 a).1 ha
        have h3 := hs j (m - 1) (by omega) (by omega)
        have h4 := hs (m - 1) m (by omega) (by omega)
        have h5 : d[m]! ≠ d[m - 1]! := by
          have : m = 0 ∨ d[m]! ≠ d[m - 1]! := of_decide_eq_true hk
          rcases this with h | h
          · omega
          · exact h
        omega
      · intro x
        rw [List.mem_append, h2]
        simp only [List.mem_cons, List.not_mem_nil, or_false]
        constructor
        · rintro (⟨j, hj, rfl⟩ | rfl)
          · exact ⟨j, by omega, rfl⟩
          · exact ⟨m, by omega, rfl⟩
        · rintro ⟨j, hj, rfl⟩
          by_cases e : j = m
          · subst e; exact .inr rfl
          · exact .inl ⟨j, by omega, rfl⟩
    · rw [if_neg hk, List.append_nil]
      refine ⟨h1, fun x => ?_⟩
      rw [h2]
      have h5 : m ≠ 0 ∧ d[m]! = d[m - 1]! := by
        have : ¬ (m = 0 ∨ d[m]! ≠ d[m - 1]!) := fun h => hk (decide_eq_true h)
        exact ⟨fun h => this (.inl h), Classical.byContradiction fun h => this (.inr h)⟩
      constructor
      · rintro ⟨j, hj, rfl⟩; exact ⟨j, by omega, rfl⟩
      · rintro ⟨j, hj, rfl⟩
        by_cases e : j = m
        · subst e; exact ⟨j - 1, by omega, h5.2.symm⟩
        · exact ⟨j, by omega, rfl⟩
def msort (zs : List Int) : List Int := zs.mergeSort fun x y => decide (x ≤ y)
theorem msort_len (zs : List Int) : (msort zs).length = zs.length := List.length_mergeSort _
theorem mem_msort (zs : List Int) (x : Int) : x ∈ msort zs ↔ x ∈ zs := List.mem_mergeSort
theorem msort_rise (zs : List Int) : (msort zs).Pairwise (· ≤ ·) := by
  have := List.pairwise_mergeSort (le := fun x y : Int => decide (x ≤ y)) (fun a b c h1 h2 => by simp at *; omega) (fun a b => by simp; omega) zs
  exact this.imp fun h => by simpa using h
/-- the row i, as numbers -/
def rowI (n : Nat) (R : Rel) (i : Nat) : List Int := (rowN n R i).map fun (x : Nat) => (x : Int)
theorem rowI_len (n : Nat) (R : Rel) (i : Nat) : (rowI n R i).length = (rowN n R i).length := by unfold rowI; rw [List.length_map]
theorem rowI_le (n : Nat) (R : Rel) (i : Nat) : (rowI n R i).length ≤ n := by rw [rowI_len]; exact row_len n R i
theorem compact_row {zs : List Int} {n : Nat} {R : Rel} {i : Nat} (h : ∀ x : Int, x ∈ zs ↔ ∃ v : Nat, x = v ∧ v < n ∧ R i v = true) : Lib.compact (msort zs) = rowI n R i := by
  have hsz : (msort zs).toArray.size = (msort zs).length := by simp
  have hp := msort_rise zs
  have hs : ∀ i j : Nat, i ≤ j → j < (msort zs).toArray.size → (msort zs).toArray[i]! ≤ (msort zs).toArray[j]! := by
    intro i j hij hj
    have hj' : j < (msort zs).length := by simpa using hj
    rw [getElem!_pos _ i (by omega), getElem!_pos _ j hj]
    simp only [List.getElem_toArray]
    by_cases e : i = j
    · subst e; exact Int.le_refl _
    · exact List.pairwise_iff_getElem.1 hp i j (by omega) hj' (by omega)
  obtain ⟨h1, h2⟩ := compact_rise (msort zs).toArray hs (msort zs).length (by simp)
  refine rise_ext _ _ h1 ?_ fun x => ?_
  · unfold rowI
    rw [List.pairwise_map]
    exact (row_rise n R i).imp fun h => by omega
  · rw [show Lib.compact (msort zs) = Lib.compactUpTo (msort zs).toArray (msort zs).length from rfl, h2]
    have e : (∃ j, j < (msort zs).length ∧ (msort zs).toArray[j]! = x) ↔ x ∈ msort zs := by
      rw [List.mem_iff_getElem]
      constructor
      · rintro ⟨j, hj, rfl⟩; exact ⟨j, hj, by rw [getElem!_pos _ j (by simpa using hj)]; simp⟩
      · rintro ⟨j, hj, rfl⟩; exact ⟨j, hj, by rw [getElem!_pos _ j (by simpa using hj)]; simp⟩
    rw [e, mem_msort, h]
    unfold rowI
    rw [List.mem_map]
    constructor
    · rintro ⟨v, rfl, hv, hr⟩; exact ⟨v, mem_row.2 ⟨hv, hr⟩, rfl⟩
    · rintro ⟨v, hv, rfl⟩; exact ⟨v, rfl, (mem_row.1 hv).1, (mem_row.1 hv).2⟩
end Gr

theorem ownI_range {te base : Nat} {w : World} {v : Value} {l : List Int} (h : Own EInt te base w v l) : ∀ x ∈ l, -9223372036854775808 ≤ x ∧ x ≤ 9223372036854775807 := by
  intro x hx
  obtain ⟨k, hk, rfl⟩ := List.mem_iff_getElem.1 hx
  obtain ⟨a, c, _, _, _, hs⟩ := h.sl
  obtain ⟨b, o, _, _, h1, h2⟩ := SlI.at hs k hk
  exact ⟨h1, h2⟩
theorem Own.takeI {te base : Nat} {w : World} {a : Option Addr} {n c : Nat} {l : List Int} (h : Own EInt te base w (.slice a n c) l) {k : Nat} (hk : k ≤ l.length) : Own EInt te base w (.slice a k c) (l.take k) := by
  rcases h with ⟨h0, rfl⟩ | ⟨g, cap, cur, hv, hg, hh, h1, h2, h3, h4⟩
  · injection h0 with e1 e2 e3
    subst e1; subst e3
    simp at hk; subst hk
    exact .inl ⟨rfl, by simp⟩
  · injection hv with e1 e2 e3
    subst e1; subst e3
    refine .inr ⟨g, c, cur, by rw [List.length_take, Nat.min_eq_left hk], hg, hh, by rw [List.length_take]; omega, h2, h3, fun i x hi => ?_⟩
    rw [List.getElem?_take] at hi
    split at hi
    · exact h4 i x hi
    · cases hi
theorem own_put {te base : Nat} {w : World} {g n c : Nat} {l l' : List Int} (h : Own EInt te base w (.slice (some ⟨g, 0, none⟩) n c) l) (hl : l'.length = l.length) (hr : ∀ x ∈ l', -9223372036854775808 ≤ x ∧ x ≤ 9223372036854775807) (q : Nat) (os : Array Obj) :
    Own EInt te base (Sort.grow (Sort.putRow (Value.int .i64) (Sort.ahead w q) g 0 l'.toArray) os) (.slice (some ⟨g, 0, none⟩) n c) l' ∧ w.grownBy (Sort.grow (Sort.putRow (Value.int .i64) (Sort.ahead w q) g 0 l'.toArray) os) (some g) := by
  rcases h with ⟨h0, _⟩ | ⟨g', cap, cur, hv, hg, hh, h1, h2, h3, h4⟩
  · cases h0
  · injection hv with e1 e2 e3
    injection e1 with e1
    injection e1 with e1
    subst e1; subst e2; subst e3
    have hlt : g < w.heap.size := (Array.getElem?_eq_some_iff.1 hh).1
    have hz : cur.size = c := by rw [h3]; show c * 1 = c; omega
    constructor
    · refine .inr ⟨g, c, Sort.putCells (Value.int .i64) 0 l'.toArray cur, by rw [hl], hg, ?_, by omega, h2, by simp [Sort.putCells, h3], fun k x hx => ?_⟩
      · rw [Sort.heap_grow_old _ _ (by simpa [Sort.putRow, Sort.mapBlock, Sort.ahead] using hlt)]
        simp [Sort.putRow, Sort.mapBlock, Sort.ahead, Array.getElem?_modify, hh, Sort.onCells]
      · obtain ⟨hk, rfl⟩ := List.getElem?_eq_some_iff.1 hx
        refine ⟨[.int .i64 l'[k]], ⟨rfl, hr _ (List.getElem_mem hk)⟩, fun j u hj => ?_⟩
        have hj0 : j = 0 := by have := (List.getElem?_eq_some_iff.1 hj).1; simp at this; exact this
        subst hj0
        simp at hj; subst hj
        have hkc : k < cur.size := by omega
        show (Sort.putCells (Value.int .i64) 0 l'.toArray cur)[k * 1 + 0]? = _
        rw [Nat.mul_one, Nat.add_zero]
        simp [Sort.putCells, Array.getElem?_mapIdx, Array.getElem?_eq_getElem hkc, hk]
    · refine ⟨rfl, rfl, rfl, by simp [Sort.putRow, Sort.mapBlock, Sort.ahead], fun k hk hne => ?_⟩
      rw [Sort.heap_grow_old _ _ (by simpa [Sort.putRow, Sort.mapBlock, Sort.ahead] using hk)]
      simp only [Sort.putRow, Sort.mapBlock, Sort.ahead, Array.getElem?_modify]
      rw [if_neg fun e => hne (by rw [e])]
theorem own_holds {te base : Nat} {w : World} {g n c : Nat} {l : List Int} (h : Own EInt te base w (.slice (some ⟨g, 0, none⟩) n c) l) : Sort.Holds (Value.int .i64) w g 0 l.toArray := by
  rcases h with ⟨h0, _⟩ | ⟨g', cap, cur, hv, hg, hh, h1, h2, h3, h4⟩
  · cases h0
  · injection hv with e1 e2 e3
    injection e1 with e1
    injection e1 with e1
    subst e1; subst e2; subst e3
    intro j hj
    have hj' : j < l.length := by simpa using hj
    obtain ⟨cs, hr, hc⟩ := h4 j l[j] (List.getElem?_eq_getElem hj')
    obtain ⟨hr', _⟩ := hr
    subst hr'
    have h5 := hc 0 _ rfl
    have h6 : cur[j]? = some (.int .i64 l[j]) := by simpa [EInt] using h5
    refine ⟨?_, by simp [World.frozen?, hh]⟩
    rw [getElem!_pos _ j hj]
    simp [World.cell?, hh, h6]
theorem sort_own {te base : Nat} {w : World} {v : Value} {l : List Int} (h : Own EInt te base w v l) (hl : l.length ≤ 1000000) :
    Calls Try.prog 32 #[v] w fun e w' => e = .returned (.tuple #[]) ∧ Own EInt te base w' v (Gr.msort l) ∧ w.grownBy w' v.ownBlock := by
  rcases id h with ⟨rfl, rfl⟩ | ⟨g, cap, cur, rfl, hg, hh, h1, h2, h3, h4⟩
  · refine (shf_slices_Sort_int_none none 0 w).mono ?_
    rintro e w' ⟨rfl, rfl⟩
    refine ⟨rfl, ?_, World.grownBy.refl _ _⟩
    have : Gr.msort [] = [] := by simp [Gr.msort]
    rw [this]; exact h
  · by_cases h0 : l.length = 0
    · have hl0 : l = [] := List.eq_nil_of_length_eq_zero h0
      subst hl0
      refine (shf_slices_Sort_int_none _ cap w).mono ?_
      rintro e w' ⟨rfl, rfl⟩
      refine ⟨rfl, ?_, World.grownBy.refl _ _⟩
      have : Gr.msort [] = [] := by simp [Gr.msort]
      rw [this]; exact h
    · refine (shf_slices_Sort_int g 0 cap l w (own_holds h) (Array.getElem?_eq_some_iff.1 hh).1 (by omega)).mono ?_
      rintro e w' ⟨rfl, q, os, rfl⟩
      obtain ⟨p1, p2⟩ := own_put h (Gr.msort_len l) (fun x hx => ownI_range h x ((Gr.mem_msort l x).1 hx)) q os
      exact ⟨rfl, p1, p2⟩
theorem compact_own {te base : Nat} {w : World} {v : Value} {l : List Int} (h : Own EInt te base w v l) (hl : l.length ≤ 1000000) (hr : ∀ x ∈ Lib.compact l, x ∈ l) :
    Calls Try.prog 33 #[v] w fun e w' => ∃ v', e = .returned v' ∧ Own EInt te base w' v' (Lib.compact l) ∧ w.grownBy w' v.ownBlock ∧ v'.ownBlock = v.ownBlock := by
  have hc0 : Lib.compact ([] : List Int) = [] := rfl
  rcases id h with ⟨rfl, rfl⟩ | ⟨g, cap, cur, rfl, hg, hh, h1, h2, h3, h4⟩
  · refine (shf_slices_Compact_int_empty none 0 w).mono ?_
    rintro e w' ⟨rfl, rfl⟩
    exact ⟨_, rfl, by rw [hc0]; exact h, World.grownBy.refl _ _, rfl⟩
  · by_cases h0 : l.length = 0
    · have hl0 : l = [] := List.eq_nil_of_length_eq_zero h0
      subst hl0
      refine (shf_slices_Compact_int_empty _ cap w).mono ?_
      rintro e w' ⟨rfl, rfl⟩
      exact ⟨_, rfl, by rw [hc0]; exact h, World.grownBy.refl _ _, rfl⟩
    · refine (shf_slices_Compact_int g 0 cap l w (own_holds h) (by omega) h1).mono ?_
      rintro e w' ⟨rfl, q, rfl⟩
      have hle : (Lib.compact l).length ≤ l.length := by
        unfold Lib.compact Lib.compactUpTo; rw [List.length_map]
        have := List.length_filter_le (Lib.keeps l.toArray) (List.range l.length); simpa using this
      obtain ⟨p1, p2⟩ := own_put h (l' := Lib.compact l ++ List.replicate (l.length - (Lib.compact l).length) 0) (by simp; omega) (fun x hx => by
        rcases List.mem_append.1 hx with hx | hx
        · exact ownI_range h x (hr x hx)
        · rw [List.eq_of_mem_replicate hx]; decide) q #[]
      rw [Sort.grow_empty] at p1 p2
      refine ⟨_, rfl, ?_, p2, rfl⟩
      have := Own.takeI p1 (k := (Lib.compact l).length) (by simp)
      simpa using this
theorem compact_mem (l : List Int) : ∀ x ∈ Lib.compact l, x ∈ l := by
  intro x hx
  unfold Lib.compact Lib.compactUpTo at hx
  rw [List.mem_map] at hx
  obtain ⟨j, hj, rfl⟩ := hx
  have hj' : j < l.length := List.mem_range.1 (List.mem_filter.1 hj).1
  rw [getElem!_pos _ j (by simpa using hj')]
  simp
end Go.Proofs.Yticpbiccgnfecaa

/-
  Memory read as data: encodings of elements in cells ('Enc'), slices that are read ('Sl'), slices that the call itself owns and appends to ('Own'), what may have turned ('Mod'); the laws of append, of slicing, of a loop's element, over whatever program.
-/
import Derived.Test.YtmmgnbdngpkfcaaVwC
namespace Go.Proofs.Ytmmgnbdngpkfcaa
open Go.RowKit
set_option linter.unusedVariables false

structure Enc (α : Type) where
  sz : Nat
  rep : (Nat → Prop) → World → List Value → α → Prop
  len : ∀ {ok : Nat → Prop} {w : World} {cs : List Value} {x : α}, rep ok w cs x → cs.length = sz
  one : ∀ {ok : Nat → Prop} {w : World} {cs : List Value} {x : α}, rep ok w cs x → ∀ u ∈ cs, u.oneCell' = true
  mono : ∀ {ok ok' : Nat → Prop} {w w' : World} {cs : List Value} {x : α}, rep ok w cs x → (∀ k, ok k → k < w.heap.size → w'.heap[k]? = w.heap[k]? ∧ ok' k) → rep ok' w' cs x

/-- a slice's elements, from its address on -/
def Sl {α : Type} (E : Enc α) (ok : Nat → Prop) (w : World) (a : Option Addr) (l : List α) : Prop :=
  ∀ k x, l[k]? = some x → ∃ b o, a = some ⟨b, o, none⟩ ∧ ok b ∧ ∃ cs, E.rep ok w cs x ∧ ∀ j v, cs[j]? = some v → w.cell? ⟨b, o + (k * E.sz + j), none⟩ = some v

theorem cell_lt {w : World} {b o : Nat} {v : Value} (h : w.cell? ⟨b, o, none⟩ = some v) : b < w.heap.size := World.block_lt_of_cell? w ⟨b, o, none⟩ h
theorem cell_keep {w w' : World} {b o : Nat} (h : w'.heap[b]? = w.heap[b]?) : w'.cell? ⟨b, o, none⟩ = w.cell? ⟨b, o, none⟩ := World.cell?_of_block (a := ⟨b, o, none⟩) h

theorem Sl.mono {α : Type} {E : Enc α} {ok ok' : Nat → Prop} {w w' : World} {a : Option Addr} {l : List α} (hs : 0 < E.sz) (h : Sl E ok w a l)
    (hk : ∀ k, ok k → k < w.heap.size → w'.heap[k]? = w.heap[k]? ∧ ok' k) : Sl E ok' w' a l := by
  intro k x hx
  obtain ⟨b, o, rfl, hb, cs, hr, hc⟩ := h k x hx
  have hl := E.len hr
  have hlt : b < w.heap.size := by
    have h0 : cs[0]? = some cs[0] := List.getElem?_eq_getElem (by omega)
    exact cell_lt (hc 0 _ h0)
  obtain ⟨e, ok1⟩ := hk b hb hlt
  refine ⟨b, o, rfl, ok1, cs, E.mono hr hk, fun j v hj => ?_⟩
  rw [cell_keep e]; exact hc j v hj

theorem Sl.nil {α : Type} (E : Enc α) (ok : Nat → Prop) (w : World) (a : Option Addr) : Sl E ok w a [] := fun k x h => by simp at h

/-- below the heap's size as it was, nothing has turned -/
theorem Sl.below {α : Type} {E : Enc α} {ok : Nat → Prop} {w w' : World} {a : Option Addr} {l : List α} (hs : 0 < E.sz) (h : Sl E ok w a l) (hb : Below w.heap.size w w') : Sl E ok w' a l :=
  h.mono hs fun k ho hk => ⟨hb.block k hk, ho⟩

/-- a cell that was there reads as it did, whatever has come behind -/
theorem cell_thru {w w' : World} {b o : Nat} {v : Value} (h : w.cell? ⟨b, o, none⟩ = some v) (hb : Below w.heap.size w w') : w'.cell? ⟨b, o, none⟩ = some v := by
  rw [hb.cell (p := ⟨b, o, none⟩) (cell_lt h)]; exact h

/-- a store into a block turns that one cell of it -/
theorem heap_set {w : World} {g : Nat} {cs : Array Value} {t : TypeId} {fr : Nat × Nat} (h : w.heap[g]? = some (.cells cs t fr)) (k : Nat) (u : Value) :
    (w.setCell ⟨g, k, none⟩ u).heap[g]? = some (.cells (cs.setIfInBounds k u) t fr) := by
  simp [World.setCell, Array.getElem?_modify, h]

def EU8 : Enc (BitVec 8) where
  sz := 1
  rep _ _ cs x := cs = [.int .u8 (bv x)]
  len h := by rw [h]; rfl
  one h := by intro u hu; rw [h] at hu; simp at hu; subst hu; rfl
  mono h _ := h

def EInt : Enc Int where
  sz := 1
  rep _ _ cs x := cs = [.int .i64 x] ∧ -9223372036854775808 ≤ x ∧ x ≤ 9223372036854775807
  len h := by rw [h.1]; rfl
  one h := by intro u hu; rw [h.1] at hu; simp at hu; subst hu; rfl
  mono h _ := h

/-- two parts of a struct, one behind the other -/
def EPair {α β : Type} (A : Enc α) (B : Enc β) : Enc (α × β) where
  sz := A.sz + B.sz
  rep ok w cs x := ∃ c1 c2, cs = c1 ++ c2 ∧ A.rep ok w c1 x.1 ∧ B.rep ok w c2 x.2
  len h := by obtain ⟨c1, c2, rfl, h1, h2⟩ := h; rw [List.length_append, A.len h1, B.len h2]
  one h := by
    obtain ⟨c1, c2, rfl, h1, h2⟩ := h
    intro u hu
    rcases List.mem_append.1 hu with hu | hu
    · exact A.one h1 u hu
    · exact B.one h2 u hu
  mono h hk := by obtain ⟨c1, c2, e, h1, h2⟩ := h; exact ⟨c1, c2, e, A.mono h1 hk, B.mono h2 hk⟩

/-- a slice in a cell; 'hs': its elements take room -/
def ESlice {α : Type} (E : Enc α) (hs : 0 < E.sz) : Enc (List α) where
  sz := 1
  rep ok w cs l := ∃ a c, cs = [.slice a l.length c] ∧ l.length ≤ c ∧ c ≤ maxLen ∧ Sl E ok w a l
  len h := by obtain ⟨a, c, e, _⟩ := h; rw [e]; rfl
  one h := by obtain ⟨a, c, e, _⟩ := h; intro u hu; rw [e] at hu; simp at hu; subst hu; rfl
  mono h hk := by obtain ⟨a, c, e, h1, h2, h3⟩ := h; exact ⟨a, c, e, h1, h2, h3.mono hs hk⟩

def EBytes : Enc (List (BitVec 8)) := ESlice EU8 (by decide)
/-- bytes that are read -/
abbrev SB (w : World) (a : Option Addr) (l : List (BitVec 8)) : Prop := Sl EU8 (fun _ => True) w a l

theorem Sl.any {α : Type} {E : Enc α} {ok : Nat → Prop} {w : World} {a : Option Addr} {l : List α} (hs : 0 < E.sz) (h : Sl E ok w a l) : Sl E (fun _ => True) w a l :=
  h.mono hs fun k _ _ => ⟨rfl, trivial⟩

/-- the k-th of bytes: where it lies -/
theorem SB.at {ok : Nat → Prop} {w : World} {a : Option Addr} {l : List (BitVec 8)} (h : Sl EU8 ok w a l) (k : Nat) (hk : k < l.length) :
    ∃ b o, a = some ⟨b, o, none⟩ ∧ w.cell? ⟨b, o + k, none⟩ = some (.int .u8 (bv l[k])) := by
  obtain ⟨b, o, rfl, _, cs, hr, hc⟩ := h k l[k] (List.getElem?_eq_getElem hk)
  refine ⟨b, o, rfl, ?_⟩
  have hr' : cs = [.int .u8 (bv l[k])] := hr
  subst hr'
  have := hc 0 _ rfl
  simpa [EU8] using this

/-- all cells of bytes, where there is one -/
theorem SB.all {ok : Nat → Prop} {w : World} {a : Option Addr} {l : List (BitVec 8)} (h : Sl EU8 ok w a l) (hne : 0 < l.length) :
    ∃ b o, a = some ⟨b, o, none⟩ ∧ ∀ k (hk : k < l.length), w.cell? ⟨b, o + k, none⟩ = some (.int .u8 (bv l[k])) := by
  obtain ⟨b, o, rfl, _⟩ := SB.at h 0 hne
  refine ⟨b, o, rfl, fun k hk => ?_⟩
  obtain ⟨b', o', e, hc⟩ := SB.at h k hk
  injection e with e; injection e with e1 e2
  subst e1; subst e2; exact hc

/-- a part of a slice -/
theorem Sl.part {α : Type} {E : Enc α} {ok : Nat → Prop} {w : World} {b o : Nat} {l : List α} (h : Sl E ok w (some ⟨b, o, none⟩) l) (i n : Nat) : Sl E ok w (some ⟨b, o + i * E.sz, none⟩) ((l.drop i).take n) := by
  intro k x hx
  rw [List.getElem?_take] at hx
  split at hx
  · rw [List.getElem?_drop] at hx
    obtain ⟨b', o', e, hb, cs, hr, hc⟩ := h (i + k) x hx
    injection e with e; injection e with e1 e2
    subst e1; subst e2
    refine ⟨b, o + i * E.sz, rfl, hb, cs, hr, fun j v hj => ?_⟩
    have := hc j v hj
    rw [Nat.add_mul] at this
    rw [show o + i * E.sz + (k * E.sz + j) = o + (i * E.sz + k * E.sz + j) by omega]
    exact this
  · cases hx

/-- a slice expression's address, in the walk's form -/
theorem Sl.cut {α : Type} {E : Enc α} {ok : Nat → Prop} {w : World} {a : Option Addr} {l : List α} {c i j : Nat} (h : Sl E ok w a l) (hij : i ≤ j) (hjl : j ≤ l.length) (hlc : l.length ≤ c) (cut : Bool) (hcut : cut = true → i = j) :
    Sl E ok w (if cut then a else a.map (·.add (i * E.sz))) ((l.drop i).take (j - i)) := by
  by_cases hj : i = j
  · subst hj; simp; exact Sl.nil _ _ _ _
  · have hlt : i < l.length := by omega
    obtain ⟨b, o, rfl, _⟩ := h i l[i] (List.getElem?_eq_getElem hlt)
    have hc : cut = false := by cases cut with
      | false => rfl
      | true => exact absurd (hcut rfl) hj
    subst hc
    simp only [Option.map_some, Addr.add_lit, Bool.false_eq_true, if_false]
    exact h.part i (j - i)

/-- a slice of length n that is read as l -/
def RS {α : Type} (E : Enc α) (w : World) (a : Option Addr) (n : Nat) (l : List α) : Prop := n = l.length ∧ Sl E (fun _ => True) w a l
abbrev RB (w : World) (a : Option Addr) (n : Nat) (l : List (BitVec 8)) : Prop := RS EU8 w a n l
theorem RS.below {α : Type} {E : Enc α} {w w' : World} {a : Option Addr} {n : Nat} {l : List α} (hs : 0 < E.sz) (h : RS E w a n l) (hb : Below w.heap.size w w') : RS E w' a n l := ⟨h.1, h.2.below hs hb⟩
theorem RB.below {w w' : World} {a : Option Addr} {n : Nat} {l : List (BitVec 8)} (h : RB w a n l) (hb : Below w.heap.size w w') : RB w' a n l := RS.below (by decide) h hb
theorem RB.nil (w : World) (a : Option Addr) : RB w a 0 [] := ⟨rfl, Sl.nil _ _ _ _⟩
theorem RB.take {ok : Nat → Prop} {w : World} {a : Option Addr} {l : List (BitVec 8)} (h : Sl EU8 ok w a l) {k : Nat} (hk : k ≤ l.length) : RB w a k (l.take k) := by
  refine ⟨by simp; omega, fun i x hx => ?_⟩
  rw [List.getElem?_take] at hx
  split at hx
  · exact (h.any (by decide)) i x hx
  · cases hx
theorem RB.drop {ok : Nat → Prop} {w : World} {a : Option Addr} {l : List (BitVec 8)} (h : Sl EU8 ok w a l) {k c : Nat} (hk : k ≤ l.length) (hc : l.length ≤ c) : RB w (if c = k then a else Option.map (fun x => x.add k) a) (l.length - k) (l.drop k) := by
  refine ⟨by simp, ?_⟩
  have := (h.any (by decide)).cut hk (Nat.le_refl _) hc (decide (c = k)) (by simp; omega)
  simp only [decide_eq_true_eq] at this
  rw [List.take_of_length_le (by simp)] at this
  simpa [EU8] using this
theorem drewN_heap (w : World) : ∀ n, (w.drewN n).heap = w.heap
  | 0 => rfl
  | n + 1 => by simp [World.drewN]
theorem Sl.heap {α : Type} {E : Enc α} {ok : Nat → Prop} {w w' : World} {a : Option Addr} {l : List α} (hs : 0 < E.sz) (h : Sl E ok w a l) (hh : w'.heap = w.heap) : Sl E ok w' a l :=
  h.mono hs fun k ho hk => ⟨by rw [hh], ho⟩
theorem RB.drewN {w : World} {a : Option Addr} {n : Nat} {l : List (BitVec 8)} (h : RB w a n l) (k : Nat) : RB (w.drewN k) a n l := ⟨h.1, h.2.heap (by decide) (drewN_heap w k)⟩

/-- what is told of an element type -/
structure ElemInfo (P : Program) (t te : TypeId) (sz bytes : Nat) : Prop where
  under : P.underlying t = some (.slice te)
  info : ∃ i z, P.info? te = some i ∧ i.zero = some z ∧ i.size = sz ∧ i.bytes = bytes ∧ z.cells.size = sz
  pos : 0 < sz
theorem ElemInfo.mk' {P : Program} {t te : TypeId} {sz bytes : Nat} {z : Value} (h1 : P.underlying t = some (.slice te)) (h2 : (P.info? te).map (fun i => (i.zero, i.size, i.bytes)) = some (some z, sz, bytes)) (h3 : z.cells.size = sz) (h4 : 0 < sz) : ElemInfo P t te sz bytes := by
  obtain ⟨i, a, b, c, d⟩ := info_parts h2
  exact ⟨h1, ⟨i, z, a, b, c, d, h3⟩, h4⟩

/-- a slice that the call owns: nil, or at the head of a block from 'base' on; what its elements hold besides lies in other blocks -/
def Own {α : Type} (E : Enc α) (te : TypeId) (base : Nat) (w : World) (v : Value) (l : List α) : Prop :=
  (v = .slice none 0 0 ∧ l = []) ∨ ∃ g cap cur, v = .slice (some ⟨g, 0, none⟩) l.length cap ∧ base ≤ g ∧ w.heap[g]? = some (.cells cur te (0, 0)) ∧ l.length ≤ cap ∧ cap ≤ maxLen ∧ cur.size = cap * E.sz ∧
    ∀ k x, l[k]? = some x → ∃ cs, E.rep (· ≠ g) w cs x ∧ ∀ j u, cs[j]? = some u → cur[k * E.sz + j]? = some u

theorem Own.nil {α : Type} (E : Enc α) (te : TypeId) (base : Nat) (w : World) : Own E te base w (.slice none 0 0) [] := .inl ⟨rfl, rfl⟩

theorem Own.lt {α : Type} {E : Enc α} {te : TypeId} {base : Nat} {w : World} {v : Value} {l : List α} (h : Own E te base w v l) : ∀ g, v.ownBlock = some g → base ≤ g ∧ g < w.heap.size := by
  intro g hg
  rcases h with ⟨rfl, _⟩ | ⟨g', cap, cur, rfl, hb, hh, _⟩
  · simp [Value.ownBlock] at hg
  · simp [Value.ownBlock] at hg; subst hg
    exact ⟨hb, (Array.getElem?_eq_some_iff.1 hh).1⟩

theorem Own.base {α : Type} {E : Enc α} {te : TypeId} {base base' : Nat} {w : World} {v : Value} {l : List α} (h : Own E te base w v l) (hb : base' ≤ base) : Own E te base' w v l := by
  rcases h with h | ⟨g, cap, cur, hv, hg, r⟩
  · exact .inl h
  · exact .inr ⟨g, cap, cur, hv, Nat.le_trans hb hg, r⟩

/-- what is owned, while its own block and what its elements hold stay -/
theorem Own.keep {α : Type} {E : Enc α} {te : TypeId} {base : Nat} {w w' : World} {v : Value} {l : List α} (h : Own E te base w v l)
    (hk : ∀ k, k < w.heap.size → w'.heap[k]? = w.heap[k]?) : Own E te base w' v l := by
  rcases h with h | ⟨g, cap, cur, hv, hg, hh, h1, h2, h3, h4⟩
  · exact .inl h
  · refine .inr ⟨g, cap, cur, hv, hg, ?_, h1, h2, h3, fun k x hx => ?_⟩
    · rw [hk g (Array.getElem?_eq_some_iff.1 hh).1]; exact hh
    · obtain ⟨cs, hr, hc⟩ := h4 k x hx
      exact ⟨cs, E.mono hr fun k ho hlt => ⟨hk k hlt, ho⟩, hc⟩
theorem Own.below {α : Type} {E : Enc α} {te : TypeId} {base : Nat} {w w' : World} {v : Value} {l : List α} (h : Own E te base w v l) (hb : Below w.heap.size w w') : Own E te base w' v l :=
  h.keep fun k hk => hb.block k hk

/-- one element in a block of its own -/
theorem sl_one {α : Type} {E : Enc α} {ok : Nat → Prop} {w : World} {g te : Nat} {fr : Nat × Nat} {cs : Array Value} {x : α} (hW : w.heap[g]? = some (.cells cs te fr)) (hr : E.rep ok w cs.toList x) (hok : ok g) : Sl E ok w (some ⟨g, 0, none⟩) [x] := by
  intro k y hy
  have hk : k = 0 := by have := (List.getElem?_eq_some_iff.1 hy).1; simp at this; exact this
  subst hk
  simp at hy; subst hy
  refine ⟨g, 0, rfl, hok, cs.toList, hr, fun j v hj => ?_⟩
  simp at hj
  simp [World.cell?, hW, hj]

/-- bytes in a block, from its head on -/
theorem sl_cells {ok : Nat → Prop} {w : World} {g te : Nat} {fr : Nat × Nat} {cs : Array Value} {l : List (BitVec 8)} (h : w.heap[g]? = some (.cells cs te fr)) (hc : cs.toList = l.map fun c => Value.int .u8 (bv c)) (hok : ok g) : Sl EU8 ok w (some ⟨g, 0, none⟩) l := by
  intro k x hx
  refine ⟨g, 0, rfl, hok, [.int .u8 (bv x)], rfl, fun j v hj => ?_⟩
  have hj0 : j = 0 := by
    have := (List.getElem?_eq_some_iff.1 hj).1
    simp at this; exact this
  subst hj0
  simp at hj; subst hj
  have : cs[k]? = some (.int .u8 (bv x)) := by
    rw [← Array.getElem?_toList, hc, List.getElem?_map, hx]; rfl
  simp [World.cell?, h, EU8, this]

/-- a new block is none that is owned -/
theorem Own.fresh {α : Type} {E : Enc α} {te : TypeId} {base : Nat} {w : World} {v : Value} {l : List α} (h : Own E te base w v l) : some w.heap.size ≠ v.ownBlock := by
  intro e
  have := (h.lt _ e.symm).2
  omega

/-- a byte of what is owned: its cell, and that it may be written -/
theorem Own.at {te : TypeId} {base : Nat} {w : World} {a : Option Addr} {n c : Nat} {l : List (BitVec 8)} (h : Own EU8 te base w (.slice a n c) l) (k : Nat) (hk : k < l.length) :
    ∃ g, a = some ⟨g, 0, none⟩ ∧ base ≤ g ∧ w.cell? ⟨g, k, none⟩ = some (.int .u8 (bv l[k])) ∧ w.frozen? ⟨g, k, none⟩ = false := by
  rcases h with ⟨_, rfl⟩ | ⟨g, cap, cur, hv, hg, hh, h1, h2, h3, h4⟩
  · simp at hk
  · injection hv with e1 e2 e3
    obtain ⟨cs, hr, hc⟩ := h4 k l[k] (List.getElem?_eq_getElem hk)
    have hr' : cs = [.int .u8 (bv l[k])] := hr
    subst hr'
    have := hc 0 _ rfl
    refine ⟨g, e1, hg, ?_, by simp [World.frozen?, hh]⟩
    simp [World.cell?, hh]
    simpa [EU8] using this

/-- a byte of what is owned is written -/
theorem Own.set {te : TypeId} {base : Nat} {w : World} {g n c : Nat} {l : List (BitVec 8)} (h : Own EU8 te base w (.slice (some ⟨g, 0, none⟩) n c) l) (k : Nat) (x : BitVec 8) :
    Own EU8 te base (w.setCell ⟨g, k, none⟩ (.int .u8 (bv x))) (.slice (some ⟨g, 0, none⟩) n c) (l.set k x) := by
  rcases h with ⟨h0, _⟩ | ⟨g', cap, cur, hv, hg, hh, h1, h2, h3, h4⟩
  · cases h0
  · injection hv with e1 e2 e3
    injection e1 with e1
    injection e1 with e1
    subst e1; subst e2; subst e3
    refine .inr ⟨g, c, cur.setIfInBounds k (.int .u8 (bv x)), by simp, hg, ?_, by simpa using h1, h2, by simpa using h3, fun i y hi => ?_⟩
    · simp [World.setCell, Array.getElem?_modify, hh]
    · rw [List.getElem?_set] at hi
      refine ⟨[.int .u8 (bv y)], rfl, fun j u hj => ?_⟩
      have hj0 : j = 0 := by have := (List.getElem?_eq_some_iff.1 hj).1; simp at this; exact this
      subst hj0
      simp at hj; subst hj
      by_cases hk : k = i
      · subst hk
        rw [if_pos rfl] at hi
        split at hi
        · rename_i hlt
          simp at hi; subst hi
          have : k < cur.size := by rw [h3]; simp [EU8]; omega
          simp [EU8, this]
        · cases hi
      · rw [if_neg hk] at hi
        obtain ⟨cs, hr, hc⟩ := h4 i y hi
        have hr' : cs = [.int .u8 (bv y)] := hr
        subst hr'
        have := hc 0 _ rfl
        simp [EU8, hk] at this ⊢
        exact this

/-- what is owned can be read -/
theorem Own.sl {α : Type} {E : Enc α} {te : TypeId} {base : Nat} {w : World} {v : Value} {l : List α} (h : Own E te base w v l) :
    ∃ a c, v = .slice a l.length c ∧ l.length ≤ c ∧ c ≤ maxLen ∧ Sl E (fun _ => True) w a l := by
  rcases h with ⟨rfl, rfl⟩ | ⟨g, cap, cur, rfl, hg, hh, h1, h2, h3, h4⟩
  · exact ⟨none, 0, rfl, Nat.le_refl _, Nat.zero_le _, Sl.nil _ _ _ _⟩
  · refine ⟨some ⟨g, 0, none⟩, cap, rfl, h1, h2, fun k x hx => ?_⟩
    obtain ⟨cs, hr, hc⟩ := h4 k x hx
    refine ⟨g, 0, rfl, trivial, cs, E.mono hr fun k _ _ => ⟨rfl, trivial⟩, fun j v hj => ?_⟩
    have := hc j v hj
    simp [World.cell?, hh, this]

/-- what is owned, with its length by another name -/
theorem Own.shape {α : Type} {E : Enc α} {te : TypeId} {base : Nat} {w : World} {v : Value} {l : List α} (h : Own E te base w v l) (n : Nat) (hn : n = l.length) :
    ∃ a c, v = .slice a n c ∧ n ≤ c ∧ c ≤ maxLen ∧ RS E w a n l ∧ Own E te base w (.slice a n c) l := by
  subst hn
  obtain ⟨a, c, rfl, h1, h2, h3⟩ := h.sl
  exact ⟨a, c, rfl, h1, h2, ⟨rfl, h3⟩, h⟩

/-- for elements that lie in their own cells alone, what is owned is what the kit's word says -/
theorem Own.row {α : Type} {E : Enc α} {te : TypeId} {base : Nat} {w : World} {v : Value} {l : List α} (h : Own E te base w v l) :
    ∃ xs, w.ownsRow base te E.sz v l.length xs ∧ ∀ k x, l[k]? = some x → ∃ cs, E.rep (fun b => some b ≠ v.ownBlock) w cs x ∧ ∀ j u, cs[j]? = some u → xs[k * E.sz + j]? = some u := by
  rcases h with ⟨rfl, rfl⟩ | ⟨g, cap, cur, rfl, hg, hh, h1, h2, h3, h4⟩
  · exact ⟨[], World.ownsRow_nil _ _ _ _, fun k x hx => by simp at hx⟩
  · have hle : l.length * E.sz ≤ cur.size := by rw [h3]; exact Nat.mul_le_mul_right _ h1
    refine ⟨cur.toList.take (l.length * E.sz), ⟨by simp; omega, .inr ⟨g, cap, cur, rfl, hg, hh, h1, h2, h3, rfl⟩⟩, fun k x hx => ?_⟩
    obtain ⟨cs, hr, hc⟩ := h4 k x hx
    refine ⟨cs, E.mono hr fun b hb _ => ⟨rfl, by simp [Value.ownBlock]; exact hb⟩, fun j u hj => ?_⟩
    have hkl : k < l.length := (List.getElem?_eq_some_iff.1 hx).1
    have hjl : j < E.sz := by rw [← E.len hr]; exact (List.getElem?_eq_some_iff.1 hj).1
    have hlt : k * E.sz + j < l.length * E.sz := by
      have := Nat.mul_le_mul_right E.sz (show k + 1 ≤ l.length by omega)
      rw [Nat.add_mul] at this; omega
    rw [List.getElem?_take, if_pos hlt]
    simpa using hc j u hj

theorem Own.of_row {α : Type} {E : Enc α} {te : TypeId} {base : Nat} {w : World} {v : Value} {l : List α} {xs : List Value} (h : w.ownsRow base te E.sz v l.length xs)
    (hx : ∀ k x, l[k]? = some x → ∃ cs, E.rep (fun b => some b ≠ v.ownBlock) w cs x ∧ ∀ j u, cs[j]? = some u → xs[k * E.sz + j]? = some u) : Own E te base w v l := by
  obtain ⟨hl, ⟨rfl, h0⟩ | ⟨g, cap, cur, rfl, hb, hh, h1, h2, h3, h4⟩⟩ := h
  · exact .inl ⟨rfl, List.eq_nil_of_length_eq_zero h0⟩
  · refine .inr ⟨g, cap, cur, rfl, hb, hh, h1, h2, h3, fun k x hk => ?_⟩
    obtain ⟨cs, hr, hc⟩ := hx k x hk
    refine ⟨cs, E.mono hr fun b hb _ => ⟨rfl, fun e => hb (by simp [Value.ownBlock, e])⟩, fun j u hj => ?_⟩
    have := hc j u hj
    rw [← h4, List.getElem?_take] at this
    split at this
    · simpa using this
    · cases this

theorem flat_get {n : Nat} : ∀ (css : List (List Value)) (k j : Nat) (cs : List Value), (∀ c ∈ css, c.length = n) → css[k]? = some cs → j < n → css.flatten[k * n + j]? = cs[j]?
  | [], k, j, cs, _, h, _ => by simp at h
  | c :: css, 0, j, cs, hl, h, hj => by
    simp at h; subst h
    rw [List.flatten_cons, Nat.zero_mul, Nat.zero_add, List.getElem?_append_left (by rw [hl c (by simp)]; exact hj)]
  | c :: css, k + 1, j, cs, hl, h, hj => by
    have hc : c.length = n := hl c (by simp)
    rw [List.flatten_cons, List.getElem?_append_right (by rw [hc, Nat.add_mul]; omega), hc]
    rw [show (k + 1) * n + j - n = k * n + j by rw [Nat.add_mul]; omega]
    exact flat_get css k j cs (fun c hc => hl c (by simp [hc])) (by simpa using h) hj

theorem flat_len {n : Nat} : ∀ (css : List (List Value)), (∀ c ∈ css, c.length = n) → css.flatten.length = css.length * n
  | [], _ => by simp
  | c :: css, hl => by
    rw [List.flatten_cons, List.length_append, flat_len css (fun c hc => hl c (by simp [hc])), hl c (by simp), List.length_cons, Nat.add_mul]; omega

/-- a slice's cells, laid flat -/
theorem Sl.flat {α : Type} {E : Enc α} {ok : Nat → Prop} {w : World} {b o : Nat} {l : List α} (hs : 0 < E.sz) (h : Sl E ok w (some ⟨b, o, none⟩) l) :
    ∃ news : List Value, news.length = l.length * E.sz ∧ (∀ j u, news[j]? = some u → w.cell? ((⟨b, o, none⟩ : Addr).add j) = some u) ∧ (∀ u ∈ news, u.oneCell' = true) ∧
      ∀ k x, l[k]? = some x → ∃ cs, E.rep ok w cs x ∧ ∀ j u, cs[j]? = some u → news[k * E.sz + j]? = some u := by
  have h' : ∀ k : Fin l.length, ∃ cs, E.rep ok w cs l[k] ∧ ∀ j v, cs[j]? = some v → w.cell? ⟨b, o + (k * E.sz + j), none⟩ = some v := fun k => by
    obtain ⟨b', o', e, _, cs, hr, hc⟩ := h k l[k] (List.getElem?_eq_getElem k.2)
    injection e with e; injection e with e1 e2
    subst e1; subst e2; exact ⟨cs, hr, hc⟩
  let f : Fin l.length → List Value := fun k => Classical.choose (h' k)
  have hf : ∀ k, E.rep ok w (f k) l[k] ∧ ∀ j v, (f k)[j]? = some v → w.cell? ⟨b, o + (k * E.sz + j), none⟩ = some v := fun k => Classical.choose_spec (h' k)
  have hlen : ∀ c ∈ List.ofFn f, c.length = E.sz := by
    intro c hc
    obtain ⟨k, rfl⟩ := List.mem_ofFn.1 hc
    exact E.len (hf k).1
  have hget : ∀ k (hk : k < l.length), (List.ofFn f)[k]? = some (f ⟨k, hk⟩) := fun k hk => by simp [hk]
  have hfl : (List.ofFn f).flatten.length = l.length * E.sz := by rw [flat_len _ hlen, List.length_ofFn]
  refine ⟨(List.ofFn f).flatten, hfl, fun j u hj => ?_, fun u hu => ?_, fun k x hx => ?_⟩
  · have hlt : j < l.length * E.sz := by rw [← hfl]; exact (List.getElem?_eq_some_iff.1 hj).1
    have hk : j / E.sz < l.length := Nat.div_lt_of_lt_mul (by rw [Nat.mul_comm]; exact hlt)
    have hj2 : j % E.sz < E.sz := Nat.mod_lt _ hs
    have ej : j / E.sz * E.sz + j % E.sz = j := by rw [Nat.mul_comm]; exact Nat.div_add_mod j E.sz
    have := flat_get (List.ofFn f) (j / E.sz) (j % E.sz) _ hlen (hget _ hk) hj2
    rw [ej, hj] at this
    have hc := (hf ⟨j / E.sz, hk⟩).2 (j % E.sz) u this.symm
    rw [Addr.add_lit]
    simpa [ej] using hc
  · obtain ⟨c, hc, hu'⟩ := List.mem_flatten.1 hu
    obtain ⟨k, rfl⟩ := List.mem_ofFn.1 hc
    exact E.one (hf k).1 u hu'
  · obtain ⟨hk, rfl⟩ := List.getElem?_eq_some_iff.1 hx
    refine ⟨f ⟨k, hk⟩, (hf ⟨k, hk⟩).1, fun j u hj => ?_⟩
    have hj2 : j < E.sz := by rw [← E.len (hf ⟨k, hk⟩).1]; exact (List.getElem?_eq_some_iff.1 hj).1
    rw [flat_get (List.ofFn f) k j _ hlen (hget k hk) hj2]; exact hj

section
variable {P : Program} {w : World} {ops : Array Oper} {rest : List Oper} {o : Oper} {a : Act} {Q : Exit → Act → World → Prop}

/-- the run of an append onto what the call owns, of whatever slice -/
theorem run_app {α : Type} (E : Enc α) {t te ty : TypeId} {bytes base : Nat} (ti : ElemInfo P t te E.sz bytes) {v : Value} {l : List α} (hown : Own E te base w v l)
    {ad : Option Addr} {m c : Nat} {l2 : List α} (hm : m = l2.length) (hsl : Sl E (fun b => some b ≠ v.ownBlock) w ad l2)
    (h63 : l.length + l2.length ≤ maxLen) (hbytes : (l.length + l2.length) * bytes ≤ 140737488355328) (hbase : base ≤ w.heap.size) :
    ∃ v' w', (Builtin.append_ #[t, t] ty #[v, .slice ad m c]).run P w = .ok v' w' ∧ Own E te base w' v' (l ++ l2) ∧ w.grownBy w' v.ownBlock ∧ (v'.ownBlock = v.ownBlock ∨ ∃ g, v'.ownBlock = some g ∧ w.heap.size ≤ g) := by
  subst hm
  obtain ⟨i, z, hi, hz, hsz, hby, hzc⟩ := ti.info
  obtain ⟨xs, hrow, hrep⟩ := hown.row
  by_cases h0 : l2.length = 0
  · have hl2 : l2 = [] := List.eq_nil_of_length_eq_zero h0
    subst hl2
    rcases hown with ⟨rfl, rfl⟩ | ⟨g, cap, cur, rfl, hg, hh, h1, h2, h3, h4⟩
    · refine ⟨.slice none 0 0, w, ?_, Own.nil _ _ _ _, World.grownBy.refl _ _, .inl rfl⟩
      cases ad <;> simp [Builtin.append_, run_underlying ti.under, sizeOf, typeInfo, hi, Builtin.lenOf, Builtin.firstCells, loadCells, loadCellsFrom]
    · refine ⟨.slice (some ⟨g, 0, none⟩) l.length cap, w, ?_, ?_, World.grownBy.refl _ _, .inl rfl⟩
      · cases ad <;> simp [Builtin.append_, run_underlying ti.under, sizeOf, typeInfo, hi, Builtin.lenOf, Builtin.firstCells, loadCells, loadCellsFrom, h1, storeCells]
      · simp only [List.append_nil]; exact .inr ⟨g, cap, cur, rfl, hg, hh, h1, h2, h3, h4⟩
  · have hpos : 0 < l2.length := by omega
    obtain ⟨b, o', rfl, _⟩ := hsl 0 l2[0] (List.getElem?_eq_getElem hpos)
    obtain ⟨news, hn, hcells, hone, hnrep⟩ := hsl.flat ti.pos
    obtain ⟨v', w', hr, ho, hg, hnil⟩ := run_append_own (P := P) w base t ty te i z E.sz bytes ti.under hi hz hsz hby hzc ti.pos v l.length xs hrow ⟨b, o', none⟩ l2.length c news hn hcells hone h63 hbytes hbase
    have hv' : v'.ownBlock = v.ownBlock ∨ ∃ g, v'.ownBlock = some g ∧ w.heap.size ≤ g := by
      by_cases hroom : ∃ g cap cur, v = .slice (some ⟨g, 0, none⟩) l.length cap ∧ w.heap[g]? = some (.cells cur te (0, 0)) ∧ l.length + l2.length ≤ cap ∧ cur.size = cap * E.sz
      · obtain ⟨g, cap, cur, rfl, hgg, hle, hcs⟩ := hroom
        have hfit : l.length * i.size + news.length ≤ cur.size := by rw [hn, hcs, hsz, ← Nat.add_mul]; exact Nat.mul_le_mul_right _ hle
        have hr2 := run_append_room (P := P) w t ty te i ti.under hi g l.length cap cur hgg ⟨b, o', none⟩ l2.length c news (by rw [hsz]; exact hn) hcells hone hle hfit
        rw [hr] at hr2
        injection hr2 with e1 e2
        left; rw [e1]; rfl
      · right
        rcases hrow.2 with ⟨rfl, hz0⟩ | ⟨g, cap, cur, rfl, hbg, hgg, hnc, hcm, hcs, htake⟩
        · have hl : l = [] := List.eq_nil_of_length_eq_zero hz0
          subst hl
          have hr2 := run_append_nil (P := P) w t ty te i z ti.under hi hz ⟨b, o', none⟩ l2.length c news (by rw [hsz]; exact hn) hcells (by omega) (by simp only [maxLen] at h63; omega) (by have hb := hbytes; simp only [List.length_nil, Nat.zero_add] at hb; rw [hby]; omega)
          rw [hr] at hr2
          injection hr2 with e1 e2
          exact ⟨w.heap.size, by rw [e1]; rfl, Nat.le_refl _⟩
        · have hlt : cap < l.length + l2.length := by
            rcases Nat.lt_or_ge cap (l.length + l2.length) with h | h
            · exact h
            · exact absurd ⟨g, cap, cur, rfl, hgg, h, hcs⟩ hroom
          have holds : ∀ j u, xs[j]? = some u → w.cell? ((⟨g, 0, none⟩ : Addr).add j) = some u := hrow.cells (g := g) rfl
          have hr2 := run_append_grow (P := P) w t ty te i z ti.under hi hz ⟨g, 0, none⟩ l.length cap xs (by rw [hsz]; exact hrow.1) holds ⟨b, o', none⟩ l2.length c news (by rw [hsz]; exact hn) hcells (by omega) (by simp only [maxLen] at h63; omega) (by rw [hby]; exact growslice_fits (by omega) hbytes)
          rw [hr] at hr2
          injection hr2 with e1 e2
          exact ⟨w.heap.size, by rw [e1]; rfl, Nat.le_refl _⟩
    have hok : ∀ k, some k ≠ v.ownBlock → k < w.heap.size → w'.heap[k]? = w.heap[k]? ∧ some k ≠ v'.ownBlock := by
      intro k hk hlt
      refine ⟨hg.block k hlt hk, ?_⟩
      rcases hv' with e | ⟨g, e, hge⟩
      · rw [e]; exact hk
      · rw [e]; intro e2; injection e2 with e2; omega
    refine ⟨v', w', hr, ?_, hg, hv'⟩
    refine Own.of_row (xs := xs ++ news) (by rw [List.length_append]; exact ho) fun k x hx => ?_
    by_cases hkl : k < l.length
    · rw [List.getElem?_append_left hkl] at hx
      obtain ⟨cs, hcr, hcc⟩ := hrep k x hx
      refine ⟨cs, E.mono hcr hok, fun j u hj => ?_⟩
      have := hcc j u hj
      rw [List.getElem?_append_left (List.getElem?_eq_some_iff.1 this).1]; exact this
    · rw [List.getElem?_append_right (by omega)] at hx
      obtain ⟨cs, hcr, hcc⟩ := hnrep _ x hx
      refine ⟨cs, E.mono hcr hok, fun j u hj => ?_⟩
      have := hcc j u hj
      have hxl : xs.length = l.length * E.sz := hrow.1
      have e : k * E.sz + j - xs.length = (k - l.length) * E.sz + j := by
        have : k * E.sz = l.length * E.sz + (k - l.length) * E.sz := by rw [← Nat.add_mul]; congr 1; omega
        omega
      have hge : xs.length ≤ k * E.sz + j := by
        have : l.length * E.sz ≤ k * E.sz := Nat.mul_le_mul_right _ (by omega)
        omega
      rw [List.getElem?_append_right hge, e]
      exact this

/-- append, as a law for the walk -/
theorem wpList_app {α : Type} (E : Enc α) {t te : TypeId} {bytes base : Nat} {s x : Operand} {v : Value} {l l2 : List α} {ad : Option Addr} {m c : Nat}
    (hgd : o.guard = none) (ho : o.op = .call { callee := .builtin .append, args := #[s, x], argTypes := #[t, t] }) (hs : a.eval s = v) (hx : a.eval x = .slice ad m c)
    (ti : ElemInfo P t te E.sz bytes) (hown : Own E te base w v l) (hm : m = l2.length) (hsl : Sl E (fun b => some b ≠ v.ownBlock) w ad l2)
    (h63 : l.length + l2.length ≤ maxLen) (hbytes : (l.length + l2.length) * bytes ≤ 140737488355328) (hbase : base ≤ w.heap.size)
    (h : ∀ v' w', Own E te base w' v' (l ++ l2) → w.grownBy w' v.ownBlock → (v'.ownBlock = v.ownBlock ∨ ∃ g, v'.ownBlock = some g ∧ w.heap.size ≤ g) → Below base w w' → wpList P ops Q rest (a.put o.dst v') w') : wpList P ops Q (o :: rest) a w := by
  refine wpList_plain hgd fun K hK => ?_
  obtain ⟨v', w', hr, h2, h3, h4⟩ := run_app (P := P) (ty := o.type) E ti hown (c := c) hm hsl h63 hbytes hbase
  unfold Oper.wp execOp
  simp only [ho, resolve, invoke, builtin, Sem.run_bind, Sem.run_pure, Result.andThen_ok, List.map_toArray, List.map_cons, List.map_nil, hs, hx, hr]
  exact hK _ _ (h v' w' h2 h3 h4 ((Below.refl base w).grown h3 hbase fun k hk => (hown.lt k hk).1))

/-- append, as a law for one operation in a region that draws its order -/
theorem step_app {α : Type} {K : Act → World → Prop} (E : Enc α) {t te : TypeId} {bytes base : Nat} {s x : Operand} {v : Value} {l l2 : List α} {ad : Option Addr} {m c : Nat}
    (ho : o.op = .call { callee := .builtin .append, args := #[s, x], argTypes := #[t, t] }) (hs : a.eval s = v) (hx : a.eval x = .slice ad m c)
    (ti : ElemInfo P t te E.sz bytes) (hown : Own E te base w v l) (hm : m = l2.length) (hsl : Sl E (fun b => some b ≠ v.ownBlock) w ad l2)
    (h63 : l.length + l2.length ≤ maxLen) (hbytes : (l.length + l2.length) * bytes ≤ 140737488355328) (hbase : base ≤ w.heap.size)
    (h : ∀ v' w', Own E te base w' v' (l ++ l2) → w.grownBy w' v.ownBlock → (v'.ownBlock = v.ownBlock ∨ ∃ g, v'.ownBlock = some g ∧ w.heap.size ≤ g) → Below base w w' → K (a.put o.dst v') w') : o.wp P a w K Q := by
  obtain ⟨v', w', hr, h2, h3, h4⟩ := run_app (P := P) (ty := o.type) E ti hown (c := c) hm hsl h63 hbytes hbase
  unfold Oper.wp execOp
  simp only [ho, resolve, invoke, builtin, Sem.run_bind, Sem.run_pure, Result.andThen_ok, List.map_toArray, List.map_cons, List.map_nil, hs, hx, hr]
  exact h v' w' h2 h3 h4 ((Below.refl base w).grown h3 hbase fun k hk => (hown.lt k hk).1)

/-- bytes as a string holds them -/
def strOf (l : List (BitVec 8)) : ByteArray := ⟨(l.map UInt8.ofBitVec).toArray⟩
theorem strOf_toList (l : List (BitVec 8)) : (strOf l).toList = l.map UInt8.ofBitVec := by rw [ByteArray.toList_eq]; rfl
theorem strOf_beq (l m : List (BitVec 8)) : ((strOf l).toList == (strOf m).toList) = (l == m) := by
  rw [strOf_toList, strOf_toList, Bool.eq_iff_iff, beq_iff_eq, beq_iff_eq]
  refine ⟨fun h => ?_, fun h => by rw [h]⟩
  have := congrArg (List.map UInt8.toBitVec) h
  simpa [List.map_map, Function.comp_def] using this
attribute [go_sem] strOf_beq

theorem run_tostr {src dst e : TypeId} (hs : P.underlying src = some (.slice e)) (he : P.underlying e = some (.int .u8)) (hd : P.underlying dst = some .string) {ok : Nat → Prop} {ad : Option Addr} {l : List (BitVec 8)} {c : Nat} (hsl : Sl EU8 ok w ad l) :
    (convert src dst (.slice ad l.length c)).run P w = .ok (.string (strOf l)) w := by
  by_cases h0 : l.length = 0
  · have hl : l = [] := List.eq_nil_of_length_eq_zero h0
    subst hl
    cases ad with
    | none => rw [run_convert_bytes_nil w src e hs he _ _ dst hd]; rfl
    | some ad =>
      obtain ⟨b, o', sp⟩ := ad
      rw [run_convert_bytes_string w src dst e _ _ _ hs he hd]
      simp [Conv.bytesToString, loadCells, loadCellsFrom, strOf]
      rfl
  · obtain ⟨b, o', rfl, hc⟩ := SB.all hsl (by omega)
    have h := run_convert_bytes_arg (P := P) w src e hs he b o' l.length c (l.map bv) (by simp) (fun i hi => by rw [hc i hi]; simp [List.getD, hi]) dst hd
    rw [h]
    have : strOfNums (l.map bv) = strOf l := by
      simp only [strOfNums, strOf, List.map_map]
      congr 2
      refine List.map_congr_left fun x _ => ?_
      show UInt8.ofNat x.toNat = UInt8.ofBitVec x
      apply UInt8.toBitVec_inj.1
      simp
    rw [this]

/-- 'string(b)' -/
theorem wpList_tostr {src dst e : TypeId} {x : Operand} {ad : Option Addr} {l : List (BitVec 8)} {m c : Nat} {ok : Nat → Prop}
    (hgd : o.guard = none) (ho : o.op = .convert src dst x) (hx : a.eval x = .slice ad m c)
    (hs : P.underlying src = some (.slice e)) (he : P.underlying e = some (.int .u8)) (hd : P.underlying dst = some .string) (hm : m = l.length) (hsl : Sl EU8 ok w ad l)
    (h : wpList P ops Q rest (a.put o.dst (.string (strOf l))) w) : wpList P ops Q (o :: rest) a w := by
  subst hm
  refine wpList_plain hgd fun K hK => ?_
  have hr := run_tostr (P := P) hs he hd (c := c) hsl
  unfold Oper.wp execOp
  simp only [ho, hx, Sem.run_bind, Sem.run_pure, hr, Result.andThen_ok]
  exact hK _ _ h

end
end Go.Proofs.Ytmmgnbdngpkfcaa

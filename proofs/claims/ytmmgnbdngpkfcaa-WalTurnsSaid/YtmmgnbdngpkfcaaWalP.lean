
/-
  A log on two tapes of a disk, in plain Lean.
-/
import Derived.Test.YtmmgnbdngpkfcaaBtsLaws
import Derived.Test.YtmmgnbdngpkfcaaFrameScan
import Derived.Test.YtmmgnbdngpkfcaaDisk
namespace Go.Proofs.Ytmmgnbdngpkfcaa.Wl
open Go.Proofs.Ytmmgnbdngpkfcaa Go.Proofs.Ytmmgnbdngpkfcaa.Bts Go.Proofs.Ytmmgnbdngpkfcaa.Frm
set_option linter.unusedVariables false

abbrev Byt := List (BitVec 8)
/-- a turn, and how many notes were laid with it -/
def front (x y : BitVec 64) : Byt := pack (num x ++ num y)
theorem num_len_le (x : BitVec 64) : (num x).length ≤ 129 := by obtain ⟨z, h, hz⟩ := num_len x; omega
theorem front_len (x y : BitVec 64) : (front x y).length ≤ 33 := by
  unfold front
  rw [pack_len, List.length_append]
  have h1 := num_len_le x
  have h2 := num_len_le y
  omega
theorem front_bits (x y : BitVec 64) : ∃ p, bitsOf (front x y) = num x ++ (num y ++ zeros p) ∧ p ≤ 7 := by
  refine ⟨_, by unfold front; rw [bitsOf_pack, List.append_assoc], ?_⟩
  omega
/-- what is read of it -/
theorem front_read (x y : BitVec 64) : (numR (front x y) ⟨0, 0⟩).1 = x ∧ (numR (front x y) (numR (front x y) ⟨0, 0⟩).2).1 = y ∧ endR (front x y) (numR (front x y) (numR (front x y) ⟨0, 0⟩).2).2 = 0 := by
  obtain ⟨p, hp, hp7⟩ := front_bits x y
  have h0 : rest (front x y) ⟨0, 0⟩ = num x ++ (num y ++ zeros p) := by rw [rest_zero]; exact hp
  have e1 := numR_num (r := ⟨0, 0⟩) rfl h0
  have h1 : rest (front x y) ⟨0 + (num x).length, 0⟩ = num y ++ zeros p := by
    unfold rest
    rw [if_pos rfl, hp, Nat.zero_add, List.drop_left]
  have e2 := numR_num (r := ⟨0 + (num x).length, 0⟩) rfl h1
  have h2 : rest (front x y) ⟨0 + (num x).length + (num y).length, 0⟩ = zeros p := by
    unfold rest
    rw [if_pos rfl, hp, Nat.zero_add, ← List.drop_drop, List.drop_left, List.drop_left]
  rw [e1]
  refine ⟨rfl, ?_⟩
  simp only
  rw [e2]
  refine ⟨rfl, ?_⟩
  unfold endR
  simp only
  rw [if_neg (by simp), h2, if_neg]
  intro h
  rcases h with h | h
  · rw [zeros_len] at h; omega
  · simp [zeros] at h

/-- a state's frame's content -/
def hdata (turn must : Nat) (st : Byt) : Byt := BitVec.ofNat 8 (front (BitVec.ofNat 64 turn) (BitVec.ofNat 64 must)).length :: (front (BitVec.ofNat 64 turn) (BitVec.ofNat 64 must) ++ st)
theorem hdata_len (turn must : Nat) (st : Byt) : (hdata turn must st).length ≤ 34 + st.length := by
  unfold hdata
  have := front_len (BitVec.ofNat 64 turn) (BitVec.ofNat 64 must)
  rw [List.length_cons, List.length_append]; omega
structure Ld where
  turn : Nat
  state : Byt
  notes : List Byt
  upto : Nat
/-- the first frame of a tape -/
def loadH (k : Nat) (d : Byt) (n : BitVec 8) : Option (Nat × Byt) :=
  if d.length < n.toNat then none
  else if endR (d.take n.toNat) (numR (d.take n.toNat) (numR (d.take n.toNat) ⟨0, 0⟩).2).2 ≠ 0 ∨ 1099511627776 < (numR (d.take n.toNat) ⟨0, 0⟩).1.toNat ∨ (numR (d.take n.toNat) ⟨0, 0⟩).1.toNat < 1 ∨ k < (numR (d.take n.toNat) (numR (d.take n.toNat) ⟨0, 0⟩).2).1.toNat then none
  else some ((numR (d.take n.toNat) ⟨0, 0⟩).1.toNat, d.drop n.toNat)
def loadF (fs : List (Int × Byt)) : Option (Nat × Byt) :=
  match fs with
  | [] => none
  | x :: r => if x.1 ≠ 1 then none else match x.2 with
    | [] => none
    | n :: d => loadH r.length d n
def loadS (c : Scanned) : Option Ld :=
  match loadF c.fs with
  | none => none
  | some (t, s) => some ⟨t, s, (c.fs.drop 1).map (·.2), c.upto⟩
def load (b : Byt) : Option Ld := loadS (scan b)
theorem loadS_none {c : Scanned} (h : loadF c.fs = none) : loadS c = none := by unfold loadS; rw [h]
theorem loadS_some {c : Scanned} {t : Nat} {s : Byt} (h : loadF c.fs = some (t, s)) : loadS c = some ⟨t, s, (c.fs.drop 1).map (·.2), c.upto⟩ := by unfold loadS; rw [h]

theorem loadF_head (t m : Nat) (st : Byt) (r : List (Int × Byt)) (ht : 1 ≤ t ∧ t ≤ 1099511627776) (hm : m ≤ 1099511627776) :
    loadF ((1, hdata t m st) :: r) = if r.length < m then none else some (t, st) := by
  have hl := front_len (BitVec.ofNat 64 t) (BitVec.ofNat 64 m)
  have hn : (BitVec.ofNat 8 (front (BitVec.ofNat 64 t) (BitVec.ofNat 64 m)).length).toNat = (front (BitVec.ofNat 64 t) (BitVec.ofNat 64 m)).length := by rw [BitVec.toNat_ofNat]; exact Nat.mod_eq_of_lt (by omega)
  obtain ⟨h1, h2, h3⟩ := front_read (BitVec.ofNat 64 t) (BitVec.ofNat 64 m)
  unfold loadF hdata
  simp only [ne_eq, not_true_eq_false, if_false]
  unfold loadH
  rw [hn, if_neg (by rw [List.length_append]; omega), List.take_left, List.drop_left, h1, h2, h3]
  have et : (BitVec.ofNat 64 t).toNat = t := by rw [BitVec.toNat_ofNat]; exact Nat.mod_eq_of_lt (by omega)
  have em : (BitVec.ofNat 64 m).toNat = m := by rw [BitVec.toNat_ofNat]; exact Nat.mod_eq_of_lt (by omega)
  rw [et, em]
  by_cases hlt : r.length < m
  · rw [if_pos hlt, if_pos (.inr (.inr (.inr hlt)))]
  · rw [if_neg hlt, if_neg]
    omega
theorem load_head (t m : Nat) (st : Byt) (r : Byt) (ht : 1 ≤ t ∧ t ≤ 1099511627776) (hm : m ≤ 1099511627776) (hs : (hdata t m st).length ≤ 65536) :
    load (enc 1 (hdata t m st) ++ r) = if (scan r).fs.length < m then none else some ⟨t, st, (scan r).fs.map (·.2), 12 + (hdata t m st).length + (scan r).upto⟩ := by
  unfold load loadS
  rw [scan_enc (1, hdata t m st) r ⟨(by decide : (0 : Int) ≤ 1 ∧ (1 : Int) ≤ 255), hs⟩]
  simp only
  rw [loadF_head t m st _ ht hm]
  by_cases hlt : (scan r).fs.length < m
  · rw [if_pos hlt, if_pos hlt]
  · rw [if_neg hlt, if_neg hlt]; rfl
theorem load_nil : load [] = none := by rfl
/-- at the front no frame: nothing -/
theorem load_bad {b : Byt} (h : (dec b).err ≠ 0) : load b = none := by
  by_cases h0 : b.length = 0
  · rw [List.eq_nil_of_length_eq_zero h0]; rfl
  · unfold load
    rw [scan_bad (by omega) h]; rfl

structure Lg where
  turn : Nat
  state : Byt
  notes : List Byt
  dead : Bool
def nfs (ns : List Byt) : List (Int × Byt) := ns.map fun n => (2, n)
theorem nfs_map (ns : List Byt) : (nfs ns).map (·.2) = ns := by unfold nfs; rw [List.map_map]; exact List.map_id ns
theorem nfs_app (a b : List Byt) : nfs (a ++ b) = nfs a ++ nfs b := by simp [nfs]
theorem nfs_len (a : List Byt) : (nfs a).length = a.length := by simp [nfs]
theorem nfs_fine {ns : List Byt} (h : ∀ n ∈ ns, n.length ≤ 65536) : ∀ x ∈ nfs ns, Fine x := by
  intro x hx
  simp only [nfs, List.mem_map] at hx
  obtain ⟨n, hn, rfl⟩ := hx
  exact ⟨(by decide : (0 : Int) ≤ 2 ∧ (2 : Int) ≤ 255), h n hn⟩
def note (L : Lg) (e : Int) : Lg := { L with dead := L.dead || (e == 2) }
theorem note_zero (L : Lg) : note L 0 = L := by unfold note; simp
def layB (L : Lg) : Byt := enc 1 (hdata (L.turn + 1) L.notes.length L.state) ++ encs (nfs L.notes)
def tp (n : Nat) : Int := ((n % 2 : Nat) : Int)
def lay (D : Dk.Dsk) (L : Lg) : Dk.Dsk × Lg × Int :=
  if (Dk.clear D (tp (L.turn + 1))).2 ≠ 0 then ((Dk.clear D (tp (L.turn + 1))).1, note L (Dk.clear D (tp (L.turn + 1))).2, (Dk.clear D (tp (L.turn + 1))).2)
  else if (Dk.app (Dk.clear D (tp (L.turn + 1))).1 (tp (L.turn + 1)) (layB L)).2 ≠ 0 then ((Dk.app (Dk.clear D (tp (L.turn + 1))).1 (tp (L.turn + 1)) (layB L)).1, note L (Dk.app (Dk.clear D (tp (L.turn + 1))).1 (tp (L.turn + 1)) (layB L)).2, (Dk.app (Dk.clear D (tp (L.turn + 1))).1 (tp (L.turn + 1)) (layB L)).2)
  else if (Dk.flush (Dk.app (Dk.clear D (tp (L.turn + 1))).1 (tp (L.turn + 1)) (layB L)).1 (tp (L.turn + 1))).2 ≠ 0 then ((Dk.flush (Dk.app (Dk.clear D (tp (L.turn + 1))).1 (tp (L.turn + 1)) (layB L)).1 (tp (L.turn + 1))).1, note L (Dk.flush (Dk.app (Dk.clear D (tp (L.turn + 1))).1 (tp (L.turn + 1)) (layB L)).1 (tp (L.turn + 1))).2, (Dk.flush (Dk.app (Dk.clear D (tp (L.turn + 1))).1 (tp (L.turn + 1)) (layB L)).1 (tp (L.turn + 1))).2)
  else ((Dk.flush (Dk.app (Dk.clear D (tp (L.turn + 1))).1 (tp (L.turn + 1)) (layB L)).1 (tp (L.turn + 1))).1, { L with turn := L.turn + 1 }, 0)
/-- a tape is looked at -/
def pick (t : Nat) (b : Byt) (c : Lg × Bool) : Lg × Bool :=
  match load b with
  | none => c
  | some x => if c.1.turn < x.turn ∧ x.turn % 2 = t then (⟨x.turn, x.state, x.notes, false⟩, decide (x.upto < b.length)) else c
def picks (D : Dk.Dsk) : Lg × Bool := pick 1 (D.t 1).b (pick 0 (D.t 0).b (⟨0, [], [], false⟩, false))
def openL (D : Dk.Dsk) : Dk.Dsk × Option Lg × Int :=
  if D.down = true then (D, none, 2)
  else if (picks D).1.turn = 0 ∨ (picks D).2 = true then
    if (lay D (picks D).1).2.2 ≠ 0 then ((lay D (picks D).1).1, none, (lay D (picks D).1).2.2) else ((lay D (picks D).1).1, some (lay D (picks D).1).2.1, 0)
  else (D, some (picks D).1, 0)
def append (D : Dk.Dsk) (L : Lg) (b : Byt) : Dk.Dsk × Lg × Int :=
  if L.dead = true then (D, L, 2)
  else if 65536 < b.length then (D, L, 3)
  else if (Dk.app D (tp L.turn) (enc 2 b)).2 ≠ 0 then ((Dk.app D (tp L.turn) (enc 2 b)).1, note L (Dk.app D (tp L.turn) (enc 2 b)).2, (Dk.app D (tp L.turn) (enc 2 b)).2)
  else ((Dk.app D (tp L.turn) (enc 2 b)).1, { L with notes := L.notes ++ [b] }, 0)
def sync (D : Dk.Dsk) (L : Lg) : Dk.Dsk × Lg × Int :=
  if L.dead = true then (D, L, 2)
  else ((Dk.flush D (tp L.turn)).1, note L (Dk.flush D (tp L.turn)).2, (Dk.flush D (tp L.turn)).2)
def fresh (L : Lg) (st : Byt) : Lg := { L with state := st, notes := [] }
def check (D : Dk.Dsk) (L : Lg) (st : Byt) : Dk.Dsk × Lg × Int :=
  if L.dead = true then (D, L, 2)
  else if 65516 < st.length then (D, L, 3)
  else if (lay D (fresh L st)).2.2 = 0 then lay D (fresh L st)
  else ((lay D (fresh L st)).1, { (lay D (fresh L st)).2.1 with state := L.state, notes := L.notes }, (lay D (fresh L st)).2.2)
/-- a log that can be laid -/
structure Ok (L : Lg) : Prop where
  turn : L.turn ≤ 1099511627776
  state : L.state.length ≤ 65500
  note : ∀ n ∈ L.notes, n.length ≤ 65536
  all : (encs (nfs L.notes)).length ≤ 1073741824
theorem encs_len (fs : List (Int × Byt)) : 12 * fs.length ≤ (encs fs).length := by
  induction fs with
  | nil => simp
  | cons x fs ih => rw [encs_cons, List.length_append, enc_len, List.length_cons]; omega
theorem Ok.many {L : Lg} (h : Ok L) : L.notes.length ≤ 89478486 := by
  have h1 := encs_len (nfs L.notes)
  rw [nfs_len] at h1
  have := h.all
  omega
theorem Ok.hlen {L : Lg} (h : Ok L) : (hdata (L.turn + 1) L.notes.length L.state).length ≤ 65534 := by
  have := hdata_len (L.turn + 1) L.notes.length L.state
  have := h.state
  omega
theorem Ok.blen {L : Lg} (h : Ok L) : (layB L).length ≤ 1073807370 := by
  unfold layB
  rw [List.length_append, enc_len]
  have := h.hlen
  have := h.all
  omega
end Go.Proofs.Ytmmgnbdngpkfcaa.Wl


/-
  A log on two tapes of a disk, in plain Lean.
  What a log comes to, step by step, as long as the power stays: plain laws.
-/
import Derived.Test.YtmmgnbdngpkfcaaBtsLaws
import Derived.Test.YtmmgnbdngpkfcaaFrameScan
import Derived.Test.YtmmgnbdngpkfcaaDisk
namespace Go.Proofs.Ytmmgnbdngpkfcaa.Wl
open Go.Proofs.Ytmmgnbdngpkfcaa Go.Proofs.Ytmmgnbdngpkfcaa.Bts Go.Proofs.Ytmmgnbdngpkfcaa.Frm
set_option linter.unusedVariables false

abbrev Byt := List (BitVec 8)
/-- a turn, and how many notes were laid with it -/
def front (x y : BitVec 64) : Byt := pack (num x ++ num y)
theorem num_len_le (x : BitVec 64) : (num x).length ≤ 129 := by obtain ⟨z, h, hz⟩ := num_len x; omega
theorem front_len (x y : BitVec 64) : (front x y).length ≤ 33 := by
  unfold front
  rw [pack_len, List.length_append]
  have h1 := num_len_le x
  have h2 := num_len_le y
  omega
theorem front_bits (x y : BitVec 64) : ∃ p, bitsOf (front x y) = num x ++ (num y ++ zeros p) ∧ p ≤ 7 := by
  refine ⟨_, by unfold front; rw [bitsOf_pack, List.append_assoc], ?_⟩
  omega
/-- what is read of it -/
theorem front_read (x y : BitVec 64) : (numR (front x y) ⟨0, 0⟩).1 = x ∧ (numR (front x y) (numR (front x y) ⟨0, 0⟩).2).1 = y ∧ endR (front x y) (numR (front x y) (numR (front x y) ⟨0, 0⟩).2).2 = 0 := by
  obtain ⟨p, hp, hp7⟩ := front_bits x y
  have h0 : rest (front x y) ⟨0, 0⟩ = num x ++ (num y ++ zeros p) := by rw [rest_zero]; exact hp
  have e1 := numR_num (r := ⟨0, 0⟩) rfl h0
  have h1 : rest (front x y) ⟨0 + (num x).length, 0⟩ = num y ++ zeros p := by
    unfold rest
    rw [if_pos rfl, hp, Nat.zero_add, List.drop_left]
  have e2 := numR_num (r := ⟨0 + (num x).length, 0⟩) rfl h1
  have h2 : rest (front x y) ⟨0 + (num x).length + (num y).length, 0⟩ = zeros p := by
    unfold rest
    rw [if_pos rfl, hp, Nat.zero_add, ← List.drop_drop, List.drop_left, List.drop_left]
  rw [e1]
  refine ⟨rfl, ?_⟩
  simp only
  rw [e2]
  refine ⟨rfl, ?_⟩
  unfold endR
  simp only
  rw [if_neg (by simp), h2, if_neg]
  intro h
  rcases h with h | h
  · rw [zeros_len] at h; omega
  · simp [zeros] at h

/-- a state's frame's content -/
def hdata (turn must : Nat) (st : Byt) : Byt := BitVec.ofNat 8 (front (BitVec.ofNat 64 turn) (BitVec.ofNat 64 must)).length :: (front (BitVec.ofNat 64 turn) (BitVec.ofNat 64 must) ++ st)
theorem hdata_len (turn must : Nat) (st : Byt) : (hdata turn must st).length ≤ 34 + st.length := by
  unfold hdata
  have := front_len (BitVec.ofNat 64 turn) (BitVec.ofNat 64 must)
  rw [List.length_cons, List.length_append]; omega
structure Ld where
  turn : Nat
  state : Byt
  notes : List Byt
  upto : Nat
/-- the first frame of a tape -/
def loadH (k : Nat) (d : Byt) (n : BitVec 8) : Option (Nat × Byt) :=
  if d.length < n.toNat then none
  else if endR (d.take n.toNat) (numR (d.take n.toNat) (numR (d.take n.toNat) ⟨0, 0⟩).2).2 ≠ 0 ∨ 1099511627776 < (numR (d.take n.toNat) ⟨0, 0⟩).1.toNat ∨ (numR (d.take n.toNat) ⟨0, 0⟩).1.toNat < 1 ∨ k < (numR (d.take n.toNat) (numR (d.take n.toNat) ⟨0, 0⟩).2).1.toNat then none
  else some ((numR (d.take n.toNat) ⟨0, 0⟩).1.toNat, d.drop n.toNat)
def loadF (fs : List (Int × Byt)) : Option (Nat × Byt) :=
  match fs with
  | [] => none
  | x :: r => if x.1 ≠ 1 then none else match x.2 with
    | [] => none
    | n :: d => loadH r.length d n
def loadS (c : Scanned) : Option Ld :=
  match loadF c.fs with
  | none => none
  | some (t, s) => some ⟨t, s, (c.fs.drop 1).map (·.2), c.upto⟩
def load (b : Byt) : Option Ld := loadS (scan b)
theorem loadS_none {c : Scanned} (h : loadF c.fs = none) : loadS c = none := by unfold loadS; rw [h]
theorem loadS_some {c : Scanned} {t : Nat} {s : Byt} (h : loadF c.fs = some (t, s)) : loadS c = some ⟨t, s, (c.fs.drop 1).map (·.2), c.upto⟩ := by unfold loadS; rw [h]

theorem loadF_head (t m : Nat) (st : Byt) (r : List (Int × Byt)) (ht : 1 ≤ t ∧ t ≤ 1099511627776) (hm : m ≤ 1099511627776) :
    loadF ((1, hdata t m st) :: r) = if r.length < m then none else some (t, st) := by
  have hl := front_len (BitVec.ofNat 64 t) (BitVec.ofNat 64 m)
  have hn : (BitVec.ofNat 8 (front (BitVec.ofNat 64 t) (BitVec.ofNat 64 m)).length).toNat = (front (BitVec.ofNat 64 t) (BitVec.ofNat 64 m)).length := by rw [BitVec.toNat_ofNat]; exact Nat.mod_eq_of_lt (by omega)
  obtain ⟨h1, h2, h3⟩ := front_read (BitVec.ofNat 64 t) (BitVec.ofNat 64 m)
  unfold loadF hdata
  simp only [ne_eq, not_true_eq_false, if_false]
  unfold loadH
  rw [hn, if_neg (by rw [List.length_append]; omega), List.take_left, List.drop_left, h1, h2, h3]
  have et : (BitVec.ofNat 64 t).toNat = t := by rw [BitVec.toNat_ofNat]; exact Nat.mod_eq_of_lt (by omega)
  have em : (BitVec.ofNat 64 m).toNat = m := by rw [BitVec.toNat_ofNat]; exact Nat.mod_eq_of_lt (by omega)
  rw [et, em]
  by_cases hlt : r.length < m
  · rw [if_pos hlt, if_pos (.inr (.inr (.inr hlt)))]
  · rw [if_neg hlt, if_neg]
    omega
theorem load_head (t m : Nat) (st : Byt) (r : Byt) (ht : 1 ≤ t ∧ t ≤ 1099511627776) (hm : m ≤ 1099511627776) (hs : (hdata t m st).length ≤ 65536) :
    load (enc 1 (hdata t m st) ++ r) = if (scan r).fs.length < m then none else some ⟨t, st, (scan r).fs.map (·.2), 12 + (hdata t m st).length + (scan r).upto⟩ := by
  unfold load loadS
  rw [scan_enc (1, hdata t m st) r ⟨(by decide : (0 : Int) ≤ 1 ∧ (1 : Int) ≤ 255), hs⟩]
  simp only
  rw [loadF_head t m st _ ht hm]
  by_cases hlt : (scan r).fs.length < m
  · rw [if_pos hlt, if_pos hlt]
  · rw [if_neg hlt, if_neg hlt]; rfl
theorem load_nil : load [] = none := by rfl
/-- at the front no frame: nothing -/
theorem load_bad {b : Byt} (h : (dec b).err ≠ 0) : load b = none := by
  by_cases h0 : b.length = 0
  · rw [List.eq_nil_of_length_eq_zero h0]; rfl
  · unfold load
    rw [scan_bad (by omega) h]; rfl

structure Lg where
  turn : Nat
  state : Byt
  notes : List Byt
  dead : Bool
def nfs (ns : List Byt) : List (Int × Byt) := ns.map fun n => (2, n)
theorem nfs_map (ns : List Byt) : (nfs ns).map (·.2) = ns := by unfold nfs; rw [List.map_map]; exact List.map_id ns
theorem nfs_app (a b : List Byt) : nfs (a ++ b) = nfs a ++ nfs b := by simp [nfs]
theorem nfs_len (a : List Byt) : (nfs a).length = a.length := by simp [nfs]
theorem nfs_fine {ns : List Byt} (h : ∀ n ∈ ns, n.length ≤ 65536) : ∀ x ∈ nfs ns, Fine x := by
  intro x hx
  simp only [nfs, List.mem_map] at hx
  obtain ⟨n, hn, rfl⟩ := hx
  exact ⟨(by decide : (0 : Int) ≤ 2 ∧ (2 : Int) ≤ 255), h n hn⟩
def note (L : Lg) (e : Int) : Lg := { L with dead := L.dead || (e == 2) }
theorem note_zero (L : Lg) : note L 0 = L := by unfold note; simp
def layB (L : Lg) : Byt := enc 1 (hdata (L.turn + 1) L.notes.length L.state) ++ encs (nfs L.notes)
def tp (n : Nat) : Int := ((n % 2 : Nat) : Int)
def lay (D : Dk.Dsk) (L : Lg) : Dk.Dsk × Lg × Int :=
  if (Dk.clear D (tp (L.turn + 1))).2 ≠ 0 then ((Dk.clear D (tp (L.turn + 1))).1, note L (Dk.clear D (tp (L.turn + 1))).2, (Dk.clear D (tp (L.turn + 1))).2)
  else if (Dk.app (Dk.clear D (tp (L.turn + 1))).1 (tp (L.turn + 1)) (layB L)).2 ≠ 0 then ((Dk.app (Dk.clear D (tp (L.turn + 1))).1 (tp (L.turn + 1)) (layB L)).1, note L (Dk.app (Dk.clear D (tp (L.turn + 1))).1 (tp (L.turn + 1)) (layB L)).2, (Dk.app (Dk.clear D (tp (L.turn + 1))).1 (tp (L.turn + 1)) (layB L)).2)
  else if (Dk.flush (Dk.app (Dk.clear D (tp (L.turn + 1))).1 (tp (L.turn + 1)) (layB L)).1 (tp (L.turn + 1))).2 ≠ 0 then ((Dk.flush (Dk.app (Dk.clear D (tp (L.turn + 1))).1 (tp (L.turn + 1)) (layB L)).1 (tp (L.turn + 1))).1, note L (Dk.flush (Dk.app (Dk.clear D (tp (L.turn + 1))).1 (tp (L.turn + 1)) (layB L)).1 (tp (L.turn + 1))).2, (Dk.flush (Dk.app (Dk.clear D (tp (L.turn + 1))).1 (tp (L.turn + 1)) (layB L)).1 (tp (L.turn + 1))).2)
  else ((Dk.flush (Dk.app (Dk.clear D (tp (L.turn + 1))).1 (tp (L.turn + 1)) (layB L)).1 (tp (L.turn + 1))).1, { L with turn := L.turn + 1 }, 0)
/-- a tape is looked at -/
def pick (t : Nat) (b : Byt) (c : Lg × Bool) : Lg × Bool :=
  match load b with
  | none => c
  | some x => if c.1.turn < x.turn ∧ x.turn % 2 = t then (⟨x.turn, x.state, x.notes, false⟩, decide (x.upto < b.length)) else c
def picks (D : Dk.Dsk) : Lg × Bool := pick 1 (D.t 1).b (pick 0 (D.t 0).b (⟨0, [], [], false⟩, false))
def openL (D : Dk.Dsk) : Dk.Dsk × Option Lg × Int :=
  if D.down = true then (D, none, 2)
  else if (picks D).1.turn = 0 ∨ (picks D).2 = true then
    if (lay D (picks D).1).2.2 ≠ 0 then ((lay D (picks D).1).1, none, (lay D (picks D).1).2.2) else ((lay D (picks D).1).1, some (lay D (picks D).1).2.1, 0)
  else (D, some (picks D).1, 0)
def append (D : Dk.Dsk) (L : Lg) (b : Byt) : Dk.Dsk × Lg × Int :=
  if L.dead = true then (D, L, 2)
  else if 65536 < b.length then (D, L, 3)
  else if (Dk.app D (tp L.turn) (enc 2 b)).2 ≠ 0 then ((Dk.app D (tp L.turn) (enc 2 b)).1, note L (Dk.app D (tp L.turn) (enc 2 b)).2, (Dk.app D (tp L.turn) (enc 2 b)).2)
  else ((Dk.app D (tp L.turn) (enc 2 b)).1, { L with notes := L.notes ++ [b] }, 0)
def sync (D : Dk.Dsk) (L : Lg) : Dk.Dsk × Lg × Int :=
  if L.dead = true then (D, L, 2)
  else ((Dk.flush D (tp L.turn)).1, note L (Dk.flush D (tp L.turn)).2, (Dk.flush D (tp L.turn)).2)
def fresh (L : Lg) (st : Byt) : Lg := { L with state := st, notes := [] }
def check (D : Dk.Dsk) (L : Lg) (st : Byt) : Dk.Dsk × Lg × Int :=
  if L.dead = true then (D, L, 2)
  else if 65516 < st.length then (D, L, 3)
  else if (lay D (fresh L st)).2.2 = 0 then lay D (fresh L st)
  else ((lay D (fresh L st)).1, { (lay D (fresh L st)).2.1 with state := L.state, notes := L.notes }, (lay D (fresh L st)).2.2)
/-- a log that can be laid -/
structure Ok (L : Lg) : Prop where
  turn : L.turn ≤ 1099511627776
  state : L.state.length ≤ 65500
  note : ∀ n ∈ L.notes, n.length ≤ 65536
  all : (encs (nfs L.notes)).length ≤ 1073741824
theorem encs_len (fs : List (Int × Byt)) : 12 * fs.length ≤ (encs fs).length := by
  induction fs with
  | nil => simp
  | cons x fs ih => rw [encs_cons, List.length_append, enc_len, List.length_cons]; omega
theorem Ok.many {L : Lg} (h : Ok L) : L.notes.length ≤ 89478486 := by
  have h1 := encs_len (nfs L.notes)
  rw [nfs_len] at h1
  have := h.all
  omega
theorem Ok.hlen {L : Lg} (h : Ok L) : (hdata (L.turn + 1) L.notes.length L.state).length ≤ 65534 := by
  have := hdata_len (L.turn + 1) L.notes.length L.state
  have := h.state
  omega
theorem Ok.blen {L : Lg} (h : Ok L) : (layB L).length ≤ 1073807370 := by
  unfold layB
  rw [List.length_append, enc_len]
  have := h.hlen
  have := h.all
  omega
end Go.Proofs.Ytmmgnbdngpkfcaa.Wl

namespace Go.Proofs.Ytmmgnbdngpkfcaa.Wl
open Go.Proofs.Ytmmgnbdngpkfcaa Go.Proofs.Ytmmgnbdngpkfcaa.Bts Go.Proofs.Ytmmgnbdngpkfcaa.Frm
set_option linter.unusedVariables false

/-- a frame that is cut off is none -/
theorem dec_part (k : Int) (d : Byt) (hk : 0 ≤ k ∧ k ≤ 255) (hd : d.length ≤ 65536) (j : Nat) (hj : j < 12 + d.length) : (dec ((enc k d).take j)).err ≠ 0 := by
  intro h0
  obtain ⟨k0, k1, d1, n1, n2, he⟩ := dec_fine _ h0
  have hl : ((enc k d).take j).length = j := by rw [List.length_take, enc_len]; omega
  rw [hl] at n2
  have e1 := dec_enc k d [] hk hd
  rw [List.append_nil] at e1
  have e2 : enc k d = enc (dec ((enc k d).take j)).kind (dec ((enc k d).take j)).data ++ (enc k d).drop (dec ((enc k d).take j)).n := by
    rw [he, List.take_take, Nat.min_eq_left n2, List.take_append_drop]
  have e3 := dec_enc (dec ((enc k d).take j)).kind (dec ((enc k d).take j)).data ((enc k d).drop (dec ((enc k d).take j)).n) ⟨k0, k1⟩ d1
  rw [← e2, e1] at e3
  injection e3 with _ e4 _ _
  rw [n1, ← e4] at n2
  omega
/-- what no frame stands at the front of -/
def Torn (r : Byt) : Prop := r = [] ∨ (dec r).err ≠ 0
theorem Torn.scan {r : Byt} (h : Torn r) : (scan r).fs = [] ∧ (scan r).upto = 0 := by
  rcases h with rfl | h
  · exact ⟨rfl, rfl⟩
  · by_cases h0 : r.length = 0
    · rw [List.eq_nil_of_length_eq_zero h0]; exact ⟨rfl, rfl⟩
    · rw [scan_bad (by omega) h]; exact ⟨rfl, rfl⟩
theorem torn_short {r : Byt} (h : r.length ≤ 11) : Torn r := by
  by_cases h0 : (dec r).err = 0
  · obtain ⟨_, _, _, n1, n2, _⟩ := dec_fine _ h0
    omega
  · exact .inr h0
/-- frames that are cut off somewhere: some whole ones, and what is none -/
theorem encs_take : ∀ (fs : List (Int × Byt)) (j : Nat), (∀ x ∈ fs, Fine x) → ∃ i r, i ≤ fs.length ∧ (encs fs).take j = encs (fs.take i) ++ r ∧ Torn r ∧ (i < fs.length → j < (encs (fs.take (i + 1))).length)
  | [], j, _ => ⟨0, [], Nat.le_refl _, by simp [encs], .inl rfl, fun h => absurd h (by simp)⟩
  | x :: fs, j, hf => by
    have hx := hf x (by simp)
    by_cases hj : j < 12 + x.2.length
    · refine ⟨0, (enc x.1 x.2).take j, Nat.zero_le _, ?_, .inr (dec_part _ _ hx.1 hx.2 j hj), fun _ => ?_⟩
      · rw [encs_cons, List.take_append_of_le_length (by rw [enc_len]; omega)]; simp [encs]
      · simp only [List.take_succ_cons, List.take_zero, encs_cons, encs_nil, List.append_nil, enc_len]; exact hj
    · obtain ⟨i, r, hi, he, ht, hlt⟩ := encs_take fs (j - (12 + x.2.length)) fun y hy => hf y (by simp [hy])
      refine ⟨i + 1, r, by simp; omega, ?_, ht, fun h => ?_⟩
      · rw [encs_cons, List.take_append, enc_len, List.take_of_length_le (by rw [enc_len]; omega), he, List.take_succ_cons, encs_cons, List.append_assoc]
      · have := hlt (by simpa using h)
        rw [List.take_succ_cons, encs_cons, List.length_append, enc_len]
        omega
/-- a tape -/
def tapeOf (t m : Nat) (st : Byt) (ns : List Byt) (r : Byt) : Byt := enc 1 (hdata t m st) ++ (encs (nfs ns) ++ r)
theorem tapeOf_len (t m : Nat) (st : Byt) (ns : List Byt) (r : Byt) : (tapeOf t m st ns r).length = 12 + (hdata t m st).length + (encs (nfs ns)).length + r.length := by
  unfold tapeOf
  rw [List.length_append, List.length_append, enc_len]; omega
theorem tapeOf_app (t m : Nat) (st : Byt) (ns ns' : List Byt) (r : Byt) : tapeOf t m st ns [] ++ (encs (nfs ns') ++ r) = tapeOf t m st (ns ++ ns') r := by
  unfold tapeOf
  rw [List.append_nil, nfs_app, encs_app]; simp only [List.append_assoc]
theorem layB_tape (L : Lg) : layB L = tapeOf (L.turn + 1) L.notes.length L.state L.notes [] := by
  unfold layB tapeOf; rw [List.append_nil]
theorem load_tape (t m : Nat) (st : Byt) (ns : List Byt) (r : Byt) (ht : 1 ≤ t ∧ t ≤ 1099511627776) (hm : m ≤ 1099511627776) (hs : (hdata t m st).length ≤ 65536) (hn : ∀ n ∈ ns, n.length ≤ 65536) (hr : Torn r) :
    load (tapeOf t m st ns r) = if ns.length < m then none else some ⟨t, st, ns, 12 + (hdata t m st).length + (encs (nfs ns)).length⟩ := by
  unfold tapeOf
  obtain ⟨h1, h2⟩ := hr.scan
  rw [load_head t m st _ ht hm hs, scan_encs (nfs ns) r (nfs_fine hn), h1, h2]
  simp only [List.append_nil, nfs_len, nfs_map, Nat.add_zero]

/-! a disk whose power stays -/
structure Calm (D : Dk.Dsk) : Prop where
  down : D.down = false
  fuse : D.fuse = 0
def bump (D : Dk.Dsk) : Dk.Dsk := { D with acts := D.acts + 1 }
theorem Calm.act {D : Dk.Dsk} (h : Calm D) : Dk.act D = (bump D, 0) := by
  have e : max 0 (D.fuse - 1) = D.fuse := by rw [h.fuse]; decide
  unfold Dk.act bump
  rw [if_neg (by rw [h.fuse]; decide), e]
theorem lg_eta {L : Lg} (h : L.dead = false) : (⟨L.turn, L.state, L.notes, false⟩ : Lg) = L := by
  cases L
  simp only at h
  subst h
  rfl
theorem Calm.err {D : Dk.Dsk} (h : Calm D) (n : Nat) : Dk.err D (tp n) = 0 := by
  unfold Dk.err tp
  rw [if_neg (by omega), h.down]; rfl
theorem Calm.err' {D : Dk.Dsk} (h : Calm D) (t : Int) (h0 : 0 ≤ t ∧ t < 4) : Dk.err D t = 0 := by
  unfold Dk.err
  rw [if_neg (by omega), h.down]; rfl
theorem Calm.bump {D : Dk.Dsk} (h : Calm D) : Calm (bump D) := ⟨h.down, h.fuse⟩
theorem Calm.setT {D : Dk.Dsk} (h : Calm D) (t : Nat) (x : Dk.Tp) : Calm (Dk.setT D t x) := ⟨h.down, h.fuse⟩
theorem calm_new (r : Int) : Calm (Dk.new r) := ⟨rfl, rfl⟩
theorem app_calm {D : Dk.Dsk} (h : Calm D) (t : Int) (h0 : 0 ≤ t ∧ t < 4) (b : Byt) (hroom : ((D.t t.toNat).b.length : Int) + b.length ≤ D.room) :
    ∃ D1, Dk.app D t b = (D1, 0) ∧ Calm D1 ∧ D1.room = D.room ∧ D1.acts = D.acts + 1 ∧ (D1.t t.toNat).b = (D.t t.toNat).b ++ b ∧ (∀ i, i ≠ t.toNat → D1.t i = D.t i) := by
  refine ⟨bump (Dk.setT D t.toNat { D.t t.toNat with b := (D.t t.toNat).b ++ b }), ?_, (h.setT _ _).bump, rfl, rfl, ?_, fun i hi => ?_⟩
  · unfold Dk.app
    rw [h.err' t h0, if_neg (by decide), if_neg (by omega)]
    exact (h.setT _ _).act
  · simp only [Dk.setT, bump, Dk.upd_same]
  · simp only [Dk.setT, bump, Dk.upd_other _ _ _ _ hi]
theorem app_full {D : Dk.Dsk} (h : Calm D) (t : Int) (h0 : 0 ≤ t ∧ t < 4) (b : Byt) (hroom : D.room < ((D.t t.toNat).b.length : Int) + b.length) : Dk.app D t b = (D, 40) := by
  unfold Dk.app
  rw [h.err' t h0, if_neg (by decide), if_pos (by omega)]
theorem clear_calm {D : Dk.Dsk} (h : Calm D) (t : Int) (h0 : 0 ≤ t ∧ t < 4) :
    ∃ D1, Dk.clear D t = (D1, 0) ∧ Calm D1 ∧ D1.room = D.room ∧ D1.acts = D.acts + 1 ∧ (D1.t t.toNat).b = [] ∧ (∀ i, i ≠ t.toNat → D1.t i = D.t i) := by
  refine ⟨bump (Dk.setT D t.toNat (Dk.clearT (D.t t.toNat))), ?_, (h.setT _ _).bump, rfl, rfl, ?_, fun i hi => ?_⟩
  · unfold Dk.clear
    rw [h.err' t h0, if_neg (by decide)]
    exact (h.setT _ _).act
  · simp only [Dk.setT, bump, Dk.upd_same, Dk.clearT]
  · simp only [Dk.setT, bump, Dk.upd_other _ _ _ _ hi]
theorem flush_calm {D : Dk.Dsk} (h : Calm D) (t : Int) (h0 : 0 ≤ t ∧ t < 4) :
    ∃ D1, Dk.flush D t = (D1, 0) ∧ Calm D1 ∧ D1.room = D.room ∧ D1.acts = D.acts + 1 ∧ (∀ i, (D1.t i).b = (D.t i).b) ∧ (∀ i, i ≠ t.toNat → D1.t i = D.t i) := by
  refine ⟨Dk.setT (bump D) t.toNat (Dk.flushT (D.t t.toNat)), ?_, h.bump.setT _ _, rfl, rfl, fun i => ?_, fun i hi => ?_⟩
  · unfold Dk.flush
    rw [h.err' t h0, if_neg (by decide), h.act]
    simp only
    rw [if_neg (by decide)]
  · by_cases hi : i = t.toNat
    · subst hi
      simp only [Dk.setT, bump, Dk.upd_same, Dk.flushT]
    · simp only [Dk.setT, bump, Dk.upd_other _ _ _ _ hi]
  · simp only [Dk.setT, bump, Dk.upd_other _ _ _ _ hi]
theorem read_calm {D : Dk.Dsk} (h : Calm D) (t : Int) (h0 : 0 ≤ t ∧ t < 4) : Dk.read D t = ((D.t t.toNat).b, 0) := by
  unfold Dk.read
  rw [h.err' t h0, if_neg (by decide)]
theorem tp_range (n : Nat) : 0 ≤ tp n ∧ tp n < 4 := by unfold tp; omega
theorem tp_nat (n : Nat) : (tp n).toNat = n % 2 := by unfold tp; omega

/-- a state is laid: it is there -/
theorem lay_calm {D : Dk.Dsk} (h : Calm D) (L : Lg) (hroom : ((layB L).length : Int) ≤ D.room) :
    ∃ D', lay D L = (D', { L with turn := L.turn + 1 }, 0) ∧ Calm D' ∧ D'.room = D.room ∧ D'.acts = D.acts + 3 ∧ (D'.t ((L.turn + 1) % 2)).b = layB L ∧ (∀ i, i ≠ (L.turn + 1) % 2 → D'.t i = D.t i) := by
  have hr := tp_range (L.turn + 1)
  obtain ⟨D1, e1, a1, a2, a3, a4, a5⟩ := clear_calm h _ hr
  obtain ⟨D2, e2, b1, b2, b3, b4, b5⟩ := app_calm a1 _ hr (layB L) (by rw [a4, a2]; simpa using hroom)
  obtain ⟨D3, e3, c1, c2, c3, c4, c5⟩ := flush_calm b1 _ hr
  rw [tp_nat] at a4 a5 b4 b5 c5
  refine ⟨D3, ?_, c1, by rw [c2, b2, a2], by rw [c3, b3, a3]; omega, by rw [c4, b4, a4, List.nil_append], fun i hi => by rw [c5 i hi, b5 i hi, a5 i hi]⟩
  unfold lay
  rw [e1]
  simp only [ne_eq, not_true_eq_false, if_false]
  rw [e2]
  simp only [not_true_eq_false, if_false]
  rw [e3]
  simp only [not_true_eq_false, if_false]
theorem lay_full {D : Dk.Dsk} (h : Calm D) (L : Lg) (hroom : D.room < ((layB L).length : Int)) :
    ∃ D', lay D L = (D', L, 40) ∧ Calm D' ∧ D'.room = D.room ∧ D'.acts = D.acts + 1 ∧ (∀ i, i ≠ (L.turn + 1) % 2 → D'.t i = D.t i) := by
  have hr := tp_range (L.turn + 1)
  obtain ⟨D1, e1, a1, a2, a3, a4, a5⟩ := clear_calm h _ hr
  have e2 := app_full a1 _ hr (layB L) (by rw [a4, a2]; simpa using hroom)
  rw [tp_nat] at a5
  refine ⟨D1, ?_, a1, a2, a3, a5⟩
  unfold lay
  rw [e1]
  simp only [ne_eq, not_true_eq_false, if_false]
  rw [e2]
  simp only
  rw [if_pos (by decide)]
  unfold note; simp

/-- a log and its disk, while the power stays: what is there -/
structure Std (D : Dk.Dsk) (L : Lg) : Prop where
  calm : Calm D
  live : L.dead = false
  turn : 1 ≤ L.turn
  here : ∃ m, m ≤ L.notes.length ∧ (hdata L.turn m L.state).length ≤ 65536 ∧ (D.t (L.turn % 2)).b = tapeOf L.turn m L.state L.notes []
  there : (L.turn = 1 ∧ (D.t ((L.turn + 1) % 2)).b = []) ∨ (2 ≤ L.turn ∧ 0 < (D.t ((L.turn + 1) % 2)).b.length ∧ ∀ x, load (D.t ((L.turn + 1) % 2)).b = some x → x.turn < L.turn)
theorem pick_none {t : Nat} {b : Byt} {c : Lg × Bool} (h : load b = none) : pick t b c = c := by unfold pick; rw [h]
theorem Std.other {D : Dk.Dsk} {L : Lg} (h : Std D L) : ∀ x, load (D.t ((L.turn + 1) % 2)).b = some x → x.turn < L.turn := by
  rcases h.there with ⟨_, e⟩ | ⟨_, _, e⟩
  · intro x hx; rw [e] at hx; cases hx
  · exact e
/-- which tape counts -/
theorem picks_two {D : Dk.Dsk} {t : Nat} {st : Byt} {ns : List Byt} {u : Nat} (ht : 1 ≤ t) (h1 : load (D.t (t % 2)).b = some ⟨t, st, ns, u⟩) (h2 : ∀ x, load (D.t ((t + 1) % 2)).b = some x → x.turn < t) :
    picks D = (⟨t, st, ns, false⟩, decide (u < (D.t (t % 2)).b.length)) := by
  unfold picks
  rcases Nat.mod_two_eq_zero_or_one t with h0 | h0
  · have h0' : (t + 1) % 2 = 1 := by omega
    rw [h0] at h1
    rw [h0'] at h2
    have e0 : pick 0 (D.t 0).b (⟨0, [], [], false⟩, false) = (⟨t, st, ns, false⟩, decide (u < (D.t 0).b.length)) := by
      unfold pick
      rw [h1]
      simp only
      rw [if_pos ⟨ht, h0⟩]
    rw [e0, h0]
    unfold pick
    cases hl : load (D.t 1).b with
    | none => rfl
    | some x =>
      have := h2 x hl
      simp only
      rw [if_neg (by omega)]
  · have h0' : (t + 1) % 2 = 0 := by omega
    rw [h0] at h1
    rw [h0'] at h2
    rw [h0]
    have key : ∀ c : Lg × Bool, c.1.turn < t → pick 1 (D.t 1).b c = (⟨t, st, ns, false⟩, decide (u < (D.t 1).b.length)) := by
      intro c hc
      unfold pick
      rw [h1]
      simp only
      rw [if_pos ⟨hc, h0⟩]
    refine key _ ?_
    unfold pick
    cases hl : load (D.t 0).b with
    | none => simp only; omega
    | some x =>
      have := h2 x hl
      simp only
      split
      · exact this
      · simp only; omega
theorem load_std {D : Dk.Dsk} {L : Lg} (h : Std D L) (hok : Ok L) : ∃ u, Wl.load (D.t (L.turn % 2)).b = some ⟨L.turn, L.state, L.notes, u⟩ ∧ u = (D.t (L.turn % 2)).b.length := by
  obtain ⟨m, hm, hs, hb⟩ := h.here
  have hmany := hok.many
  refine ⟨_, ?_, rfl⟩
  rw [hb, load_tape L.turn m L.state L.notes [] ⟨h.turn, hok.turn⟩ (by omega) hs hok.note (.inl rfl), if_neg (by omega), tapeOf_len]
  rfl
theorem open_std {D : Dk.Dsk} {L : Lg} (h : Std D L) (hok : Ok L) : openL D = (D, some L, 0) := by
  obtain ⟨u, h1, h2⟩ := load_std h hok
  have e := picks_two h.turn h1 h.other
  rw [h2] at e
  have e2 : picks D = (L, false) := by
    rw [e, lg_eta h.live, decide_eq_false (Nat.lt_irrefl _)]
  unfold openL
  rw [if_neg (by rw [h.calm.down]; decide), e2, if_neg]
  have := h.turn
  rintro (h1 | h1)
  · simp only at h1; omega
  · cases h1
/-- a state is laid behind it -/
theorem lay_std {D : Dk.Dsk} {L : Lg} (hc : Calm D) (hlive : L.dead = false) (hlen : (hdata (L.turn + 1) L.notes.length L.state).length ≤ 65536) (hroom : ((layB L).length : Int) ≤ D.room)
    (hthere : (L.turn = 0 ∧ (D.t (L.turn % 2)).b = []) ∨ (1 ≤ L.turn ∧ 0 < (D.t (L.turn % 2)).b.length ∧ ∀ x, Wl.load (D.t (L.turn % 2)).b = some x → x.turn < L.turn + 1)) :
    ∃ D', lay D L = (D', { L with turn := L.turn + 1 }, 0) ∧ Std D' { L with turn := L.turn + 1 } ∧ D'.room = D.room ∧ D'.acts = D.acts + 3 ∧ (D'.t (L.turn % 2)) = D.t (L.turn % 2) := by
  obtain ⟨D', e, c1, c2, c3, c4, c5⟩ := lay_calm hc L hroom
  have ho : D'.t ((L.turn + 1 + 1) % 2) = D.t (L.turn % 2) := by
    rw [c5 _ (by omega)]
    congr 1
    omega
  refine ⟨D', e, ⟨c1, hlive, by simp, ⟨L.notes.length, Nat.le_refl _, hlen, ?_⟩, ?_⟩, c2, c3, c5 _ (by omega)⟩
  · simp only
    rw [c4, layB_tape]
  · simp only
    rw [ho]
    rcases hthere with ⟨h1, h2⟩ | ⟨h1, h2, h3⟩
    · exact .inl ⟨by omega, h2⟩
    · exact .inr ⟨by omega, h2, h3⟩
theorem open_new (r : Int) (hr : 14 ≤ (Dk.new r).room) : ∃ D', openL (Dk.new r) = (D', some ⟨1, [], [], false⟩, 0) ∧ Std D' ⟨1, [], [], false⟩ ∧ D'.room = (Dk.new r).room ∧ D'.acts = 3 := by
  have e : picks (Dk.new r) = (⟨0, [], [], false⟩, false) := rfl
  have hl : layB ⟨0, [], [], false⟩ = enc 1 (hdata 1 0 []) ++ [] := rfl
  have h1 : (hdata 1 0 []).length = 2 := by decide +kernel
  obtain ⟨D', e1, e2, e3, e4, _⟩ := lay_std (calm_new r) (L := ⟨0, [], [], false⟩) rfl (by show (hdata 1 0 []).length ≤ 65536; rw [h1]; decide) (by rw [hl, List.append_nil, enc_len, h1]; exact hr) (.inl ⟨rfl, rfl⟩)
  refine ⟨D', ?_, e2, e3, e4⟩
  unfold openL
  rw [if_neg (by simp [Dk.new]), e, if_pos (.inl rfl), e1]
  rfl
theorem Std.app {D : Dk.Dsk} {L : Lg} (h : Std D L) (b : Byt) (hb : b.length ≤ 65536) (hroom : ((D.t (L.turn % 2)).b.length : Int) + 12 + b.length ≤ D.room) :
    ∃ D', append D L b = (D', { L with notes := L.notes ++ [b] }, 0) ∧ Std D' { L with notes := L.notes ++ [b] } ∧ D'.room = D.room ∧ D'.acts = D.acts + 1 ∧ (D'.t (L.turn % 2)).b = (D.t (L.turn % 2)).b ++ enc 2 b ∧ D'.t ((L.turn + 1) % 2) = D.t ((L.turn + 1) % 2) := by
  have hr := tp_range L.turn
  obtain ⟨D1, e1, a1, a2, a3, a4, a5⟩ := app_calm h.calm _ hr (enc 2 b) (by rw [tp_nat, enc_len]; omega)
  rw [tp_nat] at a4 a5
  have hne : (L.turn + 1) % 2 ≠ L.turn % 2 := by omega
  refine ⟨D1, ?_, ⟨a1, h.live, h.turn, ?_, ?_⟩, a2, a3, a4, a5 _ hne⟩
  · unfold append
    rw [if_neg (by rw [h.live]; decide), if_neg (by omega), e1]
    simp only [ne_eq, not_true_eq_false, if_false]
  · obtain ⟨m, hm, hs, hbb⟩ := h.here
    refine ⟨m, by simp; omega, hs, ?_⟩
    simp only
    rw [a4, hbb, ← tapeOf_app]
    simp [nfs, encs]
  · simp only
    rw [a5 _ hne]
    exact h.there
theorem Std.app_full {D : Dk.Dsk} {L : Lg} (h : Std D L) (b : Byt) (hb : b.length ≤ 65536) (hroom : D.room < ((D.t (L.turn % 2)).b.length : Int) + 12 + b.length) : append D L b = (D, L, 40) := by
  have e1 := Wl.app_full h.calm _ (tp_range L.turn) (enc 2 b) (by rw [tp_nat, enc_len]; omega)
  unfold append
  rw [if_neg (by rw [h.live]; decide), if_neg (by omega), e1]
  simp only
  rw [if_pos (by decide)]
  unfold note; simp
theorem sync_std {D : Dk.Dsk} {L : Lg} (h : Std D L) : ∃ D', sync D L = (D', L, 0) ∧ Std D' L ∧ D'.room = D.room ∧ D'.acts = D.acts + 1 ∧ (∀ i, (D'.t i).b = (D.t i).b) := by
  obtain ⟨D1, e1, a1, a2, a3, a4, a5⟩ := flush_calm h.calm _ (tp_range L.turn)
  refine ⟨D1, ?_, ⟨a1, h.live, h.turn, ?_, ?_⟩, a2, a3, a4⟩
  · unfold sync
    rw [if_neg (by rw [h.live]; decide), e1]
    simp only
    rw [note_zero]
  · rw [a4]; exact h.here
  · rw [a4]; exact h.there
theorem check_std {D : Dk.Dsk} {L : Lg} (h : Std D L) (hok : Ok L) (st : Byt) (hst : st.length ≤ 65500) (hroom : 12 + ((hdata (L.turn + 1) 0 st).length : Int) ≤ D.room) :
    ∃ D', check D L st = (D', ⟨L.turn + 1, st, [], false⟩, 0) ∧ Std D' ⟨L.turn + 1, st, [], false⟩ ∧ D'.room = D.room ∧ D'.acts = D.acts + 3 := by
  have hf : fresh L st = ⟨L.turn, st, [], false⟩ := by unfold fresh; rw [h.live]
  have hl : layB (fresh L st) = enc 1 (hdata (L.turn + 1) 0 st) := by rw [hf]; unfold layB; simp [nfs, encs]
  have hlen := hdata_len (L.turn + 1) 0 st
  obtain ⟨u, h1, h2⟩ := load_std h hok
  obtain ⟨D', e1, e2, e3, e4, _⟩ := lay_std (L := fresh L st) h.calm (by rw [hf]) (by rw [hf]; show (hdata (L.turn + 1) 0 st).length ≤ 65536; omega) (by rw [hl, enc_len]; omega)
    (.inr ⟨by rw [hf]; exact h.turn, by rw [hf]; obtain ⟨m, _, _, hb⟩ := h.here; rw [hb, tapeOf_len]; omega, by rw [hf]; intro x hx; rw [h1] at hx; injection hx with hx; subst hx; show L.turn < L.turn + 1; omega⟩)
  rw [hf] at e1 e2
  refine ⟨D', ?_, e2, e3, e4⟩
  unfold check
  rw [if_neg (by rw [h.live]; decide), if_neg (by omega), hf, e1]
  simp
theorem check_full {D : Dk.Dsk} {L : Lg} (h : Std D L) (st : Byt) (hst : st.length ≤ 65500) (hroom : D.room < 12 + ((hdata (L.turn + 1) 0 st).length : Int)) : (check D L st).2.2 = 40 := by
  have hf : fresh L st = ⟨L.turn, st, [], false⟩ := by unfold fresh; rw [h.live]
  have hl : layB (fresh L st) = enc 1 (hdata (L.turn + 1) 0 st) := by rw [hf]; unfold layB; simp [nfs, encs]
  obtain ⟨D', e1, _⟩ := lay_full h.calm (fresh L st) (by rw [hl, enc_len]; omega)
  unfold check
  rw [if_neg (by rw [h.live]; decide), if_neg (by omega), e1]
  simp
/-- what is torn behind the last note -/
theorem Std.torn {D : Dk.Dsk} {L : Lg} (h : Std D L) (hok : Ok L) (r : Byt) (D2 : Dk.Dsk) (hr : Torn r) (hr0 : r ≠ []) (hc : Calm D2) (hb : (D2.t (L.turn % 2)).b = (D.t (L.turn % 2)).b ++ r) (ho : (D2.t ((L.turn + 1) % 2)).b = (D.t ((L.turn + 1) % 2)).b) (hroom : ((layB L).length : Int) ≤ D2.room) :
    ∃ D', openL D2 = (D', some { L with turn := L.turn + 1 }, 0) ∧ Std D' { L with turn := L.turn + 1 } ∧ D'.room = D2.room ∧ D'.acts = D2.acts + 3 := by
  obtain ⟨m, hm, hs, hbb⟩ := h.here
  have hmany := hok.many
  have hb2 : (D2.t (L.turn % 2)).b = tapeOf L.turn m L.state L.notes r := by rw [hb, hbb]; unfold tapeOf; simp
  have h1 := load_tape L.turn m L.state L.notes r ⟨h.turn, hok.turn⟩ (by omega) hs hok.note hr
  rw [if_neg (by omega), ← hb2] at h1
  have hrl : 0 < r.length := by cases r; exact absurd rfl hr0; simp
  have e := picks_two h.turn h1 (by rw [ho]; exact h.other)
  have e2 : picks D2 = (L, true) := by
    rw [e, hb2, tapeOf_len, decide_eq_true (by omega), lg_eta h.live]
  obtain ⟨D', e3, e4, e5, e6, _⟩ := lay_std (L := L) hc h.live (by have := hok.hlen; omega) hroom
    (.inr ⟨h.turn, by rw [hb2, tapeOf_len]; omega, by intro x hx; rw [h1] at hx; injection hx with hx; subst hx; show L.turn < L.turn + 1; omega⟩)
  refine ⟨D', ?_, e4, e5, e6⟩
  unfold openL
  rw [if_neg (by rw [hc.down]; decide), e2, if_pos (.inr rfl), e3]
  rfl
end Go.Proofs.Ytmmgnbdngpkfcaa.Wl

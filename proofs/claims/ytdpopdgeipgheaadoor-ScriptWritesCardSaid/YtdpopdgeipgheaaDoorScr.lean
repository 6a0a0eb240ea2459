
/-
  Setups and scripts in bits, in plain Lean: what their bits are, that they are read as they were written.
-/
import Derived.Test.YtdpopdgeipgheaaDoorPars2
namespace Go.Proofs.YtdpopdgeipgheaaDoor.Sc
open Go.Proofs.YtdpopdgeipgheaaDoor.Bts
set_option linter.unusedVariables false

/-- a setup: its fifteen numbers in order, its seed -/
abbrev Conf := List Int × BitVec 64
abbrev Step := Int × Int × Int × List Int
def cf (c : Conf) (i : Nat) : Int := c.1.getD i 0
def lows : List Int := [1, 1, 1, 1, 0, 1, 0, 0, 0]
def highs : List Int := [7, 4, 16, 2, 100, 1000, 4194304, 1073741824, 63]
/-- a plan: keys, most, reads, writes, both, scans -/
def planR (k m r w b s : Int) : Prop := (0 ≤ r ∧ r ≤ 1000) ∧ (0 ≤ w ∧ w ≤ 1000) ∧ (0 ≤ b ∧ b ≤ 1000) ∧ (0 ≤ s ∧ s ≤ 1000) ∧ (1 ≤ k ∧ k ≤ 16) ∧ (1 ≤ m ∧ m ≤ 12) ∧ r + w + b + s ≠ 0
instance (k m r w b s : Int) : Decidable (planR k m r w b s) := by unfold planR; infer_instance
def planOk (c : Conf) : Prop := planR (cf c 9) (cf c 10) (cf c 11) (cf c 12) (cf c 13) (cf c 14)
instance (c : Conf) : Decidable (planOk c) := by unfold planOk; infer_instance
def inB (c : Conf) (i : Nat) : Prop := lows.getD i 0 ≤ cf c i ∧ cf c i ≤ highs.getD i 0
instance (c : Conf) (i : Nat) : Decidable (inB c i) := by unfold inB; infer_instance
def boundsOk (c : Conf) : Prop := ∀ i, i < 9 → inB c i
instance (c : Conf) : Decidable (boundsOk c) := by unfold boundsOk; infer_instance
def check (c : Conf) : Int := if planOk c then (if boundsOk c then (if 400 < 2 * cf c 2 * cf c 4 then 4 else 0) else 1) else 1
def zeroC : Conf := ([0, 0, 0, 0, 0, 0, 0, 0, 0, 0, 0, 0, 0, 0, 0], 0#64)

def numsBits (l : List Int) : Bits := (l.map fun x => num (BitVec.ofInt 64 x)).flatten
def confBits (c : Conf) : Bits := numsBits c.1 ++ low c.2 64
def keepsBits (l : List Int) : Bits := (l.map int).flatten
def stepBits (s : Step) : Bits := int s.1 ++ (int s.2.1 ++ (int s.2.2.1 ++ (num (BitVec.ofInt 64 s.2.2.2.length) ++ keepsBits s.2.2.2)))
def stepsBits (l : List Step) : Bits := (l.map stepBits).flatten
def allBits (x : Conf × List Step) : Bits := confBits x.1 ++ (num (BitVec.ofInt 64 x.2.length) ++ stepsBits x.2)

def confOk (c : Conf) : Prop := c.1.length = 15 ∧ check c = 0
def stepOk (s : Step) : Prop := i64 s.1 ∧ i64 s.2.1 ∧ i64 s.2.2.1 ∧ s.2.2.2.length < 18446744073709551616 ∧ ∀ k ∈ s.2.2.2, i64 k
def allOk (x : Conf × List Step) : Prop := confOk x.1 ∧ x.2.length ≤ 20000 ∧ ∀ s ∈ x.2, stepOk s

def clip (v : BitVec 64) : Int := if 1099511627776 < v.toNat then 1099511627776 else (v.toNat : Int)
def ofRaw (x : List (BitVec 64) × BitVec 64) : Conf := (x.1.map clip, x.2)
def confP : Pr Conf := mapP ofRaw (filtE (fun x => check (ofRaw x)) (bindP (manyP numP 15) (fun _ => getP 64)))
def stepP : Pr Step := mapP (fun x : Int × Int × Int × BitVec 64 × List Int => (x.1, x.2.1, x.2.2.1, x.2.2.2.2)) (bindP intP (fun _ => bindP intP (fun _ => bindP intP (fun _ => bindP numP (fun n => manyP intP n.toNat)))))
def decP : Pr (Conf × List Step) := mapP (fun x => (x.1, x.2.2)) (bindP confP (fun _ => bindP (filtP (fun n => decide (n.toNat ≤ 20000)) 4 numP) (fun n => manyP stepP n.toNat)))
def dec (l : Bits) : Conf × List Step × Int := match allP decP l with
  | .inl x => (x.1, x.2, 0)
  | .inr e => (zeroC, [], e)

theorem check_ok {c : Conf} (h : check c = 0) : planOk c ∧ boundsOk c ∧ 2 * cf c 2 * cf c 4 ≤ 400 := by
  unfold check at h
  split at h
  · split at h
    · split at h
      · cases h
      · rename_i h1 h2 h3; exact ⟨h1, h2, by omega⟩
    · cases h
  · cases h
theorem check_small {c : Conf} (h : confOk c) : ∀ x ∈ c.1, 0 ≤ x ∧ x < 1099511627776 := by
  obtain ⟨hl, hc⟩ := h
  obtain ⟨hp, hb, _⟩ := check_ok hc
  have key : ∀ i, i < 15 → 0 ≤ cf c i ∧ cf c i < 1099511627776 := by
    intro i hi
    by_cases h9 : i < 9
    · obtain ⟨h1, h2⟩ := hb i h9
      have e : i = 0 ∨ i = 1 ∨ i = 2 ∨ i = 3 ∨ i = 4 ∨ i = 5 ∨ i = 6 ∨ i = 7 ∨ i = 8 := by omega
      rcases e with rfl | rfl | rfl | rfl | rfl | rfl | rfl | rfl | rfl <;> simp only [lows, highs, List.getD_cons_zero, List.getD_cons_succ] at h1 h2 <;> omega
    · unfold planOk planR at hp
      have e : i = 9 ∨ i = 10 ∨ i = 11 ∨ i = 12 ∨ i = 13 ∨ i = 14 := by omega
      rcases e with rfl | rfl | rfl | rfl | rfl | rfl <;> omega
  intro x hx
  obtain ⟨i, hi, rfl⟩ := List.getElem_of_mem hx
  have := key i (by omega)
  unfold cf at this
  rw [List.getD_eq_getElem?_getD, List.getElem?_eq_getElem hi] at this
  exact this
theorem check_errs (c : Conf) : check c = 0 ∨ check c = 1 ∨ check c = 4 := by
  unfold check
  split
  · split
    · split
      · exact .inr (.inr rfl)
      · exact .inl rfl
    · exact .inr (.inl rfl)
  · exact .inr (.inl rfl)

theorem clip_of {v : BitVec 64} (h : clip v < 1099511627776) : BitVec.ofInt 64 (clip v) = v := by
  unfold clip at h ⊢
  split
  · rename_i h1; rw [if_pos h1] at h; omega
  · rw [BitVec.ofInt_natCast]; exact BitVec.ofNat_toNat 64 v
theorem clip_to {i : Int} (h0 : 0 ≤ i) (h : i < 1099511627776) : clip (BitVec.ofInt 64 i) = i := by
  have e := ofInt_nat64 i h0 (by omega)
  unfold clip
  rw [if_neg (by omega)]
  exact e
theorem map_id_on {α : Type} {f : α → α} {l : List α} (h : ∀ x ∈ l, f x = x) : l.map f = l := by
  rw [List.map_congr_left (g := id) h, List.map_id]

theorem good_conf : Coded confBits confP confOk := by
  have h := ((good_num.many 15).bind (fun _ _ => good_get 64 (by decide))).filtE (fun x => check (ofRaw x))
  refine h.map ofRaw (fun c => (c.1.map (BitVec.ofInt 64), c.2)) confBits confOk (fun y _ => ?_) (fun c hc => ?_) (fun x hx => ?_)
  · unfold confBits numsBits; simp only [List.map_map]; rfl
  · have hs := check_small hc
    have e : ofRaw (c.1.map (BitVec.ofInt 64), c.2) = c := by
      unfold ofRaw
      rw [List.map_map]
      have e := map_id_on (f := clip ∘ BitVec.ofInt 64) fun x hx => clip_to (hs x hx).1 (hs x hx).2
      rw [e]
    refine ⟨⟨⟨⟨by simp only [List.length_map]; exact hc.1, fun _ _ => trivial⟩, c.2.isLt⟩, ?_⟩, e⟩
    simp only [e]; exact hc.2
  · obtain ⟨⟨⟨h1, _⟩, _⟩, h2⟩ := hx
    have hc : confOk (ofRaw x) := ⟨by unfold ofRaw; simp only [List.length_map]; exact h1, h2⟩
    refine ⟨hc, ?_⟩
    have hs := check_small hc
    obtain ⟨vs, s⟩ := x
    unfold ofRaw at hs ⊢
    simp only [Prod.mk.injEq, and_true, List.map_map]
    refine map_id_on fun v hv => ?_
    exact clip_of (hs _ (List.mem_map.2 ⟨v, hv, rfl⟩)).2
theorem good_step : Coded stepBits stepP stepOk := by
  have h := good_int.bind (fun _ _ => good_int.bind (fun _ _ => good_int.bind (fun _ _ => good_num.bind (fun n _ => good_int.many n.toNat))))
  refine h.map _ (fun s => (s.1, s.2.1, s.2.2.1, BitVec.ofInt 64 s.2.2.2.length, s.2.2.2)) stepBits stepOk (fun y _ => rfl) (fun s hs => ?_) (fun x hx => ?_)
  · obtain ⟨h1, h2, h3, h4, h5⟩ := hs
    have e := ofInt_nat64 (s.2.2.2.length : Int) (by omega) (by omega)
    exact ⟨⟨h1, h2, h3, trivial, by simp only; omega, h5⟩, rfl⟩
  · obtain ⟨h1, h2, h3, _, h4, h5⟩ := hx
    obtain ⟨x1, x2, x3, n, xs⟩ := x
    simp only at h1 h2 h3 h4 h5
    have := n.isLt
    refine ⟨⟨h1, h2, h3, by simp only; omega, h5⟩, ?_⟩
    simp only [Prod.mk.injEq, true_and, and_true]
    apply BitVec.eq_of_toNat_eq
    rw [h4, BitVec.toNat_ofInt]
    omega
theorem good_all : Coded allBits decP allOk := by
  have h := good_conf.bind (fun _ _ => (good_num.filt (fun n => decide (n.toNat ≤ 20000)) 4 (by decide)).bind (fun n _ => good_step.many n.toNat))
  refine h.map _ (fun x => (x.1, BitVec.ofInt 64 x.2.length, x.2)) allBits allOk (fun y _ => rfl) (fun x hx => ?_) (fun x hx => ?_)
  · obtain ⟨h1, h2, h3⟩ := hx
    have e := ofInt_nat64 (x.2.length : Int) (by omega) (by omega)
    exact ⟨⟨h1, ⟨trivial, by simp only [decide_eq_true_eq]; omega⟩, by simp only; omega, h3⟩, rfl⟩
  · obtain ⟨c, n, l⟩ := x
    obtain ⟨h1, ⟨_, h2⟩, h3, h4⟩ := hx
    simp only [decide_eq_true_eq] at h1 h2 h3 h4
    refine ⟨⟨h1, by simp only; omega, h4⟩, ?_⟩
    simp only [Prod.mk.injEq, true_and, and_true]
    apply BitVec.eq_of_toNat_eq
    rw [h3, BitVec.toNat_ofInt]
    omega

/-! what the encoder tells -/
def encErr (x : Conf × List Step) : Int := if check x.1 = 0 then (if 20000 < x.2.length then 4 else 0) else check x.1
def encOut (x : Conf × List Step) : Bytes := if encErr x = 0 then pack (allBits x) else []
theorem dec_enc {x : Conf × List Step} (h : allOk x) : dec (bitsOf (pack (allBits x))) = (x.1, x.2, 0) := by
  unfold dec
  rw [allP_enc good_all h]
theorem dec_bad (l : Bits) : (dec l).2.2 = 0 ∨ ((dec l).1 = zeroC ∧ (dec l).2.1 = [] ∧ (dec l).2.2 ≠ 0) := by
  unfold dec
  cases h1 : allP decP l with
  | inl x => exact .inl rfl
  | inr e => exact .inr ⟨rfl, rfl, allP_err good_all h1⟩
theorem dec_ok {b : Bytes} (h : (dec (bitsOf b)).2.2 = 0) : allOk ((dec (bitsOf b)).1, (dec (bitsOf b)).2.1) ∧ b = pack (allBits ((dec (bitsOf b)).1, (dec (bitsOf b)).2.1)) := by
  unfold dec at h ⊢
  cases h1 : allP decP (bitsOf b) with
  | inr e => rw [h1] at h; exact absurd h (allP_err good_all h1)
  | inl x => exact allP_ok good_all h1
theorem dec_cut {x : Conf × List Step} (h : allOk x) {k : Nat} (hk : k < (pack (allBits x)).length) : dec (bitsOf ((pack (allBits x)).take k)) = (zeroC, [], 10) := by
  unfold dec
  rw [allP_cut good_all h hk]
theorem pack_inj {x y : Conf × List Step} (hx : allOk x) (hy : allOk y) (h : pack (allBits x) = pack (allBits y)) : x = y := by
  have h1 := allP_enc good_all hx
  have h2 := allP_enc good_all hy
  rw [h, h2] at h1
  injection h1 with h1
  exact h1.symm
theorem enc_ok {x : Conf × List Step} (h : encErr x = 0) (hl : x.1.1.length = 15) (hs : ∀ s ∈ x.2, stepOk s) : allOk x := by
  unfold encErr at h
  split at h
  · rename_i hc
    split at h
    · cases h
    · exact ⟨⟨hl, hc⟩, by omega, hs⟩
  · rename_i hc; exact absurd h hc
theorem enc_of {x : Conf × List Step} (h : allOk x) : encErr x = 0 ∧ encOut x = pack (allBits x) := by
  have e : encErr x = 0 := by
    unfold encErr
    rw [if_pos h.1.2, if_neg (by have := h.2.1; omega)]
  exact ⟨e, by unfold encOut; rw [if_pos e]⟩
theorem flat_len_le {α : Type} (f : α → Bits) (l : List α) (n : Nat) : ((l.take n).map f).flatten.length ≤ (l.map f).flatten.length := by
  have e : l.map f = (l.take n).map f ++ (l.drop n).map f := by rw [← List.map_append, List.take_append_drop]
  rw [e, List.flatten_append, List.length_append]
  omega
theorem take_ok {c : Conf} {l : List Step} (h : allOk (c, l)) (n : Nat) : allOk (c, l.take n) ∧ (pack (allBits (c, l.take n))).length ≤ (pack (allBits (c, l))).length := by
  obtain ⟨h1, h2, h3⟩ := h
  refine ⟨⟨h1, by rw [List.length_take]; simp only at h2; omega, fun s hs => h3 s (List.mem_of_mem_take hs)⟩, ?_⟩
  refine Bk.pack_mono ?_
  simp only [allBits, List.length_append]
  have e1 : (num (BitVec.ofInt 64 (l.take n).length)).length ≤ (num (BitVec.ofInt 64 l.length)).length := by
    refine num_len_mono ?_
    simp only at h2
    rw [List.length_take, BitVec.toNat_ofInt, BitVec.toNat_ofInt]
    omega
  have e2 := flat_len_le stepBits l n
  unfold stepsBits
  omega

theorem keepsBits_snoc (l : List Int) (k : Nat) (h : k < l.length) : keepsBits (l.take (k + 1)) = keepsBits (l.take k) ++ int l[k] := by
  unfold keepsBits
  rw [← List.take_append_getElem h, List.map_append, List.flatten_append]
  simp
theorem stepsBits_snoc (l : List Step) (k : Nat) (h : k < l.length) : stepsBits (l.take (k + 1)) = stepsBits (l.take k) ++ stepBits l[k] := by
  unfold stepsBits
  rw [← List.take_append_getElem h, List.map_append, List.flatten_append]
  simp
theorem numsBits_snoc (l : List Int) (k : Nat) (h : k < l.length) : numsBits (l.take (k + 1)) = numsBits (l.take k) ++ num (BitVec.ofInt 64 l[k]) := by
  unfold numsBits
  rw [← List.take_append_getElem h, List.map_append, List.flatten_append]
  simp
theorem int_len (i : Int) : (int i).length ≤ 129 := by
  obtain ⟨z, h, hz⟩ := num_len (zig i)
  unfold int; omega
theorem num_le (x : BitVec 64) : (num x).length ≤ 129 := by
  obtain ⟨z, h, hz⟩ := num_len x
  omega
theorem flat_le {α : Type} (f : α → Bits) (m : Nat) (hf : ∀ x, (f x).length ≤ m) : ∀ l : List α, (l.map f).flatten.length ≤ l.length * m
  | [] => by simp
  | x :: l => by
    have := flat_le f m hf l
    have := hf x
    simp only [List.map_cons, List.flatten_cons, List.length_append, List.length_cons]
    rw [Nat.add_mul]; omega
theorem keepsBits_len (l : List Int) : (keepsBits l).length ≤ l.length * 129 := flat_le int 129 int_len l
theorem numsBits_len (l : List Int) : (numsBits l).length ≤ l.length * 129 := flat_le _ 129 (fun x => num_le _) l
theorem stepBits_len (s : Step) : (stepBits s).length ≤ 516 + s.2.2.2.length * 129 := by
  have h1 := int_len s.1
  have h2 := int_len s.2.1
  have h3 := int_len s.2.2.1
  have h4 := num_le (BitVec.ofInt 64 s.2.2.2.length)
  have h5 := keepsBits_len s.2.2.2
  simp only [stepBits, List.length_append]
  omega
theorem stepsBits_len (l : List Step) (m : Nat) (h : ∀ s ∈ l, s.2.2.2.length ≤ m) : (stepsBits l).length ≤ l.length * (516 + m * 129) := by
  induction l with
  | nil => simp [stepsBits]
  | cons t l ih =>
    have h1 := stepBits_len t
    have h2 := h t (by simp)
    have h3 := ih fun e he => h e (by simp [he])
    have h4 : t.2.2.2.length * 129 ≤ m * 129 := Nat.mul_le_mul_right _ h2
    simp only [stepsBits, List.map_cons, List.flatten_cons, List.length_append, List.length_cons] at h3 ⊢
    rw [Nat.add_mul]; omega
end Go.Proofs.YtdpopdgeipgheaaDoor.Sc


/-
  What a log comes to when the power may go at any time: plain laws.
  A log and its disk beside memory of the statement's own.
-/
import Derived.Test.YtmmgnbdngpkfcaaWalT
import Derived.Test.YtmmgnbdngpkfcaaBas
namespace Go.Proofs.Ytmmgnbdngpkfcaa.Wl
open Go.Proofs.Ytmmgnbdngpkfcaa Go.Proofs.Ytmmgnbdngpkfcaa.Bts Go.Proofs.Ytmmgnbdngpkfcaa.Frm
set_option linter.unusedVariables false

/-- what a tape may be behind a loss of power -/
def Outs (x : Dk.Tp) (b : Byt) : Prop := ∃ keep, b = Dk.crashB x keep
theorem outs_cases {x : Dk.Tp} {b : Byt} (h : Outs x b) (hs : x.safe ≤ x.b.length) : (x.fresh = true ∧ b = x.old) ∨ ∃ j, x.safe ≤ j ∧ j ≤ x.b.length ∧ b = x.b.take j := by
  obtain ⟨keep, rfl⟩ := h
  unfold Dk.crashB
  by_cases hc : x.fresh = true ∧ keep < 0
  · rw [if_pos hc]; exact .inl ⟨hc.1, rfl⟩
  · rw [if_neg hc]; exact .inr ⟨_, by omega, by omega, rfl⟩
theorem outs_safe (x : Dk.Tp) (hs : x.safe ≤ x.b.length) : Outs x (x.b.take x.safe) := by
  refine ⟨0, ?_⟩
  unfold Dk.crashB
  rw [if_neg (fun h => by have := h.2; omega)]
  congr 1
  omega
theorem outs_all (x : Dk.Tp) (hs : x.safe ≤ x.b.length) : Outs x x.b := by
  refine ⟨x.b.length, ?_⟩
  unfold Dk.crashB
  rw [if_neg (fun h => by have := h.2; omega), List.take_of_length_le]
  omega
theorem outs_old {x : Dk.Tp} (hf : x.fresh = true) : Outs x x.old := by
  refine ⟨-1, ?_⟩
  unfold Dk.crashB
  rw [if_pos ⟨hf, by decide⟩]
theorem outs_clear {x : Dk.Tp} {b : Byt} (h : Outs (Dk.clearT x) b) (hs : x.safe ≤ x.b.length) : b = [] ∨ Outs x b := by
  rcases outs_cases h (Nat.le_refl _) with ⟨_, rfl⟩ | ⟨j, _, _, rfl⟩
  · right
    unfold Dk.clearT
    simp only
    by_cases hf : x.fresh = true
    · rw [if_pos hf]; exact outs_old hf
    · rw [if_neg hf]; exact outs_safe x hs
  · left; simp [Dk.clearT]
theorem outs_cleared_app {x : Dk.Tp} {b d : Byt} (h : Outs { Dk.clearT x with b := d } b) (hs : x.safe ≤ x.b.length) : (∃ j, b = d.take j) ∨ Outs x b := by
  rcases outs_cases h (Nat.zero_le _) with ⟨_, rfl⟩ | ⟨j, _, _, rfl⟩
  · right
    simp only [Dk.clearT]
    by_cases hf : x.fresh = true
    · rw [if_pos hf]; exact outs_old hf
    · rw [if_neg hf]; exact outs_safe x hs
  · exact .inl ⟨j, rfl⟩
theorem outs_firm {x : Dk.Tp} {b : Byt} (h : Outs x b) (hf : x.fresh = false) (hs : x.safe = x.b.length) : b = x.b := by
  rcases outs_cases h (by omega) with ⟨h1, _⟩ | ⟨j, h1, h2, rfl⟩
  · rw [hf] at h1; cases h1
  · exact List.take_of_length_le (by omega)

structure Md where
  state : Byt
  notes : List Byt
  safe : Nat
/-- the tape that counts, with some of the notes -/
def MainOut (t : Nat) (m : Md) (b : Byt) : Prop := ∃ i r must, m.safe ≤ i ∧ i ≤ m.notes.length ∧ must ≤ i ∧ Torn r ∧ (hdata t must m.state).length ≤ 65536 ∧ b = tapeOf t must m.state (m.notes.take i) r
/-- a state that may come to count -/
def Cand (t : Nat) (m : Md) (o : Option Byt) (b : Byt) : Prop :=
  ∃ st ns must, must ≤ ns.length ∧ (hdata (t + 1) must st).length ≤ 65536 ∧ b = tapeOf (t + 1) must st ns [] ∧ ((st = m.state ∧ ∃ i, m.safe ≤ i ∧ i ≤ m.notes.length ∧ ns = m.notes.take i) ∨ (o = some st ∧ ns = []))
def OtherOut (t : Nat) (m : Md) (o : Option Byt) (b : Byt) : Prop := (∀ x, load b = some x → x.turn < t) ∨ Cand t m o b
/-- what lies on the disk, whatever is lost -/
structure Pre (D : Dk.Dsk) (t : Nat) (m : Md) (o : Option Byt) : Prop where
  turn : 1 ≤ t
  main : ∀ b, Outs (D.t (t % 2)) b → MainOut t m b
  other : ∀ b, Outs (D.t ((t + 1) % 2)) b → OtherOut t m o b
/-- a model that is small enough -/
structure Sm (m : Md) (n : Nat) : Prop where
  state : m.state.length ≤ 500
  note : ∀ x ∈ m.notes, x.length ≤ 500
  many : m.notes.length ≤ n
/-- the tape that counts, while the power stays -/
def MainT (x : Dk.Tp) (t : Nat) (m : Md) : Prop :=
  ∃ must s, must ≤ s ∧ m.safe ≤ s ∧ s ≤ m.notes.length ∧ (hdata t must m.state).length ≤ 65536 ∧ x.fresh = false ∧ x.b = tapeOf t must m.state m.notes [] ∧ (tapeOf t must m.state (m.notes.take s) []).length ≤ x.safe
structure Up (D : Dk.Dsk) (L : Lg) (m : Md) : Prop where
  up : D.down = false
  live : L.dead = false
  st : L.state = m.state
  ns : L.notes = m.notes
  turn : 1 ≤ L.turn
  main : MainT (D.t (L.turn % 2)) L.turn m
  other : ∀ b, Outs (D.t ((L.turn + 1) % 2)) b → ∀ x, load b = some x → x.turn < L.turn

theorem tapeOf_take {t must : Nat} {st : Byt} {ns : List Byt} {s j : Nat} (hn : ∀ n ∈ ns, n.length ≤ 65536) (hj : (tapeOf t must st (ns.take s) []).length ≤ j) (hs : s ≤ ns.length) :
    ∃ i r, s ≤ i ∧ i ≤ ns.length ∧ (tapeOf t must st ns []).take j = tapeOf t must st (ns.take i) r ∧ Torn r := by
  have hl := tapeOf_len t must st (ns.take s) []
  simp only [List.length_nil] at hl
  obtain ⟨i, r, h1, h2, h3, h4⟩ := encs_take (nfs ns) (j - (12 + (hdata t must st).length)) (nfs_fine hn)
  rw [nfs_len] at h1 h4
  have e1 : (nfs ns).take i = nfs (ns.take i) := by simp [nfs, List.map_take]
  have e2 : (nfs ns).take (i + 1) = nfs (ns.take (i + 1)) := by simp [nfs, List.map_take]
  rw [e1] at h2
  rw [e2] at h4
  refine ⟨i, r, ?_, h1, ?_, h3⟩
  · by_cases hsi : s ≤ i
    · exact hsi
    · have h5 := h4 (by omega)
      have e3 : ns.take s = ns.take (i + 1) ++ (ns.take s).drop (i + 1) := by
        conv => lhs; rw [← List.take_append_drop (i + 1) (ns.take s)]
        rw [List.take_take, Nat.min_eq_left (by omega)]
      have e4 : (encs (nfs (ns.take s))).length = (encs (nfs (ns.take (i + 1)))).length + (encs (nfs ((ns.take s).drop (i + 1)))).length := by
        conv => lhs; rw [e3]
        rw [nfs_app, encs_app, List.length_append]
      omega
  · unfold tapeOf at *
    rw [List.append_nil, List.take_append, enc_len, List.take_of_length_le (by rw [enc_len]; omega), h2]
theorem MainT.outs {x : Dk.Tp} {t : Nat} {m : Md} {n : Nat} (h : MainT x t m) (hm : Sm m n) (hok : x.safe ≤ x.b.length) (b : Byt) (hb : Outs x b) : MainOut t m b := by
  obtain ⟨must, s, h1, h2, h3, h4, h5, h6, h7⟩ := h
  rcases outs_cases hb hok with ⟨hf, _⟩ | ⟨j, hj1, hj2, rfl⟩
  · rw [h5] at hf; cases hf
  · obtain ⟨i, r, g1, g2, g3, g4⟩ := tapeOf_take (t := t) (must := must) (st := m.state) (ns := m.notes) (s := s) (j := j) (fun n hn => by have := hm.note n hn; omega) (by omega) h3
    exact ⟨i, r, must, by omega, g2, by omega, g4, h4, by rw [h6, g3]⟩
theorem Up.pre {D : Dk.Dsk} {L : Lg} {m : Md} {n : Nat} (h : Up D L m) (hm : Sm m n) (hok : ∀ i, (D.t i).safe ≤ (D.t i).b.length) : Pre D L.turn m none :=
  ⟨h.turn, h.main.outs hm (hok _), fun b hb => .inl (h.other b hb)⟩
theorem Up.weak {D : Dk.Dsk} {L : Lg} {m : Md} {s : Nat} (h : Up D L m) (hs : s ≤ m.safe) : Up D L { m with safe := s } := by
  obtain ⟨must, s', h1, h2, h3⟩ := h.main
  exact ⟨h.up, h.live, h.st, h.ns, h.turn, ⟨must, s', h1, by simp only; omega, h3⟩, h.other⟩
theorem Pre.more {D : Dk.Dsk} {t : Nat} {m : Md} {o : Option Byt} (h : Pre D t m o) (b : Byt) : Pre D t { m with notes := m.notes ++ [b] } o := by
  have key : ∀ i, i ≤ m.notes.length → (m.notes ++ [b]).take i = m.notes.take i := fun i hi => List.take_append_of_le_length hi
  refine ⟨h.turn, fun x hx => ?_, fun x hx => ?_⟩
  · obtain ⟨i, r, must, h1, h2, h3, h4, h5, h6⟩ := h.main x hx
    exact ⟨i, r, must, h1, by simp; omega, h3, h4, h5, by simp only; rw [key i h2]; exact h6⟩
  · rcases h.other x hx with h1 | ⟨st, ns, must, h1, h2, h3, h4⟩
    · exact .inl h1
    · refine .inr ⟨st, ns, must, h1, h2, h3, ?_⟩
      rcases h4 with ⟨h5, i, h6, h7, h8⟩ | h5
      · exact .inl ⟨h5, i, h6, by simp; omega, by simp only; rw [key i h7]; exact h8⟩
      · exact .inr h5
theorem Pre.under {D : Dk.Dsk} {t : Nat} {m : Md} (h : Pre D t m none) (st : Byt) : Pre D t m (some st) := by
  refine ⟨h.turn, h.main, fun x hx => ?_⟩
  rcases h.other x hx with h1 | ⟨st', ns, must, h1, h2, h3, h4⟩
  · exact .inl h1
  · refine .inr ⟨st', ns, must, h1, h2, h3, ?_⟩
    rcases h4 with h5 | h5
    · exact .inl h5
    · cases h5.1
theorem Pre.same {D D' : Dk.Dsk} {t : Nat} {m : Md} {o : Option Byt} (h : Pre D t m o) (ht : D'.t = D.t) : Pre D' t m o := ⟨h.turn, by rw [ht]; exact h.main, by rw [ht]; exact h.other⟩

/-! the disk's acts -/
theorem act_cases (D : Dk.Dsk) : ((Dk.act D).2 = 2 ∧ (Dk.act D).1.down = true ∧ (Dk.act D).1.acts = D.acts) ∨ ((Dk.act D).2 = 0 ∧ (Dk.act D).1.down = D.down ∧ (Dk.act D).1.acts = D.acts + 1) := by
  unfold Dk.act
  split
  · exact .inl ⟨rfl, rfl, rfl⟩
  · exact .inr ⟨rfl, rfl, rfl⟩
theorem act_t (D : Dk.Dsk) : (Dk.act D).1.t = D.t ∧ (Dk.act D).1.room = D.room := by
  unfold Dk.act
  split <;> exact ⟨rfl, rfl⟩
theorem err_up {D : Dk.Dsk} (h : D.down = false) (n : Nat) : Dk.err D (tp n) = 0 := by
  unfold Dk.err tp
  rw [if_neg (by omega), h]; rfl
theorem err_down {D : Dk.Dsk} (h : D.down = true) (n : Nat) : Dk.err D (tp n) = 2 := by
  unfold Dk.err tp
  rw [if_neg (by omega), if_pos h]
/-- what a tape is told to be turns, or the power goes -/
structure Acted (D D' : Dk.Dsk) (e : Int) (q : Nat) (x : Dk.Tp) : Prop where
  tq : D'.t q = x
  rest : ∀ i, i ≠ q → D'.t i = D.t i
  room : D'.room = D.room
  acts : D.acts ≤ D'.acts ∧ D'.acts ≤ D.acts + 1
  how : (e = 0 ∧ D'.down = false) ∨ (e = 2 ∧ D'.down = true)
theorem clear_acts {D : Dk.Dsk} (h : D.down = false) (n : Nat) : Acted D (Dk.clear D (tp n)).1 (Dk.clear D (tp n)).2 (n % 2) (Dk.clearT (D.t (n % 2))) := by
  unfold Dk.clear
  rw [err_up h, if_neg (by decide), tp_nat]
  obtain ⟨h1, h2⟩ := act_t (Dk.setT D (n % 2) (Dk.clearT (D.t (n % 2))))
  refine ⟨by rw [h1]; simp [Dk.setT, Dk.upd_same], fun i hi => by rw [h1]; simp [Dk.setT, Dk.upd_other _ _ _ _ hi], by rw [h2]; rfl, ?_, ?_⟩
  · rcases act_cases (Dk.setT D (n % 2) (Dk.clearT (D.t (n % 2)))) with ⟨_, _, h3⟩ | ⟨_, _, h3⟩
    · rw [h3]; exact ⟨Int.le_refl _, by show D.acts ≤ _; omega⟩
    · rw [h3]; exact ⟨by show D.acts ≤ D.acts + 1; omega, Int.le_refl _⟩
  · rcases act_cases (Dk.setT D (n % 2) (Dk.clearT (D.t (n % 2)))) with ⟨h3, h4, _⟩ | ⟨h3, h4, _⟩
    · exact .inr ⟨h3, h4⟩
    · exact .inl ⟨h3, by rw [h4]; exact h⟩
theorem app_acts {D : Dk.Dsk} (h : D.down = false) (n : Nat) (b : Byt) : (D.room < ((D.t (n % 2)).b.length : Int) + b.length ∧ Dk.app D (tp n) b = (D, 40)) ∨
    ((((D.t (n % 2)).b.length : Int) + b.length ≤ D.room) ∧ Acted D (Dk.app D (tp n) b).1 (Dk.app D (tp n) b).2 (n % 2) { D.t (n % 2) with b := (D.t (n % 2)).b ++ b }) := by
  unfold Dk.app
  rw [err_up h, if_neg (by decide), tp_nat]
  by_cases hr : D.room - ((D.t (n % 2)).b.length : Int) < (b.length : Int)
  · rw [if_pos hr]
    exact .inl ⟨by omega, rfl⟩
  · rw [if_neg hr]
    refine .inr ⟨by omega, ?_⟩
    obtain ⟨h1, h2⟩ := act_t (Dk.setT D (n % 2) { D.t (n % 2) with b := (D.t (n % 2)).b ++ b })
    refine ⟨by rw [h1]; simp [Dk.setT, Dk.upd_same], fun i hi => by rw [h1]; simp [Dk.setT, Dk.upd_other _ _ _ _ hi], by rw [h2]; rfl, ?_, ?_⟩
    · rcases act_cases (Dk.setT D (n % 2) { D.t (n % 2) with b := (D.t (n % 2)).b ++ b }) with ⟨_, _, h3⟩ | ⟨_, _, h3⟩
      · rw [h3]; exact ⟨Int.le_refl _, by show D.acts ≤ _; omega⟩
      · rw [h3]; exact ⟨by show D.acts ≤ D.acts + 1; omega, Int.le_refl _⟩
    · rcases act_cases (Dk.setT D (n % 2) { D.t (n % 2) with b := (D.t (n % 2)).b ++ b }) with ⟨h3, h4, _⟩ | ⟨h3, h4, _⟩
      · exact .inr ⟨h3, h4⟩
      · exact .inl ⟨h3, by rw [h4]; exact h⟩
theorem flush_acts {D : Dk.Dsk} (h : D.down = false) (n : Nat) : ((Dk.flush D (tp n)).2 = 2 ∧ (Dk.flush D (tp n)).1.down = true ∧ (Dk.flush D (tp n)).1.t = D.t ∧ (Dk.flush D (tp n)).1.room = D.room ∧ (Dk.flush D (tp n)).1.acts = D.acts) ∨
    ((Dk.flush D (tp n)).2 = 0 ∧ Acted D (Dk.flush D (tp n)).1 0 (n % 2) (Dk.flushT (D.t (n % 2)))) := by
  unfold Dk.flush
  rw [err_up h, if_neg (by decide), tp_nat]
  obtain ⟨h1, h2⟩ := act_t D
  rcases act_cases D with ⟨h3, h4, h5⟩ | ⟨h3, h4, h5⟩
  · rw [if_pos (by rw [h3]; decide)]
    exact .inl ⟨h3, h4, h1, h2, h5⟩
  · rw [if_neg (by rw [h3]; decide)]
    refine .inr ⟨rfl, ⟨by simp [Dk.setT, Dk.upd_same], fun i hi => by simp [Dk.setT, Dk.upd_other _ _ _ _ hi, h1], h2, ?_, .inl ⟨rfl, by show (Dk.act D).1.down = false; rw [h4]; exact h⟩⟩⟩
    show D.acts ≤ (Dk.act D).1.acts ∧ (Dk.act D).1.acts ≤ D.acts + 1
    omega
/-- a state is laid, whenever the power goes -/
structure Laid (D : Dk.Dsk) (L : Lg) (R : Dk.Dsk × Lg × Int) : Prop where
  rest : ∀ i, i ≠ (L.turn + 1) % 2 → R.1.t i = D.t i
  room : R.1.room = D.room
  acts : D.acts ≤ R.1.acts ∧ R.1.acts ≤ D.acts + 3
  how : (R.2.2 = 0 ∧ R.1.down = false ∧ R.2.1 = { L with turn := L.turn + 1 } ∧ R.1.t ((L.turn + 1) % 2) = ⟨layB L, (layB L).length, [], false⟩) ∨
    (R.2.2 = 40 ∧ R.1.down = false ∧ R.2.1 = L ∧ R.1.t ((L.turn + 1) % 2) = Dk.clearT (D.t ((L.turn + 1) % 2))) ∨
    (R.2.2 = 2 ∧ R.1.down = true ∧ R.2.1 = { L with dead := true } ∧ (R.1.t ((L.turn + 1) % 2) = Dk.clearT (D.t ((L.turn + 1) % 2)) ∨ R.1.t ((L.turn + 1) % 2) = { Dk.clearT (D.t ((L.turn + 1) % 2)) with b := layB L }))
theorem note_two (L : Lg) : note L 2 = { L with dead := true } := by unfold note; simp
theorem note_40 (L : Lg) : note L 40 = L := by unfold note; simp
theorem lay_acts {D : Dk.Dsk} (h : D.down = false) (L : Lg) : Laid D L (lay D L) := by
  obtain ⟨D1, e1, hC⟩ : ∃ D1 e1, Dk.clear D (tp (L.turn + 1)) = (D1, e1) := ⟨_, _, rfl⟩
  have c1 := clear_acts h (L.turn + 1)
  rw [hC] at c1
  simp only at c1
  unfold lay
  rw [hC]
  simp only
  rcases c1.how with ⟨rfl, hd1⟩ | ⟨rfl, hd1⟩
  · rw [if_neg (by decide)]
    rcases app_acts hd1 (L.turn + 1) (layB L) with ⟨hr, hA⟩ | ⟨hr, c2⟩
    · rw [hA]
      simp only
      rw [if_pos (by decide), note_40]
      exact ⟨c1.rest, c1.room, ⟨c1.acts.1, by have := c1.acts.2; simp only; omega⟩, .inr (.inl ⟨rfl, hd1, rfl, c1.tq⟩)⟩
    · obtain ⟨D2, e2, hA⟩ : ∃ D2 e2, Dk.app D1 (tp (L.turn + 1)) (layB L) = (D2, e2) := ⟨_, _, rfl⟩
      rw [hA] at c2 ⊢
      simp only at c2 ⊢
      have htq : D2.t ((L.turn + 1) % 2) = { Dk.clearT (D.t ((L.turn + 1) % 2)) with b := layB L } := by
        rw [c2.tq, c1.tq]; simp [Dk.clearT]
      have hre : ∀ i, i ≠ (L.turn + 1) % 2 → D2.t i = D.t i := fun i hi => by rw [c2.rest i hi, c1.rest i hi]
      rcases c2.how with ⟨rfl, hd2⟩ | ⟨rfl, hd2⟩
      · rw [if_neg (by decide)]
        rcases flush_acts hd2 (L.turn + 1) with ⟨h1, h2, h3, h4, h5⟩ | ⟨h1, c3⟩
        · rw [if_pos (by rw [h1]; decide), h1, note_two]
          refine ⟨fun i hi => by simp only; rw [h3]; exact hre i hi, by simp only; rw [h4, c2.room, c1.room], by simp only; have := c1.acts; have := c2.acts; omega, .inr (.inr ⟨rfl, h2, rfl, .inr ?_⟩)⟩
          simp only
          rw [h3]; exact htq
        · rw [if_neg (by rw [h1]; decide)]
          have hd3 : (Dk.flush D2 (tp (L.turn + 1))).1.down = false := by
            rcases c3.how with ⟨_, h2⟩ | ⟨h2, _⟩
            · exact h2
            · cases h2
          refine ⟨fun i hi => by simp only; rw [c3.rest i hi]; exact hre i hi, by simp only; rw [c3.room, c2.room, c1.room], by simp only; have := c1.acts; have := c2.acts; have := c3.acts; omega, .inl ⟨rfl, hd3, rfl, ?_⟩⟩
          simp only
          rw [c3.tq, htq]; rfl
      · rw [if_pos (by decide), note_two]
        exact ⟨hre, by simp only; rw [c2.room, c1.room], by simp only; have := c1.acts; have := c2.acts; omega, .inr (.inr ⟨rfl, hd2, rfl, .inr htq⟩)⟩
  · rw [if_pos (by decide), note_two]
    exact ⟨c1.rest, c1.room, by simp only; have := c1.acts; omega, .inr (.inr ⟨rfl, hd1, rfl, .inl c1.tq⟩)⟩

theorem MainOut.turn {t : Nat} {m : Md} {b : Byt} {n : Nat} (h : MainOut t m b) (hm : Sm m n) (hn : n ≤ 1000) (ht : 1 ≤ t ∧ t ≤ 1099511627776) : ∀ x, load b = some x → x.turn < t + 1 := by
  obtain ⟨i, r, must, h1, h2, h3, h4, h5, rfl⟩ := h
  intro x hx
  have hmm := hm.many
  rw [load_tape t must m.state (m.notes.take i) r ht (by omega) h5 (fun y hy => by have := hm.note y (List.mem_of_mem_take hy); omega) h4] at hx
  split at hx
  · cases hx
  · injection hx with hx; subst hx; exact Nat.lt_succ_self _
/-- what was being laid counts when it is whole, and not at all else -/
theorem lay_cut (L : Lg) (j : Nat) (hs : (hdata (L.turn + 1) L.notes.length L.state).length ≤ 65536) (hn : ∀ n ∈ L.notes, n.length ≤ 65536) (ht : L.turn + 1 ≤ 1099511627776) (hl : L.notes.length ≤ 1099511627776) : load ((layB L).take j) = none ∨ (layB L).take j = layB L := by
  by_cases hj : j < 12 + (hdata (L.turn + 1) L.notes.length L.state).length
  · left
    refine load_bad ?_
    unfold layB
    rw [List.take_append_of_le_length (by rw [enc_len]; omega)]
    exact dec_part 1 _ (by decide) hs j hj
  · obtain ⟨i, r, h1, h2, h3, h4⟩ := encs_take (nfs L.notes) (j - (12 + (hdata (L.turn + 1) L.notes.length L.state).length)) (nfs_fine hn)
    rw [nfs_len] at h1 h4
    have e1 : (nfs L.notes).take i = nfs (L.notes.take i) := by simp [nfs, List.map_take]
    have e0 : (layB L).take j = tapeOf (L.turn + 1) L.notes.length L.state (L.notes.take i) r := by
      unfold layB tapeOf
      rw [List.take_append, enc_len, List.take_of_length_le (by rw [enc_len]; omega), h2, e1]
    by_cases hi : i = L.notes.length
    · right
      have h5 : (encs (nfs L.notes)).length ≤ j - (12 + (hdata (L.turn + 1) L.notes.length L.state).length) := by
        have e9 : (nfs L.notes).take i = nfs L.notes := List.take_of_length_le (by rw [nfs_len]; omega)
        have := congrArg List.length h2
        rw [e9, List.length_take, List.length_append] at this
        omega
      refine List.take_of_length_le ?_
      unfold layB
      rw [List.length_append, enc_len]; omega
    · left
      rw [e0, load_tape (L.turn + 1) L.notes.length L.state (L.notes.take i) r ⟨by omega, ht⟩ hl hs (fun y hy => hn y (List.mem_of_mem_take hy)) h3, if_pos]
      rw [List.length_take]; omega
theorem append_up {D : Dk.Dsk} {L : Lg} {m : Md} {n : Nat} (h : Up D L m) (hm : Sm m n) (hok : ∀ i, (D.t i).safe ≤ (D.t i).b.length) (b : Byt) (hb : b.length ≤ 500) :
    ∃ D' L' e, append D L b = (D', L', e) ∧ D'.room = D.room ∧ (D.acts ≤ D'.acts ∧ D'.acts ≤ D.acts + 1) ∧ L'.turn = L.turn ∧ L'.state = L.state ∧
      ((e = 0 ∧ Up D' L' { m with notes := m.notes ++ [b] }) ∨ (e = 40 ∧ D' = D ∧ L' = L) ∨ (e = 2 ∧ D'.down = true ∧ L'.dead = true ∧ L'.notes = L.notes ∧ Pre D' L.turn { m with notes := m.notes ++ [b] } none)) := by
  unfold append
  rw [if_neg (by rw [h.live]; decide), if_neg (by omega)]
  rcases app_acts h.up L.turn (enc 2 b) with ⟨hr, hA⟩ | ⟨hr, c⟩
  · rw [hA]
    simp only
    rw [if_pos (by decide), note_40]
    exact ⟨D, L, 40, rfl, rfl, ⟨Int.le_refl _, by omega⟩, rfl, rfl, .inr (.inl ⟨rfl, rfl, rfl⟩)⟩
  · obtain ⟨D1, e1, hA⟩ : ∃ D1 e1, Dk.app D (tp L.turn) (enc 2 b) = (D1, e1) := ⟨_, _, rfl⟩
    rw [hA] at c ⊢
    simp only at c ⊢
    have hne : (L.turn + 1) % 2 ≠ L.turn % 2 := by omega
    have hmain : MainT (D1.t (L.turn % 2)) L.turn { m with notes := m.notes ++ [b] } := by
      obtain ⟨must, s, h1, h2, h3, h4, h5, h6, h7⟩ := h.main
      refine ⟨must, s, h1, h2, by simp; omega, h4, by rw [c.tq]; exact h5, ?_, ?_⟩
      · rw [c.tq]
        simp only
        rw [h6, ← tapeOf_app]
        simp [nfs, encs]
      · rw [c.tq]
        simp only
        rw [List.take_append_of_le_length h3]; exact h7
    have hoth : ∀ x, Outs (D1.t ((L.turn + 1) % 2)) x → ∀ y, load x = some y → y.turn < L.turn := by
      rw [c.rest _ hne]; exact h.other
    rcases c.how with ⟨rfl, hd⟩ | ⟨rfl, hd⟩
    · rw [if_neg (by decide)]
      exact ⟨D1, { L with notes := L.notes ++ [b] }, 0, rfl, c.room, c.acts, rfl, rfl, .inl ⟨rfl, hd, h.live, h.st, by simp only; rw [h.ns], h.turn, hmain, hoth⟩⟩
    · rw [if_pos (by decide), note_two]
      refine ⟨D1, { L with dead := true }, 2, rfl, c.room, c.acts, rfl, rfl, .inr (.inr ⟨rfl, hd, rfl, rfl, h.turn, fun x hx => ?_, fun x hx => .inl (hoth x hx)⟩)⟩
      have hsm : Sm { m with notes := m.notes ++ [b] } (n + 1) := by
        refine ⟨hm.state, fun y hy => ?_, by have := hm.many; simp; omega⟩
        rcases List.mem_append.1 hy with hy | hy
        · exact hm.note y hy
        · rw [List.mem_singleton] at hy; subst hy; exact hb
      refine hmain.outs hsm ?_ x hx
      rw [c.tq]
      simp only [List.length_append]
      have := hok (L.turn % 2)
      omega
theorem sync_up {D : Dk.Dsk} {L : Lg} {m : Md} {n : Nat} (h : Up D L m) (hm : Sm m n) (hok : ∀ i, (D.t i).safe ≤ (D.t i).b.length) :
    ∃ D' L' e, sync D L = (D', L', e) ∧ D'.room = D.room ∧ (D.acts ≤ D'.acts ∧ D'.acts ≤ D.acts + 1) ∧ L'.turn = L.turn ∧ L'.state = L.state ∧ L'.notes = L.notes ∧
      ((e = 0 ∧ Up D' L' { m with safe := m.notes.length }) ∨ (e = 2 ∧ D'.down = true ∧ L'.dead = true ∧ Pre D' L.turn m none)) := by
  unfold sync
  rw [if_neg (by rw [h.live]; decide)]
  rcases flush_acts h.up L.turn with ⟨h1, h2, h3, h4, h5⟩ | ⟨h1, c⟩
  · rw [h1, note_two]
    exact ⟨_, _, 2, rfl, h4, by omega, rfl, rfl, rfl, .inr ⟨rfl, h2, rfl, (h.pre hm hok).same h3⟩⟩
  · rw [h1, note_zero]
    have hd : (Dk.flush D (tp L.turn)).1.down = false := by
      rcases c.how with ⟨_, h2⟩ | ⟨h2, _⟩
      · exact h2
      · cases h2
    refine ⟨_, _, 0, rfl, c.room, c.acts, rfl, rfl, rfl, .inl ⟨rfl, hd, h.live, h.st, h.ns, h.turn, ?_, ?_⟩⟩
    · obtain ⟨must, s, g1, g2, g3, g4, g5, g6, g7⟩ := h.main
      refine ⟨must, m.notes.length, by omega, Nat.le_refl _, Nat.le_refl _, g4, by rw [c.tq]; rfl, by rw [c.tq]; exact g6, ?_⟩
      rw [c.tq, List.take_length]
      simp only [Dk.flushT]
      rw [g6]; exact Nat.le_refl _
    · rw [c.rest _ (by omega)]; exact h.other
theorem check_up {D : Dk.Dsk} {L : Lg} {m : Md} {n : Nat} (h : Up D L m) (hm : Sm m n) (hn : n ≤ 1000) (ht : L.turn ≤ 1000000) (hok : ∀ i, (D.t i).safe ≤ (D.t i).b.length) (st : Byt) (hst : st.length ≤ 500) :
    ∃ D' L' e, check D L st = (D', L', e) ∧ D'.room = D.room ∧ (D.acts ≤ D'.acts ∧ D'.acts ≤ D.acts + 3) ∧ L'.turn ≤ L.turn + 1 ∧
      ((e = 0 ∧ Up D' L' ⟨st, [], 0⟩) ∨ (e = 40 ∧ Up D' L' m) ∨ (e = 2 ∧ D'.down = true ∧ L'.dead = true ∧ L'.state = L.state ∧ L'.notes = L.notes ∧ Pre D' L.turn m (some st))) := by
  have hl := lay_acts h.up (fresh L st)
  have hf : layB (fresh L st) = tapeOf (L.turn + 1) 0 st [] [] := layB_tape (fresh L st)
  have hh := hdata_len (L.turn + 1) 0 st
  have hlive := h.live
  unfold check
  rw [if_neg (by rw [h.live]; decide), if_neg (by omega)]
  obtain ⟨D', L1, e, hR⟩ : ∃ D' L1 e, lay D (fresh L st) = (D', L1, e) := ⟨_, _, _, rfl⟩
  rw [hR] at hl ⊢
  simp only
  have hturn : (fresh L st).turn = L.turn := rfl
  have hrest := hl.rest
  have hhow := hl.how
  rw [hturn] at hrest hhow
  simp only at hrest hhow
  have hne : (L.turn + 1 + 1) % 2 = L.turn % 2 := by omega
  rcases hhow with ⟨rfl, h2, h3, h4⟩ | ⟨rfl, h2, h3, h4⟩ | ⟨rfl, h2, h3, h4⟩
  · rw [if_pos rfl]
    refine ⟨D', L1, 0, rfl, hl.room, hl.acts, by rw [h3]; exact Nat.le_refl _, .inl ⟨rfl, h2, by rw [h3]; exact hlive, by rw [h3]; rfl, by rw [h3]; rfl, by rw [h3]; exact Nat.succ_le_succ (Nat.zero_le _), ?_, ?_⟩⟩
    · rw [h3]
      show MainT (D'.t ((L.turn + 1) % 2)) (L.turn + 1) ⟨st, [], 0⟩
      rw [h4]
      exact ⟨0, 0, Nat.le_refl _, Nat.le_refl _, Nat.le_refl _, by simp only; omega, rfl, hf, by simp only [List.take_zero]; rw [hf]; exact Nat.le_refl _⟩
    · rw [h3]
      show ∀ b, Outs (D'.t ((L.turn + 1 + 1) % 2)) b → ∀ x, load b = some x → x.turn < L.turn + 1
      rw [hne, hrest _ (by omega)]
      intro b hb
      exact (h.main.outs hm (hok _) b hb).turn hm hn ⟨h.turn, by omega⟩
  · rw [if_neg (by decide)]
    have hL : ({ L1 with state := L.state, notes := L.notes } : Lg) = L := by rw [h3]; rfl
    refine ⟨D', _, 40, rfl, hl.room, hl.acts, by rw [hL]; omega, .inr (.inl ⟨rfl, ?_⟩)⟩
    rw [hL]
    refine ⟨h2, hlive, h.st, h.ns, h.turn, by rw [hrest _ (by omega)]; exact h.main, ?_⟩
    rw [h4]
    intro b hb
    rcases outs_clear hb (hok _) with rfl | hb
    · intro x hx; cases hx
    · exact h.other b hb
  · rw [if_neg (by decide)]
    refine ⟨D', _, 2, rfl, hl.room, hl.acts, by rw [h3]; show L.turn ≤ _; omega, .inr (.inr ⟨rfl, h2, by rw [h3], rfl, rfl, h.turn, by rw [hrest _ (by omega)]; exact h.main.outs hm (hok _), ?_⟩)⟩
    intro b hb
    rcases h4 with h4 | h4
    · rw [h4] at hb
      rcases outs_clear hb (hok _) with rfl | hb
      · exact .inl fun x hx => by cases hx
      · exact .inl (h.other b hb)
    · rw [h4] at hb
      rcases outs_cases hb (Nat.zero_le _) with ⟨_, rfl⟩ | ⟨j, _, _, rfl⟩
      · refine .inl (h.other _ ?_)
        simp only [Dk.clearT]
        by_cases hf : (D.t ((L.turn + 1) % 2)).fresh = true
        · rw [if_pos hf]; exact outs_old hf
        · rw [if_neg hf]; exact outs_safe _ (hok _)
      · simp only
        rcases lay_cut (fresh L st) j (by show (hdata (L.turn + 1) 0 st).length ≤ 65536; omega) (fun n hn => by cases hn) (by show L.turn + 1 ≤ _; omega) (by show (0 : Nat) ≤ 1099511627776; decide) with h5 | h5
        · exact .inl fun x hx => by rw [h5] at hx; cases hx
        · rw [h5, hf]
          exact .inr ⟨st, [], 0, Nat.le_refl _, by omega, rfl, .inr ⟨rfl, rfl⟩⟩
theorem append_down {D : Dk.Dsk} (L : Lg) (h : D.down = true) (b : Byt) (hb : b.length ≤ 500) : ∃ L', append D L b = (D, L', 2) ∧ L'.dead = true ∧ L'.turn = L.turn ∧ L'.state = L.state ∧ L'.notes = L.notes := by
  unfold append
  by_cases hd : L.dead = true
  · rw [if_pos hd]; exact ⟨L, rfl, hd, rfl, rfl, rfl⟩
  · rw [if_neg hd, if_neg (by omega)]
    have : Dk.app D (tp L.turn) (enc 2 b) = (D, 2) := by unfold Dk.app; rw [err_down h, if_pos (by decide)]
    rw [this]
    simp only
    rw [if_pos (by decide), note_two]
    exact ⟨_, rfl, rfl, rfl, rfl, rfl⟩
theorem sync_down {D : Dk.Dsk} (L : Lg) (h : D.down = true) : ∃ L', sync D L = (D, L', 2) ∧ L'.dead = true ∧ L'.turn = L.turn ∧ L'.state = L.state ∧ L'.notes = L.notes := by
  unfold sync
  by_cases hd : L.dead = true
  · rw [if_pos hd]; exact ⟨L, rfl, hd, rfl, rfl, rfl⟩
  · rw [if_neg hd]
    have : Dk.flush D (tp L.turn) = (D, 2) := by unfold Dk.flush; rw [err_down h, if_pos (by decide)]
    rw [this, note_two]
    exact ⟨_, rfl, rfl, rfl, rfl, rfl⟩
theorem check_down {D : Dk.Dsk} (L : Lg) (h : D.down = true) (st : Byt) (hst : st.length ≤ 500) : ∃ L', check D L st = (D, L', 2) ∧ L'.dead = true ∧ L'.turn = L.turn ∧ L'.state = L.state ∧ L'.notes = L.notes := by
  unfold check
  by_cases hd : L.dead = true
  · rw [if_pos hd]; exact ⟨L, rfl, hd, rfl, rfl, rfl⟩
  · rw [if_neg hd, if_neg (by omega)]
    have : lay D (fresh L st) = (D, note (fresh L st) 2, 2) := by
      have hc : Dk.clear D (tp ((fresh L st).turn + 1)) = (D, 2) := by unfold Dk.clear; rw [err_down h, if_pos (by decide)]
      unfold lay
      rw [hc]
      simp only
      rw [if_pos (by decide)]
    rw [this, note_two]
    simp only
    rw [if_neg (by decide)]
    exact ⟨_, rfl, rfl, rfl, rfl, rfl⟩
theorem open_up {D : Dk.Dsk} {L : Lg} {m : Md} {n : Nat} (h : Up D L m) (hm : Sm m n) (hn : n ≤ 1000) (ht : L.turn ≤ 1000000) (hok : ∀ i, (D.t i).safe ≤ (D.t i).b.length) : openL D = (D, some L, 0) := by
  obtain ⟨must, s, h1, h2, h3, h4, h5, h6, h7⟩ := h.main
  have hmm := hm.many
  have hl := load_tape L.turn must m.state m.notes [] ⟨h.turn, by omega⟩ (by omega) h4 (fun y hy => by have := hm.note y hy; omega) (.inl rfl)
  rw [if_neg (by omega), ← h6] at hl
  have hp := picks_two h.turn hl (h.other _ (outs_all _ (hok _)))
  have hp2 : picks D = (L, false) := by
    rw [hp, h6, tapeOf_len, ← h.st, ← h.ns, lg_eta h.live]
    simp
  unfold openL
  rw [if_neg (by rw [h.up]; decide), hp2, if_neg]
  have := h.turn
  rintro (h1 | h1)
  · simp only at h1; omega
  · cases h1

theorem crash_t (D : Dk.Dsk) (keeps : List Int) (n : Int) (i : Nat) : ∃ c, Outs (D.t i) c ∧ (Dk.fuse (Dk.crash D keeps) n).t i = ⟨c, c.length, [], false⟩ := ⟨_, ⟨_, rfl⟩, rfl⟩
/-- the power fails, and the log is opened again; the power may fail again -/
theorem open_crash {D : Dk.Dsk} {t : Nat} {m : Md} {o : Option Byt} {n : Nat} (h : Pre D t m o) (hm : Sm m n) (hn : n ≤ 1000) (ho : ∀ st, o = some st → st.length ≤ 500) (ht : t ≤ 999999) (keeps : List Int) (fu : Int) :
    ∃ D' r e, openL (Dk.fuse (Dk.crash D keeps) fu) = (D', r, e) ∧ D'.room = D.room ∧ (D.acts ≤ D'.acts ∧ D'.acts ≤ D.acts + 3) ∧
      ((r = none ∧ e = 40) ∨ (r = none ∧ e = 2 ∧ D'.down = true ∧ Pre D' t m o) ∨
       ∃ L', r = some L' ∧ e = 0 ∧ L'.turn ≤ t + 1 ∧ Up D' L' ⟨L'.state, L'.notes, L'.notes.length⟩ ∧ ((L'.state = m.state ∧ ∃ i, m.safe ≤ i ∧ i ≤ m.notes.length ∧ L'.notes = m.notes.take i) ∨ (o = some L'.state ∧ L'.notes = []))) ∧ Ok (picks (Dk.fuse (Dk.crash D keeps) fu)).1 := by
  obtain ⟨D1, hD1⟩ : ∃ D1, D1 = Dk.fuse (Dk.crash D keeps) fu := ⟨_, rfl⟩
  have hroom : D1.room = D.room := by rw [hD1]; rfl
  have hacts : D1.acts = D.acts := by rw [hD1]; rfl
  have hup : D1.down = false := by rw [hD1]; rfl
  have hct : ∀ i, ∃ c, Outs (D.t i) c ∧ D1.t i = ⟨c, c.length, [], false⟩ := fun i => by rw [hD1]; exact crash_t D keeps fu i
  rw [← hD1]
  clear hD1
  have hmm := hm.many
  obtain ⟨bp, hbp, hp⟩ := hct (t % 2)
  obtain ⟨bq, hbq, hq⟩ := hct ((t + 1) % 2)
  have hmain := h.main bp hbp
  have hmo := hmain
  obtain ⟨i, r, must, h1, h2, h3, h4, h5, h6⟩ := hmain
  have hlp := load_tape t must m.state (m.notes.take i) r ⟨h.turn, by omega⟩ (by omega) h5 (fun y hy => by have := hm.note y (List.mem_of_mem_take hy); omega) h4
  have hli : (m.notes.take i).length = i := by rw [List.length_take]; omega
  rw [if_neg (by rw [hli]; omega), ← h6] at hlp
  have hnote : ∀ y ∈ m.notes.take i, y.length ≤ 500 := fun y hy => hm.note y (List.mem_of_mem_take hy)
  have hokI : Ok ⟨t, m.state, m.notes.take i, false⟩ := ok_of (by show t ≤ 1000000; omega) hm.state hnote (by show (m.notes.take i).length ≤ 1000; omega)
  rcases h.other bq hbq with hlow | ⟨st, ns, must', g1, g2, g3, g4⟩
  · have hpk := picks_two (D := D1) h.turn (by rw [hp]; exact hlp) (by rw [hq]; exact hlow)
    rw [hp] at hpk
    simp only at hpk
    by_cases hr0 : r = []
    · subst hr0
      have hp2 : picks D1 = (⟨t, m.state, m.notes.take i, false⟩, false) := by
        rw [hpk]
        conv => lhs; rw [h6, tapeOf_len]
        simp
      refine ⟨D1, some ⟨t, m.state, m.notes.take i, false⟩, 0, ?_, hroom, by omega, .inr (.inr ⟨_, rfl, rfl, by simp only; omega, ?_, .inl ⟨rfl, i, h1, h2, rfl⟩⟩), by rw [hp2]; exact hokI⟩
      · unfold openL
        rw [if_neg (by rw [hup]; decide), hp2, if_neg]
        have := h.turn
        rintro (h1 | h1)
        · simp only at h1; omega
        · cases h1
      · refine ⟨hup, rfl, rfl, rfl, h.turn, ?_, ?_⟩
        · show MainT (D1.t (t % 2)) t ⟨m.state, m.notes.take i, (m.notes.take i).length⟩
          rw [hp]
          refine ⟨must, i, h3, by simp only; omega, by simp only; omega, h5, rfl, h6, ?_⟩
          simp only
          rw [List.take_take, Nat.min_self, h6]; exact Nat.le_refl _
        · show ∀ b, Outs (D1.t ((t + 1) % 2)) b → ∀ x, load b = some x → x.turn < t
          rw [hq]
          intro b hb
          rw [outs_firm hb rfl rfl]; exact hlow
    · have hp2 : picks D1 = (⟨t, m.state, m.notes.take i, false⟩, true) := by
        rw [hpk]
        have : 0 < r.length := by cases r; exact absurd rfl hr0; simp
        conv => lhs; rw [h6, tapeOf_len]
        rw [decide_eq_true (by omega)]
      have hl := lay_acts hup ⟨t, m.state, m.notes.take i, false⟩
      have hopen : openL D1 = if (lay D1 ⟨t, m.state, m.notes.take i, false⟩).2.2 ≠ 0 then ((lay D1 ⟨t, m.state, m.notes.take i, false⟩).1, none, (lay D1 ⟨t, m.state, m.notes.take i, false⟩).2.2) else ((lay D1 ⟨t, m.state, m.notes.take i, false⟩).1, some (lay D1 ⟨t, m.state, m.notes.take i, false⟩).2.1, 0) := by
        unfold openL
        rw [if_neg (by rw [hup]; decide), hp2, if_pos (.inr rfl)]
      rw [hopen]
      obtain ⟨D', L1, e, hR⟩ : ∃ D' L1 e, lay D1 ⟨t, m.state, m.notes.take i, false⟩ = (D', L1, e) := ⟨_, _, _, rfl⟩
      rw [hR] at hl ⊢
      simp only
      have hrest := hl.rest
      have hhow := hl.how
      simp only at hrest hhow
      have hroom2 : D'.room = D.room := by rw [hl.room]; exact hroom
      have hac2 : D.acts ≤ D'.acts ∧ D'.acts ≤ D.acts + 3 := by have := hl.acts; simp only at this; omega
      have hne : (t + 1 + 1) % 2 = t % 2 := by omega
      have hpt : D'.t (t % 2) = ⟨bp, bp.length, [], false⟩ := by rw [hrest _ (by omega)]; exact hp
      have hok1 : Ok (picks D1).1 := by rw [hp2]; exact hokI
      have hhd := hdata_len (t + 1) (m.notes.take i).length m.state
      have hst5 := hm.state
      rcases hhow with ⟨rfl, g2, g3, g4⟩ | ⟨rfl, g2, g3, g4⟩ | ⟨rfl, g2, g3, g4⟩
      · rw [if_neg (by decide)]
        refine ⟨D', some L1, 0, rfl, hroom2, hac2, .inr (.inr ⟨L1, rfl, rfl, by rw [g3]; exact Nat.le_refl _, ?_, .inl ⟨by rw [g3], i, h1, h2, by rw [g3]⟩⟩), hok1⟩
        rw [g3]
        refine ⟨g2, rfl, rfl, rfl, by show 1 ≤ t + 1; omega, ?_, ?_⟩
        · show MainT (D'.t ((t + 1) % 2)) (t + 1) ⟨m.state, m.notes.take i, (m.notes.take i).length⟩
          rw [g4]
          refine ⟨(m.notes.take i).length, (m.notes.take i).length, Nat.le_refl _, Nat.le_refl _, Nat.le_refl _, by simp only; omega, rfl, layB_tape _, ?_⟩
          simp only
          rw [List.take_length, ← layB_tape ⟨t, m.state, m.notes.take i, false⟩]; exact Nat.le_refl _
        · show ∀ b, Outs (D'.t ((t + 1 + 1) % 2)) b → ∀ x, load b = some x → x.turn < t + 1
          rw [hne, hpt]
          intro b hb
          rw [outs_firm hb rfl rfl]
          exact hmo.turn hm hn ⟨h.turn, by omega⟩
      · rw [if_pos (by decide)]
        exact ⟨D', none, 40, rfl, hroom2, hac2, .inl ⟨rfl, rfl⟩, hok1⟩
      · rw [if_pos (by decide)]
        refine ⟨D', none, 2, rfl, hroom2, hac2, .inr (.inl ⟨rfl, rfl, g2, h.turn, ?_, ?_⟩), hok1⟩
        · rw [hpt]
          intro b hb
          rw [outs_firm hb rfl rfl]; exact hmo
        · intro b hb
          rcases g4 with g4 | g4
          · rw [g4] at hb
            rcases outs_clear hb (by rw [hq]; exact Nat.le_refl _) with rfl | hb
            · exact .inl fun x hx => by cases hx
            · rw [hq] at hb
              rw [outs_firm hb rfl rfl]; exact .inl hlow
          · rw [g4, hq] at hb
            rcases outs_cases hb (Nat.zero_le _) with ⟨_, rfl⟩ | ⟨j, _, _, rfl⟩
            · simp only [Dk.clearT]
              rw [if_neg (by decide), List.take_length]
              exact .inl hlow
            · simp only
              rcases lay_cut ⟨t, m.state, m.notes.take i, false⟩ j (by simp only; omega) (fun y hy => by have := hnote y hy; omega) (by simp only; omega) (by simp only; omega) with h7 | h7
              · exact .inl fun x hx => by rw [h7] at hx; cases hx
              · rw [h7, layB_tape]
                exact .inr ⟨m.state, m.notes.take i, (m.notes.take i).length, Nat.le_refl _, by omega, rfl, .inl ⟨rfl, i, h1, h2, rfl⟩⟩
  · have hsmall : st.length ≤ 500 ∧ (∀ y ∈ ns, y.length ≤ 500) ∧ ns.length ≤ n := by
      rcases g4 with ⟨rfl, i', _, _, rfl⟩ | ⟨h8, rfl⟩
      · exact ⟨hm.state, fun y hy => hm.note y (List.mem_of_mem_take hy), by rw [List.length_take]; omega⟩
      · exact ⟨ho st h8, (fun y hy => by cases hy), Nat.zero_le _⟩
    have hlq := load_tape (t + 1) must' st ns [] ⟨by omega, by omega⟩ (by omega) g2 (fun y hy => by have := hsmall.2.1 y hy; omega) (.inl rfl)
    rw [if_neg (by omega), ← g3] at hlq
    have hne : (t + 1 + 1) % 2 = t % 2 := by omega
    have hpk := picks_two (D := D1) (t := t + 1) (by omega) (by rw [hq]; exact hlq) (by
      rw [hne, hp]
      exact hmo.turn hm hn ⟨h.turn, by omega⟩)
    rw [hq] at hpk
    simp only at hpk
    have hp2 : picks D1 = (⟨t + 1, st, ns, false⟩, false) := by
      rw [hpk]
      conv => lhs; rw [g3, tapeOf_len]
      simp
    refine ⟨D1, some ⟨t + 1, st, ns, false⟩, 0, ?_, hroom, by omega, .inr (.inr ⟨_, rfl, rfl, Nat.le_refl _, ?_, ?_⟩), by rw [hp2]; exact ok_of (by show t + 1 ≤ 1000000; omega) hsmall.1 hsmall.2.1 (by show ns.length ≤ 1000; omega)⟩
    · unfold openL
      rw [if_neg (by rw [hup]; decide), hp2, if_neg]
      rintro (h1 | h1)
      · simp only at h1; omega
      · cases h1
    · refine ⟨hup, rfl, rfl, rfl, by show 1 ≤ t + 1; omega, ?_, ?_⟩
      · show MainT (D1.t ((t + 1) % 2)) (t + 1) ⟨st, ns, ns.length⟩
        rw [hq]
        refine ⟨must', ns.length, g1, Nat.le_refl _, Nat.le_refl _, g2, rfl, g3, ?_⟩
        simp only
        rw [List.take_length, g3]; exact Nat.le_refl _
      · show ∀ b, Outs (D1.t ((t + 1 + 1) % 2)) b → ∀ x, load b = some x → x.turn < t + 1
        rw [hne, hp]
        intro b hb
        rw [outs_firm hb rfl rfl]
        exact hmo.turn hm hn ⟨h.turn, by omega⟩
    · rcases g4 with ⟨h8, i', h9, h10, h11⟩ | ⟨h8, h9⟩
      · exact .inl ⟨h8, i', h9, h10, h11⟩
      · exact .inr ⟨h8, h9⟩

/-- the first opening -/
theorem open_zero (r : Int) : (14 ≤ r → ∃ D', openL (Dk.new r) = (D', some ⟨1, [], [], false⟩, 0) ∧ Up D' ⟨1, [], [], false⟩ ⟨[], [], 0⟩ ∧ D'.acts = 3) ∧ (r < 14 → ∃ D', openL (Dk.new r) = (D', none, 40)) := by
  have hp : picks (Dk.new r) = (⟨0, [], [], false⟩, false) := rfl
  have hl1 : layB ⟨0, [], [], false⟩ = enc 1 (hdata 1 0 []) ++ [] := rfl
  have h1 : (hdata 1 0 []).length = 2 := by decide +kernel
  have hlen : (layB ⟨0, [], [], false⟩).length = 14 := by rw [hl1, List.append_nil, enc_len, h1]
  refine ⟨fun hr => ?_, fun hr => ?_⟩
  · obtain ⟨D', e1, c1, c2, c3, c4, c5⟩ := lay_calm (calm_new r) ⟨0, [], [], false⟩ (by rw [hlen]; show (14 : Int) ≤ min (max r 0) 4194304; omega)
    have hl := lay_acts (D := Dk.new r) rfl ⟨0, [], [], false⟩
    rw [e1] at hl
    have hhow := hl.how
    simp only at hhow
    refine ⟨D', ?_, ?_, by rw [c3]; rfl⟩
    · unfold openL
      rw [if_neg (by simp [Dk.new]), hp, if_pos (.inl rfl), e1]
      rfl
    · rcases hhow with ⟨_, g2, g3, g4⟩ | ⟨g1, _⟩ | ⟨g1, _⟩
      · refine ⟨g2, rfl, rfl, rfl, Nat.le_refl _, ?_, ?_⟩
        · show MainT (D'.t 1) 1 ⟨[], [], 0⟩
          have g4' : D'.t 1 = ⟨layB ⟨0, [], [], false⟩, (layB ⟨0, [], [], false⟩).length, [], false⟩ := g4
          rw [g4']
          refine ⟨0, 0, Nat.le_refl _, Nat.le_refl _, Nat.le_refl _, by simp only; rw [h1]; decide, rfl, layB_tape _, ?_⟩
          rw [layB_tape]; exact Nat.le_refl _
        · show ∀ b, Outs (D'.t 0) b → ∀ x, load b = some x → x.turn < 1
          have := hl.rest 0 (by decide)
          simp only at this
          rw [this]
          intro b hb
          rw [outs_firm hb rfl rfl]
          intro x hx
          cases hx
      · cases g1
      · cases g1
  · obtain ⟨D', e1, _⟩ := lay_full (calm_new r) ⟨0, [], [], false⟩ (by rw [hlen]; show min (max r 0) 4194304 < (14 : Int); omega)
    refine ⟨D', ?_⟩
    unfold openL
    rw [if_neg (by simp [Dk.new]), hp, if_pos (.inl rfl), e1]
    simp

/-- what the statement knows, step by step -/
structure KSim (D : Dk.Dsk) (L : Lg) (m : Md) (un : Bool) (ot : Byt) (i : Nat) : Prop where
  sm : Sm m i
  otl : ot.length ≤ 500
  lst : L.state.length ≤ 500
  lns : ∀ n ∈ L.notes, n.length ≤ 500
  lmany : L.notes.length ≤ i
  lturn : L.turn ≤ 1 + i
  acts : 0 ≤ D.acts ∧ D.acts ≤ 3 + 10 * (i : Int)
  ms : m.safe ≤ m.notes.length
  how : (un = false ∧ Up D L m) ∨ (D.down = true ∧ (un = true → L.dead = true) ∧ ∃ t, t ≤ 1 + i ∧ Pre D t m (if un = true then some ot else none))
theorem Sm.mono {m : Md} {n n' : Nat} (h : Sm m n) (hn : n ≤ n') : Sm m n' := ⟨h.state, h.note, Nat.le_trans h.many hn⟩
theorem KSim.ok {D : Dk.Dsk} {L : Lg} {m : Md} {un : Bool} {ot : Byt} {i : Nat} (h : KSim D L m un ot i) (hi : i ≤ 100) : Ok L := by
  have := h.lturn
  have := h.lmany
  exact ok_of (by omega) h.lst h.lns (by omega)
theorem KSim.next {D : Dk.Dsk} {L : Lg} {m : Md} {un : Bool} {ot : Byt} {i : Nat} (h : KSim D L m un ot i) : KSim D L m un ot (i + 1) := by
  refine ⟨h.sm.mono (Nat.le_succ _), h.otl, h.lst, h.lns, by have := h.lmany; omega, by have := h.lturn; omega, by have := h.acts; omega, h.ms, ?_⟩
  rcases h.how with h1 | ⟨h1, h2, t, h3, h4⟩
  · exact .inl h1
  · exact .inr ⟨h1, h2, t, by omega, h4⟩
def okE (dead : Bool) (e : Int) : Prop := (dead = true ∧ e = 2) ∨ (dead = false ∧ (e = 0 ∨ e = 2 ∨ e = 40))
def grown (m : Md) (g : Bool) (b : Byt) : Md := if g = true then { m with notes := m.notes ++ [b] } else m
theorem Sm.more {m : Md} {n : Nat} (h : Sm m n) {b : Byt} (hb : b.length ≤ 500) : Sm { m with notes := m.notes ++ [b] } (n + 1) := by
  refine ⟨h.state, fun y hy => ?_, by have := h.many; simp; omega⟩
  rcases List.mem_append.1 hy with hy | hy
  · exact h.note y hy
  · rw [List.mem_singleton] at hy; subst hy; exact hb
theorem k_append {D : Dk.Dsk} {L : Lg} {m : Md} {un : Bool} {ot : Byt} {i : Nat} (h : KSim D L m un ot i) (hD : Dk.Ok D) (b : Byt) (hb : b.length ≤ 500) :
    ∃ D' L' e, append D L b = (D', L', e) ∧ okE L.dead e ∧ KSim D' L' (grown m (e == 0 || (!L.dead && e == 2)) b) un ot (i + 1) ∧
      (L'.dead = false → L'.state = (grown m (e == 0 || (!L.dead && e == 2)) b).state ∧ L'.notes = (grown m (e == 0 || (!L.dead && e == 2)) b).notes) := by
  have hlm := h.lmany
  have hlt := h.lturn
  have hac := h.acts
  have hms := h.ms
  rcases h.how with ⟨h1, hu⟩ | ⟨h1, h2, t, h3, h4⟩
  · obtain ⟨D', L', e, g1, g2, g3, g4, g5, g6⟩ := append_up hu h.sm hD.safe b hb
    refine ⟨D', L', e, g1, ?_⟩
    rcases g6 with ⟨rfl, g6⟩ | ⟨rfl, rfl, rfl⟩ | ⟨rfl, g7, g8, g9, g10⟩
    · refine ⟨.inr ⟨hu.live, .inl rfl⟩, ?_⟩
      have e0 : ((0 : Int) == 0 || (!L.dead && (0 : Int) == 2)) = true := rfl
      rw [e0]
      refine ⟨⟨h.sm.more hb, h.otl, by rw [g6.st]; exact h.sm.state, by rw [g6.ns]; exact (h.sm.more hb).note, by rw [g6.ns]; exact (h.sm.more hb).many, by omega, by omega, by simp [grown]; omega, .inl ⟨h1, g6⟩⟩, fun _ => ⟨g6.st, g6.ns⟩⟩
    · refine ⟨.inr ⟨hu.live, .inr (.inr rfl)⟩, ?_⟩
      have e0 : ((40 : Int) == 0 || (!L'.dead && (40 : Int) == 2)) = false := by cases L'.dead <;> rfl
      rw [e0]
      exact ⟨h.next, fun _ => ⟨hu.st, hu.ns⟩⟩
    · refine ⟨.inr ⟨hu.live, .inr (.inl rfl)⟩, ?_⟩
      have e0 : ((2 : Int) == 0 || (!L.dead && (2 : Int) == 2)) = true := by rw [hu.live]; rfl
      rw [e0]
      refine ⟨⟨h.sm.more hb, h.otl, by rw [g5]; exact h.lst, by rw [g9]; exact h.lns, by rw [g9]; omega, by omega, by omega, by simp [grown]; omega, .inr ⟨g7, fun _ => g8, L.turn, by omega, ?_⟩⟩, fun hd => by rw [g8] at hd; cases hd⟩
      rw [h1]; exact g10
  · obtain ⟨L', g1, g2, g3, g4, g5⟩ := append_down L h1 b hb
    refine ⟨D, L', 2, g1, ?_, ?_, fun hd => by rw [g2] at hd; cases hd⟩
    · cases hd : L.dead
      · exact .inr ⟨rfl, .inr (.inl rfl)⟩
      · exact .inl ⟨rfl, rfl⟩
    · cases hd : L.dead
      · have e0 : ((2 : Int) == 0 || (!false && (2 : Int) == 2)) = true := rfl
        rw [e0]
        refine ⟨h.sm.more hb, h.otl, by rw [g4]; exact h.lst, by rw [g5]; exact h.lns, by rw [g5]; omega, by omega, by omega, by simp [grown]; omega, .inr ⟨h1, fun _ => g2, t, by omega, h4.more b⟩⟩
      · have e0 : ((2 : Int) == 0 || (!true && (2 : Int) == 2)) = false := rfl
        rw [e0]
        refine ⟨h.sm.mono (Nat.le_succ _), h.otl, by rw [g4]; exact h.lst, by rw [g5]; exact h.lns, by rw [g5]; omega, by omega, by omega, hms, .inr ⟨h1, fun _ => g2, t, by omega, h4⟩⟩
def safed (m : Md) (g : Bool) : Md := if g = true then { m with safe := m.notes.length } else m
theorem k_sync {D : Dk.Dsk} {L : Lg} {m : Md} {un : Bool} {ot : Byt} {i : Nat} (h : KSim D L m un ot i) (hD : Dk.Ok D) :
    ∃ D' L' e, sync D L = (D', L', e) ∧ okE L.dead e ∧ KSim D' L' (safed m (e == 0)) un ot (i + 1) ∧ (L'.dead = false → L'.state = (safed m (e == 0)).state ∧ L'.notes = (safed m (e == 0)).notes) := by
  have hlm := h.lmany
  have hlt := h.lturn
  have hac := h.acts
  rcases h.how with ⟨h1, hu⟩ | ⟨h1, h2, t, h3, h4⟩
  · obtain ⟨D', L', e, g1, g2, g3, g4, g5, g6, g7⟩ := sync_up hu h.sm hD.safe
    refine ⟨D', L', e, g1, ?_⟩
    rcases g7 with ⟨rfl, g7⟩ | ⟨rfl, g7, g8, g9⟩
    · refine ⟨.inr ⟨hu.live, .inl rfl⟩, ⟨⟨h.sm.state, h.sm.note, by have := h.sm.many; show m.notes.length ≤ i + 1; omega⟩, h.otl, by rw [g5]; exact h.lst, by rw [g6]; exact h.lns, by rw [g6]; omega, by omega, by omega, Nat.le_refl _, .inl ⟨h1, g7⟩⟩, fun _ => ⟨g7.st, g7.ns⟩⟩
    · refine ⟨.inr ⟨hu.live, .inr (.inl rfl)⟩, ⟨h.sm.mono (Nat.le_succ _), h.otl, by rw [g5]; exact h.lst, by rw [g6]; exact h.lns, by rw [g6]; omega, by omega, by omega, h.ms, .inr ⟨g7, fun _ => g8, L.turn, by omega, ?_⟩⟩, fun hd => by rw [g8] at hd; cases hd⟩
      rw [h1]; exact g9
  · obtain ⟨L', g1, g2, g3, g4, g5⟩ := sync_down L h1
    refine ⟨D, L', 2, g1, ?_, ⟨h.sm.mono (Nat.le_succ _), h.otl, by rw [g4]; exact h.lst, by rw [g5]; exact h.lns, by rw [g5]; omega, by omega, by omega, h.ms, .inr ⟨h1, fun _ => g2, t, by omega, h4⟩⟩, fun hd => by rw [g2] at hd; cases hd⟩
    cases hd : L.dead
    · exact .inr ⟨rfl, .inr (.inl rfl)⟩
    · exact .inl ⟨rfl, rfl⟩
def checkedM (m : Md) (g : Bool) (b : Byt) : Md := if g = true then ⟨b, [], 0⟩ else m
theorem k_check {D : Dk.Dsk} {L : Lg} {m : Md} {un : Bool} {ot : Byt} {i : Nat} (h : KSim D L m un ot i) (hi : i ≤ 100) (hD : Dk.Ok D) (b : Byt) (hb : b.length ≤ 500) :
    ∃ D' L' e, check D L b = (D', L', e) ∧ okE L.dead e ∧ KSim D' L' (checkedM m (e == 0) b) (un || (!L.dead && e == 2)) (if (!L.dead && e == 2) = true then b else ot) (i + 1) ∧
      (L'.dead = false → L'.state = (checkedM m (e == 0) b).state ∧ L'.notes = (checkedM m (e == 0) b).notes) := by
  have hlm := h.lmany
  have hlt := h.lturn
  have hac := h.acts
  have hsmb : Sm ⟨b, [], 0⟩ (i + 1) := ⟨hb, (fun y hy => by cases hy), Nat.zero_le _⟩
  rcases h.how with ⟨h1, hu⟩ | ⟨h1, h2, t, h3, h4⟩
  · obtain ⟨D', L', e, g1, g2, g3, g4, g5⟩ := check_up hu h.sm (by omega) (by omega) hD.safe b hb
    refine ⟨D', L', e, g1, ?_⟩
    rcases g5 with ⟨rfl, g5⟩ | ⟨rfl, g5⟩ | ⟨rfl, g5, g6, g7, g8, g9⟩
    · have e1 : (un || (!L.dead && (0 : Int) == 2)) = false := by rw [h1]; cases L.dead <;> rfl
      have e2 : (!L.dead && (0 : Int) == 2) = false := by cases L.dead <;> rfl
      rw [e1, e2, if_neg (by decide)]
      refine ⟨.inr ⟨hu.live, .inl rfl⟩, ⟨hsmb, h.otl, by rw [g5.st]; exact hb, by rw [g5.ns]; exact hsmb.note, by rw [g5.ns]; exact Nat.zero_le _, by omega, by omega, Nat.le_refl _, .inl ⟨rfl, g5⟩⟩, fun _ => ⟨g5.st, g5.ns⟩⟩
    · have e1 : (un || (!L.dead && (40 : Int) == 2)) = false := by rw [h1]; cases L.dead <;> rfl
      have e2 : (!L.dead && (40 : Int) == 2) = false := by cases L.dead <;> rfl
      rw [e1, e2, if_neg (by decide)]
      refine ⟨.inr ⟨hu.live, .inr (.inr rfl)⟩, ⟨h.sm.mono (Nat.le_succ _), h.otl, by rw [g5.st]; exact h.sm.state, by rw [g5.ns]; exact h.sm.note, by rw [g5.ns]; exact (h.sm.mono (Nat.le_succ _)).many, by omega, by omega, h.ms, .inl ⟨rfl, g5⟩⟩, fun _ => ⟨g5.st, g5.ns⟩⟩
    · have e1 : (un || (!L.dead && (2 : Int) == 2)) = true := by rw [hu.live]; cases un <;> rfl
      have e2 : (!L.dead && (2 : Int) == 2) = true := by rw [hu.live]; rfl
      rw [e1, e2, if_pos rfl]
      refine ⟨.inr ⟨hu.live, .inr (.inl rfl)⟩, ⟨h.sm.mono (Nat.le_succ _), hb, by rw [g7]; exact h.lst, by rw [g8]; exact h.lns, by rw [g8]; omega, by omega, by omega, h.ms, .inr ⟨g5, fun _ => g6, L.turn, by omega, ?_⟩⟩, fun hd => by rw [g6] at hd; cases hd⟩
      rw [if_pos rfl]; exact g9
  · obtain ⟨L', g1, g2, g3, g4, g5⟩ := check_down L h1 b hb
    refine ⟨D, L', 2, g1, ?_, ?_, fun hd => by rw [g2] at hd; cases hd⟩
    · cases hd : L.dead
      · exact .inr ⟨rfl, .inr (.inl rfl)⟩
      · exact .inl ⟨rfl, rfl⟩
    · cases hd : L.dead
      · have hun : un = false := by
          cases hu : un
          · rfl
          · rw [h2 hu] at hd; cases hd
        have e1 : (un || (!false && (2 : Int) == 2)) = true := by cases un <;> rfl
        have e2 : (!false && (2 : Int) == 2) = true := rfl
        rw [e1, e2, if_pos rfl]
        refine ⟨h.sm.mono (Nat.le_succ _), hb, by rw [g4]; exact h.lst, by rw [g5]; exact h.lns, by rw [g5]; omega, by omega, by omega, h.ms, .inr ⟨h1, fun _ => g2, t, by omega, ?_⟩⟩
        rw [hun, if_neg (by decide)] at h4
        rw [if_pos rfl]
        exact h4.under b
      · have e1 : (un || (!true && (2 : Int) == 2)) = un := by cases un <;> rfl
        have e2 : (!true && (2 : Int) == 2) = false := rfl
        rw [e1, e2, if_neg (by decide)]
        exact ⟨h.sm.mono (Nat.le_succ _), h.otl, by rw [g4]; exact h.lst, by rw [g5]; exact h.lns, by rw [g5]; omega, by omega, by omega, h.ms, .inr ⟨h1, fun _ => g2, t, by omega, h4⟩⟩
theorem k_fuse {D : Dk.Dsk} {L : Lg} {m : Md} {un : Bool} {ot : Byt} {i : Nat} (h : KSim D L m un ot i) (f : Int) : KSim (Dk.fuse D f) L m un ot (i + 1) := by
  have h' := h.next
  refine ⟨h'.sm, h'.otl, h'.lst, h'.lns, h'.lmany, h'.lturn, h'.acts, h'.ms, ?_⟩
  rcases h'.how with ⟨h1, hu⟩ | ⟨h1, h2, t, h3, h4⟩
  · exact .inl ⟨h1, ⟨hu.up, hu.live, hu.st, hu.ns, hu.turn, hu.main, hu.other⟩⟩
  · exact .inr ⟨h1, h2, t, h3, ⟨h4.turn, h4.main, h4.other⟩⟩
theorem k_crash {D : Dk.Dsk} {L : Lg} {m : Md} {un : Bool} {ot : Byt} {i : Nat} (h : KSim D L m un ot i) (hi : i ≤ 100) (hD : Dk.Ok D) (keeps : List Int) (fu : Int) :
    ∃ D' r e, openL (Dk.fuse (Dk.crash D keeps) fu) = (D', r, e) ∧ Ok (picks (Dk.fuse (Dk.crash D keeps) fu)).1 ∧
      ((r = none ∧ e = 40) ∨ (r = none ∧ e = 2 ∧ KSim D' L m un ot (i + 1)) ∨
       ∃ L', r = some L' ∧ e = 0 ∧ L'.dead = false ∧ KSim D' L' ⟨L'.state, L'.notes, L'.notes.length⟩ false ot (i + 1) ∧ ((L'.state = m.state ∧ ∃ j, m.safe ≤ j ∧ j ≤ m.notes.length ∧ L'.notes = m.notes.take j) ∨ (un = true ∧ L'.state = ot ∧ L'.notes = []))) := by
  have hac := h.acts
  have hsm := h.sm
  have hun : ∀ st, (if un = true then some ot else none) = some st → st.length ≤ 500 := fun st hst => by
    split at hst
    · injection hst with hst; subst hst; exact h.otl
    · cases hst
  obtain ⟨t, ht, hpre⟩ : ∃ t, t ≤ 1 + i ∧ Pre D t m (if un = true then some ot else none) := by
    rcases h.how with ⟨h1, hu⟩ | ⟨h1, h2, t, h3, h4⟩
    · exact ⟨L.turn, h.lturn, by rw [h1]; exact hu.pre hsm hD.safe⟩
    · exact ⟨t, h3, h4⟩
  obtain ⟨D', r, e, g1, g2, g3, g4, g5⟩ := open_crash hpre hsm (by omega) hun (by omega) keeps fu
  refine ⟨D', r, e, g1, g5, ?_⟩
  have h' := h.next
  rcases g4 with g4 | ⟨rfl, rfl, g6, g7⟩ | ⟨L', rfl, rfl, g6, g7, g8⟩
  · exact .inl g4
  · refine .inr (.inl ⟨rfl, rfl, h'.sm, h'.otl, h'.lst, h'.lns, h'.lmany, h'.lturn, by omega, h'.ms, ?_⟩)
    rcases h.how with ⟨h1, hu⟩ | ⟨h1, h2, t2, h3, h4⟩
    · exact .inr ⟨g6, (fun hx => by rw [h1] at hx; cases hx), t, by omega, g7⟩
    · exact .inr ⟨g6, h2, t, by omega, g7⟩
  · have hs : L'.state.length ≤ 500 ∧ (∀ n ∈ L'.notes, n.length ≤ 500) ∧ L'.notes.length ≤ i := by
      have := hsm.many
      rcases g8 with ⟨e1, j, _, _, e2⟩ | ⟨e1, e2⟩
      · rw [e1, e2]; exact ⟨hsm.state, fun y hy => hsm.note y (List.mem_of_mem_take hy), by rw [List.length_take]; omega⟩
      · rw [e2]; exact ⟨hun _ e1, (fun y hy => by cases hy), Nat.zero_le _⟩
    refine .inr (.inr ⟨L', rfl, rfl, g7.live, ⟨⟨hs.1, hs.2.1, by simp only; omega⟩, h.otl, hs.1, hs.2.1, by omega, by omega, by omega, Nat.le_refl _, .inl ⟨rfl, g7⟩⟩, ?_⟩)
    rcases g8 with g8 | ⟨e1, e2⟩
    · exact .inl g8
    · right
      split at e1
      · rename_i hu
        injection e1 with e1
        exact ⟨hu, e1.symm, e2⟩
      · cases e1
theorem k_open {D : Dk.Dsk} {L : Lg} {m : Md} {un : Bool} {ot : Byt} {i : Nat} (h : KSim D L m un ot i) (hi : i ≤ 100) (hD : Dk.Ok D) (hup : D.down = false) :
    openL D = (D, some L, 0) ∧ un = false ∧ L.dead = false ∧ L.state = m.state ∧ L.notes = m.notes := by
  have := h.lturn
  rcases h.how with ⟨h1, hu⟩ | ⟨h1, _⟩
  · exact ⟨open_up hu h.sm (by omega) (by omega) hD.safe, h1, hu.live, hu.st, hu.ns⟩
  · rw [hup] at h1; cases h1
end Go.Proofs.Ytmmgnbdngpkfcaa.Wl

namespace Go.Proofs.Ytmmgnbdngpkfcaa
open Go.RowKit
set_option linter.unusedVariables false

/-- a log and its disk, of which no block is within M -/
def LgX (M : Nat → Prop) (B : Nat) (w : World) (gl gd : Nat) (D : Dk.Dsk) (L : Wl.Lg) : Prop := ∃ F G vs vn, LgD F G w gl gd D L vs vn ∧ ∀ k, F k ∨ G k → B ≤ k ∧ ¬ M k
section
variable {M M' : Nat → Prop} {B gl gd : Nat} {w w' : World} {D D' : Dk.Dsk} {L L' : Wl.Lg} {er : Int}
theorem LgX.b (h : LgX M B w gl gd D L) : LgB B w gl gd D L := by
  obtain ⟨F, G, vs, vn, h1, h2⟩ := h
  exact ⟨F, G, vs, vn, h1, fun k hk => (h2 k hk).1⟩
theorem LgX.ok (h : LgX M B w gl gd D L) : Dk.Ok D := h.b.ptr
theorem LgX.size (h : LgX M B w gl gd D L) : B ≤ w.heap.size := h.b.size
theorem LgB.x (h : LgB B w gl gd D L) (hM : ∀ k, M k → k < B ∨ w.heap.size ≤ k) : LgX M B w gl gd D L := by
  obtain ⟨F, G, vs, vn, h1, h2⟩ := h
  refine ⟨F, G, vs, vn, h1, fun k hk => ⟨h2 k hk, fun hm => ?_⟩⟩
  have h3 := hM k hm
  have h4 := h2 k hk
  rcases hk with hk | hk
  · have := h1.dk.flt k hk; omega
  · have := h1.lg.lt k hk; omega
theorem LgX.keep (h : LgX M B w gl gd D L) (hb : Below w.heap.size w w') : LgX M B w' gl gd D L := by
  obtain ⟨F, G, vs, vn, h1, h2⟩ := h
  exact ⟨F, G, vs, vn, h1.keep hb, h2⟩
/-- the statement's own memory grows, or is written -/
theorem LgX.grow (h : LgX M B w gl gd D L) (hb : Only M w w') (hM : ∀ k, M' k → M k ∨ w.heap.size ≤ k) : LgX M' B w' gl gd D L := by
  obtain ⟨F, G, vs, vn, h1, h2⟩ := h
  have hF : ∀ k, F k → ¬ M k := fun k hk => (h2 k (.inl hk)).2
  have hG : ∀ k, G k → ¬ M k := fun k hk => (h2 k (.inr hk)).2
  refine ⟨F, G, vs, vn, ⟨h1.dk.only hb hF, h1.ok, h1.lg.only hb hG, h1.dis⟩, fun k hk => ⟨(h2 k hk).1, fun hm => ?_⟩⟩
  rcases hM k hm with h3 | h3
  · exact (h2 k hk).2 h3
  · rcases hk with hk | hk
    · have := h1.dk.flt k hk; omega
    · have := h1.lg.lt k hk; omega
theorem LogIs.x {F G : Nat → Prop} {e : Ending} (h : LogIs w F G gl gd (D', L', er) e w') (hB : B ≤ w.heap.size) (hM : ∀ k, M k → k < w.heap.size) (hFG : ∀ k, F k ∨ G k → B ≤ k ∧ ¬ M k) :
    e = .returned (.int .i64 er) ∧ LgX M B w' gl gd D' L' ∧ Below B w w' ∧ Only (fun k => ¬ M k) w w' := by
  obtain ⟨h1, F', G', vs, vn, h2, h3, h4⟩ := h
  refine ⟨h1, ⟨F', G', vs, vn, h2, fun k hk => ?_⟩, h4.below hB (fun k hk => (hFG k hk).1), h4.mono fun k hk => (hFG k hk).2⟩
  rcases h3 k hk with h5 | h5
  · exact hFG k h5
  · exact ⟨by omega, fun hm => by have := hM k hm; omega⟩
theorem x_LAppend (a : Option Addr) (n c : Nat) (b : List (BitVec 8)) (w : World) (h : LgX M B w gl gd D L) (hM : ∀ k, M k → k < w.heap.size) (ha : 0 ≤ D.acts ∧ D.acts ≤ 8000000000000000000) (hL : Wl.Ok L) (hn : n = b.length) (hnl : n ≤ 140737488355328) (hs : Sl EU8 (fun k => M k ∨ k < B) w a b) (hR : Wl.append D L b = (D', L', er)) :
    Calls Try.prog 35 #[.pointer (some ⟨gl, 0, none⟩), .slice a n c] w fun e w' => e = .returned (.int .i64 er) ∧ LgX M B w' gl gd D' L' ∧ Below B w w' ∧ Only (fun k => ¬ M k) w w' := by
  have hsz := h.size
  obtain ⟨F, G, vs, vn, h1, h2⟩ := h
  refine (wal_Append a n c b w h1 ha hL hn hnl (hs.mono (by decide) fun k hk _ => ⟨rfl, ?_, ?_⟩)).mono ?_
  · intro hf
    have h3 := h2 k (.inl hf)
    rcases hk with hk | hk
    · exact h3.2 hk
    · omega
  · intro hg
    have h3 := h2 k (.inr hg)
    rcases hk with hk | hk
    · exact h3.2 hk
    · omega
  · rw [hR]
    intro e w' hh
    exact hh.x hsz hM h2
theorem x_LCheck (a : Option Addr) (n c : Nat) (st : List (BitVec 8)) (w : World) (h : LgX M B w gl gd D L) (hM : ∀ k, M k → k < w.heap.size) (ha : 0 ≤ D.acts ∧ D.acts ≤ 8000000000000000000) (hL : Wl.Ok L) (hn : n = st.length) (hnl : n ≤ 65500 ∨ 65516 < n) (hs : Sl EU8 (fun k => True) w a st) (hR : Wl.check D L st = (D', L', er)) :
    Calls Try.prog 37 #[.pointer (some ⟨gl, 0, none⟩), .slice a n c] w fun e w' => e = .returned (.int .i64 er) ∧ LgX M B w' gl gd D' L' ∧ Below B w w' ∧ Only (fun k => ¬ M k) w w' := by
  have hsz := h.size
  obtain ⟨F, G, vs, vn, h1, h2⟩ := h
  refine (wal_Check a n c st w h1 ha hL hn hnl hs).mono ?_
  rw [hR]
  intro e w' hh
  exact hh.x hsz hM h2
theorem x_LSync (w : World) (h : LgX M B w gl gd D L) (hM : ∀ k, M k → k < w.heap.size) (ha : 0 ≤ D.acts ∧ D.acts ≤ 8000000000000000000) (ht : L.turn ≤ 1099511627777) (hR : Wl.sync D L = (D', L', er)) :
    Calls Try.prog 36 #[.pointer (some ⟨gl, 0, none⟩)] w fun e w' => e = .returned (.int .i64 er) ∧ LgX M B w' gl gd D' L' ∧ Below B w w' ∧ Only (fun k => ¬ M k) w w' := by
  have hsz := h.size
  obtain ⟨F, G, vs, vn, h1, h2⟩ := h
  refine (wal_Sync w h1 ha ht).mono ?_
  rw [hR]
  intro e w' hh
  exact hh.x hsz hM h2
theorem x_Dead (w : World) (h : LgX M B w gl gd D L) :
    Calls Try.prog 40 #[.pointer (some ⟨gl, 0, none⟩)] w fun e w' => e = .returned (.bool L.dead) ∧ w = w' := b_Dead w h.b
theorem x_is (a1 : Option Addr) (n1 c1 : Nat) (s : List (BitVec 8)) (a2 : Option Addr) (n2 c2 : Nat) (ms : List (List (BitVec 8))) (w : World) (h : LgX M B w gl gd D L) (hL : Wl.Ok L) (hs : RB w a1 n1 s) (hm : RS EBytes w a2 n2 ms) (hn1 : n1 ≤ 140737488355328) (hn2 : n2 ≤ 140737488355328) :
    Calls Try.prog 33 #[.pointer (some ⟨gl, 0, none⟩), .slice a1 n1 c1, .slice a2 n2 c2] w fun e w' => e = .returned (.bool (L.state == s && L.notes == ms)) ∧ Below w.heap.size w w' :=
  (b_is a1 n1 c1 s a2 n2 c2 ms w h.b hL hs hm hn1 hn2).mono fun e w' ⟨h1, h2, h3⟩ => ⟨h1, h3⟩
theorem x_Fuse (n : Int) (w : World) (h : LgX M B w gl gd D L) (hn : n ≤ 9223372036854775807) :
    Calls Try.prog 42 #[.pointer (some ⟨gd, 0, none⟩), .int .i64 n] w fun e w' => e = .returned (.tuple #[]) ∧ LgX M B w' gl gd (Dk.fuse D n) L ∧ Below B w w' ∧ Only (fun k => ¬ M k) w w' := by
  have hsz := h.size
  obtain ⟨F, G, vs, vn, h1, h2⟩ := h
  refine (disk_Fuse gd D n w h1.dk).mono ?_
  rintro e w' ⟨rfl, g1, g2⟩
  exact ⟨rfl, ⟨F, G, vs, vn, h1.turn ⟨g2, fun k hk => .inl hk⟩ g1 (Dk.ok_fuse h1.ok n hn), h2⟩, g2.below hsz (fun k hk => (h2 k (.inl hk)).1), g2.mono fun k hk => (h2 k (.inl hk)).2⟩
theorem x_Crash (a : Option Addr) (n c : Nat) (ks : List Int) (w : World) (h : LgX M B w gl gd D L) (hM : ∀ k, M k → k < w.heap.size) (hn : n = ks.length) (hs : Sl EInt (fun k => M k ∨ k < B) w a ks) :
    Calls Try.prog 43 #[.pointer (some ⟨gd, 0, none⟩), .slice a n c] w fun e w' => e = .returned (.tuple #[]) ∧ LgX M B w' gl gd (Dk.crash D ks) L ∧ Below B w w' ∧ Only (fun k => ¬ M k) w w' := by
  have hsz := h.size
  obtain ⟨F, G, vs, vn, h1, h2⟩ := h
  refine (disk_Crash gd D a n c ks w h1.dk h1.ok hn (hs.mono (by decide) fun k hk _ => ⟨rfl, fun hf => ?_⟩)).mono ?_
  · have h3 := h2 k (.inl hf)
    rcases hk with hk | hk
    · exact h3.2 hk
    · omega
  · rintro e w' ⟨rfl, F', g1, g2⟩
    refine ⟨rfl, ⟨F', G, vs, vn, h1.turn g2 g1 (Dk.ok_crash h1.ok ks), fun k hk => ?_⟩, g2.only.below hsz (fun k hk => (h2 k (.inl hk)).1), g2.only.mono fun k hk => (h2 k (.inl hk)).2⟩
    rcases hk with hk | hk
    · rcases g2.foot k hk with h4 | h4
      · exact h2 k (.inl h4)
      · exact ⟨by omega, fun hm => by have := hM k hm; omega⟩
    · exact h2 k (.inr hk)
theorem x_Down (w : World) (h : LgX M B w gl gd D L) :
    Calls Try.prog 44 #[.pointer (some ⟨gd, 0, none⟩)] w fun e w' => e = .returned (.bool D.down) ∧ w = w' := by
  obtain ⟨F, G, vs, vn, h1, h2⟩ := h
  exact disk_Down gd D w h1.dk
theorem x_Open_none (w : World) (h : LgX M B w gl gd D L) (hM : ∀ k, M k → k < w.heap.size) (ha : 0 ≤ D.acts ∧ D.acts ≤ 8000000000000000000) (hL : Wl.Ok (Wl.picks D).1) (hR : Wl.openL D = (D', none, er)) :
    Calls Try.prog 32 #[.pointer (some ⟨gd, 0, none⟩)] w fun e w' => e = .returned (.tuple #[.pointer none, .int .i64 er]) ∧ LgX M B w' gl gd D' L ∧ Below B w w' ∧ Only (fun k => ¬ M k) w w' := by
  have hsz := h.size
  obtain ⟨F, G, vs, vn, h1, h2⟩ := h
  refine (wal_Open w.heap.size w rfl h1.dk h1.ok ha hL).mono ?_
  rw [hR]
  rintro e w' ⟨F', g1, g2, g3, g4, rfl⟩
  refine ⟨rfl, ⟨F', G, vs, vn, h1.turn ⟨g4, g3⟩ g1 g2, fun k hk => ?_⟩, g4.below hsz (fun k hk => (h2 k (.inl hk)).1), g4.mono fun k hk => (h2 k (.inl hk)).2⟩
  rcases hk with hk | hk
  · rcases g3 k hk with h4 | h4
    · exact h2 k (.inl h4)
    · exact ⟨by omega, fun hm => by have := hM k hm; omega⟩
  · exact h2 k (.inr hk)
theorem x_Open_some (w : World) (h : LgX M B w gl gd D L) (hM : ∀ k, M k → k < w.heap.size) (ha : 0 ≤ D.acts ∧ D.acts ≤ 8000000000000000000) (hL : Wl.Ok (Wl.picks D).1) (hR : Wl.openL D = (D', some L', er)) :
    Calls Try.prog 32 #[.pointer (some ⟨gd, 0, none⟩)] w fun e w' => ∃ gk, e = .returned (.tuple #[.pointer (some ⟨gk, 0, none⟩), .int .i64 er]) ∧ LgX M B w' gk gd D' L' ∧ Below B w w' ∧ Only (fun k => ¬ M k) w w' := by
  have hsz := h.size
  obtain ⟨F, G, vs, vn, h1, h2⟩ := h
  refine (wal_Open w.heap.size w rfl h1.dk h1.ok ha hL).mono ?_
  rw [hR]
  rintro e w' ⟨F', g1, g2, g3, g4, gk, G', vs', vn', rfl, g5, g6, g7⟩
  refine ⟨gk, rfl, ⟨F', G', vs', vn', ⟨g1, g2, g5, g6⟩, fun k hk => ?_⟩, g4.below hsz (fun k hk => (h2 k (.inl hk)).1), g4.mono fun k hk => (h2 k (.inl hk)).2⟩
  rcases hk with hk | hk
  · rcases g3 k hk with h4 | h4
    · exact h2 k (.inl h4)
    · exact ⟨by omega, fun hm => by have := hM k hm; omega⟩
  · have h4 := g7 k hk
    exact ⟨by omega, fun hm => by have := hM k hm; omega⟩
end

/-- notes somewhere within ok -/
def Nts (ok : Nat → Prop) (w : World) (v : Value) (l : List (List (BitVec 8))) : Prop := ∃ a c, v = .slice a l.length c ∧ l.length ≤ c ∧ c ≤ maxLen ∧ Sl EBytes ok w a l
theorem Nts.mono {ok ok' : Nat → Prop} {w w' : World} {v : Value} {l : List (List (BitVec 8))} (h : Nts ok w v l) (hb : ∀ k, ok k → k < w.heap.size → w'.heap[k]? = w.heap[k]? ∧ ok' k) : Nts ok' w' v l := by
  obtain ⟨a, c, rfl, h1, h2, h3⟩ := h
  exact ⟨a, c, rfl, h1, h2, h3.mono (by decide) hb⟩
theorem Nts.nil (ok : Nat → Prop) (w : World) : Nts ok w (.slice none 0 0) [] := ⟨none, 0, rfl, Nat.le_refl _, by unfold maxLen; omega, Sl.nil _ _ _ _⟩
/-- what the statement holds: the model, and what a state under way would leave -/
structure KM (M : Nat → Prop) (w : World) (p8 p9 : Nat) (m : Wl.Md) (ot : List (BitVec 8)) (vs vn v9 : Value) : Prop where
  h8 : w.heap[p8]? = some (.cells #[vs, vn, .int .i64 m.safe] 76 (0, 0))
  s8 : Byt (fun k => M k ∧ k ≠ p8 ∧ k ≠ p9) w vs m.state
  n8 : Nts (fun k => M k ∧ k ≠ p8 ∧ k ≠ p9) w vn m.notes
  h9 : w.heap[p9]? = some (.cells #[v9, .slice none 0 0, .int .i64 0] 76 (0, 0))
  s9 : Byt (fun k => M k ∧ k ≠ p8 ∧ k ≠ p9) w v9 ot
  m8 : M p8
  m9 : M p9
  ne : p8 ≠ p9
  lt : ∀ k, M k → k < w.heap.size
section
variable {M : Nat → Prop} {w w' : World} {p8 p9 : Nat} {m : Wl.Md} {ot : List (BitVec 8)} {vs vn v9 : Value}
theorem KM.c0 (h : KM M w p8 p9 m ot vs vn v9) : w.cell? ⟨p8, 0, none⟩ = some vs := by simp [World.cell?, h.h8]
theorem KM.c1 (h : KM M w p8 p9 m ot vs vn v9) : w.cell? ⟨p8, 1, none⟩ = some vn := by simp [World.cell?, h.h8]
theorem KM.c2 (h : KM M w p8 p9 m ot vs vn v9) : w.cell? ⟨p8, 2, none⟩ = some (.int .i64 m.safe) := by simp [World.cell?, h.h8]
theorem KM.d0 (h : KM M w p8 p9 m ot vs vn v9) : w.cell? ⟨p9, 0, none⟩ = some v9 := by simp [World.cell?, h.h9]
theorem KM.d1 (h : KM M w p8 p9 m ot vs vn v9) : w.cell? ⟨p9, 1, none⟩ = some (.slice none 0 0) := by simp [World.cell?, h.h9]
theorem KM.d2 (h : KM M w p8 p9 m ot vs vn v9) : w.cell? ⟨p9, 2, none⟩ = some (.int .i64 0) := by simp [World.cell?, h.h9]
theorem KM.f8 (h : KM M w p8 p9 m ot vs vn v9) (o : Nat) : w.frozen? ⟨p8, o, none⟩ = false := by simp [World.frozen?, h.h8]
theorem KM.f9 (h : KM M w p8 p9 m ot vs vn v9) (o : Nat) : w.frozen? ⟨p9, o, none⟩ = false := by simp [World.frozen?, h.h9]
/-- it stays, while what turns lies outside; M may grow -/
theorem KM.only {M' S : Nat → Prop} (h : KM M w p8 p9 m ot vs vn v9) (ho : Only S w w') (hS : ∀ k, M k → ¬ S k) (hM : ∀ k, M k → M' k) (hlt : ∀ k, M' k → k < w'.heap.size) : KM M' w' p8 p9 m ot vs vn v9 := by
  have hb : ∀ k, M k → w'.heap[k]? = w.heap[k]? := fun k hk => ho.block k (h.lt k hk) (hS k hk)
  exact ⟨(hb p8 h.m8).trans h.h8, h.s8.mono fun k hk _ => ⟨hb k hk.1, hM k hk.1, hk.2⟩, h.n8.mono fun k hk _ => ⟨hb k hk.1, hM k hk.1, hk.2⟩, (hb p9 h.m9).trans h.h9, h.s9.mono fun k hk _ => ⟨hb k hk.1, hM k hk.1, hk.2⟩, hM _ h.m8, hM _ h.m9, h.ne, hlt⟩
/-- the model's block is written anew -/
theorem KM.set8 {m' : Wl.Md} {vs' vn' : Value} (h : KM M w p8 p9 m ot vs vn v9) (ho : Only (· = p8) w w') (hh : w'.heap[p8]? = some (.cells #[vs', vn', .int .i64 m'.safe] 76 (0, 0)))
    (hs : Byt (fun k => M k ∧ k ≠ p8 ∧ k ≠ p9) w' vs' m'.state) (hn : Nts (fun k => M k ∧ k ≠ p8 ∧ k ≠ p9) w' vn' m'.notes) : KM M w' p8 p9 m' ot vs' vn' v9 :=
  ⟨hh, hs, hn, (ho.block p9 (h.lt p9 h.m9) (fun e => h.ne e.symm)).trans h.h9, h.s9.mono fun k hk hlt => ⟨ho.block k hlt hk.2.1, hk⟩, h.m8, h.m9, h.ne, fun k hk => Nat.lt_of_lt_of_le (h.lt k hk) ho.size⟩
theorem KM.set9 {ot' : List (BitVec 8)} {v9' : Value} (h : KM M w p8 p9 m ot vs vn v9) (ho : Only (· = p9) w w') (hh : w'.heap[p9]? = some (.cells #[v9', .slice none 0 0, .int .i64 0] 76 (0, 0)))
    (hs : Byt (fun k => M k ∧ k ≠ p8 ∧ k ≠ p9) w' v9' ot') : KM M w' p8 p9 m ot' vs vn v9' :=
  ⟨(ho.block p8 (h.lt p8 h.m8) h.ne).trans h.h8, h.s8.mono fun k hk hlt => ⟨ho.block k hlt hk.2.2, hk⟩, h.n8.mono fun k hk hlt => ⟨ho.block k hlt hk.2.2, hk⟩, hh, hs, h.m8, h.m9, h.ne, fun k hk => Nat.lt_of_lt_of_le (h.lt k hk) ho.size⟩
end

/-! a step of the statement -/
abbrev KOp : Type := Int × Int × List (BitVec 8) × List Int
def EKOp : Enc KOp := EPair EInt (EPair EInt (EPair EBytes EInts))
theorem kop_rep {ok : Nat → Prop} {w : World} {cs : List Value} {x : KOp} (h : EKOp.rep ok w cs x) :
    ∃ aB cB aK cK, cs = [.int .i64 x.1, .int .i64 x.2.1, .slice aB x.2.2.1.length cB, .slice aK x.2.2.2.length cK] ∧ (-9223372036854775808 ≤ x.1 ∧ x.1 ≤ 9223372036854775807) ∧ (-9223372036854775808 ≤ x.2.1 ∧ x.2.1 ≤ 9223372036854775807) ∧
      x.2.2.1.length ≤ cB ∧ cB ≤ maxLen ∧ Sl EU8 ok w aB x.2.2.1 ∧ x.2.2.2.length ≤ cK ∧ cK ≤ maxLen ∧ Sl EInt ok w aK x.2.2.2 := by
  obtain ⟨c1, r1, rfl, h1, c2, r2, rfl, h2, c4, c5, rfl, h4, h5⟩ := h
  obtain rfl : c1 = [.int .i64 x.1] := h1.1
  obtain rfl : c2 = [.int .i64 x.2.1] := h2.1
  obtain ⟨aB, cB, rfl, b1, b2, b3⟩ := h4
  obtain ⟨aK, cK, rfl, k1, k2, k3⟩ := h5
  exact ⟨aB, cB, aK, cK, rfl, h1.2, h2.2, b1, b2, b3, k1, k2, k3⟩
theorem reads_kbytes : Reads Try.prog 49 EBytes (bulkL (fun _ => 1)) := reads_slice (by decide) Try.underlying49 (by kernel_rfl) (reads_u8 Try.underlying5)
theorem reads_kints : Reads Try.prog 29 EInts (bulkL (fun _ => 1)) := reads_slice (by decide) Try.underlying29 (by kernel_rfl) (reads_int Try.underlying3)
theorem reads_kop : Reads Try.prog 78 EKOp (fun _ => 1) := by
  have h : Reads Try.prog 78 EKOp (fun x => 1 + (1 + (bulkL (fun _ => 1) x.2.2.1 + bulkL (fun _ => 1) x.2.2.2))) := by
    refine reads_struct (E := EKOp) (m := fun x => 1 + (1 + (bulkL (fun _ => 1) x.2.2.1 + bulkL (fun _ => 1) x.2.2.2))) Try.underlying78 (by kernel_rfl) ?_
    refine fields_cons (off := 0) (A := EInt) (B := EPair EInt (EPair EBytes EInts)) (m := fun _ => 1) (n := fun x => 1 + (bulkL (fun _ => 1) x.2.1 + bulkL (fun _ => 1) x.2.2)) (by rfl) (by kernel_rfl) (reads_int Try.underlying3) ?_
    refine fields_cons (off := 1) (A := EInt) (B := EPair EBytes EInts) (m := fun _ => 1) (n := fun x => bulkL (fun _ => 1) x.1 + bulkL (fun _ => 1) x.2) (by rfl) (by kernel_rfl) (reads_int Try.underlying3) ?_
    refine fields_cons (off := 2) (A := EBytes) (B := EInts) (m := bulkL (fun _ => 1)) (n := bulkL (fun _ => 1)) (by rfl) (by kernel_rfl) reads_kbytes ?_
    exact fields_one (off := 3) (by rfl) (by kernel_rfl) reads_kints
  intro H enc w fuel cs d ps hd
  obtain ⟨x, hx, hm⟩ := h hd
  exact ⟨x, hx, by simp only at hm ⊢; omega⟩
theorem reads_kops : Reads Try.prog 74 (ESlice EKOp (by decide)) (bulkL (fun _ => 1)) := reads_slice (by decide) Try.underlying74 (by kernel_rfl) reads_kop
theorem low_ints {B : Nat} {w : World} {a : Option Addr} {l : List Int} (hs : Sl EInt (fun _ => True) w a l) (hB : w.heap.size = B) : Sl EInt (fun k => k < B) w a l := by
  intro k x hx
  obtain ⟨b, o, e, _, cs, hr, hc⟩ := hs k x hx
  refine ⟨b, o, e, ?_, cs, hr, hc⟩
  obtain rfl : cs = [.int .i64 x] := hr.1
  rw [← hB]; exact cell_lt (hc 0 _ rfl)
/-- a step, in whatever world behind -/
theorem kop_at {B : Nat} {w w' : World} {a : Option Addr} {ts : List KOp} (h : Sl EKOp (fun _ => True) w a ts) (hB : w.heap.size = B) (hb : Below B w w') (k : Nat) (hk : k < ts.length) :
    ∃ b o aB cB aK cK, a = some ⟨b, o, none⟩ ∧ b < B ∧ w'.cell? ⟨b, o + k * 4, none⟩ = some (.int .i64 ts[k].1) ∧ w'.cell? ⟨b, o + k * 4 + 1, none⟩ = some (.int .i64 ts[k].2.1) ∧ w'.cell? ⟨b, o + k * 4 + 2, none⟩ = some (.slice aB ts[k].2.2.1.length cB) ∧ w'.cell? ⟨b, o + k * 4 + 3, none⟩ = some (.slice aK ts[k].2.2.2.length cK) ∧
      (-9223372036854775808 ≤ ts[k].1 ∧ ts[k].1 ≤ 9223372036854775807) ∧ (-9223372036854775808 ≤ ts[k].2.1 ∧ ts[k].2.1 ≤ 9223372036854775807) ∧
      ts[k].2.2.1.length ≤ cB ∧ cB ≤ maxLen ∧ Sl EU8 (fun k => k < B) w aB ts[k].2.2.1 ∧ ts[k].2.2.2.length ≤ cK ∧ cK ≤ maxLen ∧ Sl EInt (fun k => k < B) w aK ts[k].2.2.2 := by
  obtain ⟨b, o, rfl, _, cs, hr, hc⟩ := h k ts[k] (List.getElem?_eq_getElem hk)
  obtain ⟨aB, cB, aK, cK, rfl, h2, h3, b1, b2, b3, k1, k2, k3⟩ := kop_rep hr
  have hz : EKOp.sz = 4 := rfl
  rw [hz] at hc
  have hlt : b < B := by rw [← hB]; exact cell_lt (hc 0 _ rfl)
  refine ⟨b, o, aB, cB, aK, cK, rfl, hlt, ?_, ?_, ?_, ?_, h2, h3, b1, b2, low_u8 b3 hB, k1, k2, low_ints k3 hB⟩
  · rw [hb.cell (p := ⟨b, o + k * 4, none⟩) hlt]; simpa using hc 0 _ rfl
  · rw [hb.cell (p := ⟨b, o + k * 4 + 1, none⟩) hlt, Nat.add_assoc]; exact hc 1 _ rfl
  · rw [hb.cell (p := ⟨b, o + k * 4 + 2, none⟩) hlt, Nat.add_assoc]; exact hc 2 _ rfl
  · rw [hb.cell (p := ⟨b, o + k * 4 + 3, none⟩) hlt, Nat.add_assoc]; exact hc 3 _ rfl
end Go.Proofs.Ytmmgnbdngpkfcaa


/-
  Arcs between nodes, in plain Lean: ways, closed ways, the first of the shortest, breadth first, what can be reached, the order.
-/
import Derived.Test.YticpbiccgnfecaaNum
namespace Go.Proofs.Yticpbiccgnfecaa.Gr
set_option linter.unusedVariables false

abbrev Rel := Nat → Nat → Bool

/-! lists -/
theorem pigeon : ∀ (l m : List Nat), l.Nodup → (∀ x ∈ l, x ∈ m) → l.length ≤ m.length
  | [], m, _, _ => by simp
  | a :: l, m, hn, hs => by
    obtain ⟨h1, h2⟩ := List.nodup_cons.1 hn
    have ha := hs a (by simp)
    have := pigeon l (m.erase a) h2 fun x hx => by
      have hxa : x ≠ a := fun e => h1 (e ▸ hx)
      exact (List.mem_erase_of_ne hxa).2 (hs x (by simp [hx]))
    rw [List.length_erase_of_mem ha] at this
    have hpos : 0 < m.length := List.length_pos_of_mem ha
    simp only [List.length_cons]; omega
theorem pigeon_lt {l : List Nat} {n : Nat} (hn : l.Nodup) (h : ∀ x ∈ l, x < n) : l.length ≤ n := by
  have := pigeon l (List.range n) hn fun x hx => List.mem_range.2 (h x hx)
  simpa using this
theorem not_nodup : ∀ (c : List Nat), ¬ c.Nodup → ∃ x a y z, c = x ++ a :: (y ++ a :: z)
  | [], h => absurd List.nodup_nil h
  | b :: c, h => by
    by_cases hb : b ∈ c
    · obtain ⟨y, z, e⟩ := List.append_of_mem hb
      exact ⟨[], b, y, z, by rw [e]; rfl⟩
    · by_cases hc : c.Nodup
      · exact absurd (List.nodup_cons.2 ⟨hb, hc⟩) h
      · obtain ⟨x, a, y, z, e⟩ := not_nodup c hc
        exact ⟨b :: x, a, y, z, by rw [e]; rfl⟩
/-- lists that rise are told by what they hold -/
theorem rise_ext : ∀ (l m : List Int), l.Pairwise (· < ·) → m.Pairwise (· < ·) → (∀ x, x ∈ l ↔ x ∈ m) → l = m
  | [], [], _, _, _ => rfl
  | [], b :: m, _, _, h => by have := (h b).2 (by simp); simp at this
  | a :: l, [], _, _, h => by have := (h a).1 (by simp); simp at this
  | a :: l, b :: m, h1, h2, h => by
    obtain ⟨p1, p2⟩ := List.pairwise_cons.1 h1
    obtain ⟨q1, q2⟩ := List.pairwise_cons.1 h2
    have e : a = b := by
      have ha := (h a).1 (by simp)
      have hb := (h b).2 (by simp)
      rcases List.mem_cons.1 ha with e | ha
      · exact e
      · rcases List.mem_cons.1 hb with e | hb
        · exact e.symm
        · have := p1 b hb; have := q1 a ha; omega
    subst e
    rw [rise_ext l m p2 q2 fun x => ?_]
    constructor
    · intro hx
      rcases List.mem_cons.1 ((h x).1 (by simp [hx])) with e | hm
      · have := p1 x hx; omega
      · exact hm
    · intro hx
      rcases List.mem_cons.1 ((h x).2 (by simp [hx])) with e | hm
      · have := q1 x hx; omega
      · exact hm

/-! rows -/
def rowN (n : Nat) (R : Rel) (i : Nat) : List Nat := (List.range n).filter (R i)
theorem mem_row {n : Nat} {R : Rel} {i v : Nat} : v ∈ rowN n R i ↔ v < n ∧ R i v = true := by simp [rowN]
theorem row_len (n : Nat) (R : Rel) (i : Nat) : (rowN n R i).length ≤ n := by
  have := List.length_filter_le (R i) (List.range n); simpa [rowN] using this
theorem row_nodup (n : Nat) (R : Rel) (i : Nat) : (rowN n R i).Nodup := List.Pairwise.filter _ List.nodup_range
theorem row_rise (n : Nat) (R : Rel) (i : Nat) : (rowN n R i).Pairwise (· < ·) := List.Pairwise.filter _ List.pairwise_lt_range
/-- nodes below n alone -/
def Bd (n : Nat) (R : Rel) : Prop := ∀ u v, R u v = true → u < n ∧ v < n

/-! ways, by their nodes -/
/-- from the first of l, arc by arc, to g -/
def Lk (R : Rel) : List Nat → Nat → Prop
  | [], _ => True
  | u :: r, g => R u (r.headD g) = true ∧ Lk R r g
theorem Lk.app {R : Rel} : ∀ {a b : List Nat} {g : Nat}, Lk R (a ++ b) g ↔ Lk R a (b.headD g) ∧ Lk R b g
  | [], b, g => by simp [Lk]
  | u :: a, b, g => by
    have e : (a ++ b).headD g = a.headD (b.headD g) := by cases a <;> simp
    simp only [List.cons_append, Lk, Lk.app (a := a), e, and_assoc]
theorem Lk.bd {n : Nat} {R : Rel} (hR : Bd n R) : ∀ {l : List Nat} {g : Nat}, Lk R l g → ∀ x ∈ l, x < n
  | [], _, _, x, hx => by simp at hx
  | u :: r, g, h, x, hx => by
    rcases List.mem_cons.1 hx with e | hx
    · subst e; exact (hR _ _ h.1).1
    · exact Lk.bd hR h.2 x hx
/-- a number of arcs from u to g -/
def Wk (R : Rel) (d u g : Nat) : Prop := ∃ l : List Nat, l.length = d ∧ l.headD g = u ∧ Lk R l g
theorem Wk.zero {R : Rel} {u g : Nat} : Wk R 0 u g ↔ u = g := by
  constructor
  · rintro ⟨l, hl, hu, _⟩
    have : l = [] := List.eq_nil_of_length_eq_zero hl
    subst this; simpa using hu.symm
  · rintro rfl; exact ⟨[], rfl, rfl, trivial⟩
theorem Wk.succ {R : Rel} {d u g : Nat} : Wk R (d + 1) u g ↔ ∃ v, R u v = true ∧ Wk R d v g := by
  constructor
  · rintro ⟨l, hl, hu, h⟩
    cases l with
    | nil => simp at hl
    | cons x r =>
      simp at hu; subst hu
      exact ⟨_, h.1, r, by simpa using hl, rfl, h.2⟩
  · rintro ⟨v, h, l, hl, hv, hk⟩
    exact ⟨u :: l, by simp [hl], rfl, by rw [← hv] at h; exact ⟨h, hk⟩⟩
theorem Wk.lt {n : Nat} {R : Rel} (hR : Bd n R) {d u g : Nat} (hg : g < n) (h : Wk R d u g) : u < n := by
  cases d with
  | zero => rw [Wk.zero.1 h]; exact hg
  | succ d => obtain ⟨v, h, _⟩ := Wk.succ.1 h; exact (hR _ _ h).1

/-! closed ways -/
def Clo (R : Rel) (c : List Nat) : Prop := c ≠ [] ∧ Lk R c (c.headD 0)
theorem Clo.pos {R : Rel} {c : List Nat} (h : Clo R c) : 0 < c.length := List.length_pos_iff.2 h.1
theorem Clo.bd {n : Nat} {R : Rel} (hR : Bd n R) {c : List Nat} (h : Clo R c) : ∀ x ∈ c, x < n := Lk.bd hR h.2
/-- who meets a node twice can be cut -/
theorem Clo.cut {R : Rel} {c : List Nat} (h : Clo R c) (hn : ¬ c.Nodup) : ∃ d, Clo R d ∧ d.length < c.length := by
  obtain ⟨x, a, y, z, rfl⟩ := not_nodup c hn
  obtain ⟨_, h⟩ := h
  have h1 := (Lk.app.1 h).2
  rw [← List.cons_append] at h1
  have h2 := (Lk.app.1 h1).1
  exact ⟨a :: y, ⟨by simp, by simpa using h2⟩, by simp; omega⟩
theorem Clo.least {R : Rel} {c : List Nat} (h : Clo R c) : ∃ d, Clo R d ∧ d.length ≤ c.length ∧ ∀ e, Clo R e → d.length ≤ e.length := by
  have key : ∀ (k : Nat) (c : List Nat), c.length ≤ k → Clo R c → ∃ d, Clo R d ∧ d.length ≤ c.length ∧ ∀ e, Clo R e → d.length ≤ e.length := by
    intro k
    induction k with
    | zero => intro c hk hc; have := hc.pos; omega
    | succ k ih =>
      intro c hk hc
      by_cases hm : ∀ e, Clo R e → c.length ≤ e.length
      · exact ⟨c, hc, Nat.le_refl _, hm⟩
      · obtain ⟨e, he⟩ := Classical.not_forall.1 hm
        obtain ⟨he, hlt⟩ := Classical.not_imp.1 he
        obtain ⟨d, h1, h2, h3⟩ := ih e (by omega) he
        exact ⟨d, h1, by omega, h3⟩
  exact key _ c (Nat.le_refl _) h
/-- the least one meets no node twice -/
theorem nodup_of_least {R : Rel} {c : List Nat} (h : Clo R c) (hm : ∀ e, Clo R e → c.length ≤ e.length) : c.Nodup := by
  by_cases hn : c.Nodup
  · exact hn
  · obtain ⟨d, h1, h2⟩ := h.cut hn
    have := hm d h1; omega
def Ext (R : Rel) (L : Nat) (p : List Nat) : Prop := ∃ c, Clo R c ∧ c.length = L ∧ p <+: c
/-- the shortest one, and of those the first in order -/
structure Least (R : Rel) (c : List Nat) : Prop where
  clo : Clo R c
  min : ∀ d, Clo R d → c.length ≤ d.length
  fst : ∀ i v, i < c.length → v < c.getD i 0 → ¬ Ext R c.length (c.take i ++ [v])
theorem take_snoc {α : Type} (l : List α) (i : Nat) (x : α) (h : l[i]? = some x) : l.take (i + 1) = l.take i ++ [x] := by
  rw [List.take_add_one, h]; rfl
theorem Least.uniq {R : Rel} {c d : List Nat} (hc : Least R c) (hd : Least R d) : c = d := by
  have hl : c.length = d.length := Nat.le_antisymm (hc.min d hd.clo) (hd.min c hc.clo)
  have key : ∀ i, i ≤ c.length → c.take i = d.take i := by
    intro i
    induction i with
    | zero => intro _; simp
    | succ i ih =>
      intro hi
      have e := ih (by omega)
      have h1 : c[i]? = some (c.getD i 0) := by rw [List.getD_eq_getElem?_getD, List.getElem?_eq_getElem (by omega)]; rfl
      have h2 : d[i]? = some (d.getD i 0) := by rw [List.getD_eq_getElem?_getD, List.getElem?_eq_getElem (by omega)]; rfl
      have t1 := take_snoc c i _ h1
      have t2 := take_snoc d i _ h2
      rcases Nat.lt_trichotomy (c.getD i 0) (d.getD i 0) with h | h | h
      · refine absurd ⟨c, hc.clo, hl, ?_⟩ (hd.fst i _ (by omega) h)
        rw [← e, ← t1]; exact List.take_prefix _ _
      · rw [t1, t2, e, h]
      · refine absurd ⟨d, hd.clo, hl.symm, ?_⟩ (hc.fst i _ (by omega) h)
        rw [e, ← t2]; exact List.take_prefix _ _
  have := key c.length (Nat.le_refl _)
  rw [List.take_of_length_le (Nat.le_refl _), List.take_of_length_le (by omega)] at this
  exact this
/-- what is looked for: nothing, or the first of the shortest -/
def CycS (R : Rel) (c : List Nat) : Prop := (c = [] ∧ ∀ d, ¬ Clo R d) ∨ Least R c
theorem CycS.uniq {R : Rel} {c d : List Nat} (hc : CycS R c) (hd : CycS R d) : c = d := by
  rcases hc with ⟨rfl, h1⟩ | hc <;> rcases hd with ⟨rfl, h2⟩ | hd
  · rfl
  · exact absurd hd.clo (h1 d)
  · exact absurd hc.clo (h2 c)
  · exact hc.uniq hd
theorem CycS.len {R S : Rel} {c d : List Nat} (hc : CycS R c) (hd : CycS S d) (h : ∀ x, Clo R x → ∃ y, Clo S y ∧ y.length = x.length) (h' : ∀ x, Clo S x → ∃ y, Clo R y ∧ y.length = x.length) : c.length = d.length := by
  rcases hc with ⟨rfl, h1⟩ | hc <;> rcases hd with ⟨rfl, h2⟩ | hd
  · rfl
  · obtain ⟨y, hy, _⟩ := h' d hd.clo; exact absurd hy (h1 y)
  · obtain ⟨y, hy, _⟩ := h c hc.clo; exact absurd hy (h2 y)
  · obtain ⟨y, hy, e⟩ := h' d hd.clo
    obtain ⟨z, hz, f⟩ := h c hc.clo
    have := hc.min y hy; have := hd.min z hz; omega

/-! turned round -/
theorem Lk.rev {R : Rel} : ∀ {l : List Nat} {u g : Nat}, Lk R (u :: l) g → Lk (fun a b => R b a) (g :: l.reverse) u
  | [], u, g, h => by simpa [Lk] using h
  | v :: l, u, g, h => by
    have h1 := h.1
    have ih := Lk.rev h.2
    rw [List.reverse_cons, ← List.cons_append]
    refine Lk.app.2 ⟨by simpa using ih, ?_⟩
    simpa [Lk] using h1
theorem Clo.rev {R : Rel} {c : List Nat} (h : Clo R c) : ∃ d, Clo (fun a b => R b a) d ∧ d.length = c.length := by
  cases c with
  | nil => exact absurd rfl h.1
  | cons u l => exact ⟨u :: l.reverse, ⟨by simp, by have := Lk.rev h.2; simpa using this⟩, by simp⟩

/-! breadth first -/
structure Bfs (n : Nat) (R : Rel) (g : Nat) (out : Nat → Int) (q : List Nat) : Prop where
  lt : ∀ x ∈ q, x < n
  sound : ∀ u, 0 ≤ out u → ∃ d : Nat, out u = d ∧ Wk R d u g
  goal : out g = 0
  asg : ∀ x ∈ q, 0 ≤ out x
  ris : q.Pairwise fun x y => out x ≤ out y
  bnd : ∀ x r, q = x :: r → ∀ u, out u ≤ out x + 1
  cls : ∀ x, 0 ≤ out x → x ∉ q → ∀ u, R u x = true → 0 ≤ out u ∧ out u ≤ out x + 1
def upd (f : Nat → Int) (u : Nat) (y : Int) : Nat → Int := fun x => if x = u then y else f x
def Away (R : Rel) (g : Nat) (out : Nat → Int) : Prop := ∀ u, (out u < 0 ∧ ∀ d, ¬ Wk R d u g) ∨ ∃ d : Nat, out u = d ∧ Wk R d u g ∧ ∀ d', Wk R d' u g → d ≤ d'
theorem Bfs.init {n : Nat} {R : Rel} {g : Nat} (hg : g < n) {out : Nat → Int} (h0 : out g = 0) (h1 : ∀ u, u ≠ g → out u < 0) : Bfs n R g out [g] where
  lt x hx := by simp at hx; subst hx; exact hg
  sound u hu := by
    by_cases e : u = g
    · subst e; exact ⟨0, h0, Wk.zero.2 rfl⟩
    · have := h1 u e; omega
  goal := h0
  asg x hx := by simp at hx; subst hx; omega
  ris := by simp
  bnd x r hq u := by
    simp at hq
    obtain ⟨rfl, _⟩ := hq
    by_cases e : u = g
    · subst e; omega
    · have := h1 u e; omega
  cls x hx hn := by
    by_cases e : x = g
    · subst e; simp at hn
    · have := h1 x e; omega
theorem Bfs.add {n : Nat} {R : Rel} {g : Nat} {out : Nat → Int} {x : Nat} {r : List Nat} (h : Bfs n R g out (x :: r)) (hR : Bd n R) {u : Nat} (hu : R u x = true) (hout : out u < 0) : Bfs n R g (upd out u (out x + 1)) (x :: (r ++ [u])) := by
  have hx0 := h.asg x (by simp)
  have hne : ∀ y, 0 ≤ out y → upd out u (out x + 1) y = out y := fun y hy => by
    unfold upd; rw [if_neg fun e => by subst e; omega]
  have hself : upd out u (out x + 1) u = out x + 1 := by unfold upd; rw [if_pos rfl]
  refine ⟨?_, ?_, ?_, ?_, ?_, ?_, ?_⟩
  · intro y hy
    simp only [List.mem_cons, List.mem_append, List.not_mem_nil, or_false] at hy
    rcases hy with rfl | hy | rfl
    · exact h.lt _ (by simp)
    · exact h.lt _ (by simp [hy])
    · exact (hR _ _ hu).1
  · intro y hy
    by_cases e : y = u
    · subst e
      obtain ⟨d, h1, h2⟩ := h.sound x hx0
      exact ⟨d + 1, by rw [hself, h1]; simp, Wk.succ.2 ⟨x, hu, h2⟩⟩
    · have e2 : upd out u (out x + 1) y = out y := by unfold upd; rw [if_neg e]
      rw [e2] at hy ⊢
      exact h.sound y hy
  · rw [hne g (by rw [h.goal]; exact Int.le_refl _)]; exact h.goal
  · intro y hy
    simp only [List.mem_cons, List.mem_append, List.not_mem_nil, or_false] at hy
    rcases hy with rfl | hy | rfl
    · rw [hne _ hx0]; exact hx0
    · have := h.asg y (by simp [hy]); rw [hne _ this]; exact this
    · rw [hself]; omega
  · rw [← List.cons_append, List.pairwise_append]
    refine ⟨?_, by simp, ?_⟩
    · refine h.ris.imp_of_mem fun {a b} ha hb hab => ?_
      rw [hne a (h.asg a ha), hne b (h.asg b hb)]; exact hab
    · intro a ha b hb
      simp at hb; subst hb
      rw [hne a (h.asg a ha), hself]
      exact h.bnd x r rfl a
  · intro y t hq v
    injection hq with e _
    subst e
    rw [hne _ hx0]
    by_cases e : v = u
    · subst e; rw [hself]; exact Int.le_refl _
    · unfold upd; rw [if_neg e]; exact h.bnd x r rfl v
  · intro y hy hyn w hw
    have hyu : y ≠ u := fun e => hyn (by simp [e])
    have e2 : upd out u (out x + 1) y = out y := by unfold upd; rw [if_neg hyu]
    rw [e2] at hy ⊢
    obtain ⟨h1, h2⟩ := h.cls y hy (fun hm => hyn (by simp only [List.mem_cons, List.mem_append] at hm ⊢; rcases hm with h | h; exact .inl h; exact .inr (.inl h))) w hw
    rw [hne w h1]; exact ⟨h1, h2⟩
theorem Bfs.pop {n : Nat} {R : Rel} {g : Nat} {out : Nat → Int} {x : Nat} {r : List Nat} (h : Bfs n R g out (x :: r)) (hp : ∀ u, R u x = true → 0 ≤ out u) : Bfs n R g out r where
  lt y hy := h.lt y (by simp [hy])
  sound := h.sound
  goal := h.goal
  asg y hy := h.asg y (by simp [hy])
  ris := (List.pairwise_cons.1 h.ris).2
  bnd y t hq u := by
    have h1 := (List.pairwise_cons.1 h.ris).1 y (by rw [hq]; simp)
    have := h.bnd x r rfl u
    omega
  cls y hy hyn u hu := by
    by_cases e : y = x
    · subst e; exact ⟨hp u hu, h.bnd y r rfl u⟩
    · exact h.cls y hy (by simp [e, hyn]) u hu
theorem Bfs.fin {n : Nat} {R : Rel} {g : Nat} {out : Nat → Int} (h : Bfs n R g out []) : Away R g out := by
  have key : ∀ d u, Wk R d u g → 0 ≤ out u ∧ out u ≤ d := by
    intro d
    induction d with
    | zero => intro u hu; rw [Wk.zero.1 hu, h.goal]; omega
    | succ d ih =>
      intro u hu
      obtain ⟨v, h1, h2⟩ := Wk.succ.1 hu
      obtain ⟨a, b⟩ := ih v h2
      have := h.cls v a (by simp) u h1
      omega
  intro u
  by_cases hu : out u < 0
  · exact .inl ⟨hu, fun d hd => by have := key d u hd; omega⟩
  · obtain ⟨d, h1, h2⟩ := h.sound u (by omega)
    exact .inr ⟨d, h1, h2, fun d' hd => by have := key d' u hd; omega⟩

/-! the shortest one from a node on -/
def MinA (away : Nat → Int) (vs : List Nat) (len : Int) : Prop :=
  (len = -1 ∧ ∀ v ∈ vs, away v < 0) ∨ (0 ≤ len ∧ (∃ v ∈ vs, away v = len) ∧ ∀ v ∈ vs, 0 ≤ away v → len ≤ away v)
theorem MinA.nil (away : Nat → Int) : MinA away [] (-1) := .inl ⟨rfl, fun v h => by simp at h⟩
theorem MinA.yes {away : Nat → Int} {vs : List Nat} {len : Int} (h : MinA away vs len) {v : Nat} (h0 : 0 ≤ away v) (h1 : len < 0 ∨ away v < len) : MinA away (vs ++ [v]) (away v) := by
  refine .inr ⟨h0, ⟨v, by simp, rfl⟩, fun u hu hu0 => ?_⟩
  simp only [List.mem_append, List.mem_cons, List.not_mem_nil, or_false] at hu
  rcases hu with hu | rfl
  · rcases h with ⟨_, h⟩ | ⟨h2, _, h⟩
    · have := h u hu; omega
    · have := h u hu hu0; omega
  · exact Int.le_refl _
theorem MinA.no {away : Nat → Int} {vs : List Nat} {len : Int} (h : MinA away vs len) {v : Nat} (h0 : away v < 0 ∨ (0 ≤ len ∧ len ≤ away v)) : MinA away (vs ++ [v]) len := by
  rcases h with ⟨h2, h⟩ | ⟨h2, ⟨w, hw, h3⟩, h⟩
  · refine .inl ⟨h2, fun u hu => ?_⟩
    simp only [List.mem_append, List.mem_cons, List.not_mem_nil, or_false] at hu
    rcases hu with hu | rfl
    · exact h u hu
    · omega
  · refine .inr ⟨h2, ⟨w, by simp [hw], h3⟩, fun u hu hu0 => ?_⟩
    simp only [List.mem_append, List.mem_cons, List.not_mem_nil, or_false] at hu
    rcases hu with hu | rfl
    · exact h u hu hu0
    · omega
structure St (R : Rel) (s L : Nat) : Prop where
  ex : ∃ c, Clo R c ∧ c.headD 0 = s ∧ c.length = L
  mn : ∀ d, Clo R d → d.headD 0 = s → L ≤ d.length
theorem clo_head {R : Rel} {c : List Nat} (h : Clo R c) : ∃ r, c = c.headD 0 :: r ∧ R (c.headD 0) (r.headD (c.headD 0)) = true ∧ Wk R r.length (r.headD (c.headD 0)) (c.headD 0) := by
  cases c with
  | nil => exact absurd rfl h.1
  | cons s r => exact ⟨r, rfl, h.2.1, r, rfl, rfl, h.2.2⟩
theorem clo_of {R : Rel} {s v d : Nat} (h : R s v = true) (hw : Wk R d v s) : ∃ c, Clo R c ∧ c.headD 0 = s ∧ c.length = d + 1 := by
  obtain ⟨l, hl, hv, hk⟩ := hw
  refine ⟨s :: l, ⟨by simp, ?_, ?_⟩, rfl, by simp [hl]⟩
  · show R s (l.headD s) = true
    rw [hv]; exact h
  · simpa using hk
theorem Away.neg {R : Rel} {g : Nat} {away : Nat → Int} (ha : Away R g away) {u : Nat} (h : away u < 0) : ∀ d, ¬ Wk R d u g := by
  rcases ha u with ⟨_, h1⟩ | ⟨d, h1, _⟩
  · exact h1
  · omega
theorem Away.le {R : Rel} {g : Nat} {away : Nat → Int} (ha : Away R g away) {u d : Nat} (h : Wk R d u g) : 0 ≤ away u ∧ away u ≤ d := by
  rcases ha u with ⟨_, h1⟩ | ⟨e, h1, _, h3⟩
  · exact absurd h (h1 d)
  · have := h3 d h; omega
theorem Away.ex {R : Rel} {g : Nat} {away : Nat → Int} (ha : Away R g away) {u : Nat} (h : 0 ≤ away u) : Wk R (away u).toNat u g := by
  rcases ha u with ⟨h1, _⟩ | ⟨e, h1, h2, h3⟩
  · omega
  · rw [h1]; simpa using h2
theorem st_none {n : Nat} {R : Rel} (hR : Bd n R) {s : Nat} {away : Nat → Int} (ha : Away R s away) {len : Int} (hm : MinA away (rowN n R s) len) (hl : len < 0) : ∀ d, Clo R d → d.headD 0 ≠ s := by
  intro d hd e
  obtain ⟨r, _, h1, h2⟩ := clo_head hd
  rw [e] at h1 h2
  have hv := mem_row.2 ⟨(hR _ _ h1).2, h1⟩
  rcases hm with ⟨_, h⟩ | ⟨h3, _⟩
  · have := h _ hv; have := ha.le h2; omega
  · omega
theorem st_some {n : Nat} {R : Rel} (hR : Bd n R) {s : Nat} {away : Nat → Int} (ha : Away R s away) {len : Int} (hm : MinA away (rowN n R s) len) (hl : 0 ≤ len) : St R s (len.toNat + 1) := by
  rcases hm with ⟨h, _⟩ | ⟨_, ⟨v, hv, h1⟩, h2⟩
  · omega
  · constructor
    · have := ha.ex (u := v) (by omega)
      rw [h1] at this
      exact clo_of (mem_row.1 hv).2 this
    · intro d hd e
      obtain ⟨r, hr, h3, h4⟩ := clo_head hd
      rw [e] at h3 h4
      have hv := mem_row.2 ⟨(hR _ _ h3).2, h3⟩
      have h5 := ha.le h4
      have h6 := h2 _ hv h5.1
      rw [hr]; simp; omega
/-- a beginning, each node of which is the least that still goes -/
structure Gd (R : Rel) (s L : Nat) (b : List Nat) : Prop where
  ne : b ≠ []
  hd : b.headD 0 = s
  ex : Ext R L b
  fst : ∀ i v, 1 ≤ i → i < b.length → v < b.getD i 0 → ¬ Ext R L (b.take i ++ [v])
theorem Gd.start {R : Rel} {s L : Nat} (h : St R s L) : Gd R s L [s] where
  ne := by simp
  hd := rfl
  ex := by
    obtain ⟨c, h1, h2, h3⟩ := h.ex
    obtain ⟨r, hr, _⟩ := clo_head h1
    exact ⟨c, h1, h3, r, by rw [hr, h2]; rfl⟩
  fst i v h1 h2 := by simp at h2; omega
theorem gd_iff {n : Nat} {R : Rel} (hR : Bd n R) {s L : Nat} (hs : St R s L) {away : Nat → Int} (ha : Away R s away) {b : List Nat} {a : Nat} (hg : Gd R s L (b ++ [a])) (hlt : (b ++ [a]).length < L) (v : Nat) :
    Ext R L (b ++ [a] ++ [v]) ↔ v ∈ rowN n R a ∧ away v = ((L - (b ++ [a]).length : Nat) : Int) := by
  obtain ⟨c0, hc0, hcl0, r0, hr0⟩ := hg.ex
  have hhd : ∀ (r : List Nat), (b ++ [a] ++ r).headD 0 = s := fun r => by
    have := hg.hd
    cases b with
    | nil => simpa using this
    | cons x b => simpa using this
  have hba : Lk R b a := by
    have h1 := hc0.2
    rw [← hr0, List.append_assoc] at h1
    have := (Lk.app.1 h1).1
    simpa using this
  have hmk : ∀ l : List Nat, R a (l.headD s) = true → Lk R l s → Clo R (b ++ [a] ++ l) := fun l h1 h2 => by
    refine ⟨by simp, ?_⟩
    rw [hhd l, List.append_assoc]
    refine Lk.app.2 ⟨by simpa using hba, ?_⟩
    exact ⟨h1, h2⟩
  constructor
  · rintro ⟨c, hc, hcl, r, rfl⟩
    have h1 := hc.2
    rw [List.append_assoc, hhd, List.append_assoc] at h1
    have h2 := (Lk.app.1 h1).2
    have h3 : R a v = true := by have := h2.1; simpa using this
    have h4 : Lk R (v :: r) s := by have := h2.2; simpa using this
    have h5 : Wk R (r.length + 1) v s := ⟨v :: r, rfl, rfl, h4⟩
    have h6 := ha.le h5
    refine ⟨mem_row.2 ⟨(hR _ _ h3).2, h3⟩, ?_⟩
    obtain ⟨l, hl, hv, hk⟩ := ha.ex h6.1
    have h7 := hmk l (by rw [hv]; exact h3) hk
    have h8 := hs.mn _ h7 (hhd l)
    simp only [List.length_append, List.length_cons, List.length_nil] at h8 hcl hlt ⊢
    omega
  · rintro ⟨h1, h2⟩
    have hw := ha.ex (u := v) (by omega)
    rw [h2, Int.toNat_natCast] at hw
    obtain ⟨l, hl, hv, hk⟩ := hw
    have hln : l ≠ [] := fun e => by subst e; rw [List.length_nil] at hl; omega
    refine ⟨b ++ [a] ++ l, hmk l (by rw [← (mem_row.1 h1).2]; congr 1) hk, by simp only [List.length_append, List.length_cons, List.length_nil] at hl hlt ⊢; omega, ?_⟩
    cases l with
    | nil => exact absurd rfl hln
    | cons x r =>
      simp at hv; subst hv
      exact ⟨r, by simp⟩
theorem Gd.some {R : Rel} {s L : Nat} {b : List Nat} (hg : Gd R s L b) (hlt : b.length < L) : ∃ v, Ext R L (b ++ [v]) := by
  obtain ⟨c, hc, hcl, r, rfl⟩ := hg.ex
  cases r with
  | nil => simp at hcl; omega
  | cons v r => exact ⟨v, _, hc, hcl, r, by simp⟩
theorem Gd.next {R : Rel} {s L : Nat} {b : List Nat} (hg : Gd R s L b) {v : Nat} (hv : Ext R L (b ++ [v])) (hf : ∀ v', v' < v → ¬ Ext R L (b ++ [v'])) : Gd R s L (b ++ [v]) where
  ne := by simp
  hd := by
    have := hg.hd
    cases b with
    | nil => exact absurd rfl hg.ne
    | cons x b => simpa using this
  ex := hv
  fst i w h1 h2 h3 := by
    simp only [List.length_append, List.length_cons, List.length_nil] at h2
    by_cases e : i = b.length
    · subst e
      have e1 : (b ++ [v]).getD b.length 0 = v := by simp [List.getD_eq_getElem?_getD]
      rw [e1] at h3
      have e2 : (b ++ [v]).take b.length = b := by simp
      rw [e2]; exact hf w h3
    · have hi : i < b.length := by omega
      have e1 : (b ++ [v]).getD i 0 = b.getD i 0 := by simp [List.getD_eq_getElem?_getD, List.getElem?_append_left hi]
      rw [e1] at h3
      have e2 : (b ++ [v]).take i = b.take i := by rw [List.take_append_of_le_length (by omega)]
      rw [e2]; exact hg.fst i w h1 hi h3
theorem Gd.clo {R : Rel} {s L : Nat} {b : List Nat} (hg : Gd R s L b) (hl : b.length = L) : Clo R b := by
  obtain ⟨c, hc, hcl, r, rfl⟩ := hg.ex
  have : r = [] := by simp at hcl; exact List.eq_nil_of_length_eq_zero (by omega)
  subst this; simpa using hc
/-- the best of those from nodes below s on -/
structure BstN (R : Rel) (s : Nat) (c : List Nat) : Prop where
  clo : Clo R c
  hd : c.headD 0 < s
  all : ∀ d, Clo R d → d.headD 0 < s → c.length ≤ d.length
  fsd : ∀ d, Clo R d → d.headD 0 < c.headD 0 → c.length < d.length
  fst : ∀ i v, 1 ≤ i → i < c.length → v < c.getD i 0 → ¬ Ext R c.length (c.take i ++ [v])
def Bst (R : Rel) (s : Nat) (c : List Nat) : Prop := (c = [] ∧ ∀ d, Clo R d → s ≤ d.headD 0) ∨ BstN R s c
theorem Bst.zero (R : Rel) : Bst R 0 [] := .inl ⟨rfl, fun d _ => Nat.zero_le _⟩
theorem Bst.skip {R : Rel} {s : Nat} {c : List Nat} (h : Bst R s c) (hn : ∀ d, Clo R d → d.headD 0 ≠ s) : Bst R (s + 1) c := by
  rcases h with ⟨h1, h2⟩ | h
  · exact .inl ⟨h1, fun d hd => by have := h2 d hd; have := hn d hd; omega⟩
  · exact .inr ⟨h.clo, by have := h.hd; omega, fun d hd hl => h.all d hd (by have := hn d hd; omega), h.fsd, h.fst⟩
theorem Bst.long {R : Rel} {s L : Nat} {c : List Nat} (h : Bst R s c) (hc : c ≠ []) (hs : St R s L) (hl : c.length ≤ L) : Bst R (s + 1) c := by
  rcases h with ⟨h1, h2⟩ | h
  · exact absurd h1 hc
  · refine .inr ⟨h.clo, by have := h.hd; omega, fun d hd hlt => ?_, h.fsd, h.fst⟩
    by_cases e : d.headD 0 = s
    · have := hs.mn d hd e; omega
    · exact h.all d hd (by omega)
theorem Bst.new {R : Rel} {s L : Nat} {c b : List Nat} (h : Bst R s c) (hs : St R s L) (hl : c = [] ∨ L < c.length) (hg : Gd R s L b) (hb : b.length = L) : Bst R (s + 1) b := by
  have hlow : ∀ d, Clo R d → d.headD 0 < s → L < d.length := by
    intro d hd hlt
    rcases h with ⟨h1, h2⟩ | h
    · have := h2 d hd; omega
    · have := h.all d hd hlt
      rcases hl with rfl | hl
      · have := h.clo.pos; simp at this
      · omega
  refine .inr ⟨hg.clo hb, by rw [hg.hd]; omega, fun d hd hlt => ?_, fun d hd hlt => ?_, fun i v h1 h2 h3 => by rw [hb]; exact hg.fst i v h1 h2 h3⟩
  · by_cases e : d.headD 0 = s
    · have := hs.mn d hd e; omega
    · have := hlow d hd (by omega); omega
  · rw [hg.hd] at hlt
    rw [hb]; exact hlow d hd hlt
theorem Bst.fin {n : Nat} {R : Rel} (hR : Bd n R) {c : List Nat} (h : Bst R n c) : CycS R c := by
  have hd : ∀ d, Clo R d → d.headD 0 < n := fun d hd => by
    obtain ⟨r, hr, h1, _⟩ := clo_head hd
    exact (hR _ _ h1).1
  rcases h with ⟨h1, h2⟩ | h
  · exact .inl ⟨h1, fun d hd' => by have := h2 d hd'; have := hd d hd'; omega⟩
  · refine .inr ⟨h.clo, fun d hd' => h.all d hd' (hd d hd'), fun i v hi hv => ?_⟩
    by_cases h0 : i = 0
    · subst h0
      rintro ⟨d, hd', hl, r, rfl⟩
      have := h.fsd _ hd' (by
        have e : c.getD 0 0 = c.headD 0 := by cases c <;> rfl
        rw [e] at hv; simpa using hv)
      omega
    · exact h.fst i v (by omega) hi hv

/-! as the reference looks: lists that meet no node twice -/
def SExt (R : Rel) (L : Nat) (p : List Nat) : Prop := ∃ c, Clo R c ∧ c.Nodup ∧ c.length = L ∧ p <+: c
def FoundS (R : Rel) (L : Nat) (way c : List Nat) : Prop :=
  (c = [] ∧ ¬ SExt R L way) ∨ (Clo R c ∧ c.Nodup ∧ c.length = L ∧ way <+: c ∧ ∀ i v, way.length ≤ i → i < L → v < c.getD i 0 → ¬ SExt R L (c.take i ++ [v]))
/-- a way that may go on -/
structure Pre (n : Nat) (R : Rel) (way : List Nat) : Prop where
  nd : way.Nodup
  lt : ∀ x ∈ way, x < n
  ch : ∀ w a, way = w ++ [a] → Lk R w a
theorem Pre.nil (n : Nat) (R : Rel) : Pre n R [] := ⟨List.nodup_nil, fun x h => by simp at h, fun w a h => by simp at h⟩
theorem Pre.snoc {n : Nat} {R : Rel} {way : List Nat} (h : Pre n R way) {v : Nat} (hv : v < n) (h1 : ∀ w a, way = w ++ [a] → R a v = true) (h2 : v ∉ way) : Pre n R (way ++ [v]) where
  nd := by
    rw [List.nodup_append]
    exact ⟨h.nd, by simp, fun a ha b hb e => by simp at hb; subst hb; subst e; exact h2 ha⟩
  lt x hx := by
    simp only [List.mem_append, List.mem_cons, List.not_mem_nil, or_false] at hx
    rcases hx with hx | rfl
    · exact h.lt x hx
    · exact hv
  ch w a e := by
    obtain ⟨rfl, e2⟩ := List.append_inj_left' e rfl, List.append_inj_right' e rfl
    simp at e2; subst e2
    rcases List.eq_nil_or_concat way with rfl | ⟨w', a', rfl⟩
    · trivial
    · rw [List.concat_eq_append] at h h1 ⊢
      exact Lk.app.2 ⟨by simpa using h.ch w' a' rfl, by simpa [Lk] using h1 w' a' rfl⟩
theorem full_yes {n : Nat} {R : Rel} {L : Nat} {w : List Nat} {a : Nat} (h : Pre n R (w ++ [a])) (hl : (w ++ [a]).length = L) (hr : R a ((w ++ [a]).headD 0) = true) : FoundS R L (w ++ [a]) (w ++ [a]) := by
  refine .inr ⟨⟨by simp, ?_⟩, h.nd, hl, List.prefix_refl _, fun i v h1 h2 => by omega⟩
  exact Lk.app.2 ⟨by simpa using h.ch w a rfl, by simpa [Lk] using hr⟩
theorem full_no {R : Rel} {L : Nat} {w : List Nat} {a : Nat} (hl : (w ++ [a]).length = L) (hr : R a ((w ++ [a]).headD 0) = false) : FoundS R L (w ++ [a]) [] := by
  refine .inl ⟨rfl, ?_⟩
  rintro ⟨c, hc, _, hcl, r, rfl⟩
  have : r = [] := by simp only [List.length_append] at hcl hl; exact List.eq_nil_of_length_eq_zero (by omega)
  subst this
  rw [List.append_nil] at hc
  have := (Lk.app.1 hc.2).2.1
  rw [List.headD_nil, hr] at this
  cases this
theorem bad_arc {R : Rel} {L : Nat} {w : List Nat} {a v : Nat} (hr : R a v = false) : ¬ SExt R L (w ++ [a] ++ [v]) := by
  rintro ⟨c, hc, _, hcl, r, rfl⟩
  have h := hc.2
  rw [List.append_assoc, List.append_assoc] at h
  have := (Lk.app.1 h).2.1
  simp [hr] at this
theorem bad_twice {R : Rel} {L : Nat} {way : List Nat} {v : Nat} (hv : v ∈ way) : ¬ SExt R L (way ++ [v]) := by
  rintro ⟨c, hc, hn, hcl, r, rfl⟩
  have := (List.nodup_append.1 (List.nodup_append.1 hn).1).2.2 v hv v (by simp)
  exact this rfl
theorem found_step {R : Rel} {L : Nat} {way c : List Nat} {v : Nat} (h : FoundS R L (way ++ [v]) c) (hc : c ≠ []) (hb : ∀ v', v' < v → ¬ SExt R L (way ++ [v'])) : FoundS R L way c := by
  rcases h with ⟨h, _⟩ | ⟨h1, h2, h3, h4, h5⟩
  · exact absurd h hc
  · refine .inr ⟨h1, h2, h3, (List.prefix_append way [v]).trans h4, fun i w hi hiL hw => ?_⟩
    by_cases e : i = way.length
    · subst e
      obtain ⟨r, rfl⟩ := h4
      have e1 : (way ++ [v] ++ r).getD way.length 0 = v := by simp [List.getD_eq_getElem?_getD]
      have e2 : (way ++ [v] ++ r).take way.length = way := by simp
      rw [e1] at hw
      rw [e2]; exact hb w hw
    · exact h5 i w (by simp; omega) hiL hw
theorem found_none {n : Nat} {R : Rel} (hR : Bd n R) {L : Nat} {way : List Nat} (hl : way.length < L) (hb : ∀ v, v < n → ¬ SExt R L (way ++ [v])) : FoundS R L way [] := by
  refine .inl ⟨rfl, ?_⟩
  rintro ⟨c, hc, hn, hcl, r, rfl⟩
  cases r with
  | nil => simp at hcl; omega
  | cons v r =>
    refine hb v ?_ ⟨_, hc, hn, hcl, r, by simp⟩
    exact hc.bd hR v (by simp)
theorem ref_fin {R : Rel} {L : Nat} {c : List Nat} (h : FoundS R L [] c) (hc : c ≠ []) (hb : ∀ k, 1 ≤ k → k < L → ¬ SExt R k []) : Least R c := by
  rcases h with ⟨h, _⟩ | ⟨h1, h2, h3, h4, h5⟩
  · exact absurd h hc
  · have hm : ∀ d, Clo R d → c.length ≤ d.length := by
      intro d hd
      obtain ⟨e, he, hed, hem⟩ := hd.least
      have hn := nodup_of_least he hem
      rcases Nat.lt_or_ge e.length L with h | h
      · exact absurd ⟨e, he, hn, rfl, List.nil_prefix⟩ (hb e.length he.pos h)
      · omega
    refine ⟨h1, hm, fun i v hi hv => ?_⟩
    rintro ⟨d, hd, hdl, hp⟩
    refine h5 i v (Nat.zero_le _) (by omega) hv ⟨d, hd, nodup_of_least hd fun e he => ?_, by omega, hp⟩
    have := hm e he; omega
theorem ref_none {n : Nat} {R : Rel} (hR : Bd n R) (hb : ∀ k, 1 ≤ k → k ≤ n → ¬ SExt R k []) : CycS R [] := by
  refine .inl ⟨rfl, fun d hd => ?_⟩
  obtain ⟨e, he, hed, hem⟩ := hd.least
  have hn := nodup_of_least he hem
  exact hb e.length he.pos (pigeon_lt hn (he.bd hR)) ⟨e, he, hn, rfl, List.nil_prefix⟩

/-! which node can be reached -/
/-- from i to j by one arc or more, the nodes between below k -/
inductive Via (R : Rel) (k : Nat) : Nat → Nat → Prop
  | one {i j : Nat} (h : R i j = true) : Via R k i j
  | step {i m j : Nat} (h : R i m = true) (hm : m < k) (hw : Via R k m j) : Via R k i j
theorem Via.mono {R : Rel} {k k' : Nat} (hk : k ≤ k') {i j : Nat} (h : Via R k i j) : Via R k' i j := by
  induction h with
  | one h => exact .one h
  | step h hm _ ih => exact .step h (Nat.lt_of_lt_of_le hm hk) ih
theorem Via.cat {R : Rel} {k : Nat} {i m j : Nat} (h : Via R k i m) (hm : m < k) (h2 : Via R k m j) : Via R k i j := by
  induction h with
  | one h => exact .step h hm h2
  | step h hm' _ ih => exact .step h hm' (ih hm h2)
theorem Via.succ {R : Rel} {k i j : Nat} : Via R (k + 1) i j ↔ Via R k i j ∨ (Via R k i k ∧ Via R k k j) := by
  constructor
  · intro h
    induction h with
    | one h => exact .inl (.one h)
    | @step i m j h hm _ ih =>
      by_cases hk : m = k
      · subst hk
        rcases ih with ih | ⟨_, ih⟩
        · exact .inr ⟨.one h, ih⟩
        · exact .inr ⟨.one h, ih⟩
      · have hm' : m < k := by omega
        rcases ih with ih | ⟨ih1, ih2⟩
        · exact .inl (.step h hm' ih)
        · exact .inr ⟨.step h hm' ih1, ih2⟩
  · rintro (h | ⟨h1, h2⟩)
    · exact h.mono (Nat.le_succ k)
    · exact (h1.mono (Nat.le_succ k)).cat (Nat.lt_succ_self k) (h2.mono (Nat.le_succ k))
theorem Via.none {R : Rel} {i j : Nat} : Via R 0 i j ↔ R i j = true := by
  constructor
  · intro h
    cases h with
    | one h => exact h
    | step _ hm _ => exact absurd hm (Nat.not_lt_zero _)
  · exact .one
theorem Via.rev {R : Rel} {k i j : Nat} (h : Via R k i j) : Via (fun a b => R b a) k j i := by
  induction h with
  | one h => exact .one h
  | step h hm _ ih => exact ih.cat hm (.one h)
/-- the reference's table behind k steps -/
def wayB (R : Rel) : Nat → Rel
  | 0 => R
  | k + 1 => fun i j => wayB R k i j || (wayB R k i k && wayB R k k j)
theorem wayB_iff {R : Rel} : ∀ {k i j : Nat}, wayB R k i j = true ↔ Via R k i j
  | 0, i, j => Via.none.symm
  | k + 1, i, j => by
    rw [Via.succ, ← wayB_iff (k := k), ← wayB_iff (k := k), ← wayB_iff (k := k)]
    simp [wayB]
theorem wayB_row (R : Rel) (k i : Nat) : wayB R (k + 1) i k = wayB R k i k := by
  simp only [wayB]; cases wayB R k i k <;> simp
theorem wayB_col (R : Rel) (k j : Nat) : wayB R (k + 1) k j = wayB R k k j := by
  simp only [wayB]; cases wayB R k k j <;> simp
theorem wayB_rev (R : Rel) (k i j : Nat) : wayB (fun a b => R b a) k i j = wayB R k j i := by
  rw [Bool.eq_iff_iff, wayB_iff, wayB_iff]
  exact ⟨fun h => h.rev, fun h => h.rev⟩
/-- what stands in the table within the step k, at (i, j) -/
def midB (R : Rel) (k i j a b : Nat) : Bool := if a < i ∨ (a = i ∧ b < j) then wayB R (k + 1) a b else wayB R k a b
theorem midB_row (R : Rel) (k i j a : Nat) : midB R k i j a k = wayB R k a k := by unfold midB; split; exact wayB_row R k a; rfl
theorem midB_col (R : Rel) (k i j b : Nat) : midB R k i j k b = wayB R k k b := by unfold midB; split; exact wayB_col R k b; rfl
theorem midB_zero (R : Rel) (k : Nat) (a b : Nat) : midB R k 0 0 a b = wayB R k a b := by unfold midB; rw [if_neg (by omega)]
theorem midB_next (R : Rel) (k i n : Nat) {a b : Nat} (hb : b < n) : midB R k i n a b = midB R k (i + 1) 0 a b := by
  unfold midB
  by_cases h : a < i ∨ (a = i ∧ b < n)
  · rw [if_pos h, if_pos (by omega)]
  · rw [if_neg h, if_neg (by omega)]
theorem midB_end (R : Rel) (k n : Nat) {a b : Nat} (ha : a < n) : midB R k n 0 a b = wayB R (k + 1) a b := by unfold midB; rw [if_pos (by omega)]
theorem midB_here (R : Rel) (k i j : Nat) : midB R k i j i j = wayB R k i j := by unfold midB; rw [if_neg (by omega)]
theorem midB_step (R : Rel) (k i j a b : Nat) : midB R k i (j + 1) a b = if a = i ∧ b = j then wayB R (k + 1) i j else midB R k i j a b := by
  by_cases h : a = i ∧ b = j
  · obtain ⟨rfl, rfl⟩ := h
    rw [if_pos ⟨rfl, rfl⟩]; unfold midB; rw [if_pos (by omega)]
  · rw [if_neg h]
    unfold midB
    by_cases h2 : a < i ∨ (a = i ∧ b < j)
    · rw [if_pos h2, if_pos (by omega)]
    · rw [if_neg h2, if_neg (by omega)]

/-! a search by a heap -/
structure Dfs (n : Nat) (R : Rel) (s : Nat) (todo : List Nat) (seen : Nat → Bool) : Prop where
  lt : ∀ v ∈ todo, v < n
  so : ∀ v, seen v = true → Via R n s v
  st : ∀ v ∈ todo, Via R n s v
  c1 : ∀ v, R s v = true → seen v = true ∨ v ∈ todo
  c2 : ∀ u v, seen u = true → R u v = true → seen v = true ∨ v ∈ todo
def markB (f : Nat → Bool) (u : Nat) : Nat → Bool := fun x => if x = u then true else f x
theorem Dfs.start {n : Nat} {R : Rel} (hR : Bd n R) (s : Nat) {f : Nat → Bool} (hf : ∀ v, f v = false) : Dfs n R s (rowN n R s) f where
  lt v hv := (mem_row.1 hv).1
  so v hv := by rw [hf v] at hv; cases hv
  st v hv := .one (mem_row.1 hv).2
  c1 v hv := .inr (mem_row.2 ⟨(hR _ _ hv).2, hv⟩)
  c2 u v hu := by rw [hf u] at hu; cases hu
theorem Dfs.old {n : Nat} {R : Rel} {s : Nat} {t : List Nat} {v : Nat} {f : Nat → Bool} (h : Dfs n R s (t ++ [v]) f) (hv : f v = true) : Dfs n R s t f where
  lt x hx := h.lt x (by simp [hx])
  so := h.so
  st x hx := h.st x (by simp [hx])
  c1 x hx := by
    rcases h.c1 x hx with h | h
    · exact .inl h
    · simp only [List.mem_append, List.mem_cons, List.not_mem_nil, or_false] at h
      rcases h with h | rfl
      · exact .inr h
      · exact .inl hv
  c2 u x hu hx := by
    rcases h.c2 u x hu hx with h | h
    · exact .inl h
    · simp only [List.mem_append, List.mem_cons, List.not_mem_nil, or_false] at h
      rcases h with h | rfl
      · exact .inr h
      · exact .inl hv
theorem Dfs.new {n : Nat} {R : Rel} (hR : Bd n R) {s : Nat} {t : List Nat} {v : Nat} {f : Nat → Bool} (h : Dfs n R s (t ++ [v]) f) : Dfs n R s (t ++ rowN n R v) (markB f v) where
  lt x hx := by
    rcases List.mem_append.1 hx with hx | hx
    · exact h.lt x (by simp [hx])
    · exact (mem_row.1 hx).1
  so x hx := by
    unfold markB at hx
    split at hx
    · rename_i e; subst e; exact h.st _ (by simp)
    · exact h.so x hx
  st x hx := by
    rcases List.mem_append.1 hx with hx | hx
    · exact h.st x (by simp [hx])
    · exact (h.st v (by simp)).cat (h.lt v (by simp)) (.one (mem_row.1 hx).2)
  c1 x hx := by
    unfold markB
    rcases h.c1 x hx with h | h
    · left; split; rfl; exact h
    · simp only [List.mem_append, List.mem_cons, List.not_mem_nil, or_false] at h
      rcases h with h | rfl
      · exact .inr (List.mem_append.2 (.inl h))
      · left; rw [if_pos rfl]
  c2 u x hu hx := by
    by_cases e : u = v
    · subst e
      exact .inr (List.mem_append.2 (.inr (mem_row.2 ⟨(hR _ _ hx).2, hx⟩)))
    · unfold markB at hu ⊢
      rw [if_neg e] at hu
      rcases h.c2 u x hu hx with h | h
      · left; split; rfl; exact h
      · simp only [List.mem_append, List.mem_cons, List.not_mem_nil, or_false] at h
        rcases h with h | rfl
        · exact .inr (List.mem_append.2 (.inl h))
        · left; rw [if_pos rfl]
theorem Dfs.fin {n : Nat} {R : Rel} {s : Nat} {f : Nat → Bool} (h : Dfs n R s [] f) (v : Nat) : f v = wayB R n s v := by
  rw [Bool.eq_iff_iff, wayB_iff]
  refine ⟨h.so v, fun hv => ?_⟩
  have key : ∀ {i j}, Via R n i j → (i = s ∨ f i = true) → f j = true := by
    intro i j hv
    induction hv with
    | one hr =>
      rintro (rfl | hi)
      · have := h.c1 _ hr; simpa using this
      · have := h.c2 _ _ hi hr; simpa using this
    | step hr _ _ ih =>
      rintro (rfl | hi)
      · refine ih (.inr ?_); have := h.c1 _ hr; simpa using this
      · refine ih (.inr ?_); have := h.c2 _ _ hi hr; simpa using this
  exact key hv (.inl rfl)
/-- how many are not yet met -/
def unB (n : Nat) (f : Nat → Bool) : Nat := ((List.range n).filter fun u => !f u).length
theorem filter_drop {p q : Nat → Bool} {v : Nat} : ∀ {l : List Nat}, l.Nodup → v ∈ l → p v = true → q v = false → (∀ x ∈ l, x ≠ v → q x = p x) → (l.filter p).length = (l.filter q).length + 1
  | [], _, hv, _, _, _ => by simp at hv
  | a :: l, hn, hv, hp, hq, h => by
    obtain ⟨h1, h2⟩ := List.nodup_cons.1 hn
    by_cases e : a = v
    · subst e
      have : l.filter q = l.filter p := List.filter_congr fun x hx => h x (by simp [hx]) fun e => h1 (e ▸ hx)
      simp [hp, hq, this]
    · have hv' : v ∈ l := by
        rcases List.mem_cons.1 hv with h | h
        · exact absurd h.symm e
        · exact h
      have ih := filter_drop h2 hv' hp hq fun x hx => h x (by simp [hx])
      have ha := h a (by simp) e
      simp only [List.filter_cons, ha]
      split <;> simp [ih]
theorem unB_mark {n : Nat} {f : Nat → Bool} {v : Nat} (hv : v < n) (hf : f v = false) : unB n f = unB n (markB f v) + 1 := by
  refine filter_drop List.nodup_range (List.mem_range.2 hv) (by simp [hf]) (by simp [markB]) fun x _ hx => by simp [markB, hx]
theorem unB_le (n : Nat) (f : Nat → Bool) : unB n f ≤ n := by
  have := List.length_filter_le (fun u => !f u) (List.range n); simpa [unB] using this
def unI (n : Nat) (out : Nat → Int) : Nat := ((List.range n).filter fun u => decide (out u < 0)).length
theorem unI_upd {n : Nat} {out : Nat → Int} {u : Nat} {y : Int} (hu : u < n) (ho : out u < 0) (hy : 0 ≤ y) : unI n out = unI n (upd out u y) + 1 := by
  refine filter_drop List.nodup_range (List.mem_range.2 hu) (by simpa using ho) (by simp [upd]; omega) fun x _ hx => by simp [upd, hx]
theorem unI_le (n : Nat) (out : Nat → Int) : unI n out ≤ n := by
  have := List.length_filter_le (fun u => decide (out u < 0)) (List.range n); simpa [unI] using this

/-! the order -/
def freeB (n : Nat) (R : Rel) (done : List Nat) (v : Nat) : Bool := !done.contains v && (List.range n).all fun u => !R u v || done.contains u
def pick (n : Nat) (R : Rel) (done : List Nat) : Option Nat := (List.range n).find? (freeB n R done)
def topo (n : Nat) (R : Rel) : Nat → List Nat → Option (List Nat)
  | 0, done => some done
  | k + 1, done => match pick n R done with
    | none => none
    | some v => topo n R k (done ++ [v])
theorem topo_some {n : Nat} {R : Rel} {k : Nat} {done : List Nat} {v : Nat} (h : pick n R done = some v) : topo n R (k + 1) done = topo n R k (done ++ [v]) := by simp [topo, h]
theorem topo_none {n : Nat} {R : Rel} {k : Nat} {done : List Nat} (h : pick n R done = none) : topo n R (k + 1) done = none := by simp [topo, h]
theorem pick_mk {n : Nat} {R : Rel} {done : List Nat} {v : Nat} (hv : v < n) (h : freeB n R done v = true) (hb : ∀ u, u < v → freeB n R done u = false) : pick n R done = some v := by
  unfold pick
  rw [List.find?_eq_some_iff_append]
  refine ⟨h, List.range v, (List.range n).drop (v + 1), ?_, ?_⟩
  · have := List.take_append_drop (v + 1) (List.range n)
    rw [List.take_range, Nat.min_eq_left (by omega), List.range_succ, List.append_assoc] at this
    simpa using this.symm
  · intro u hu
    rw [hb u (List.mem_range.1 hu)]; rfl
theorem pick_no {n : Nat} {R : Rel} {done : List Nat} (hb : ∀ u, u < n → freeB n R done u = false) : pick n R done = none := by
  unfold pick
  rw [List.find?_eq_none]
  intro u hu
  rw [hb u (List.mem_range.1 hu)]; simp
theorem pick_at {n : Nat} {R : Rel} {done : List Nat} {v : Nat} (h : pick n R done = some v) : v < n ∧ v ∉ done ∧ ∀ u, u < n → R u v = true → u ∈ done := by
  unfold pick at h
  have h1 := List.find?_some h
  have h2 := List.mem_range.1 (List.mem_of_find?_eq_some h)
  simp only [freeB, Bool.and_eq_true, Bool.not_eq_true', List.contains_eq_mem, decide_eq_false_iff_not, List.all_eq_true, List.mem_range, Bool.or_eq_true, decide_eq_true_eq] at h1
  refine ⟨h2, h1.1, fun u hu hr => ?_⟩
  rcases h1.2 u hu with h | h
  · rw [hr] at h; cases h
  · exact h
theorem pick_stuck {n : Nat} {R : Rel} {done : List Nat} (h : pick n R done = none) {v : Nat} (hv : v < n) (hd : v ∉ done) : ∃ u, u < n ∧ R u v = true ∧ u ∉ done := by
  unfold pick at h
  rw [List.find?_eq_none] at h
  have h1 := h v (List.mem_range.2 hv)
  simp only [freeB, Bool.and_eq_true, Bool.not_eq_true', List.contains_eq_mem, decide_eq_false_iff_not, List.all_eq_true, List.mem_range, Bool.or_eq_true, decide_eq_true_eq, not_and] at h1
  have h2 := h1 hd
  obtain ⟨u, hu⟩ := Classical.not_forall.1 h2
  obtain ⟨hu, h3⟩ := Classical.not_imp.1 hu
  exact ⟨u, hu, by cases hr : R u v with | true => rfl | false => exact absurd (.inl hr) h3, fun hm => h3 (.inr hm)⟩
structure Ord (n : Nat) (R : Rel) (o : List Nat) : Prop where
  nd : o.Nodup
  lt : ∀ x ∈ o, x < n
  ord : ∀ a v b, o = a ++ v :: b → ∀ u, R u v = true → u ∈ a
theorem Ord.nil (n : Nat) (R : Rel) : Ord n R [] := ⟨List.nodup_nil, fun x h => by simp at h, fun a v b h => by simp at h⟩
theorem Ord.snoc {n : Nat} {R : Rel} (hR : Bd n R) {o : List Nat} (h : Ord n R o) {v : Nat} (hp : pick n R o = some v) : Ord n R (o ++ [v]) := by
  obtain ⟨h1, h2, h3⟩ := pick_at hp
  refine ⟨?_, ?_, ?_⟩
  · rw [List.nodup_append]
    exact ⟨h.nd, by simp, fun a ha b hb e => by simp at hb; subst hb; subst e; exact h2 ha⟩
  · intro x hx
    simp only [List.mem_append, List.mem_cons, List.not_mem_nil, or_false] at hx
    rcases hx with hx | rfl
    · exact h.lt x hx
    · exact h1
  · intro a w b e u hu
    rcases List.eq_nil_or_concat b with rfl | ⟨b', z, rfl⟩
    · obtain ⟨rfl, e2⟩ := List.append_inj' e rfl
      simp at e2; subst e2
      exact h3 u (hR _ _ hu).1 hu
    · rw [List.concat_eq_append, ← List.cons_append, ← List.append_assoc] at e
      obtain ⟨e1, _⟩ := List.append_inj' e rfl
      exact h.ord a w b' e1 u hu
theorem topo_ord {n : Nat} {R : Rel} (hR : Bd n R) : ∀ {k : Nat} {done o : List Nat}, Ord n R done → topo n R k done = some o → Ord n R o ∧ o.length = done.length + k
  | 0, done, o, h, e => by simp [topo] at e; subst e; exact ⟨h, by omega⟩
  | k + 1, done, o, h, e => by
    simp only [topo] at e
    split at e
    · cases e
    · rename_i v hp
      have := topo_ord hR (h.snoc hR hp) e
      exact ⟨this.1, by rw [this.2]; simp; omega⟩
theorem stuck_clo {n : Nat} {R : Rel} {done : List Nat} (hlt : done.length < n) (h : pick n R done = none) : ∃ c, Clo R c := by
  obtain ⟨v0, h0, hd0⟩ : ∃ v, v < n ∧ v ∉ done := by
    refine Classical.byContradiction fun hn => ?_
    have := pigeon (List.range n) done List.nodup_range fun x hx => Classical.byContradiction fun hx' => hn ⟨x, List.mem_range.1 hx, hx'⟩
    simp at this; omega
  have key : ∀ m : Nat, ∃ (l : List Nat) (g : Nat), l.length = m ∧ Lk R l g ∧ (l.headD g) < n ∧ l.headD g ∉ done ∧ ∀ x ∈ l, x < n := by
    intro m
    induction m with
    | zero => exact ⟨[], v0, rfl, trivial, h0, hd0, fun x h => by simp at h⟩
    | succ m ih =>
      obtain ⟨l, g, hl, hk, h1, h2, h3⟩ := ih
      obtain ⟨u, hu, hr, hud⟩ := pick_stuck h h1 h2
      refine ⟨u :: l, g, by simp [hl], ⟨hr, hk⟩, hu, hud, fun x hx => ?_⟩
      rcases List.mem_cons.1 hx with rfl | hx
      · exact hu
      · exact h3 x hx
  obtain ⟨l, g, hl, hk, _, _, h3⟩ := key (n + 1)
  have hn : ¬ l.Nodup := fun hn => by have := pigeon_lt hn h3; omega
  obtain ⟨x, a, y, z, rfl⟩ := not_nodup l hn
  have h4 := (Lk.app.1 hk).2
  rw [← List.cons_append] at h4
  have h5 := (Lk.app.1 h4).1
  exact ⟨a :: y, by simp, by simpa using h5⟩
theorem topo_clo {n : Nat} {R : Rel} : ∀ {k : Nat} {done : List Nat}, done.length + k = n → topo n R k done = none → ∃ c, Clo R c
  | 0, done, _, e => by simp [topo] at e
  | k + 1, done, hl, e => by
    simp only [topo] at e
    split at e
    · rename_i hp; exact stuck_clo (by omega) hp
    · exact topo_clo (by simp; omega) e
theorem Ord.idx {n : Nat} {R : Rel} (hR : Bd n R) {o : List Nat} (h : Ord n R o) (hl : o.length = n) {u v : Nat} (hr : R u v = true) : o.idxOf u < o.idxOf v := by
  have hv : v ∈ o := by
    refine Classical.byContradiction fun hn => ?_
    have := pigeon_lt (l := v :: o) (n := n) (List.nodup_cons.2 ⟨hn, h.nd⟩) fun x hx => by
      rcases List.mem_cons.1 hx with rfl | hx
      · exact (hR _ _ hr).2
      · exact h.lt x hx
    simp at this; omega
  obtain ⟨a, b, rfl⟩ := List.append_of_mem hv
  have hu := h.ord a v b rfl u hr
  have hva : v ∉ a := fun hm => (List.nodup_append.1 h.nd).2.2 v hm v (by simp) rfl
  rw [List.idxOf_append, List.idxOf_append, if_pos hu, if_neg hva]
  have := List.idxOf_lt_length_of_mem hu
  omega
theorem Lk.rise {R : Rel} {f : Nat → Nat} (hf : ∀ u v, R u v = true → f u < f v) : ∀ {l : List Nat} {g : Nat}, l ≠ [] → Lk R l g → f (l.headD g) < f g
  | [], _, h, _ => absurd rfl h
  | [u], g, _, h => hf _ _ h.1
  | u :: v :: l, g, _, h => Nat.lt_trans (hf _ _ h.1) (Lk.rise hf (l := v :: l) (by simp) h.2)
theorem Ord.noClo {n : Nat} {R : Rel} (hR : Bd n R) {o : List Nat} (h : Ord n R o) (hl : o.length = n) (c : List Nat) : ¬ Clo R c := by
  intro hc
  have := Lk.rise (f := fun u => o.idxOf u) (fun u v hr => h.idx hR hl hr) hc.1 hc.2
  cases c with
  | nil => exact hc.1 rfl
  | cons x r => simp at this
/-- how many go to v that are not yet done -/
def bef (n : Nat) (R : Rel) (done : List Nat) (v : Nat) : Nat := ((List.range n).filter fun u => !done.contains u && R u v).length
theorem bef_snoc {n : Nat} {R : Rel} {done : List Nat} {q0 v : Nat} (h1 : q0 < n) (h2 : q0 ∉ done) : bef n R done v = bef n R (done ++ [q0]) v + (if R q0 v = true then 1 else 0) := by
  by_cases hr : R q0 v = true
  · rw [if_pos hr]
    refine filter_drop List.nodup_range (List.mem_range.2 h1) (by simp [h2, hr]) (by simp) fun x _ hx => by simp [hx]
  · rw [if_neg hr]
    unfold bef
    congr 1
    refine List.filter_congr fun x _ => ?_
    by_cases e : x = q0
    · subst e; simp [hr]
    · simp [e]
theorem free_bef {n : Nat} {R : Rel} {done : List Nat} {v : Nat} : freeB n R done v = (!done.contains v && decide (bef n R done v = 0)) := by
  unfold freeB bef
  congr 1
  rw [Bool.eq_iff_iff]
  simp only [List.all_eq_true, List.mem_range, Bool.or_eq_true, Bool.not_eq_true', decide_eq_true_eq, List.length_eq_zero_iff, List.filter_eq_nil_iff, Bool.and_eq_true, not_and, Bool.not_eq_true]
  refine ⟨fun h u hu hd => ?_, fun h u hu => ?_⟩
  · rcases h u hu with h | h
    · exact h
    · rw [hd] at h; cases h
  · cases hd : done.contains u with
    | true => exact .inr rfl
    | false => exact .inl (h u hu hd)
theorem bef_le (n : Nat) (R : Rel) (done : List Nat) (v : Nat) : bef n R done v ≤ n := by
  have := List.length_filter_le (fun u => !done.contains u && R u v) (List.range n); simpa [bef] using this
/-- the count as it is made: the rows below i, and so much of the row i -/
def cnt (n : Nat) (R : Rel) (i v : Nat) : Nat := ((List.range i).filter fun u => R u v).length
theorem cnt_succ (n : Nat) (R : Rel) (i v : Nat) : cnt n R (i + 1) v = cnt n R i v + (if R i v = true then 1 else 0) := by
  unfold cnt
  rw [List.range_succ, List.filter_append, List.length_append]
  congr 1
  cases h : R i v <;> simp [h]
theorem cnt_bef (n : Nat) (R : Rel) (v : Nat) : cnt n R n v = bef n R [] v := by simp [cnt, bef]
theorem cnt_le (n : Nat) (R : Rel) (i v : Nat) : cnt n R i v ≤ i := by
  have := List.length_filter_le (fun u => R u v) (List.range i); simpa [cnt] using this

/-! arcs that count -/
abbrev Arcs := List (Int × Int)
def T (n : Nat) (l : Arcs) : Rel := fun u v => decide (u < n) && decide (v < n) && l.contains ((u : Int), (v : Int))
theorem T_iff {n : Nat} {l : Arcs} {u v : Nat} : T n l u v = true ↔ u < n ∧ v < n ∧ ((u : Int), (v : Int)) ∈ l := by
  simp [T, and_assoc]
theorem T_bd (n : Nat) (l : Arcs) : Bd n (T n l) := fun u v h => ⟨(T_iff.1 h).1, (T_iff.1 h).2.1⟩
end Go.Proofs.Yticpbiccgnfecaa.Gr

/-
  What is remembered beside the run of a group that keeps one log: views, what was said in each, what is done; that what is done stays.
-/
import Derived.Test.YtmmgnbdngpkfcaaVwC
namespace Go.Proofs.Ytmmgnbdngpkfcaa
set_option linter.unusedVariables false
namespace Vw

theorem nodup_len {α : Type} [DecidableEq α] : ∀ {l l' : List α}, l.Nodup → (∀ x ∈ l, x ∈ l') → l.length ≤ l'.length
  | [], _, _, _ => Nat.zero_le _
  | a :: r, l', h, hs => by
    have h1 := List.nodup_cons.1 h
    have h2 := nodup_len (l := r) (l' := l'.erase a) h1.2 fun x hx => (List.mem_erase_of_ne (fun e : x = a => h1.1 (by rw [← e]; exact hx))).2 (hs x (List.mem_cons_of_mem _ hx))
    have h3 := hs a List.mem_cons_self
    have h4 : 0 < l'.length := List.length_pos_of_mem h3
    rw [List.length_erase_of_mem h3] at h2
    simp only [List.length_cons]
    omega

/-- a member of n -/
def node (n : Nat) (x : Int) : Prop := 1 ≤ x ∧ x ≤ n
/-- most of n members have it -/
def maj (n : Nat) (Q : Int → Prop) : Prop := ∃ s : List Int, s.Nodup ∧ (∀ x ∈ s, node n x ∧ Q x) ∧ n < 2 * s.length
theorem maj.mono {n : Nat} {Q Q' : Int → Prop} (h : maj n Q) (hq : ∀ x, node n x → Q x → Q' x) : maj n Q' := by
  obtain ⟨s, h1, h2, h3⟩ := h
  exact ⟨s, h1, fun x hx => ⟨(h2 x hx).1, hq x (h2 x hx).1 (h2 x hx).2⟩, h3⟩
theorem maj.meet {n : Nat} {Q Q' : Int → Prop} (h : maj n Q) (h' : maj n Q') : ∃ x, node n x ∧ Q x ∧ Q' x := by
  obtain ⟨s, h1, h2, h3⟩ := h
  obtain ⟨t, g1, g2, g3⟩ := h'
  apply Classical.byContradiction
  intro hno
  have hd : (s ++ t).Nodup := by
    rw [List.nodup_append]
    refine ⟨h1, g1, fun a ha b hb e => ?_⟩
    subst e
    exact hno ⟨a, (h2 a ha).1, (h2 a ha).2, (g2 a hb).2⟩
  have := nodup_len hd (l' := (List.range n).map fun i : Nat => (i : Int) + 1) fun x hx => by
    have hn : node n x := by
      rcases List.mem_append.1 hx with h | h
      · exact (h2 x h).1
      · exact (g2 x h).1
    unfold node at hn
    exact List.mem_map.2 ⟨(x - 1).toNat, List.mem_range.2 (by omega), by show (((x - 1).toNat : Nat) : Int) + 1 = x; omega⟩
  simp at this
  omega
theorem maj.some {n : Nat} {Q : Int → Prop} (h : maj n Q) : ∃ x, node n x ∧ Q x := by
  obtain ⟨x, h1, h2, _⟩ := h.meet h
  exact ⟨x, h1, h2⟩

/-- what is remembered beside the run: each member's view, its last begun view, how many entries it has ever said to have in a view; which views have begun, and their logs -/
structure Gh where
  n : Nat
  V : Int → Int
  N : Int → Int
  ack : Int → Int → Nat
  beg : Int → Prop
  L : Int → List Bs

namespace Gh
variable (G : Gh)
/-- k entries of view v may still come to be held by most -/
def chos (v : Int) (k : Nat) : Prop := maj G.n fun x => k ≤ G.ack x v ∨ G.V x ≤ v
/-- k entries of view v are held by most -/
def comm (v : Int) (k : Nat) : Prop := maj G.n fun x => k ≤ G.ack x v
def Fit (v : Int) (k : Nat) (l : List Bs) : Prop := k ≤ l.length ∧ k ≤ (G.L v).length ∧ l.take k = (G.L v).take k
/-- l is a log of view N -/
structure Hist (N : Int) (l : List Bs) : Prop where
  beg : G.beg N
  old : ∀ v k, v < N → 0 < k → G.chos v k → G.Fit v k l
  own : ∀ k, G.chos N k → k ≤ l.length → G.Fit N k l
def Acks (x N : Int) (l : List Bs) : Prop := ∀ v k, 0 < k → k ≤ G.ack x v → v ≤ N ∧ (G.chos v k → G.Fit v k l)
def ld (v : Int) : Int := v % (max (G.n : Int) 1) + 1
structure GI : Prop where
  i1 : ∀ v w k, v < w → G.beg w → 0 < k → G.chos v k → G.Fit v k (G.L w)
  la : ∀ v, G.beg v → (G.L v).length ≤ G.ack (G.ld v) v
  lb : ∀ w, G.beg w → w ≤ G.N (G.ld w)
  ul : ∀ v, ¬ G.beg v → G.L v = [] ∧ ∀ x, G.ack x v = 0
  nv : ∀ x, node G.n x → G.N x ≤ G.V x
  gl : ∀ x v k, node G.n x → 0 < k → k ≤ G.ack x v → G.chos v k → k ≤ (G.L v).length
/-- as many as k entries are done, of a view up to v -/
def CmAt (v : Int) (c : Int) : Prop := c ≤ 0 ∨ ∃ u, u ≤ v ∧ G.comm u c.toNat
def Cm (N : Int) (k : Nat) (l : List Bs) : Prop := k = 0 ∨ ∃ u, u ≤ N ∧ G.comm u k ∧ G.Fit u k l
end Gh
variable {G G' G'' : Gh}
/-- a step of member x -/
structure Ext (x : Int) (G G' : Gh) : Prop where
  n : G'.n = G.n
  v1 : ∀ y, y ≠ x → G'.V y = G.V y
  v2 : G.V x ≤ G'.V x
  n1 : ∀ y, y ≠ x → G'.N y = G.N y
  n2 : G.N x ≤ G'.N x
  a1 : ∀ y v, G.ack y v ≤ G'.ack y v
  a2 : ∀ y v, G'.ack y v ≠ G.ack y v → y = x ∧ G.V x ≤ v
  beg : ∀ v, G.beg v → G'.beg v
  pre : ∀ v, G.L v <+: G'.L v
theorem Ext.refl (x : Int) (G : Gh) : Ext x G G := ⟨rfl, fun _ _ => rfl, Int.le_refl _, fun _ _ => rfl, Int.le_refl _, fun _ _ => Nat.le_refl _, fun _ _ h => absurd rfl h, fun _ h => h, fun _ => List.prefix_refl _⟩
theorem Ext.trans {x : Int} (h : Ext x G G') (h' : Ext x G' G'') : Ext x G G'' := by
  refine ⟨h'.n.trans h.n, fun y hy => (h'.v1 y hy).trans (h.v1 y hy), Int.le_trans h.v2 h'.v2, fun y hy => (h'.n1 y hy).trans (h.n1 y hy), Int.le_trans h.n2 h'.n2, fun y v => Nat.le_trans (h.a1 y v) (h'.a1 y v), fun y v hne => ?_, fun v hv => h'.beg v (h.beg v hv), fun v => (h.pre v).trans (h'.pre v)⟩
  by_cases e : G'.ack y v = G.ack y v
  · rw [← e] at hne
    obtain ⟨h1, h2⟩ := h'.a2 y v hne
    exact ⟨h1, Int.le_trans h.v2 h2⟩
  · exact h.a2 y v e
theorem Ext.vmono {x : Int} (h : Ext x G G') (y : Int) : G.V y ≤ G'.V y := by
  by_cases e : y = x
  · subst e; exact h.v2
  · rw [h.v1 y e]; exact Int.le_refl _
theorem Ext.nmono {x : Int} (h : Ext x G G') (y : Int) : G.N y ≤ G'.N y := by
  by_cases e : y = x
  · subst e; exact h.n2
  · rw [h.n1 y e]; exact Int.le_refl _
theorem Ext.chos {x : Int} (h : Ext x G G') {v : Int} {k : Nat} (hc : G'.chos v k) : G.chos v k := by
  unfold Gh.chos at hc ⊢
  rw [← h.n]
  refine hc.mono fun y _ hy => ?_
  have hv := h.vmono y
  rcases hy with hy | hy
  · by_cases e : G'.ack y v = G.ack y v
    · rw [e] at hy; exact .inl hy
    · obtain ⟨rfl, h2⟩ := h.a2 y v e
      exact .inr h2
  · exact .inr (by omega)
theorem Ext.comm {x : Int} (h : Ext x G G') {v : Int} {k : Nat} (hc : G.comm v k) : G'.comm v k := by
  unfold Gh.comm at hc ⊢
  rw [h.n]
  exact hc.mono fun y _ hy => Nat.le_trans hy (h.a1 y v)
theorem prefix_take {l l' : List Bs} (h : l <+: l') {k : Nat} (hk : k ≤ l.length) : l'.take k = l.take k := by
  obtain ⟨r, rfl⟩ := h
  rw [List.take_append_of_le_length hk]
theorem Ext.fit {x : Int} (h : Ext x G G') {v : Int} {k : Nat} {l : List Bs} (hf : G.Fit v k l) : G'.Fit v k l := by
  obtain ⟨h1, h2, h3⟩ := hf
  have hp := h.pre v
  exact ⟨h1, Nat.le_trans h2 hp.length_le, by rw [prefix_take hp h2]; exact h3⟩
theorem Ext.hist {x : Int} (h : Ext x G G') {N : Int} {l : List Bs} (hh : G.Hist N l) : G'.Hist N l :=
  ⟨h.beg N hh.beg, fun v k hv hk hc => h.fit (hh.old v k hv hk (h.chos hc)), fun k hc hk => h.fit (hh.own k (h.chos hc) hk)⟩
theorem Ext.acks {x y : Int} (h : Ext x G G') (hy : y ≠ x) {N : Int} {l : List Bs} (hh : G.Acks y N l) : G'.Acks y N l := by
  intro v k hk ha
  have e : G'.ack y v = G.ack y v := Classical.byContradiction fun e => hy (h.a2 y v e).1
  rw [e] at ha
  obtain ⟨h1, h2⟩ := hh v k hk ha
  exact ⟨h1, fun hc => h.fit (h2 (h.chos hc))⟩
theorem Ext.cmAt {x : Int} (h : Ext x G G') {v c : Int} (hc : G.CmAt v c) : G'.CmAt v c := by
  rcases hc with hc | ⟨u, h1, h2⟩
  · exact .inl hc
  · exact .inr ⟨u, h1, h.comm h2⟩
theorem Ext.cm {x : Int} (h : Ext x G G') {N : Int} {k : Nat} {l : List Bs} (hc : G.Cm N k l) : G'.Cm N k l := by
  rcases hc with hc | ⟨u, h1, h2, h3⟩
  · exact .inl hc
  · exact .inr ⟨u, h1, h.comm h2, h.fit h3⟩
theorem chos_down {v : Int} {k k' : Nat} (h : G.chos v k) (hk : k' ≤ k) : G.chos v k' :=
  maj.mono h fun x _ hx => by rcases hx with hx | hx; exact .inl (Nat.le_trans hk hx); exact .inr hx
theorem comm_down {v : Int} {k k' : Nat} (h : G.comm v k) (hk : k' ≤ k) : G.comm v k' := maj.mono h fun x _ hx => Nat.le_trans hk hx
theorem comm_chos {v : Int} {k : Nat} (h : G.comm v k) : G.chos v k := maj.mono h fun x _ hx => .inl hx
theorem CmAt.mono {v v' c : Int} (h : G.CmAt v c) (hv : v ≤ v') : G.CmAt v' c := by
  rcases h with h | ⟨u, h1, h2⟩
  · exact .inl h
  · exact .inr ⟨u, Int.le_trans h1 hv, h2⟩
theorem CmAt.max {v c d : Int} (h : G.CmAt v c) (h' : G.CmAt v d) : G.CmAt v (max c d) := by
  rcases Int.le_total c d with e | e
  · rw [Int.max_eq_right e]; exact h'
  · rw [Int.max_eq_left e]; exact h
theorem Fit.down {v : Int} {k k' : Nat} {l : List Bs} (h : G.Fit v k l) (hk : k' ≤ k) : G.Fit v k' l := by
  obtain ⟨h1, h2, h3⟩ := h
  refine ⟨by omega, by omega, ?_⟩
  have := congrArg (List.take k') h3
  rwa [List.take_take, List.take_take, Nat.min_eq_left hk] at this

/-- what is done stands at the front of each log of that view or a later one -/
theorem cm_of_hist {N : Int} {l : List Bs} {c : Int} (hh : G.Hist N l) (hc : G.CmAt N c) : G.Cm N (min c (l.length : Int)).toNat l := by
  rcases hc with hc | ⟨u, h1, h2⟩
  · left; omega
  · obtain ⟨k, hk⟩ : ∃ k, k = (min c (l.length : Int)).toNat := ⟨_, rfl⟩
    rw [← hk]
    by_cases h0 : k = 0
    · exact .inl h0
    · have hkc : k ≤ c.toNat := by omega
      have hkl : k ≤ l.length := by omega
      have hcm := comm_down h2 hkc
      refine .inr ⟨u, h1, hcm, ?_⟩
      rcases Int.lt_or_eq_of_le h1 with e | e
      · exact hh.old u k e (by omega) (comm_chos hcm)
      · subst e; exact hh.own k (comm_chos hcm) hkl
/-- and stays there when a later view's log is taken -/
theorem cm_later {N w : Int} {l l' : List Bs} {k : Nat} (hc : G.Cm N k l) (hw : N < w) (hh : G.Hist w l') : G.Cm w k l' := by
  rcases hc with hc | ⟨u, h1, h2, h3⟩
  · exact .inl hc
  · by_cases h0 : k = 0
    · exact .inl h0
    · exact .inr ⟨u, by omega, h2, hh.old u k (by omega) (by omega) (comm_chos h2)⟩
theorem Cm.fits {N : Int} {l : List Bs} {k : Nat} (hc : G.Cm N k l) : k ≤ l.length := by
  rcases hc with hc | ⟨u, h1, h2, h3⟩
  · omega
  · exact h3.1
theorem Cm.at {N : Int} {l : List Bs} {k : Nat} (hc : G.Cm N k l) : G.CmAt N k := by
  rcases hc with hc | ⟨u, h1, h2, h3⟩
  · left; omega
  · exact .inr ⟨u, h1, by simpa using h2⟩
/-- two things that are done: one is a beginning of the other -/
theorem cm_same {N M : Int} {l m : List Bs} {k j : Nat} (hI : G.GI) (h : G.Cm N k l) (h' : G.Cm M j m) (hkj : k ≤ j) : l.take k = m.take k := by
  rcases h with h | ⟨u, h1, h2, h3⟩
  · subst h; simp
  rcases h' with h' | ⟨v, g1, g2, g3⟩
  · have : k = 0 := by omega
    subst this; simp
  by_cases h0 : k = 0
  · subst h0; simp
  have hkv : G.Fit v k m := Fit.down g3 hkj
  have hbv : G.beg v := Classical.byContradiction fun hb => by
    have := (hI.ul v hb).1
    have h4 := hkv.2.1
    rw [this] at h4
    simp at h4; omega
  have hbu : G.beg u := Classical.byContradiction fun hb => by
    have := (hI.ul u hb).1
    have h4 := h3.2.1
    rw [this] at h4
    simp at h4; omega
  rw [h3.2.2, hkv.2.2]
  rcases Int.lt_trichotomy u v with e | e | e
  · exact (hI.i1 u v k e hbv (by omega) (comm_chos h2)).2.2.symm
  · subst e; rfl
  · exact (hI.i1 v u k e hbu (by omega) (comm_chos (comm_down g2 hkj))).2.2

/-! steps of the ghost -/
def upd {α : Type} (f : Int → α) (x : Int) (a : α) : Int → α := fun y => if y = x then a else f y
theorem upd_same {α : Type} (f : Int → α) (x : Int) (a : α) : upd f x a x = a := by simp [upd]
theorem upd_other {α : Type} (f : Int → α) {x y : Int} (a : α) (h : y ≠ x) : upd f x a y = f y := by simp [upd, h]
/-- another view is wanted -/
def Gh.raise (G : Gh) (x v : Int) : Gh := { G with V := upd G.V x v }
theorem raise_ext {x v : Int} (h : G.V x ≤ v) : Ext x G (G.raise x v) :=
  ⟨rfl, fun y hy => upd_other _ _ hy, by show _ ≤ upd _ _ _ _; rw [upd_same]; exact h, fun _ _ => rfl, Int.le_refl _, fun _ _ => Nat.le_refl _, fun _ _ h => absurd rfl h, fun _ h => h, fun _ => List.prefix_refl _⟩
theorem raise_gi {x v : Int} (h : G.V x ≤ v) (hI : G.GI) : (G.raise x v).GI := by
  have he := raise_ext (G := G) h
  refine ⟨fun a w k h1 h2 h3 h4 => he.fit (hI.i1 a w k h1 h2 h3 (he.chos h4)), hI.la, hI.lb, hI.ul, fun y hy => Int.le_trans (hI.nv y hy) (he.vmono y), fun y a k h1 h2 h3 h4 => hI.gl y a k h1 h2 h3 (he.chos h4)⟩
theorem raise_acks {x v : Int} (h : G.V x ≤ v) {y N : Int} {l : List Bs} (hh : G.Acks y N l) : (G.raise x v).Acks y N l := by
  have he := raise_ext (G := G) h
  intro a k hk ha
  obtain ⟨h1, h2⟩ := hh a k hk ha
  exact ⟨h1, fun hc => he.fit (h2 (he.chos hc))⟩
/-- x has its log in view v -/
def Gh.says (G : Gh) (x v : Int) (k : Nat) : Gh := { G with ack := fun y a => if y = x ∧ a = v then max (G.ack x v) k else G.ack y a }
theorem says_at (x v : Int) (k : Nat) : (G.says x v k).ack x v = max (G.ack x v) k := by simp [Gh.says]
theorem says_other {x v : Int} {k : Nat} {y a : Int} (h : ¬ (y = x ∧ a = v)) : (G.says x v k).ack y a = G.ack y a := by simp [Gh.says, h]
theorem says_ext {x v : Int} {k : Nat} (h : G.V x ≤ v) : Ext x G (G.says x v k) := by
  refine ⟨rfl, fun _ _ => rfl, Int.le_refl _, fun _ _ => rfl, Int.le_refl _, fun y a => ?_, fun y a hne => ?_, fun _ h => h, fun _ => List.prefix_refl _⟩
  · by_cases e : y = x ∧ a = v
    · obtain ⟨rfl, rfl⟩ := e
      rw [says_at]; exact Nat.le_max_left _ _
    · rw [says_other e]; exact Nat.le_refl _
  · by_cases e : y = x ∧ a = v
    · obtain ⟨rfl, rfl⟩ := e
      exact ⟨rfl, h⟩
    · exact absurd (says_other e) hne
theorem says_acks {x v : Int} {l : List Bs} (h : G.V x ≤ v) (hh : G.Hist v l) (ha : G.Acks x v l) : (G.says x v l.length).Acks x v l := by
  have he := says_ext (G := G) (k := l.length) h
  intro a k hk hak
  by_cases e : a = v
  · subst e
    refine ⟨Int.le_refl _, fun hc => he.fit ?_⟩
    have hc' := he.chos hc
    rw [says_at] at hak
    by_cases h1 : k ≤ G.ack x a
    · exact (ha a k hk h1).2 hc'
    · exact hh.own k hc' (by omega)
  · rw [says_other (fun h => e h.2)] at hak
    obtain ⟨h1, h2⟩ := ha a k hk hak
    exact ⟨h1, fun hc => he.fit (h2 (he.chos hc))⟩
theorem says_gi {x v : Int} {l : List Bs} (h : G.V x ≤ v) (hh : G.Hist v l) (hI : G.GI) : (G.says x v l.length).GI := by
  have he := says_ext (G := G) (k := l.length) h
  refine ⟨fun a w k h1 h2 h3 h4 => he.fit (hI.i1 a w k h1 h2 h3 (he.chos h4)), fun a ha => ?_, hI.lb, fun a ha => ⟨(hI.ul a ha).1, fun y => ?_⟩, hI.nv, fun y a k h1 h2 h3 h4 => ?_⟩
  · exact Nat.le_trans (hI.la a ha) (he.a1 _ a)
  · have hne : a ≠ v := fun e => ha (by rw [e]; exact hh.beg)
    rw [says_other (fun h => hne h.2)]
    exact (hI.ul a ha).2 y
  · have hc := he.chos h4
    by_cases e : y = x ∧ a = v
    · obtain ⟨rfl, rfl⟩ := e
      rw [says_at] at h3
      by_cases h5 : k ≤ G.ack y a
      · exact hI.gl y a k h1 h2 h5 hc
      · exact (hh.own k hc (by omega)).2.1
    · rw [says_other e] at h3
      exact hI.gl y a k h1 h2 h3 hc
theorem fit_prefix {v : Int} {k : Nat} {l l' : List Bs} (h : G.Fit v k l) (hp : l <+: l') : G.Fit v k l' :=
  ⟨Nat.le_trans h.1 hp.length_le, h.2.1, by rw [prefix_take hp h.1]; exact h.2.2⟩
open Classical in
/-- the one that leads view v puts an entry behind the others -/
noncomputable def Gh.adds (G : Gh) (x v : Int) (l : List Bs) (e : Bs) : Gh :=
  { G with L := fun u => if u = v ∧ G.L v = l then l ++ [e] else G.L u, ack := fun y a => if y = x ∧ a = v then max (G.ack x v) (l.length + 1) else G.ack y a }
theorem adds_at (x v : Int) (l : List Bs) (e : Bs) : (G.adds x v l e).ack x v = max (G.ack x v) (l.length + 1) := by simp [Gh.adds]
theorem adds_other {x v y a : Int} {l : List Bs} {e : Bs} (h : ¬ (y = x ∧ a = v)) : (G.adds x v l e).ack y a = G.ack y a := by simp [Gh.adds, h]
theorem adds_L {x v u : Int} {l : List Bs} {e : Bs} (h : u ≠ v) : (G.adds x v l e).L u = G.L u := by simp [Gh.adds, h]
theorem adds_Lv {x v : Int} {l : List Bs} {e : Bs} (h : G.L v = l) : (G.adds x v l e).L v = l ++ [e] := by simp [Gh.adds, h]
theorem adds_Ln {x v : Int} {l : List Bs} {e : Bs} (h : G.L v ≠ l) : (G.adds x v l e).L v = G.L v := by simp [Gh.adds, h]
theorem adds_ext {x v : Int} {l : List Bs} {e : Bs} (h : G.V x ≤ v) : Ext x G (G.adds x v l e) := by
  refine ⟨rfl, fun _ _ => rfl, Int.le_refl _, fun _ _ => rfl, Int.le_refl _, fun y a => ?_, fun y a hne => ?_, fun _ h => h, fun u => ?_⟩
  · by_cases e : y = x ∧ a = v
    · obtain ⟨rfl, rfl⟩ := e
      rw [adds_at]; exact Nat.le_max_left _ _
    · rw [adds_other e]; exact Nat.le_refl _
  · by_cases e : y = x ∧ a = v
    · obtain ⟨rfl, rfl⟩ := e
      exact ⟨rfl, h⟩
    · exact absurd (adds_other e) hne
  · by_cases hu : u = v
    · subst hu
      by_cases hl : G.L u = l
      · rw [adds_Lv hl, hl]; exact List.prefix_append _ _
      · rw [adds_Ln hl]; exact List.prefix_refl _
    · rw [adds_L hu]; exact List.prefix_refl _
theorem adds_fit {x v : Int} {l : List Bs} {e : Bs} (hV : G.V x ≤ v) (hx : x = G.ld v) (hh : G.Hist v l) (ha : G.Acks x v l) (hI : G.GI) {k : Nat} (hc : G.chos v k) (hk : k ≤ l.length + 1) : (G.adds x v l e).Fit v k (l ++ [e]) := by
  have he := adds_ext (G := G) (l := l) (e := e) hV
  by_cases h1 : k ≤ l.length
  · exact fit_prefix (he.fit (hh.own k hc h1)) (List.prefix_append _ _)
  · have h2 : k = l.length + 1 := by omega
    have h3 := hh.own l.length (chos_down hc (by omega)) (Nat.le_refl _)
    by_cases h4 : G.L v = l
    · refine ⟨by simp; omega, by rw [adds_Lv h4]; simp; omega, by rw [adds_Lv h4]⟩
    · exfalso
      have h5 : l.length < (G.L v).length := by
        rcases Nat.lt_or_ge l.length (G.L v).length with h | h
        · exact h
        · exfalso
          have h6 := h3.2.2
          rw [List.take_of_length_le (Nat.le_refl _), List.take_of_length_le h] at h6
          exact h4 h6.symm
      have h7 := hI.la v hh.beg
      rw [← hx] at h7
      have := ((ha v k (by omega) (by omega)).2 hc).1
      omega
theorem adds_hist {x v : Int} {l : List Bs} {e : Bs} (hV : G.V x ≤ v) (hx : x = G.ld v) (hh : G.Hist v l) (ha : G.Acks x v l) (hI : G.GI) : (G.adds x v l e).Hist v (l ++ [e]) := by
  have he := adds_ext (G := G) (l := l) (e := e) hV
  refine ⟨hh.beg, fun u k hu hk hc => fit_prefix (he.fit (hh.old u k hu hk (he.chos hc))) (List.prefix_append _ _), fun k hc hk => adds_fit hV hx hh ha hI (he.chos hc) (by simpa using hk)⟩
theorem adds_acks {x v : Int} {l : List Bs} {e : Bs} (hV : G.V x ≤ v) (hx : x = G.ld v) (hh : G.Hist v l) (ha : G.Acks x v l) (hI : G.GI) : (G.adds x v l e).Acks x v (l ++ [e]) := by
  have he := adds_ext (G := G) (l := l) (e := e) hV
  intro a k hk hak
  by_cases e1 : a = v
  · subst e1
    refine ⟨Int.le_refl _, fun hc => ?_⟩
    have hc := he.chos hc
    rw [adds_at] at hak
    by_cases h1 : k ≤ G.ack x a
    · exact fit_prefix (he.fit ((ha a k hk h1).2 hc)) (List.prefix_append _ _)
    · exact adds_fit hV hx hh ha hI hc (by omega)
  · rw [adds_other (fun h => e1 h.2)] at hak
    obtain ⟨h1, h2⟩ := ha a k hk hak
    exact ⟨h1, fun hc => fit_prefix (he.fit (h2 (he.chos hc))) (List.prefix_append _ _)⟩
theorem adds_gi {x v : Int} {l : List Bs} {e : Bs} (hV : G.V x ≤ v) (hx : x = G.ld v) (hh : G.Hist v l) (ha : G.Acks x v l) (hI : G.GI) : (G.adds x v l e).GI := by
  have he := adds_ext (G := G) (l := l) (e := e) hV
  refine ⟨fun a w k h1 h2 h3 h4 => fit_prefix (he.fit (hI.i1 a w k h1 h2 h3 (he.chos h4))) (he.pre w), fun a h => ?_, hI.lb, fun a h => ?_, hI.nv, fun y a k h1 h2 h3 h4 => ?_⟩
  · show ((G.adds x v l e).L a).length ≤ (G.adds x v l e).ack (G.ld a) a
    by_cases e1 : a = v
    · subst e1
      rw [← hx, adds_at]
      by_cases hl : G.L a = l
      · rw [adds_Lv hl]; simp; omega
      · rw [adds_Ln hl]
        have := hI.la a h
        rw [← hx] at this
        omega
    · rw [adds_L e1, adds_other (fun h => e1 h.2)]
      exact hI.la a h
  · have hne : a ≠ v := fun e1 => h (by rw [e1]; exact hh.beg)
    refine ⟨(adds_L hne).trans (hI.ul a h).1, fun y => ?_⟩
    rw [adds_other (fun h => hne h.2)]
    exact (hI.ul a h).2 y
  · have hc := he.chos h4
    by_cases e1 : y = x ∧ a = v
    · obtain ⟨rfl, rfl⟩ := e1
      rw [adds_at] at h3
      by_cases h5 : k ≤ G.ack y a
      · exact Nat.le_trans (hI.gl y a k h1 h2 h5 hc) (he.pre a).length_le
      · exact (adds_fit (e := e) hV hx hh ha hI hc (by omega)).2.1
    · rw [adds_other e1] at h3
      exact Nat.le_trans (hI.gl y a k h1 h2 h3 hc) (he.pre a).length_le
/-- l serves as a log behind all views below w -/
def Gh.Serves (G : Gh) (w : Int) (l : List Bs) : Prop := ∀ v k, v < w → 0 < k → G.chos v k → G.Fit v k l
/-- the one that leads view w begins it -/
noncomputable def Gh.begins (G : Gh) (x w : Int) (l : List Bs) : Gh :=
  { G with N := upd G.N x w, L := upd G.L w l, beg := fun u => G.beg u ∨ u = w, ack := fun y a => if y = x ∧ a = w then max (G.ack x w) l.length else G.ack y a }
theorem begins_at (x w : Int) (l : List Bs) : (G.begins x w l).ack x w = max (G.ack x w) l.length := by simp [Gh.begins]
theorem begins_other {x w y a : Int} {l : List Bs} (h : ¬ (y = x ∧ a = w)) : (G.begins x w l).ack y a = G.ack y a := by simp [Gh.begins, h]
theorem begins_Lw {x w : Int} {l : List Bs} : (G.begins x w l).L w = l := upd_same _ _ _
theorem begins_L {x w a : Int} {l : List Bs} (h : a ≠ w) : (G.begins x w l).L a = G.L a := upd_other _ _ h
theorem begins_ext {x w : Int} {l : List Bs} (hV : G.V x = w) (hx : node G.n x) (hI : G.GI) (hb : ¬ G.beg w) : Ext x G (G.begins x w l) := by
  refine ⟨rfl, fun _ _ => rfl, Int.le_refl _, fun y hy => upd_other _ _ hy, ?_, fun y a => ?_, fun y a hne => ?_, fun _ h => .inl h, fun u => ?_⟩
  · show G.N x ≤ upd G.N x w x
    rw [upd_same, ← hV]; exact hI.nv x hx
  · by_cases e : y = x ∧ a = w
    · obtain ⟨rfl, rfl⟩ := e
      rw [begins_at]; exact Nat.le_max_left _ _
    · rw [begins_other e]; exact Nat.le_refl _
  · by_cases e : y = x ∧ a = w
    · obtain ⟨rfl, rfl⟩ := e
      exact ⟨rfl, by omega⟩
    · exact absurd (begins_other e) hne
  · by_cases hu : u = w
    · subst hu
      rw [(hI.ul u hb).1]; exact List.nil_prefix
    · rw [begins_L hu]; exact List.prefix_refl _
theorem begins_hist {x w : Int} {l : List Bs} (hV : G.V x = w) (hx : node G.n x) (hI : G.GI) (hb : ¬ G.beg w) (hs : G.Serves w l) : (G.begins x w l).Hist w l := by
  have he := begins_ext (l := l) hV hx hI hb
  exact ⟨.inr rfl, fun v k hv hk hc => he.fit (hs v k hv hk (he.chos hc)), fun k hc hk => ⟨hk, by rw [begins_Lw]; exact hk, by rw [begins_Lw]⟩⟩
theorem begins_acks {x w N : Int} {l l0 : List Bs} (hV : G.V x = w) (hx : node G.n x) (hI : G.GI) (hb : ¬ G.beg w) (hs : G.Serves w l) (hN : N < w) (ha : G.Acks x N l0) : (G.begins x w l).Acks x w l := by
  have he := begins_ext (l := l) hV hx hI hb
  intro a k hk hak
  by_cases e : a = w
  · subst e
    rw [begins_at, (hI.ul a hb).2 x] at hak
    exact ⟨Int.le_refl _, fun _ => ⟨by omega, by rw [begins_Lw]; omega, by rw [begins_Lw]⟩⟩
  · rw [begins_other (fun h => e h.2)] at hak
    have h1 := (ha a k hk hak).1
    exact ⟨by omega, fun hc => he.fit (hs a k (by omega) hk (he.chos hc))⟩
theorem begins_gi {x w : Int} {l : List Bs} (hV : G.V x = w) (hx : node G.n x) (hl : x = G.ld w) (hI : G.GI) (hb : ¬ G.beg w) (hs : G.Serves w l) : (G.begins x w l).GI := by
  have he := begins_ext (l := l) hV hx hI hb
  refine ⟨fun a z k h1 h2 h3 h4 => ?_, fun a h => ?_, fun a h => ?_, fun a h => ?_, fun y hy => ?_, fun y a k h1 h2 h3 h4 => ?_⟩
  · by_cases e : z = w
    · subst e
      rw [begins_Lw]
      exact he.fit (hs a k h1 h3 (he.chos h4))
    · rw [begins_L e]
      exact he.fit (hI.i1 a z k h1 (h2.resolve_right e) h3 (he.chos h4))
  · show ((G.begins x w l).L a).length ≤ (G.begins x w l).ack (G.ld a) a
    by_cases e : a = w
    · subst e
      rw [begins_Lw, ← hl, begins_at]; exact Nat.le_max_right _ _
    · rw [begins_L e, begins_other (fun h => e h.2)]
      exact hI.la a (h.resolve_right e)
  · by_cases e : a = w
    · subst e
      show a ≤ upd G.N x a (G.ld a)
      rw [← hl, upd_same]; exact Int.le_refl _
    · exact Int.le_trans (hI.lb a (h.resolve_right e)) (he.nmono _)
  · have e : a ≠ w := fun e => h (.inr e)
    refine ⟨(begins_L e).trans (hI.ul a fun hb => h (.inl hb)).1, fun y => ?_⟩
    rw [begins_other (fun h => e h.2)]
    exact (hI.ul a fun hb => h (.inl hb)).2 y
  · by_cases e : y = x
    · subst e
      show upd G.N y w y ≤ G.V y
      rw [upd_same, hV]; exact Int.le_refl _
    · show upd G.N x w y ≤ G.V y
      rw [upd_other _ _ e]; exact hI.nv y hy
  · by_cases e : y = x ∧ a = w
    · obtain ⟨rfl, rfl⟩ := e
      rw [begins_at, (hI.ul a hb).2 y] at h3
      rw [begins_Lw]; omega
    · rw [begins_other e] at h3
      exact Nat.le_trans (hI.gl y a k h1 h2 h3 (he.chos h4)) (he.pre a).length_le
/-- x takes over the log of view w -/
def Gh.takes (G : Gh) (x w : Int) : Gh := { G with V := upd G.V x w, N := upd G.N x w }
theorem takes_ext {x w : Int} (hV : G.V x ≤ w) (hN : G.N x ≤ w) : Ext x G (G.takes x w) :=
  ⟨rfl, fun y hy => upd_other _ _ hy, by show _ ≤ upd _ _ _ _; rw [upd_same]; exact hV, fun y hy => upd_other _ _ hy, by show _ ≤ upd _ _ _ _; rw [upd_same]; exact hN, fun _ _ => Nat.le_refl _, fun _ _ h => absurd rfl h, fun _ h => h, fun _ => List.prefix_refl _⟩
theorem takes_gi {x w : Int} (hV : G.V x ≤ w) (hN : G.N x ≤ w) (hI : G.GI) : (G.takes x w).GI := by
  have he := takes_ext hV hN
  refine ⟨fun a z k h1 h2 h3 h4 => he.fit (hI.i1 a z k h1 h2 h3 (he.chos h4)), hI.la, fun a h => Int.le_trans (hI.lb a h) (he.nmono _), hI.ul, fun y hy => ?_, fun y a k h1 h2 h3 h4 => hI.gl y a k h1 h2 h3 (he.chos h4)⟩
  by_cases e : y = x
  · subst e
    show upd _ _ _ _ ≤ upd _ _ _ _
    rw [upd_same, upd_same]; exact Int.le_refl _
  · show upd _ _ _ _ ≤ upd _ _ _ _
    rw [upd_other _ _ e, upd_other _ _ e]; exact hI.nv y hy
theorem takes_acks {x w N : Int} {l l0 : List Bs} (hV : G.V x ≤ w) (hN : G.N x ≤ w) (hNw : N < w) (hh : G.Hist w l) (ha : G.Acks x N l0) : (G.takes x w).Acks x w l := by
  have he := takes_ext hV hN
  intro a k hk hak
  have h1 := (ha a k hk hak).1
  exact ⟨by omega, fun hc => he.fit (hh.old a k (by omega) hk (he.chos hc))⟩

theorem cp_le : ∀ (l m : List Bs), Core.cp l m ≤ l.length ∧ Core.cp l m ≤ m.length
  | [], _ => by simp [Core.cp]
  | _ :: _, [] => by simp [Core.cp]
  | a :: l, b :: m => by
    have := cp_le l m
    unfold Core.cp; split
    · simp; omega
    · simp
theorem cp_take : ∀ (l m : List Bs), l.take (Core.cp l m) = m.take (Core.cp l m)
  | [], _ => by simp [Core.cp]
  | _ :: _, [] => by simp [Core.cp]
  | a :: l, b :: m => by
    unfold Core.cp; split
    · rename_i h; subst h
      simp [cp_take l m]
    · simp
theorem cp_most : ∀ (l m : List Bs) (k : Nat), k ≤ l.length → k ≤ m.length → l.take k = m.take k → k ≤ Core.cp l m
  | _, _, 0, _, _, _ => Nat.zero_le _
  | [], _, k + 1, h, _, _ => by simp at h
  | _ :: _, [], k + 1, _, h, _ => by simp at h
  | a :: l, b :: m, k + 1, h1, h2, h3 => by
    simp at h1 h2 h3
    obtain ⟨rfl, h3⟩ := h3
    have := cp_most l m k h1 h2 h3
    unfold Core.cp; simp; exact this
/-- a log that is partly taken over already -/
theorem mix_fit {w v : Int} {l B : List Bs} {j k : Nat} (hs : G.Serves w B) (hv : v < w) (hj : Core.cp B l ≤ j) (hk : 0 < k) (hc : G.chos v k) (hf : G.Fit v k l) : G.Fit v k (B.take j) := by
  have hB := hs v k hv hk hc
  have h1 := cp_most B l k hB.1 hf.1 (by rw [hB.2.2, hf.2.2])
  refine ⟨by rw [List.length_take]; have := hB.1; omega, hB.2.1, ?_⟩
  rw [List.take_take, Nat.min_eq_left (by omega)]; exact hB.2.2
theorem mix_hist {w N : Int} {l B : List Bs} {j : Nat} (hs : G.Serves w B) (hN : N < w) (hj : Core.cp B l ≤ j) (hh : G.Hist N l) : G.Hist N (B.take j) := by
  refine ⟨hh.beg, fun v k hv hk hc => mix_fit hs (by omega) hj hk hc (hh.old v k hv hk hc), fun k hc hk => ?_⟩
  by_cases h0 : k = 0
  · subst h0; exact ⟨Nat.zero_le _, Nat.zero_le _, by simp⟩
  · have hB := hs N k hN (by omega) hc
    refine ⟨hk, hB.2.1, ?_⟩
    rw [List.length_take] at hk
    rw [List.take_take, Nat.min_eq_left (by omega)]; exact hB.2.2
theorem mix_acks {w N x : Int} {l B : List Bs} {j : Nat} (hs : G.Serves w B) (hN : N < w) (hj : Core.cp B l ≤ j) (ha : G.Acks x N l) : G.Acks x N (B.take j) := by
  intro v k hk hak
  obtain ⟨h1, h2⟩ := ha v k hk hak
  exact ⟨h1, fun hc => mix_fit hs (by omega) hj hk hc (h2 hc)⟩
/-- an entry of the one that leads is put behind the others -/
theorem put_hist {v : Int} {l : List Bs} {b : Bs} (hh : G.Hist v l) (hb : G.chos v (l.length + 1) → (G.L v)[l.length]? = some b) : G.Hist v (l ++ [b]) := by
  refine ⟨hh.beg, fun u k hu hk hc => fit_prefix (hh.old u k hu hk hc) (List.prefix_append _ _), fun k hc hk => ?_⟩
  by_cases h1 : k ≤ l.length
  · exact fit_prefix (hh.own k hc h1) (List.prefix_append _ _)
  · have h2 : k = l.length + 1 := by simp at hk; omega
    subst h2
    have h3 := hh.own l.length (chos_down hc (by omega)) (Nat.le_refl _)
    have h4 := hb hc
    obtain ⟨h5, h6⟩ := List.getElem?_eq_some_iff.1 h4
    refine ⟨by simp, h5, ?_⟩
    rw [List.take_of_length_le (by simp), List.take_succ_eq_append_getElem h5, h6, ← h3.2.2, List.take_of_length_le (Nat.le_refl _)]
theorem put_acks {v x : Int} {l : List Bs} {b : Bs} (ha : G.Acks x v l) : G.Acks x v (l ++ [b]) := by
  intro a k hk hak
  obtain ⟨h1, h2⟩ := ha a k hk hak
  exact ⟨h1, fun hc => fit_prefix (h2 hc) (List.prefix_append _ _)⟩
/-- what a Prep tells -/
def Gh.PrepOk (G : Gh) (v : Int) (at_ : Nat) (l : List Bs) : Prop := ∀ k, G.chos v k → k ≤ at_ + l.length → ∀ i, at_ ≤ i → i < k → i < (G.L v).length ∧ (G.L v)[i]? = l[i - at_]?
theorem Ext.prep {x v : Int} {a : Nat} {l : List Bs} (h : Ext x G G') (hp : G.PrepOk v a l) : G'.PrepOk v a l := by
  intro k hc hk i h1 h2
  obtain ⟨h3, h4⟩ := hp k (h.chos hc) hk i h1 h2
  have hpre := h.pre v
  refine ⟨Nat.lt_of_lt_of_le h3 hpre.length_le, ?_⟩
  rw [← h4]
  obtain ⟨r, hr⟩ := hpre
  rw [← hr, List.getElem?_append_left h3]
theorem prep_of {v : Int} {l : List Bs} (hh : G.Hist v l) (a m : Nat) : G.PrepOk v a ((l.drop a).take m) := by
  intro k hc hk i h1 h2
  have hk2 : k ≤ l.length ∨ k ≤ a := by
    rw [List.length_take, List.length_drop] at hk; omega
  rcases hk2 with hk2 | hk2
  · have hf := hh.own k hc hk2
    refine ⟨by have := hf.2.1; omega, ?_⟩
    rw [List.length_take, List.length_drop] at hk
    rw [List.getElem?_take, if_pos (by omega), List.getElem?_drop, show a + (i - a) = i by omega]
    have := congrArg (·[i]?) hf.2.2
    simp only [List.getElem?_take, if_pos h2] at this
    exact this.symm
  · omega
/-- what a Do tells -/
structure Gh.DoOk (G : Gh) (y w N c : Int) (l : List Bs) : Prop where
  hv : w ≤ G.V y
  hn : N < w
  hist : G.Hist N l
  acks : ∀ v k, v < w → 0 < k → k ≤ G.ack y v → v ≤ N ∧ (G.chos v k → G.Fit v k l)
  cm : G.CmAt N c
theorem Ext.doOk {x y w N c : Int} {l : List Bs} (h : Ext x G G') (hd : G.DoOk y w N c l) : G'.DoOk y w N c l := by
  refine ⟨Int.le_trans hd.hv (h.vmono y), hd.hn, h.hist hd.hist, fun v k hv hk ha => ?_, h.cmAt hd.cm⟩
  have e : G'.ack y v = G.ack y v := Classical.byContradiction fun e => by
    obtain ⟨rfl, h2⟩ := h.a2 y v e
    have := hd.hv
    omega
  rw [e] at ha
  obtain ⟨h1, h2⟩ := hd.acks v k hv hk ha
  exact ⟨h1, fun hc => h.fit (h2 (h.chos hc))⟩
/-- the log of the last begun view, the longest of these, serves -/
theorem best_serves {w Nb : Int} {B : List Bs} (hb : G.Hist Nb B) (hq : maj G.n fun y => ∃ N c l, G.DoOk y w N c l ∧ N ≤ Nb ∧ (N = Nb → l.length ≤ B.length)) : G.Serves w B := by
  intro u k hu hk hc
  obtain ⟨y, hy, ⟨N, c, l, hd, h1, h2⟩, hy2⟩ := hq.meet hc
  have hV := hd.hv
  have ha : k ≤ G.ack y u := by rcases hy2 with h | h; exact h; omega
  obtain ⟨h3, h4⟩ := hd.acks u k hu hk ha
  have hf := h4 hc
  by_cases e : u = Nb
  · subst e
    have e2 : N = u := by omega
    have := hf.1
    exact hb.own k hc (by have := h2 e2; omega)
  · exact hb.old u k (by omega) hk hc
end Vw
end Go.Proofs.Ytmmgnbdngpkfcaa

/-
  A group in the calm, in one view that stays: all get what its leader has: plain laws.
-/
import Derived.Test.YtmmgnbdngpkfcaaVwLf
namespace Go.Proofs.Ytmmgnbdngpkfcaa
set_option linter.unusedVariables false
namespace Vw

/-- all in a view that has begun: nobody has more than its leader, and all have what the leader knows that they have -/
theorem good_ghost {x : Gr} {K : Nat} {V : Int} (h : GOk x K) (hn : 1 ≤ x.n) (hv : ∀ y, node x.n y → (x.core y).keep.view = V ∧ (x.core y).ch = false) :
    ∀ y, node x.n y → (x.core y).keep.log.length ≤ (x.core (lead V x.n)).keep.log.length ∧ (y ≠ lead V x.n → (x.core (lead V x.n)).has y ≤ (x.core y).keep.log.length) := by
  obtain ⟨⟨G, h⟩, _⟩ := h
  have hch : ∀ k, G.chos V k := fun k => by
    refine ⟨(List.range G.n).map fun i : Nat => (i : Int) + 1, List.pairwise_map.2 ((List.nodup_range (n := G.n)).imp fun h e => h (by omega)), fun y hy => ?_, ?_⟩
    · obtain ⟨i, hi, rfl⟩ := List.mem_map.1 hy
      have hi := List.mem_range.1 hi
      have hyn : node G.n ((i : Int) + 1) := ⟨by omega, by omega⟩
      refine ⟨hyn, .inr ?_⟩
      rw [h.n] at hyn
      rw [(h.st _ hyn).keep.V, (hv _ hyn).1]; exact Int.le_refl _
    · rw [List.length_map, List.length_range, h.n]; omega
  have hln : node x.n (lead V x.n) := lead_node hn V
  have hld : G.ld V = lead V x.n := by unfold Gh.ld lead; rw [h.n]
  have st := fun y (hy : node x.n y) => h.st y hy
  have hN : ∀ y, node x.n y → (x.core y).keep.normal = V := fun y hy => ((st y hy).vn (hv y hy).2).trans (hv y hy).1
  have hbeg : G.beg V := by
    have := (st _ hln).keep.hist.beg
    rw [hN _ hln] at this
    exact this
  have hack : ∀ y, node x.n y → G.ack y V ≤ (x.core y).keep.log.length := fun y hy => by
    by_cases h0 : G.ack y V = 0
    · omega
    · exact ((((st y hy).keep.acks V (G.ack y V) (by omega) (Nat.le_refl _))).2 (hch _)).1
  intro y hy
  constructor
  · have h1 := (st y hy).keep.hist
    rw [hN y hy] at h1
    have h2 := (h1.own _ (hch _) (Nat.le_refl _)).2.1
    have h3 := h.gi.la V hbeg
    rw [hld] at h3
    have h4 := hack _ hln
    omega
  · intro hne
    have hl : (x.core (lead V x.n)).leads = true := leads_is.2 ⟨(hv _ hln).2, by rw [(hv _ hln).1, (st _ hln).n, h.n, (st _ hln).me]⟩
    have h1 := (st _ hln).has hl y (by rw [h.n]; exact hy) hne
    rw [(hv _ hln).1] at h1
    have h2 := hack y hy
    have h3 := (st _ hln).has0 y
    omega
/-- a follower takes entries -/
theorem in_prep {c : Core} {m : Msg} (h : InOk c m) (hk : m.kind = 1) (hv : m.view = c.keep.view) (hch : c.ch = false) (hl : m.frm = lead m.view c.n) (h0 : c.msgs = []) (ha : m.at_ ≤ c.keep.log.length) (hlen : m.at_ + m.list.length ≤ 2000) :
    (c.in_ m).keep.view = c.keep.view ∧ (c.in_ m).ch = false ∧ (c.in_ m).idle = 0 ∧ (c.in_ m).has = c.has ∧ c.keep.log.length ≤ (c.in_ m).keep.log.length ∧ m.at_ + m.list.length ≤ (c.in_ m).keep.log.length ∧
    c.commit ≤ (c.in_ m).commit ∧ min m.commit (c.keep.log.length : Int) ≤ (c.in_ m).commit ∧ ∃ r : Msg, (c.in_ m).msgs = [r] ∧ r.kind = 2 ∧ r.frm = c.me ∧ r.to_ = m.frm ∧ r.view = c.keep.view ∧ r.at_ = (c.in_ m).keep.log.length := by
  have e : c.in_ m = c.prep m := by
    rw [c.in_high m h (by omega) (by omega)]
    unfold Core.inC
    rw [if_neg (by omega)]
    unfold Core.inD
    rw [if_neg (by omega), if_neg (by omega), if_neg (by omega), if_pos ⟨hk, hv, hch, hl⟩]
  have hat := h.at_.1
  have key : ∀ j : Nat, j ≤ m.list.length → ∀ d : Core, d = (List.range j).foldl (fun c i => c.prepS m i) ({ c with idle := 0 } : Core) →
      d.keep.view = c.keep.view ∧ d.ch = c.ch ∧ d.idle = 0 ∧ d.has = c.has ∧ d.commit = c.commit ∧ d.msgs = c.msgs ∧ d.me = c.me ∧ (d.keep.log.length : Int) = max (c.keep.log.length : Int) (m.at_ + j) := by
    intro j
    induction j with
    | zero =>
      intro _ d hd
      subst hd
      exact ⟨rfl, rfl, rfl, rfl, rfl, rfl, rfl, by show (c.keep.log.length : Int) = _; omega⟩
    | succ j ih =>
      intro hj d hd
      obtain ⟨f, hf⟩ : ∃ f, f = (List.range j).foldl (fun c i => c.prepS m i) ({ c with idle := 0 } : Core) := ⟨_, rfl⟩
      obtain ⟨g1, g2, g3, g4, g5, g6, g7, g8⟩ := ih (by omega) f hf
      rw [List.range_succ, List.foldl_append, ← hf] at hd
      have hd : d = f.prepS m j := hd
      unfold Core.prepS at hd
      rw [List.getElem?_eq_getElem (show j < m.list.length by omega)] at hd
      simp only at hd
      split at hd
      · rename_i hc
        subst hd
        refine ⟨g1, g2, g3, g4, g5, g6, g7, ?_⟩
        show ((f.keep.log ++ [_]).length : Int) = _
        rw [List.length_append, List.length_singleton]
        omega
      · rename_i hc
        rw [hd]
        refine ⟨g1, g2, g3, g4, g5, g6, g7, ?_⟩
        have : ¬ (m.at_ + j ≥ (f.keep.log.length : Int)) := fun g => hc ⟨g, by omega⟩
        omega
  obtain ⟨d, hd⟩ : ∃ d, d = (List.range m.list.length).foldl (fun c i => c.prepS m i) ({ c with idle := 0 } : Core) := ⟨_, rfl⟩
  obtain ⟨g1, g2, g3, g4, g5, g6, g7, g8⟩ := key _ (Nat.le_refl _) d hd
  have e2 : c.prep m = (d.reach m.commit).send { Msg.z with kind := 2, to_ := m.frm, at_ := (d.reach m.commit).keep.log.length } := by
    unfold Core.prep
    rw [hd]
    simp only
    rw [if_pos (show m.at_ ≤ (({ c with idle := 0 } : Core).keep.log.length : Int) from ha)]
  rw [e, e2]
  have hcm : (d.reach m.commit).commit = max d.commit (min m.commit (d.keep.log.length : Int)).toNat := rfl
  obtain ⟨q, hq⟩ : ∃ q : Msg, q = { Msg.z with kind := 2, to_ := m.frm, at_ := (d.reach m.commit).keep.log.length, frm := d.me, shard := d.shard, view := d.keep.view } := ⟨_, rfl⟩
  refine ⟨g1, g2.trans hch, g3, g4, ?_, ?_, ?_, ?_, q, ?_, by rw [hq], by rw [hq]; exact g7, by rw [hq], by rw [hq]; exact g1, by rw [hq]; rfl⟩
  · show c.keep.log.length ≤ d.keep.log.length; omega
  · show m.at_ + m.list.length ≤ (d.keep.log.length : Int); omega
  · show c.commit ≤ (d.reach m.commit).commit
    rw [hcm, g5]; omega
  · show min m.commit (c.keep.log.length : Int) ≤ ((d.reach m.commit).commit : Int)
    rw [hcm, g5]; omega
  · rw [hq]
    show d.msgs ++ [_] = [_]
    rw [g6, h0]; rfl
theorem count_commit (c : Core) : c.commit ≤ c.count.commit := by
  unfold Core.count
  split
  · show c.commit ≤ max c.commit _; omega
  · exact Nat.le_refl _
/-- the leader is told how many entries one has -/
theorem in_ok {c : Core} {m : Msg} (h : InOk c m) (hk : m.kind = 2) (hv : m.view = c.keep.view) (hl : c.leads = true) (h0 : c.msgs = []) :
    (c.in_ m).keep = c.keep ∧ (c.in_ m).ch = c.ch ∧ (c.in_ m).idle = c.idle ∧ (c.in_ m).msgs = [] ∧ c.commit ≤ (c.in_ m).commit ∧ (∀ y, c.has y ≤ (c.in_ m).has y) ∧ min m.at_ (c.keep.log.length : Int) ≤ (c.in_ m).has m.frm := by
  obtain ⟨d, hd⟩ : ∃ d : Core, d = { c with has := fun x => if x = m.frm then max (c.has x) (min m.at_ (c.keep.log.length : Int)) else c.has x } := ⟨_, rfl⟩
  have e : c.in_ m = d.count := by
    rw [c.in_high m h (by omega) (by omega)]
    unfold Core.inC
    rw [if_neg (by omega)]
    unfold Core.inD
    rw [if_neg (by omega), if_neg (by omega), if_neg (by omega), if_neg (by omega), if_pos ⟨hk, hv, hl⟩, hd]
  rw [e]
  obtain ⟨e1, e2, e3, e4, e5, e6, e7, e8, e9, e10⟩ := d.count_same
  have hh : ∀ y, d.has y = if y = m.frm then max (c.has y) (min m.at_ (c.keep.log.length : Int)) else c.has y := fun y => by rw [hd]
  refine ⟨e3.trans (by rw [hd]), e4.trans (by rw [hd]), e5.trans (by rw [hd]), e6.trans (by rw [hd]; exact h0), ?_, fun y => ?_, ?_⟩
  · have := count_commit d
    rw [show d.commit = c.commit by rw [hd]] at this
    exact this
  · rw [e9, hh]; split <;> omega
  · rw [e9, hh, if_pos rfl]; omega
theorem med_ge {l : List Int} {k : Int} (h : ∀ v ∈ l, k ≤ v) (h0 : l ≠ []) : k ≤ Core.med l := by
  unfold Core.med
  have hp := List.mergeSort_perm l (fun a b => decide (a ≤ b))
  have hl : 0 < l.length := List.length_pos_iff.2 h0
  have hi : (l.length - 1) / 2 < (l.mergeSort fun a b => decide (a ≤ b)).length := by rw [hp.length_eq]; omega
  rw [List.getD_eq_getElem?_getD, List.getElem?_eq_getElem hi]
  exact h _ (hp.mem_iff.1 (List.getElem_mem hi))
/-- the leader's unit of time -/
theorem tick_lead {c : Core} (hl : c.leads = true) (h0 : c.msgs = []) :
    c.tick.keep = c.keep ∧ c.tick.has = c.has ∧ c.commit ≤ c.tick.commit ∧ (∀ k : Nat, k ≤ c.keep.log.length → (∀ y, node c.n y → y ≠ c.me → (k : Int) ≤ c.has y) → k ≤ c.tick.commit) ∧
    (2 ≤ c.idle + 1 → c.tick.msgs = (c.others c.n).map fun tt => { Msg.z with kind := 1, to_ := tt, at_ := min (c.has tt) (c.keep.log.length : Int), commit := c.commit, list := (c.keep.log.drop (min (c.has tt) (c.keep.log.length : Int)).toNat).take 8, frm := c.me, shard := c.shard, view := c.keep.view }) := by
  obtain ⟨d, hd⟩ : ∃ d : Core, d = if 2 ≤ c.idle + 1 then ({ ({ c with idle := c.idle + 1 } : Core) with idle := 0 } : Core).feeds else ({ c with idle := c.idle + 1 } : Core) := ⟨_, rfl⟩
  have dl : ({ c with idle := c.idle + 1 } : Core).leads = true := hl
  have e : c.tick = d.count := by
    rw [hd]
    show (if ({ c with idle := c.idle + 1 } : Core).leads then _ else _) = _
    rw [if_pos dl]
  rw [e]
  obtain ⟨e1, e2, e3, e4, e5, e6, e7, e8, e9, e10⟩ := d.count_same
  have hk : d.keep = c.keep ∧ d.has = c.has ∧ d.commit = c.commit ∧ d.me = c.me ∧ d.n = c.n ∧ d.leads = true := by
    rw [hd]
    split
    · exact ⟨rfl, rfl, rfl, rfl, rfl, hl⟩
    · exact ⟨rfl, rfl, rfl, rfl, rfl, hl⟩
  obtain ⟨k1, k2, k3, k4, k5, k6⟩ := hk
  refine ⟨e3.trans k1, e9.trans k2, by have := count_commit d; omega, fun k hkl hh => ?_, fun hi => ?_⟩
  · unfold Core.count
    rw [if_pos k6]
    show k ≤ max d.commit (min (Core.med d.held) (d.keep.log.length : Int)).toNat
    have hm : (k : Int) ≤ Core.med d.held := med_ge (fun v hv => by
      unfold Core.held at hv
      rcases List.mem_cons.1 hv with e | e
      · rw [e, k1]; omega
      · obtain ⟨y, hy, rfl⟩ := List.mem_map.1 e
        obtain ⟨h1, h2⟩ := mem_others.1 hy
        rw [k2]
        exact hh y (by rw [← k5]; exact h1) (by rw [← k4]; exact h2)) (by unfold Core.held; simp)
    rw [k1]; omega
  · rw [e6, hd, if_pos hi]
    show c.msgs ++ _ = _
    rw [h0]; rfl
/-- a follower that has not waited too long -/
theorem tick_follow {c : Core} (hl : c.leads = false) (hc : c.ch = false) (ht : c.idle + 1 < c.pat + c.me) : c.tick = { c with idle := c.idle + 1 } := by
  have dl : ({ c with idle := c.idle + 1 } : Core).leads = false := hl
  show (if ({ c with idle := c.idle + 1 } : Core).leads then _ else if c.ch = true ∧ _ then _ else if c.ch = true ∨ c.idle + 1 ≥ c.pat + c.me then _ else _) = _
  rw [if_neg (by rw [dl]; simp), if_neg (by rw [hc]; simp), if_neg (by rw [hc]; simp; omega)]
def PrepTo (x : Gr) (y : Int) (P : Msg → Prop) : Prop := ∃ r ∈ x.mail, r.kind = 1 ∧ r.to_ = y ∧ P r
def OkOf (x : Gr) (y : Int) (P : Msg → Prop) : Prop := ∃ r ∈ x.mail, r.kind = 2 ∧ r.frm = y ∧ P r
def MailOk (V l : Int) (Lg : List Bs) (x : Gr) : Prop := ∀ m ∈ x.mail, m.view = V ∧ ((m.kind = 1 ∧ m.to_ ≠ l ∧ m.at_ ≤ (x.core m.to_).keep.log.length ∧ m.at_ + m.list.length ≤ Lg.length) ∨ (m.kind = 2 ∧ m.to_ = l))
/-- while messages come -/
structure GdJ (V : Int) (n : Nat) (l : Int) (Lg : List Bs) (h : Nat) (cm : Nat) (iz : Prop) (il : Int) (t x : Gr) : Prop where
  all : ∀ y, node n y → (x.core y).keep.view = V ∧ (x.core y).ch = false
  lg : (x.core l).keep.log = Lg
  mail : MailOk V l Lg x
  hs : ∀ y, node n y → y ≠ l → min (Lg.length : Int) h ≤ (x.core l).has y ∨ OkOf x y (fun r => min (Lg.length : Int) h ≤ r.at_) ∨ PrepTo x y fun r => min (Lg.length : Int) h ≤ r.at_ + r.list.length
  cq : ∀ y, node n y → y ≠ l → cm ≤ (x.core y).commit ∨ PrepTo x y fun r => (cm : Int) ≤ r.commit
  cl : ∀ y, node n y → cm ≤ (x.core y).keep.log.length
  il : (x.core l).idle = il
  fi : ∀ y, node n y → y ≠ l → 0 ≤ (x.core y).idle ∧ (iz → (x.core y).idle = 0 ∨ PrepTo x y fun _ => True) ∧ (¬ iz → (x.core y).idle ≤ 1)
  cmo : ∀ y, node n y → (t.core y).commit ≤ (x.core y).commit
theorem prep_next {z : Gr} {m : Msg} {r l : List Msg} (hz : z.mail = m :: r) {z' : Gr} (hz' : z'.mail = r ++ l) {y : Int} {P : Msg → Prop} (h : PrepTo z y P) : PrepTo z' y P ∨ (m.kind = 1 ∧ m.to_ = y ∧ P m) := by
  obtain ⟨q, h1, h2⟩ := h
  rw [hz] at h1
  rcases List.mem_cons.1 h1 with e | e
  · subst e; exact .inr h2
  · exact .inl ⟨q, by rw [hz']; exact List.mem_append_left _ e, h2⟩
theorem ok_next {z : Gr} {m : Msg} {r l : List Msg} (hz : z.mail = m :: r) {z' : Gr} (hz' : z'.mail = r ++ l) {y : Int} {P : Msg → Prop} (h : OkOf z y P) : OkOf z' y P ∨ (m.kind = 2 ∧ m.frm = y ∧ P m) := by
  obtain ⟨q, h1, h2⟩ := h
  rw [hz] at h1
  rcases List.mem_cons.1 h1 with e | e
  · subst e; exact .inr h2
  · exact .inl ⟨q, by rw [hz']; exact List.mem_append_left _ e, h2⟩
theorem GdJ.step {n : Nat} {s : Int → Int} {K : Nat} {V l : Int} {Lg : List Bs} {h cm : Nat} {iz : Prop} {il : Int} {t z : Gr} (hl : l = lead V n) (hLg : Lg.length ≤ 2000) (hd : D0 n s K z) (H : GdJ V n l Lg h cm iz il t z) {m : Msg} {r : List Msg} (hz : z.mail = m :: r) : GdJ V n l Lg h cm iz il t (deliver z) := by
  have hmem : m ∈ z.mail := by rw [hz]; exact List.mem_cons_self
  obtain ⟨d1, d2, d3, d4, d5, d6, hR⟩ := hd.deliver hz
  have g := hd.ok.mg hmem
  have hto : node n m.to_ := by rw [← hd.nn]; exact g.to_
  have hfrm : node n m.frm := by rw [← hd.nn]; exact g.frm
  have b := hd.ok.mb g.to_
  have hln : node n l := by rw [hl]; exact lead_node (by have := hto.1; have := hto.2; omega) V
  have same : ∀ y, y ≠ m.to_ → (deliver z).core y = z.core y := fun y hy => by rw [d5, updI_other _ _ hy]
  obtain ⟨hmv, hmk⟩ := H.mail m hmem
  obtain ⟨a1, a2⟩ := H.all _ hto
  rcases hmk with ⟨k1, k2, k3, k4⟩ | ⟨k1, k2⟩
  · have hfl : m.frm = l := by rw [g.k1 k1, hmv, hd.nn, hl]
    obtain ⟨p1, p2, p3, p4, p5, p6, p7, p8, q, p9, p10, p11, p12, p13, p14⟩ := in_prep g.inok k1 (hmv.trans a1.symm) a2 (by rw [b.n]; exact g.k1 k1) b.msgs k3 (by omega)
    obtain ⟨c', hc'⟩ : ∃ c', c' = (z.core m.to_).in_ m := ⟨_, rfl⟩
    rw [← hc'] at p1 p2 p3 p4 p5 p6 p7 p8 p9 p14 d5 d6
    have self : (deliver z).core m.to_ = c'.clear := by rw [d5, updI_same]
    have hL : (deliver z).core l = z.core l := same l fun e => k2 e.symm
    have hlog : ∀ y, (z.core y).keep.log.length ≤ ((deliver z).core y).keep.log.length := fun y => by
      by_cases e : y = m.to_
      · subst e; rw [self]; exact p5
      · rw [same y e]; exact Nat.le_refl _
    have hcm : ∀ y, (z.core y).commit ≤ ((deliver z).core y).commit := fun y => by
      by_cases e : y = m.to_
      · subst e; rw [self]; exact p7
      · rw [same y e]; exact Nat.le_refl _
    refine ⟨fun y hy => ?_, by rw [hL]; exact H.lg, fun w hw => ?_, fun y hy hne => ?_, fun y hy hne => ?_, fun y hy => Nat.le_trans (H.cl y hy) (hlog y), by rw [hL]; exact H.il, fun y hy hne => ?_, fun y hy => Nat.le_trans (H.cmo y hy) (hcm y)⟩
    · by_cases e : y = m.to_
      · subst e; rw [self]; exact ⟨p1.trans a1, p2⟩
      · rw [same y e]; exact H.all y hy
    · rw [d6] at hw
      rcases List.mem_append.1 hw with hw | hw
      · obtain ⟨w1, w2⟩ := H.mail w (by rw [hz]; exact List.mem_cons_of_mem _ hw)
        refine ⟨w1, ?_⟩
        rcases w2 with ⟨x1, x2, x3, x4⟩ | w2
        · exact .inl ⟨x1, x2, by have := hlog w.to_; omega, x4⟩
        · exact .inr w2
      · rw [p9] at hw
        rw [List.mem_singleton.1 hw]
        exact ⟨p13.trans a1, .inr ⟨p10, p12.trans hfl⟩⟩
    · rw [hL]
      rcases H.hs y hy hne with w | w | w
      · exact .inl w
      · rcases ok_next hz d6 w with w | ⟨w1, _⟩
        · exact .inr (.inl w)
        · omega
      · rcases prep_next hz d6 w with w | ⟨w1, w2, w3⟩
        · exact .inr (.inr w)
        · refine .inr (.inl ⟨q, by rw [d6, p9]; exact List.mem_append_right _ (List.mem_singleton.2 rfl), p10, by rw [p11, b.me]; exact w2, ?_⟩)
          show _ ≤ q.at_
          have w3 : min (Lg.length : Int) h ≤ m.at_ + m.list.length := w3
          rw [p14]; omega
    · rcases H.cq y hy hne with w | w
      · exact .inl (Nat.le_trans w (hcm y))
      · rcases prep_next hz d6 w with w | ⟨w1, w2, w3⟩
        · exact .inr w
        · left
          subst w2
          rw [self]
          show cm ≤ c'.commit
          have := H.cl _ hto
          omega
    · obtain ⟨i1, i2, i3⟩ := H.fi y hy hne
      by_cases e : y = m.to_
      · subst e
        rw [self]
        show 0 ≤ c'.idle ∧ (iz → c'.idle = 0 ∨ _) ∧ (¬ iz → c'.idle ≤ 1)
        rw [p3]
        exact ⟨Int.le_refl _, fun _ => .inl rfl, fun _ => by omega⟩
      · rw [same y e]
        refine ⟨i1, fun h => ?_, i3⟩
        rcases i2 h with w | w
        · exact .inl w
        · rcases prep_next hz d6 w with w | ⟨w1, w2, w3⟩
          · exact .inr w
          · exact absurd w2.symm e
  · have hlead : (z.core m.to_).leads = true := leads_is.2 ⟨a2, by rw [a1, b.n, b.me, hd.nn, k2, hl]⟩
    obtain ⟨p1, p2, p3, p4, p5, p6, p7⟩ := in_ok g.inok k1 (hmv.trans a1.symm) hlead b.msgs
    obtain ⟨c', hc'⟩ : ∃ c', c' = (z.core m.to_).in_ m := ⟨_, rfl⟩
    rw [← hc'] at p1 p2 p3 p4 p5 p6 p7 d5 d6
    rw [k2] at p1 p2 p3 p5 p6 p7 d5 a1 a2
    have self : (deliver z).core l = c'.clear := by rw [d5, updI_same]
    have same : ∀ y, y ≠ l → (deliver z).core y = z.core y := fun y hy => by rw [d5, updI_other _ _ hy]
    rw [p4, List.append_nil] at d6
    have d6' : (deliver z).mail = r ++ [] := by rw [d6, List.append_nil]
    have hlogE : ∀ y, ((deliver z).core y).keep = (z.core y).keep := fun y => by
      by_cases e : y = l
      · subst e; rw [self]; exact p1
      · rw [same y e]
    have hcm : ∀ y, (z.core y).commit ≤ ((deliver z).core y).commit := fun y => by
      by_cases e : y = l
      · subst e; rw [self]; exact p5
      · rw [same y e]; exact Nat.le_refl _
    refine ⟨fun y hy => ?_, by rw [hlogE]; exact H.lg, fun w hw => ?_, fun y hy hne => ?_, fun y hy hne => ?_, fun y hy => by rw [hlogE]; exact H.cl y hy, by rw [self]; exact p3.trans H.il, fun y hy hne => ?_, fun y hy => Nat.le_trans (H.cmo y hy) (hcm y)⟩
    · rw [hlogE]
      by_cases e : y = l
      · subst e; rw [self]; exact ⟨a1, p2.trans a2⟩
      · rw [same y e]; exact H.all y hy
    · rw [d6] at hw
      obtain ⟨w1, w2⟩ := H.mail w (by rw [hz]; exact List.mem_cons_of_mem _ hw)
      rw [hlogE]
      exact ⟨w1, w2⟩
    · rw [self]
      show _ ≤ c'.has y ∨ _
      rcases H.hs y hy hne with w | w | w
      · exact .inl (Int.le_trans w (p6 y))
      · rcases ok_next hz d6' w with w | ⟨w1, w2, w3⟩
        · exact .inr (.inl w)
        · left
          rw [← w2]
          rw [H.lg] at p7
          omega
      · rcases prep_next hz d6' w with w | ⟨w1, _⟩
        · exact .inr (.inr w)
        · omega
    · rw [same y hne]
      rcases H.cq y hy hne with w | w
      · exact .inl w
      · rcases prep_next hz d6' w with w | ⟨w1, _⟩
        · exact .inr w
        · omega
    · rw [same y hne]
      obtain ⟨i1, i2, i3⟩ := H.fi y hy hne
      refine ⟨i1, fun h => ?_, i3⟩
      rcases i2 h with w | w
      · exact .inl w
      · rcases prep_next hz d6' w with w | ⟨w1, _⟩
        · exact .inr w
        · omega
/-- all in a view that stays; the leader knows that all have h entries or all -/
structure Good (V : Int) (Lg : List Bs) (h : Nat) (K : Nat) (x : Gr) : Prop where
  ok : GOk x K
  n5 : 1 ≤ x.n ∧ x.n ≤ 5
  top : V < 1099511627776
  all : ∀ y, node x.n y → (x.core y).keep.view = V ∧ (x.core y).ch = false
  lg : (x.core (lead V x.n)).keep.log = Lg
  lgs : Lg.length ≤ 2000
  mail : MailOk V (lead V x.n) Lg x
  few : x.mail.length ≤ 4
  hs : ∀ y, node x.n y → y ≠ lead V x.n → min (Lg.length : Int) h ≤ (x.core (lead V x.n)).has y
  il : 0 ≤ (x.core (lead V x.n)).idle ∧ (x.core (lead V x.n)).idle ≤ 1
  fi : ∀ y, node x.n y → y ≠ lead V x.n → 3 ≤ x.pat + y ∧ 0 ≤ (x.core y).idle ∧ (x.core y).idle ≤ 1 ∧ ((x.core (lead V x.n)).idle = 0 → (x.core y).idle = 0)
/-- what a unit brings -/
structure GU (V : Int) (Lg : List Bs) (h : Nat) (x x' : Gr) : Prop where
  n : x'.n = x.n
  pat : x'.pat = x.pat
  mail : x'.mail = []
  cmo : ∀ y, node x.n y → (x.core y).commit ≤ (x'.core y).commit
  cl : Lg.length ≤ h → Lg.length ≤ (x'.core (lead V x.n)).commit
  i0 : (x.core (lead V x.n)).idle = 0 → (x'.core (lead V x.n)).idle = 1
  i1 : (x.core (lead V x.n)).idle = 1 → (x'.core (lead V x.n)).idle = 0 ∧ ∀ cm : Nat, cm ≤ (x.core (lead V x.n)).commit → (∀ y, node x.n y → cm ≤ (x.core y).keep.log.length) → ∀ y, node x.n y → y ≠ lead V x.n → cm ≤ (x'.core y).commit
theorem Good.uh {V : Int} {Lg : List Bs} {h K : Nat} {x : Gr} (g : Good V Lg h K x) : UH x K := by
  refine ⟨g.ok, g.n5, fun y hy => ?_, fun y hy => by rw [(g.all y hy).1]; exact g.top⟩
  by_cases h1 : 2 ≤ x.n
  · exact .inl h1
  · right
    have b := g.ok.mb hy
    have hn : x.n = 1 := by have := g.n5; omega
    have hln := lead_node g.n5.1 V
    refine leads_is.2 ⟨(g.all y hy).2, ?_⟩
    rw [(g.all y hy).1, b.n, b.me]
    unfold node at hy hln
    omega
theorem unit_good {V : Int} {Lg : List Bs} {h K : Nat} {x : Gr} (g : Good V Lg h K x) :
    Good V Lg (if (x.core (lead V x.n)).idle = 1 then h + 8 else h) (K + 1) (unit x) ∧ GU V Lg h x (unit x) ∧ (∀ k, D0 x.n (vs x) (K + 1) (mailRun (tickTo x x.n) k)) := by
  have u := g.uh
  have hln : node x.n (lead V x.n) := lead_node g.n5.1 V
  obtain ⟨l, hl⟩ : ∃ l, l = lead V x.n := ⟨_, rfl⟩
  have b : ∀ y, node x.n y → Mb x y := fun y hy => g.ok.mb hy
  have hlead : ∀ y, node x.n y → ((x.core y).leads = true ↔ y = l) := fun y hy => by
    rw [leads_is, (g.all y hy).1, (b y hy).n, (b y hy).me, ← hl]
    exact ⟨fun e => e.2.symm, fun e => ⟨(g.all y hy).2, e.symm⟩⟩
  obtain ⟨t1, t2, t3, t4, t5⟩ := tick_lead ((hlead l (by rw [hl]; exact hln)).2 rfl) (b l (by rw [hl]; exact hln)).msgs
  have TL := u.tk (y := l) (by rw [hl]; exact hln)
  have hnl : ∀ y, node x.n y → y ≠ l → (x.core y).leads = false := fun y hy hne => by
    cases e : (x.core y).leads with
    | false => rfl
    | true => exact absurd ((hlead y hy).1 e) hne
  have TF : ∀ y, node x.n y → y ≠ l → (x.core y).tick = { x.core y with idle := (x.core y).idle + 1 } := fun y hy hne => by
    obtain ⟨f1, f2, f3, f4⟩ := g.fi y hy (by rw [← hl]; exact hne)
    exact tick_follow (hnl y hy hne) (g.all y hy).2 (by rw [(b y hy).pat, (b y hy).me]; omega)
  have hc := fun y (hy : node x.n y) => u.core g.few hy
  have gl := g.all l (by rw [hl]; exact hln)
  have gil := g.il
  have glg := g.lg
  rw [← hl] at glg gil
  have kv : ∀ y, node x.n y → (x.core y).tick.keep = (x.core y).keep := fun y hy => by
    by_cases e : y = l
    · rw [e]; exact t1
    · rw [TF y hy e]
  have hmsg : ∀ y, node x.n y → y ≠ l → (x.core y).tick.msgs = [] := fun y hy e => by
    rw [TF y hy e]; exact (b y hy).msgs
  have hx : ∀ m ∈ x.mail, InS x.n (vs x) m.view := fun m hm => ⟨l, by rw [hl]; exact hln, by
    show ((tickTo x x.n).core l).keep.view = _
    rw [hc l (by rw [hl]; exact hln), (g.mail m hm).1]
    show (x.core l).tick.keep.view = V
    rw [t1]; exact gl.1⟩
  have htn : (tickTo x x.n).n = x.n := (u.d0 g.few hx).1.nn
  have tl : (tickTo x x.n).core l = (x.core l).tick.clear := hc l (by rw [hl]; exact hln)
  have tlog : ∀ y, node x.n y → ((tickTo x x.n).core y).keep = (x.core y).keep := fun y hy => by
    rw [hc y hy]; exact kv y hy
  have gh := good_ghost g.ok g.n5.1 g.all
  rw [← hl] at gh
  have has0 : ∀ y, 0 ≤ (x.core l).has y := fun y => by
    obtain ⟨⟨G, hG⟩, _⟩ := g.ok
    exact (hG.st l (by rw [hl]; exact hln)).has0 y
  have hilt : ((x.core l).idle = 0 → (x.core l).tick.idle = 1 ∧ (x.core l).tick.msgs = []) ∧ ((x.core l).idle = 1 → (x.core l).tick.idle = 0) ∧ (x.core l).tick.ch = false := by
    have hlt := (hlead l (by rw [hl]; exact hln)).2 rfl
    cases TL with
    | lead l0 keep ch low high msgs => exact ⟨fun e => by obtain ⟨q1, q2⟩ := low (by omega); exact ⟨by omega, q2⟩, fun e => (high (by omega)).1, ch⟩
    | wait nlr t t2 keep ch idle msgs => rw [hlt] at nlr; cases nlr
    | again ch t keep ch' idle msgs => rw [gl.2] at ch; cases ch
    | bgn ch view ch' idle ld msgs => rw [gl.2] at ch; cases ch
    | up nlr t view ch' idle begun dos starts msgs => rw [hlt] at nlr; cases nlr
  -- how it runs, whatever is aimed at
  have run : ∀ (h' cm : Nat), (h' = h ∨ ((x.core l).idle = 1 ∧ h' = h + 8)) → (cm = 0 ∨ ((x.core l).idle = 1 ∧ cm ≤ (x.core l).commit)) → (∀ y, node x.n y → cm ≤ (x.core y).keep.log.length) →
      (∀ k, D0 x.n (vs x) (K + 1) (mailRun (tickTo x x.n) k) ∧ GdJ V x.n l Lg h' cm ((x.core l).idle = 1) (x.core l).tick.idle (tickTo x x.n) (mailRun (tickTo x x.n) k)) ∧ (D0 x.n (vs x) (K + 1) (unit x) ∧ GdJ V x.n l Lg h' cm ((x.core l).idle = 1) (x.core l).tick.idle (tickTo x x.n) (unit x)) ∧ (unit x).mail = [] ∧ (unit x).pat = x.pat := by
    intro h' cm hh hcm hcl
    have feeds : (x.core l).idle = 1 → ∀ y, node x.n y → y ≠ l → ∃ r ∈ (tickTo x x.n).mail, r.kind = 1 ∧ r.to_ = y ∧ r.at_ = min ((x.core l).has y) (Lg.length : Int) ∧ r.commit = (x.core l).commit ∧ r.list = (Lg.drop (min ((x.core l).has y) (Lg.length : Int)).toNat).take 8 := fun hi y hy hne => by
      have hms := t5 (by omega)
      rw [glg] at hms
      have hmem : { Msg.z with kind := 1, to_ := y, at_ := min ((x.core l).has y) (Lg.length : Int), commit := (x.core l).commit, list := (Lg.drop (min ((x.core l).has y) (Lg.length : Int)).toNat).take 8, frm := (x.core l).me, shard := (x.core l).shard, view := (x.core l).keep.view } ∈ (x.core l).tick.msgs := by
        rw [hms]
        exact List.mem_map.2 ⟨y, mem_others.2 ⟨by rw [(b l (by rw [hl]; exact hln)).n]; exact hy, by rw [(b l (by rw [hl]; exact hln)).me]; exact hne⟩, rfl⟩
      exact ⟨_, u.sent g.few (by rw [hl]; exact hln) hmem, rfl, rfl, rfl, rfl, rfl⟩
    have hlens : ∀ a : Nat, a ≤ Lg.length → ((Lg.drop a).take 8).length = min 8 (Lg.length - a) := fun a ha => by rw [List.length_take, List.length_drop]
    refine u.run g.few hx (J := GdJ V x.n l Lg h' cm ((x.core l).idle = 1) (x.core l).tick.idle (tickTo x x.n)) ⟨fun y hy => ?_, ?_, fun m hmm => ?_, fun y hy hne => ?_, fun y hy hne => ?_, fun y hy => by rw [tlog y hy]; exact hcl y hy, by rw [tl]; rfl, fun y hy hne => ?_, fun y hy => Nat.le_refl _⟩ fun z hz hJ m r hmr => hJ.step hl g.lgs hz hmr
    · rw [hc y hy]
      refine ⟨?_, ?_⟩
      · show (x.core y).tick.keep.view = V
        rw [kv y hy]; exact (g.all y hy).1
      · show (x.core y).tick.ch = false
        by_cases e : y = l
        · rw [e]; exact hilt.2.2
        · rw [TF y hy e]; exact (g.all y hy).2
    · rw [tlog l (by rw [hl]; exact hln)]; exact glg
    · rcases u.mail g.few hmm with h1 | ⟨y, hy, h1⟩
      · obtain ⟨w1, w2⟩ := g.mail m h1
        have hto := (g.ok.mg h1).to_
        rw [tlog _ hto, hl]
        exact ⟨w1, w2⟩
      · by_cases e : y = l
        · subst e
          by_cases hi : (x.core y).idle = 1
          · rw [t5 (by omega)] at h1
            obtain ⟨z, hz, rfl⟩ := List.mem_map.1 h1
            obtain ⟨z1, z2⟩ := mem_others.1 hz
            rw [(b y hy).n] at z1
            rw [(b y hy).me] at z2
            refine ⟨gl.1, .inl ⟨rfl, z2, ?_, ?_⟩⟩
            · show min ((x.core y).has z) ((x.core y).keep.log.length : Int) ≤ (((tickTo x x.n).core z).keep.log.length : Int)
              rw [tlog z z1]
              have := (gh z z1).2 z2
              omega
            · show min ((x.core y).has z) ((x.core y).keep.log.length : Int) + ((((x.core y).keep.log.drop _).take 8).length : Int) ≤ _
              rw [glg]
              have := has0 z
              rw [hlens _ (by omega)]
              omega
          · rw [(hilt.1 (by omega)).2] at h1; cases h1
        · rw [hmsg y hy e] at h1; cases h1
    · have hs := g.hs y hy (by rw [← hl]; exact hne)
      rw [← hl] at hs
      rcases hh with rfl | ⟨hi, rfl⟩
      · left
        rw [tl]
        show _ ≤ (x.core l).tick.has y
        rw [t2]; exact hs
      · right; right
        obtain ⟨r, r1, r2, r3, r4, r5, r6⟩ := feeds hi y hy hne
        refine ⟨r, r1, r2, r3, ?_⟩
        have := has0 y
        show _ ≤ r.at_ + (r.list.length : Int)
        rw [r4, r6, hlens _ (by omega)]
        omega
    · rcases hcm with rfl | ⟨hi, hcm⟩
      · exact .inl (Nat.zero_le _)
      · obtain ⟨r, r1, r2, r3, r4, r5, r6⟩ := feeds hi y hy hne
        exact .inr ⟨r, r1, r2, r3, by show _ ≤ r.commit; rw [r5]; omega⟩
    · obtain ⟨f1, f2, f3, f4⟩ := g.fi y hy (by rw [← hl]; exact hne)
      rw [← hl] at f4
      have hid : ((tickTo x x.n).core y).idle = (x.core y).idle + 1 := by
        rw [hc y hy]
        show (x.core y).tick.idle = _
        rw [TF y hy hne]
      rw [hid]
      refine ⟨by omega, fun hi => ?_, fun hi => by have := f4 (by omega); omega⟩
      obtain ⟨r, r1, r2, r3, _⟩ := feeds hi y hy hne
      exact .inr ⟨r, r1, r2, r3, trivial⟩
  have noP : ∀ {y : Int} {P : Msg → Prop}, (unit x).mail = [] → ¬ PrepTo (unit x) y P := fun hm ⟨r, hr, _⟩ => by rw [hm] at hr; cases hr
  have noO : ∀ {y : Int} {P : Msg → Prop}, (unit x).mail = [] → ¬ OkOf (unit x) y P := fun hm ⟨r, hr, _⟩ => by rw [hm] at hr; cases hr
  obtain ⟨h', hh'⟩ : ∃ h' : Nat, h' = if (x.core l).idle = 1 then h + 8 else h := ⟨_, rfl⟩
  have hor : h' = h ∨ ((x.core l).idle = 1 ∧ h' = h + 8) := by
    rw [hh']
    split
    · rename_i e; exact .inr ⟨e, rfl⟩
    · exact .inl rfl
  obtain ⟨r1, r4, r2, r3⟩ := run h' 0 hor (.inl rfl) fun _ _ => Nat.zero_le _
  have hD : D0 x.n (vs x) (K + 1) (unit x) := r4.1
  have J : GdJ V x.n l Lg h' 0 ((x.core l).idle = 1) (x.core l).tick.idle (tickTo x x.n) (unit x) := r4.2
  have hn : (unit x).n = x.n := hD.nn
  rw [← hl, ← hh']
  refine ⟨⟨hD.ok, by rw [hn]; exact g.n5, g.top, by rw [hn]; exact J.all, by rw [hn, ← hl]; exact J.lg, g.lgs, by rw [hn, ← hl]; exact J.mail, by rw [r2]; exact Nat.zero_le _, ?_, ?_, ?_⟩, ⟨hn, r3, r2, fun y hy => ?_, fun hle => ?_, fun e => ?_, fun e => ⟨?_, fun cm hcm hcl y hy hne => ?_⟩⟩, fun k => (r1 k).1⟩
  · rw [hn, ← hl]
    intro y hy hne
    rcases J.hs y hy hne with w | w | w
    · exact w
    · exact absurd w (noO r2)
    · exact absurd w (noP r2)
  · rw [hn, ← hl, J.il]
    have : (x.core l).idle = 0 ∨ (x.core l).idle = 1 := by omega
    rcases this with e | e
    · rw [(hilt.1 e).1]; omega
    · rw [hilt.2.1 e]; omega
  · rw [hn, ← hl, r3]
    intro y hy hne
    obtain ⟨i1, i2, i3⟩ := J.fi y hy hne
    have h3 := (g.fi y hy (by rw [← hl]; exact hne)).1
    rw [J.il]
    by_cases e : (x.core l).idle = 1
    · rcases i2 e with w | w
      · exact ⟨h3, by omega, by omega, fun _ => w⟩
      · exact absurd w (noP r2)
    · have e0 : (x.core l).idle = 0 := by omega
      refine ⟨h3, i1, i3 e, fun e1 => ?_⟩
      rw [(hilt.1 e0).1] at e1
      omega
  · have h1 := J.cmo y hy
    rw [hc y hy] at h1
    have h2 : (x.core y).commit ≤ (x.core y).tick.commit := by
      by_cases e : y = l
      · rw [e]; exact t3
      · rw [TF y hy e]; exact Nat.le_refl _
    exact Nat.le_trans h2 h1
  · have h1 := J.cmo l (by rw [hl]; exact hln)
    rw [tl] at h1
    have h1 : (x.core l).tick.commit ≤ ((unit x).core l).commit := h1
    rw [← hl]
    refine Nat.le_trans (t4 Lg.length (by rw [glg]; exact Nat.le_refl _) fun y hy hne => ?_) h1
    rw [(b l (by rw [hl]; exact hln)).n] at hy
    rw [(b l (by rw [hl]; exact hln)).me] at hne
    have := g.hs y hy (by rw [← hl]; exact hne)
    rw [← hl] at this
    omega
  · rw [← hl] at e ⊢
    rw [J.il]; exact (hilt.1 e).1
  · rw [← hl] at e ⊢
    rw [J.il]; exact hilt.2.1 e
  · rw [← hl] at e hcm hne
    obtain ⟨q1, q4, q2, q3⟩ := run h' cm hor (.inr ⟨e, hcm⟩) hcl
    rcases q4.2.cq y hy hne with w | w
    · exact w
    · exact absurd w (noP r2)
end Vw
end Go.Proofs.Ytmmgnbdngpkfcaa

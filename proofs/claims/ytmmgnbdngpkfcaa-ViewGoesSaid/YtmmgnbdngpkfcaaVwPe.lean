/-
  What holds of a group that keeps one log, while a member takes a step: plain laws.
  What holds of a group that keeps one log: a log is taken over, a view begins, entries are counted: plain laws.
  What holds of a group that keeps one log: each thing that a member does: plain laws.
  What holds of a group that keeps one log: a member takes a message, a unit of time, an entry: plain laws.
  What holds of a group that keeps one log: the group's steps: plain laws.
-/
import Derived.Test.YtmmgnbdngpkfcaaVwCc
import Derived.Test.YtmmgnbdngpkfcaaVwGh
namespace Go.Proofs.Ytmmgnbdngpkfcaa
set_option linter.unusedVariables false
namespace Vw
variable {G G0 G' : Gh}

def lays (k : Keep) (rs : List Rc) : Keep := rs.foldl lay k
theorem lays_snoc (k : Keep) (rs : List Rc) (r : Rc) : lays k (rs ++ [r]) = lay (lays k rs) r := by unfold lays; rw [List.foldl_append]; rfl

/-- what lasts of a member stands for -/
structure KeepOk (G : Gh) (x : Int) (k : Keep) : Prop where
  V : G.V x = k.view
  N : G.N x = k.normal
  view : 0 ≤ k.normal ∧ k.normal ≤ k.view ∧ k.view ≤ 1099511627776
  small : Small k.log
  hist : G.Hist k.normal k.log
  acks : G.Acks x k.normal k.log
/-- what a message stands for -/
structure MsgOk (G : Gh) (m : Msg) : Prop where
  shard : m.shard = 2
  frm : node G.n m.frm
  to_ : node G.n m.to_
  ne : m.frm ≠ m.to_
  view : 0 ≤ m.view ∧ m.view ≤ 1099511627776
  vv : m.view ≤ G.V m.frm
  normal : 0 ≤ m.normal ∧ m.normal ≤ m.view
  at_ : 0 ≤ m.at_ ∧ m.at_ ≤ 2000
  small : Small m.list
  kind : 1 ≤ m.kind ∧ m.kind ≤ 5
  k1 : m.kind = 1 → m.frm = G.ld m.view ∧ G.PrepOk m.view m.at_.toNat m.list ∧ G.CmAt m.view m.commit
  k2 : m.kind = 2 → m.at_.toNat ≤ G.ack m.frm m.view
  k4 : m.kind = 4 → G.DoOk m.frm m.view m.normal m.commit m.list
  k5 : m.kind = 5 → m.frm = G.ld m.view ∧ G.Hist m.view m.list ∧ G.CmAt m.view m.commit
theorem Ext.ld {x : Int} (h : Ext x G G') (v : Int) : G'.ld v = G.ld v := by unfold Gh.ld; rw [h.n]
theorem Ext.nd {x y : Int} (h : Ext x G G') : node G'.n y ↔ node G.n y := by rw [h.n]
theorem MsgOk.ext {x : Int} (h : Ext x G G') {m : Msg} (hm : MsgOk G m) : MsgOk G' m :=
  ⟨hm.shard, h.nd.2 hm.frm, h.nd.2 hm.to_, hm.ne, hm.view, Int.le_trans hm.vv (h.vmono _), hm.normal, hm.at_, hm.small, hm.kind,
   fun k => ⟨(hm.k1 k).1.trans (h.ld _).symm, h.prep (hm.k1 k).2.1, h.cmAt (hm.k1 k).2.2⟩,
   fun k => Nat.le_trans (hm.k2 k) (h.a1 _ _),
   fun k => h.doOk (hm.k4 k),
   fun k => ⟨(hm.k5 k).1.trans (h.ld _).symm, h.hist (hm.k5 k).2.1, h.cmAt (hm.k5 k).2.2⟩⟩
/-- what a member stands for, but for what it gives out -/
structure St (G : Gh) (x : Int) (c : Core) : Prop where
  me : c.me = x
  n : c.n = G.n
  nd : node G.n x
  shard : c.shard = 2
  keep : KeepOk G x c.keep
  ch : c.ch = true ↔ c.keep.view ≠ c.keep.normal
  cm : G.Cm c.keep.normal c.commit c.keep.log
  own : c.leads = true → c.keep.log.length ≤ G.ack x c.keep.view
  has : c.leads = true → ∀ y, node G.n y → y ≠ x → (c.has y).toNat ≤ G.ack y c.keep.view
  has0 : ∀ y, 0 ≤ c.has y
  dos : ∀ y m, c.dos y = some m → node G.n y ∧ (Small m.list ∧ 0 ≤ m.normal) ∧ G.DoOk y c.keep.view m.normal m.commit m.list
theorem KeepOk.ext {x y : Int} (h : Ext x G G') (hy : y ≠ x) {k : Keep} (hk : KeepOk G y k) : KeepOk G' y k :=
  ⟨(h.v1 y hy).trans hk.V, (h.n1 y hy).trans hk.N, hk.view, hk.small, h.hist hk.hist, h.acks hy hk.acks⟩
/-- what another one stands for stays -/
theorem St.ext {x y : Int} (h : Ext x G G') (hy : y ≠ x) {c : Core} (s : St G y c) : St G' y c :=
  ⟨s.me, s.n.trans h.n.symm, h.nd.2 s.nd, s.shard, s.keep.ext h hy, s.ch, h.cm s.cm, fun l => Nat.le_trans (s.own l) (h.a1 _ _), fun l z hz hzy => Nat.le_trans (s.has l z (h.nd.1 hz) hzy) (h.a1 _ _), s.has0, fun z m hm => ⟨h.nd.2 (s.dos z m hm).1, (s.dos z m hm).2.1, h.doOk (s.dos z m hm).2.2⟩⟩
theorem St.ldl {x : Int} {c : Core} (s : St G x c) (v : Int) : lead v c.n = G.ld v := by unfold lead Gh.ld; rw [s.n]
theorem St.vn {x : Int} {c : Core} (s : St G x c) (h : c.ch = false) : c.keep.normal = c.keep.view := by
  have := s.ch
  rw [h] at this
  exact Classical.byContradiction fun hn => by
    have := this.2 fun e => hn e.symm
    cases this
theorem St.lt {x : Int} {c : Core} (s : St G x c) (h : c.ch = true) : c.keep.normal < c.keep.view := by
  have h1 := s.ch.1 h
  have := s.keep.view
  omega
theorem St.leads {x : Int} {c : Core} (s : St G x c) (h : c.leads = true) : c.keep.normal = c.keep.view ∧ x = G.ld c.keep.view ∧ c.ch = false := by
  unfold Core.leads at h
  rw [Bool.and_eq_true, decide_eq_true_eq] at h
  have hc : c.ch = false := by simpa using h.1
  exact ⟨s.vn hc, by rw [← s.ldl, h.2, s.me], hc⟩
/-- a step of member x under way: it stood at c0, the ghost at G0 -/
structure Act (G0 : Gh) (x : Int) (c0 : Core) (G : Gh) (c : Core) : Prop where
  ext : Ext x G0 G
  gi : G.GI
  st : St G x c
  lays : c.keep = lays c0.keep c.recs
  cuts : ∀ k, ∃ Gk, Ext x G0 Gk ∧ Gk.GI ∧ KeepOk Gk x (Vw.lays c0.keep (c.recs.take k))
  msgs : ∀ m ∈ c.msgs, MsgOk G m ∧ m.frm = x
  com : c0.commit ≤ c.commit
  done : c.done = (c.keep.log.take c.commit).drop c0.commit
  pat : c.pat = c0.pat
  idle : c.idle ≤ c0.idle + 1 ∨ c.idle = 0
  ra : ∀ r ∈ c.recs, 0 ≤ r.a ∧ r.a ≤ 1099511627776
theorem Act.start {x : Int} {c : Core} (hI : G.GI) (s : St G x c) (h : c.recs = [] ∧ c.msgs = [] ∧ c.done = []) : Act G x c G c :=
  ⟨Ext.refl _ _, hI, s, by rw [h.1]; rfl, fun k => ⟨G, Ext.refl _ _, hI, by rw [h.1]; simpa [Vw.lays] using s.keep⟩, (by rw [h.2.1]; simp), Nat.le_refl _, by rw [h.2.2, List.drop_take]; simp, rfl, .inl (by omega), by rw [h.1]; simp⟩
/-- a message more -/
theorem Act.send {x : Int} {c0 c : Core} (a : Act G0 x c0 G c) (m : Msg) (hm : MsgOk G { m with frm := c.me, shard := c.shard, view := c.keep.view }) : Act G0 x c0 G (c.send m) :=
  ⟨a.ext, a.gi, ⟨a.st.me, a.st.n, a.st.nd, a.st.shard, a.st.keep, a.st.ch, a.st.cm, a.st.own, a.st.has, a.st.has0, a.st.dos⟩, a.lays, a.cuts, fun m' h' => by
    rcases List.mem_append.1 h' with h | h
    · exact a.msgs m' h
    · rw [List.mem_singleton.1 h]; exact ⟨hm, a.st.me⟩, a.com, a.done, a.pat, a.idle, a.ra⟩
theorem mem_others {c : Core} {y : Int} : y ∈ c.others c.n ↔ node c.n y ∧ y ≠ c.me := by
  unfold Core.others node
  simp only [List.mem_filter, List.mem_map, List.mem_range, decide_eq_true_eq]
  constructor
  · rintro ⟨⟨i, hi, rfl⟩, h⟩
    exact ⟨by omega, h⟩
  · rintro ⟨h, hne⟩
    exact ⟨⟨(y - 1).toNat, by omega, by omega⟩, hne⟩
theorem Act.msgs' {x : Int} {c0 c : Core} (a : Act G0 x c0 G c) (f : Int → Msg) (hm : ∀ y, node G.n y → y ≠ x → MsgOk G (f y) ∧ (f y).frm = x) : Act G0 x c0 G { c with msgs := c.msgs ++ (c.others c.n).map f } :=
  ⟨a.ext, a.gi, ⟨a.st.me, a.st.n, a.st.nd, a.st.shard, a.st.keep, a.st.ch, a.st.cm, a.st.own, a.st.has, a.st.has0, a.st.dos⟩, a.lays, a.cuts, fun m' h' => by
    rcases List.mem_append.1 h' with h | h
    · exact a.msgs m' h
    · obtain ⟨y, hy, rfl⟩ := List.mem_map.1 h
      obtain ⟨h1, h2⟩ := mem_others.1 hy
      exact hm y (by rw [← a.st.n]; exact h1) (by rw [← a.st.me]; exact h2), a.com, a.done, a.pat, a.idle, a.ra⟩
theorem Act.all {x : Int} {c0 c : Core} (a : Act G0 x c0 G c) (m : Msg) (hm : ∀ y, node G.n y → y ≠ x → MsgOk G { m with to_ := y, frm := c.me, shard := c.shard, view := c.keep.view }) : Act G0 x c0 G (c.all m) :=
  a.msgs' (fun y => { m with to_ := y, frm := c.me, shard := c.shard, view := c.keep.view }) fun y h1 h2 => ⟨hm y h1 h2, a.st.me⟩
/-- entries are done -/
theorem Act.reach {x : Int} {c0 c : Core} (a : Act G0 x c0 G c) (k : Int) (hk : G.CmAt c.keep.normal k) : Act G0 x c0 G (c.reach k) := by
  have h1 := cm_of_hist a.st.keep.hist hk
  obtain ⟨j, hj⟩ : ∃ j, j = max c.commit (min k (c.keep.log.length : Int)).toNat := ⟨_, rfl⟩
  have h2 : G.Cm c.keep.normal j c.keep.log := by
    rcases Nat.le_total c.commit (min k (c.keep.log.length : Int)).toNat with e | e
    · rw [hj, Nat.max_eq_right e]; exact h1
    · rw [hj, Nat.max_eq_left e]; exact a.st.cm
  have e : c.reach k = { c with commit := j, done := c.done ++ (c.keep.log.take j).drop c.commit } := by unfold Core.reach; rw [hj]
  rw [e]
  refine ⟨a.ext, a.gi, ⟨a.st.me, a.st.n, a.st.nd, a.st.shard, a.st.keep, a.st.ch, h2, a.st.own, a.st.has, a.st.has0, a.st.dos⟩, a.lays, a.cuts, a.msgs, by show c0.commit ≤ j; have := a.com; omega, ?_, a.pat, a.idle, a.ra⟩
  show c.done ++ (c.keep.log.take j).drop c.commit = (c.keep.log.take j).drop c0.commit
  have hcj : c.commit ≤ j := by omega
  have h3 := Cm.fits a.st.cm
  have h4 := a.com
  rw [a.done]
  have e1 : c.keep.log.take j = c.keep.log.take c.commit ++ (c.keep.log.take j).drop c.commit := by
    have := List.take_append_drop c.commit (c.keep.log.take j)
    rw [List.take_take, Nat.min_eq_left hcj] at this
    exact this.symm
  conv => rhs; rw [e1]
  rw [List.drop_append_of_le_length (by rw [List.length_take]; omega)]
end Vw
end Go.Proofs.Ytmmgnbdngpkfcaa

namespace Go.Proofs.Ytmmgnbdngpkfcaa
set_option linter.unusedVariables false
namespace Vw
variable {G G0 G' : Gh}

/-- wherever the power goes -/
def Cuts (P : Keep → Prop) (k0 : Keep) (rs : List Rc) : Prop := ∀ k, P (lays k0 (rs.take k))
theorem Cuts.snoc {P : Keep → Prop} {k0 : Keep} {rs : List Rc} {r : Rc} (h : Cuts P k0 rs) (hr : P (lay (lays k0 rs) r)) : Cuts P k0 (rs ++ [r]) := by
  intro k
  by_cases hk : k ≤ rs.length
  · rw [List.take_append_of_le_length hk]; exact h k
  · rw [List.take_of_length_le (by simp; omega), lays_snoc]; exact hr
theorem Cuts.mono {P Q : Keep → Prop} {k0 : Keep} {rs : List Rc} (h : Cuts P k0 rs) (hq : ∀ k, P k → Q k) : Cuts Q k0 rs := fun k => hq _ (h k)
/-- what lasts while a log is taken over -/
theorem puts_cuts {P : Keep → Prop} {k0 : Keep} {V N : Int} {B : List Bs} {s : Nat} (hs : s ≤ B.length) (c : Core) (h : Cuts P k0 c.recs) (hk : lays k0 c.recs = ⟨V, N, B.take s⟩)
    (hp : ∀ j, s ≤ j → P ⟨V, N, B.take j⟩) : ∀ i, i ≤ (B.drop s).length → Cuts P k0 (c.puts ((B.drop s).take i)).recs ∧ lays k0 (c.puts ((B.drop s).take i)).recs = ⟨V, N, B.take (s + i)⟩
  | 0, _ => by simpa [Core.puts] using ⟨h, hk⟩
  | i + 1, hi => by
    obtain ⟨h1, h2⟩ := puts_cuts hs c h hk hp i (by omega)
    have hi' : i < (B.drop s).length := hi
    have hl : s + i < B.length := by rw [List.length_drop] at hi'; omega
    rw [c.puts_succ _ _ hi']
    have e : lay (lays k0 (c.puts ((B.drop s).take i)).recs) ⟨2, 0, 0, (B.drop s)[i]⟩ = ⟨V, N, B.take (s + (i + 1))⟩ := by
      rw [h2]
      show Keep.mk V N (B.take (s + i) ++ [(B.drop s)[i]]) = _
      rw [List.getElem_drop, ← List.take_succ_eq_append_getElem hl]
      rfl
    refine ⟨h1.snoc (by rw [e]; exact hp _ (by omega)), ?_⟩
    show lays k0 ((c.puts ((B.drop s).take i)).recs ++ [_]) = _
    rw [lays_snoc, e]
theorem adopt_cuts {P : Keep → Prop} {k0 : Keep} {V N : Int} {B : List Bs} (c : Core) (h : Cuts P k0 c.recs) (hk : lays k0 c.recs = ⟨V, N, c.keep.log⟩)
    (hp : ∀ j, Core.cp B c.keep.log ≤ j → P ⟨V, N, B.take j⟩) (hw : P ⟨c.keep.view, c.keep.view, B⟩) : Cuts P k0 (c.adopt B).recs ∧ lays k0 (c.adopt B).recs = ⟨c.keep.view, c.keep.view, B⟩ := by
  obtain ⟨s, hs⟩ : ∃ s, s = Core.cp B c.keep.log := ⟨_, rfl⟩
  have hsl := cp_le B c.keep.log
  have hst := cp_take B c.keep.log
  rw [c.adopt_eq]
  rw [← hs] at hsl hst hp ⊢
  have h1 : Cuts P k0 (c.cut1 s).recs ∧ lays k0 (c.cut1 s).recs = ⟨V, N, B.take s⟩ := by
    unfold Core.cut1
    split
    · have e : lay (lays k0 c.recs) ⟨3, s, 0, []⟩ = ⟨V, N, B.take s⟩ := by
        rw [hk]
        show Keep.mk V N (c.keep.log.take (min (max (s : Int) 0) (c.keep.log.length : Int)).toNat) = _
        rw [show (min (max (s : Int) 0) (c.keep.log.length : Int)).toNat = s by omega, hst]
      refine ⟨h.snoc (by rw [e]; exact hp _ (Nat.le_refl _)), ?_⟩
      show lays k0 (c.recs ++ [_]) = _
      rw [lays_snoc, e]
    · refine ⟨h, ?_⟩
      rw [hk, hst, List.take_of_length_le (by omega)]
  obtain ⟨h2, h3⟩ := puts_cuts hsl.1 (c.cut1 s) h1.1 h1.2 hp (B.drop s).length (Nat.le_refl _)
  rw [List.take_of_length_le (Nat.le_refl _)] at h2 h3
  have e : lay (lays k0 ((c.cut1 s).puts (B.drop s)).recs) ⟨1, c.keep.view, c.keep.view, []⟩ = ⟨c.keep.view, c.keep.view, B⟩ := by
    rw [h3]
    show Keep.mk c.keep.view c.keep.view (B.take (s + (B.drop s).length)) = _
    rw [List.take_of_length_le (by rw [List.length_drop]; omega)]
  refine ⟨h2.snoc (by rw [e]; exact hw), ?_⟩
  show lays k0 (((c.cut1 s).puts (B.drop s)).recs ++ [_]) = _
  rw [lays_snoc, e]
theorem small_take {l : List Bs} (h : Small l) (j : Nat) : Small (l.take j) := ⟨by rw [List.length_take]; have := h.1; omega, fun b hb => h.2 b (List.mem_of_mem_take hb)⟩
theorem small_drop {l : List Bs} (h : Small l) (j : Nat) : Small (l.drop j) := ⟨by rw [List.length_drop]; have := h.1; omega, fun b hb => h.2 b (List.mem_of_mem_drop hb)⟩
/-- what the records of a log that is taken over say -/
theorem puts_ra {P : Rc → Prop} (hp : ∀ b, P ⟨2, 0, 0, b⟩) : ∀ (l : List Bs) (c : Core), (∀ r ∈ c.recs, P r) → ∀ r ∈ (c.puts l).recs, P r
  | [], c, h => h
  | b :: l, c, h => puts_ra hp l (c.rec_ ⟨2, 0, 0, b⟩) fun r hr => by
    rcases List.mem_append.1 hr with h1 | h1
    · exact h r h1
    · rw [List.mem_singleton.1 h1]; exact hp b
theorem adopt_ra (c : Core) (B : List Bs) (h : ∀ r ∈ c.recs, 0 ≤ r.a ∧ r.a ≤ 1099511627776) (hv : 0 ≤ c.keep.view ∧ c.keep.view ≤ 1099511627776) (hB : Small B) : ∀ r ∈ (c.adopt B).recs, 0 ≤ r.a ∧ r.a ≤ 1099511627776 := by
  rw [c.adopt_eq]
  intro r hr
  have hr : r ∈ ((c.cut1 (Core.cp B c.keep.log)).puts (B.drop (Core.cp B c.keep.log))).recs ++ [⟨1, c.keep.view, c.keep.view, []⟩] := hr
  rcases List.mem_append.1 hr with h1 | h1
  · refine puts_ra (P := fun r => 0 ≤ r.a ∧ r.a ≤ 1099511627776) (fun b => ⟨Int.le_refl 0, by show (0 : Int) ≤ _; decide⟩) _ _ (fun r hr => ?_) r h1
    unfold Core.cut1 at hr
    split at hr
    · have hr : r ∈ c.recs ++ [⟨3, (Core.cp B c.keep.log : Int), 0, []⟩] := hr
      rcases List.mem_append.1 hr with h2 | h2
      · exact h r h2
      · rw [List.mem_singleton.1 h2]
        have h3 := (cp_le B c.keep.log).1
        have h4 := hB.1
        exact ⟨by show 0 ≤ (Core.cp B c.keep.log : Int); omega, by show (Core.cp B c.keep.log : Int) ≤ _; omega⟩
    · exact h r hr
  · rw [List.mem_singleton.1 h1]; exact hv
/-- a log is taken over -/
theorem Act.adopt {x : Int} {c0 c : Core} (a : Act G0 x c0 G c) (w : Int) (B : List Bs) (hw : w ≤ 1099511627776) (hN : c.keep.normal < w) (hB : G.Serves w B) (hs : Small B) (e : Ext x G G') (hI : G'.GI) (hV : G'.V x = w) (hN' : G'.N x = w) (hh : G'.Hist w B) (ha : G'.Acks x w B) (hown : G.ld w = x → B.length ≤ G'.ack x w) :
    Act G0 x c0 G' ({ c with keep := { c.keep with view := w } }.adopt B) ∧ ({ c with keep := { c.keep with view := w } }.adopt B).keep = ⟨w, w, B⟩ ∧ ({ c with keep := { c.keep with view := w } }.adopt B).ch = false := by
  obtain ⟨c1, hc1⟩ : ∃ c1 : Core, c1 = { c with keep := { c.keep with view := w } } := ⟨_, rfl⟩
  rw [← hc1]
  have hv0 := a.st.keep.view
  have hlog : c1.keep.log = c.keep.log := by rw [hc1]
  have hview : c1.keep.view = w := by rw [hc1]
  obtain ⟨k1, k2, k3, k4, k5, k6, k7, k8, k9⟩ := c1.adopt_log B
  rw [hview] at k1
  have hK : KeepOk G' x ⟨w, w, B⟩ := ⟨hV, hN', ⟨by show 0 ≤ w; omega, Int.le_refl _, hw⟩, hs, hh, ha⟩
  have hext := a.ext.trans e
  have hC := adopt_cuts (P := fun K => ∃ Gk, Ext x G0 Gk ∧ Gk.GI ∧ KeepOk Gk x K) (k0 := c0.keep) (V := c.keep.view) (N := c.keep.normal) (B := B) c1 (by rw [hc1]; exact a.cuts) (by rw [hlog, hc1]; exact a.lays.symm)
    (fun j hj => ⟨G, a.ext, a.gi, ⟨a.st.keep.V, a.st.keep.N, a.st.keep.view, small_take hs j, mix_hist hB hN (by rw [hlog] at hj; exact hj) a.st.keep.hist, mix_acks hB hN (by rw [hlog] at hj; exact hj) a.st.keep.acks⟩⟩)
    ⟨G', hext, hI, by rw [hview]; exact hK⟩
  rw [hview] at hC
  have hcm' : G'.Cm w c.commit B := cm_later (e.cm a.st.cm) hN hh
  have hld : (c1.adopt B).leads = true → G.ld w = x := by
    intro h
    unfold Core.leads at h
    rw [Bool.and_eq_true, decide_eq_true_eq, k1, k3, k4, hc1] at h
    have := h.2
    rw [a.st.me] at this
    rw [← a.st.ldl]; exact this
  refine ⟨⟨hext, hI, ⟨k4.trans (by rw [hc1]; exact a.st.me), k3.trans (by rw [hc1]; exact a.st.n.trans e.n.symm), e.nd.2 a.st.nd, k5.trans (by rw [hc1]; exact a.st.shard), by rw [k1]; exact hK, ?_, ?_, ?_, ?_, ?_, ?_⟩, by rw [k1]; exact hC.2.symm, hC.1, ?_, ?_, ?_, ?_, ?_, adopt_ra c1 B (by rw [hc1]; exact a.ra) (by rw [hview]; exact ⟨by omega, hw⟩) hs⟩, k1, ?_⟩
  · rw [k1]
    have : (c1.adopt B).ch = false := by rw [c1.adopt_eq]
    rw [this]; simp
  · rw [k1, k7, hc1]; exact hcm'
  · intro h; rw [k1]; exact hown (hld h)
  · intro _ y _ _
    have : (c1.adopt B).has = fun _ => 0 := by rw [c1.adopt_eq]
    rw [this]; simp
  · intro y
    have : (c1.adopt B).has = fun _ => 0 := by rw [c1.adopt_eq]
    rw [this]; exact Int.le_refl _
  · intro y m hm
    have : (c1.adopt B).dos = fun _ => none := by rw [c1.adopt_eq]
    rw [this] at hm; cases hm
  · intro m hm
    rw [k8, hc1] at hm
    exact ⟨(a.msgs m hm).1.ext e, (a.msgs m hm).2⟩
  · rw [k7, hc1]; exact a.com
  · rw [k9, k7, k1, hc1]
    show c.done = (B.take c.commit).drop c0.commit
    rw [a.done, cm_same hI (e.cm a.st.cm) hcm' (Nat.le_refl _)]
  · rw [k6, hc1]; exact a.pat
  · right; rw [c1.adopt_eq]
  · rw [c1.adopt_eq]
/-- what most have -/
theorem others_nodup (c : Core) (j : Nat) : (c.others j).Nodup := by
  unfold Core.others
  refine List.Pairwise.filter _ (List.pairwise_map.2 ?_)
  exact (List.nodup_range (n := j)).imp fun h e => h (by omega)
theorem med_maj {x : Int} {c : Core} (s : St G x c) (hl : c.leads = true) : G.CmAt c.keep.view (Core.med c.held) := by
  by_cases h0 : Core.med c.held ≤ 0
  · exact .inl h0
  refine .inr ⟨_, Int.le_refl _, ?_⟩
  obtain ⟨d, hd⟩ : ∃ d, d = Core.med c.held := ⟨_, rfl⟩
  rw [← hd] at h0 ⊢
  obtain ⟨val, hval⟩ : ∃ val : Int → Int, val = fun y => if y = x then (c.keep.log.length : Int) else c.has y := ⟨_, rfl⟩
  obtain ⟨nodes, hnodes⟩ : ∃ nodes, nodes = x :: c.others c.n := ⟨_, rfl⟩
  have hx : x ∉ c.others c.n := fun h => (mem_others.1 h).2 s.me.symm
  have hheld : c.held = nodes.map val := by
    rw [hnodes, hval]
    show (c.keep.log.length : Int) :: (c.others c.n).map c.has = (if x = x then _ else _) :: (c.others c.n).map _
    rw [if_pos rfl]
    congr 1
    refine List.map_congr_left fun y hy => ?_
    rw [if_neg (fun e => hx (by rw [← e]; exact hy))]
  have hnd : nodes.Nodup := by rw [hnodes]; exact List.nodup_cons.2 ⟨hx, others_nodup c c.n⟩
  have hmem : ∀ y, y ∈ nodes ↔ node G.n y := by
    intro y
    rw [hnodes, List.mem_cons, mem_others, s.me, ← s.n]
    constructor
    · rintro (rfl | h)
      · rw [s.n]; exact s.nd
      · exact h.1
    · intro h
      by_cases e : y = x
      · exact .inl e
      · exact .inr ⟨h, e⟩
  have hlen : G.n ≤ nodes.length := by
    have := nodup_len (l := (List.range G.n).map fun i : Nat => (i : Int) + 1) (l' := nodes) (List.pairwise_map.2 ((List.nodup_range (n := G.n)).imp fun h e => h (by omega))) fun y hy => by
      obtain ⟨i, hi, rfl⟩ := List.mem_map.1 hy
      rw [hmem]
      have := List.mem_range.1 hi
      exact ⟨by omega, by omega⟩
    simpa using this
  have hpos : 0 < nodes.length := by rw [hnodes]; simp
  refine ⟨nodes.filter fun y => decide (d ≤ val y), hnd.filter _, fun y hy => ?_, ?_⟩
  · obtain ⟨h1, h2⟩ := List.mem_filter.1 hy
    have h3 := (hmem y).1 h1
    refine ⟨h3, ?_⟩
    simp only [decide_eq_true_eq] at h2
    rw [hval] at h2
    simp only at h2
    split at h2
    · rename_i e; subst e
      have := s.own hl
      omega
    · rename_i e
      have := s.has hl y h3 e
      omega
  · have e1 : (nodes.filter fun y => decide (d ≤ val y)).length = (c.held.mergeSort (fun a b => decide (a ≤ b))).countP fun v => decide (d ≤ v) := by
      rw [(List.mergeSort_perm _ _).countP_eq, hheld, List.countP_map, List.countP_eq_length_filter]
      rfl
    rw [e1]
    obtain ⟨S, hS⟩ : ∃ S, S = c.held.mergeSort (fun a b => decide (a ≤ b)) := ⟨_, rfl⟩
    have hSl : S.length = nodes.length := by rw [hS, List.length_mergeSort, hheld, List.length_map]
    have hsort : S.Pairwise fun a b => a ≤ b := by
      have := List.pairwise_mergeSort (le := fun a b : Int => decide (a ≤ b)) (fun a b c h1 h2 => by simp at *; omega) (fun a b => by simp; omega) c.held
      rw [← hS] at this
      exact this.imp fun h => by simpa using h
    have hi : (nodes.length - 1) / 2 < S.length := by omega
    have hdv : d = S[(nodes.length - 1) / 2] := by
      rw [hd]
      unfold Core.med
      rw [← hS, show c.held.length = nodes.length by rw [hheld, List.length_map], List.getD_eq_getElem?_getD, List.getElem?_eq_getElem hi]
      rfl
    rw [← hS]
    have h4 : (S.drop ((nodes.length - 1) / 2)).countP (fun v => decide (d ≤ v)) = (S.drop ((nodes.length - 1) / 2)).length := by
      rw [List.countP_eq_length]
      intro v hv
      obtain ⟨i, hi2, rfl⟩ := List.mem_iff_getElem.1 hv
      rw [List.getElem_drop, decide_eq_true_eq, hdv]
      rw [List.length_drop] at hi2
      by_cases e0 : i = 0
      · subst e0; exact Int.le_refl _
      · exact (List.pairwise_iff_getElem.1 hsort) _ _ hi (by omega) (by omega)
    have h5 := congrArg (List.countP fun v => decide (d ≤ v)) (List.take_append_drop ((nodes.length - 1) / 2) S)
    rw [List.countP_append, h4, List.length_drop] at h5
    omega
theorem Act.count {x : Int} {c0 c : Core} (a : Act G0 x c0 G c) : Act G0 x c0 G c.count := by
  unfold Core.count
  split
  · rename_i hl
    refine a.reach _ ?_
    rw [(a.st.leads hl).1]
    exact med_maj a.st hl
  · exact a
end Vw
end Go.Proofs.Ytmmgnbdngpkfcaa

namespace Go.Proofs.Ytmmgnbdngpkfcaa
set_option linter.unusedVariables false
namespace Vw
variable {G G0 G' : Gh}

theorem ld_node {x : Int} (h : node G.n x) (v : Int) : node G.n (G.ld v) := by
  unfold node Gh.ld at *
  have h1 : (0 : Int) < max (G.n : Int) 1 := by omega
  have := Int.emod_nonneg v (Int.ne_of_gt h1)
  have := Int.emod_lt_of_pos v h1
  omega
/-- the best of what is known -/
theorem best_is {x : Int} {c : Core} (s : St G x c) : ∀ j : Nat, ((∀ i : Nat, i < j → c.dos ((i : Int) + 1) = none) ∧ (c.bestTo j).1.normal = -1) ∨
    ((∃ y, c.dos y = some (c.bestTo j).1) ∧ ∀ i : Nat, i < j → ∀ m, c.dos ((i : Int) + 1) = some m → m.normal ≤ (c.bestTo j).1.normal ∧ (m.normal = (c.bestTo j).1.normal → m.list.length ≤ (c.bestTo j).1.list.length))
  | 0 => .inl ⟨fun i hi => absurd hi (Nat.not_lt_zero i), rfl⟩
  | j + 1 => by
    have ih := best_is s j
    cases hd : c.dos ((j : Int) + 1) with
    | none =>
      rw [c.bestTo_none j hd]
      rcases ih with ⟨h1, h2⟩ | ⟨h1, h2⟩
      · refine .inl ⟨fun i hi => ?_, h2⟩
        by_cases e : i = j
        · rw [e]; exact hd
        · exact h1 i (by omega)
      · refine .inr ⟨h1, fun i hi m hm => ?_⟩
        by_cases e : i = j
        · rw [e, hd] at hm; cases hm
        · exact h2 i (by omega) m hm
    | some b =>
      rw [c.bestTo_some j hd]
      have hb0 := (s.dos _ _ hd).2.1.2
      right
      split
      · rename_i hc
        refine ⟨⟨_, hd⟩, fun i hi m hm => ?_⟩
        by_cases e : i = j
        · rw [e, hd] at hm
          injection hm with hm; subst hm
          exact ⟨Int.le_refl _, fun _ => Nat.le_refl _⟩
        · rcases ih with ⟨h1, h2⟩ | ⟨h1, h2⟩
          · rw [h1 i (by omega)] at hm; cases hm
          · obtain ⟨g1, g2⟩ := h2 i (by omega) m hm
            show m.normal ≤ b.normal ∧ (m.normal = b.normal → m.list.length ≤ b.list.length)
            refine ⟨by omega, fun e1 => ?_⟩
            have := g2
            omega
      · rename_i hc
        rcases ih with ⟨h1, h2⟩ | ⟨h1, h2⟩
        · exfalso; apply hc; left; omega
        · refine ⟨h1, fun i hi m hm => ?_⟩
          by_cases e : i = j
          · rw [e, hd] at hm
            injection hm with hm; subst hm
            show b.normal ≤ (c.bestTo j).1.normal ∧ (b.normal = (c.bestTo j).1.normal → _ ≤ (c.bestTo j).1.list.length)
            have h3 : ¬ (b.normal > (c.bestTo j).1.normal) := fun h => hc (.inl h)
            refine ⟨by omega, fun e1 => ?_⟩
            have h4 : ¬ (b.list.length > (c.bestTo j).1.list.length) := fun h => hc (.inr ⟨e1, h⟩)
            omega
          · exact h2 i (by omega) m hm
theorem best_cm {x : Int} {c : Core} (s : St G x c) : ∀ j : Nat, G.CmAt c.keep.view (c.bestTo j).2
  | 0 => .inl (Int.le_refl _)
  | j + 1 => by
    have ih := best_cm s j
    cases hd : c.dos ((j : Int) + 1) with
    | none => rw [c.bestTo_none j hd]; exact ih
    | some b =>
      rw [c.bestTo_some j hd]
      have hD := (s.dos _ _ hd).2.2
      exact CmAt.max ih (CmAt.mono hD.cm (Int.le_of_lt hD.hn))
theorem Act.begin {x : Int} {c0 c : Core} (a : Act G0 x c0 G c) (hch : c.ch = true) (hx : G.ld c.keep.view = x) : ∃ G', Act G0 x c0 G' c.begin_ := by
  unfold Core.begin_
  split
  · rename_i hm
    obtain ⟨w, hw⟩ : ∃ w, w = c.keep.view := ⟨_, rfl⟩
    obtain ⟨B, hB⟩ : ∃ B, B = c.best.1.list := ⟨_, rfl⟩
    have hN : c.keep.normal < w := by rw [hw]; exact a.st.lt hch
    have hmaj : maj G.n fun y => ∃ m, c.dos y = some m := by
      refine ⟨((List.range c.n).filter fun i : Nat => (c.dos ((i : Int) + 1)).isSome).map fun i : Nat => (i : Int) + 1, List.pairwise_map.2 ?_, fun y hy => ?_, ?_⟩
      · exact ((List.nodup_range (n := c.n)).filter _).imp fun h e => h (by omega)
      · obtain ⟨i, hi, rfl⟩ := List.mem_map.1 hy
        obtain ⟨h1, h2⟩ := List.mem_filter.1 hi
        have := List.mem_range.1 h1
        rw [a.st.n] at this
        exact ⟨⟨by omega, by omega⟩, Option.isSome_iff_exists.1 h2⟩
      · unfold Core.most cnt at hm
        rw [decide_eq_true_eq, a.st.n] at hm
        rw [List.length_map, a.st.n]; exact hm
    obtain ⟨y1, hy1, m1, hm1⟩ := hmaj.some
    have hn1 : c.n = G.n := a.st.n
    have hbest := best_is a.st c.n
    rw [c.bestTo_n] at hbest
    have hidx : ∀ y, node G.n y → ∃ i : Nat, i < c.n ∧ (i : Int) + 1 = y := fun y hy => ⟨(y - 1).toNat, by unfold node at hy; omega, by unfold node at hy; omega⟩
    rcases hbest with ⟨h1, _⟩ | ⟨⟨yb, hyb⟩, h2⟩
    · obtain ⟨i, hi, rfl⟩ := hidx y1 hy1
      rw [h1 i hi] at hm1; cases hm1
    obtain ⟨hnb, ⟨hsm, hb0⟩, hD⟩ := a.st.dos yb _ hyb
    have hserv : G.Serves w B := by
      rw [hB]
      refine best_serves hD.hist (hmaj.mono fun y hy ⟨m, hm⟩ => ?_)
      obtain ⟨i, hi, rfl⟩ := hidx y hy
      obtain ⟨g1, g2⟩ := h2 i hi m hm
      exact ⟨m.normal, m.commit, m.list, by rw [hw]; exact (a.st.dos _ _ hm).2.2, g1, g2⟩
    have hV : G.V x = w := by rw [hw]; exact a.st.keep.V
    have hnb' : ¬ G.beg w := fun h => by
      have := a.gi.lb w h
      rw [hw, hx, a.st.keep.N] at this
      omega
    have e := begins_ext (l := B) hV a.st.nd a.gi hnb'
    have hI := begins_gi (l := B) hV a.st.nd (by rw [hw]; exact hx.symm) a.gi hnb' hserv
    have hh := begins_hist (l := B) hV a.st.nd a.gi hnb' hserv
    have ha := begins_acks (l := B) hV a.st.nd a.gi hnb' hserv hN a.st.keep.acks
    obtain ⟨A1, k1, k2⟩ := a.adopt w B (by rw [hw]; exact a.st.keep.view.2.2) hN hserv (by rw [hB]; exact hsm) e hI hV (upd_same _ _ _) hh ha (fun _ => by rw [begins_at]; exact Nat.le_max_right _ _)
    have hc' : ({ c with keep := { c.keep with view := w } } : Core) = c := by rw [hw]
    rw [hc'] at A1 k1 k2
    have hcm : (G.begins x w B).CmAt w c.best.2 := by
      rw [← c.bestTo_n, hw]
      exact (by rw [← hw]; exact e.cmAt (by rw [hw]; exact best_cm a.st c.n))
    rw [← hB]
    have A2 := A1.all { Msg.z with kind := 5, commit := c.best.2, list := (c.adopt B).keep.log } (fun y h1 h2 => by
      have hme : (c.adopt B).me = x := A1.st.me
      have hv := a.st.keep.view
      refine ⟨A1.st.shard, ?_, h1, ?_, ?_, ?_, ⟨Int.le_refl 0, ?_⟩, ⟨Int.le_refl 0, by show (0 : Int) ≤ 2000; decide⟩, ?_, ⟨by show (1 : Int) ≤ 5; decide, by show (5 : Int) ≤ 5; decide⟩, (fun h => by cases h), (fun h => by cases h), (fun h => by cases h), fun _ => ⟨?_, ?_, ?_⟩⟩
      · show node _ (c.adopt B).me; rw [hme]; exact A1.st.nd
      · show (c.adopt B).me ≠ y; rw [hme]; exact fun e => h2 e.symm
      · show 0 ≤ (c.adopt B).keep.view ∧ (c.adopt B).keep.view ≤ _; rw [k1]; exact ⟨by show 0 ≤ w; omega, by show w ≤ _; rw [hw]; exact hv.2.2⟩
      · show (c.adopt B).keep.view ≤ (G.begins x w B).V (c.adopt B).me; rw [hme, A1.st.keep.V]; exact Int.le_refl _
      · show 0 ≤ (c.adopt B).keep.view; rw [k1]; show 0 ≤ w; omega
      · show Small (c.adopt B).keep.log; rw [k1]; show Small B; rw [hB]; exact hsm
      · show (c.adopt B).me = (G.begins x w B).ld (c.adopt B).keep.view; rw [hme, k1, e.ld, hw]; exact hx.symm
      · show (G.begins x w B).Hist (c.adopt B).keep.view (c.adopt B).keep.log; rw [k1]; exact hh
      · show (G.begins x w B).CmAt (c.adopt B).keep.view c.best.2; rw [k1]; exact hcm)
    refine ⟨_, (A2.reach c.best.2 ?_).count⟩
    show (G.begins x w B).CmAt (c.adopt B).keep.normal c.best.2
    rw [k1]; exact hcm
  · exact ⟨G, a⟩
theorem St.doOk {x : Int} {c : Core} (s : St G x c) (h : c.ch = true) : G.DoOk x c.keep.view c.keep.normal c.commit c.keep.log :=
  ⟨by rw [s.keep.V]; exact Int.le_refl _, s.lt h, s.keep.hist, fun v k hv hk ha => s.keep.acks v k hk ha, Cm.at s.cm⟩
theorem Act.wanted {x : Int} {c0 c : Core} (a : Act G0 x c0 G c) (hch : c.ch = true) : ∃ G', Act G0 x c0 G' c.wanted := by
  unfold Core.wanted
  have hv := a.st.keep.view
  split
  · split
    · rename_i hne
      refine ⟨G, a.send c.doMsg ⟨a.st.shard, ?_, ?_, ?_, ⟨?_, hv.2.2⟩, ?_, ⟨hv.1, hv.2.1⟩, ⟨Int.le_refl 0, by show (0 : Int) ≤ 2000; decide⟩, a.st.keep.small, ⟨by show (1 : Int) ≤ 4; decide, by show (4 : Int) ≤ 5; decide⟩, (fun h => by cases h), (fun h => by cases h), fun _ => ?_, (fun h => by cases h)⟩⟩
      · show node G.n c.me; rw [a.st.me]; exact a.st.nd
      · show node G.n (lead c.keep.view c.n); rw [a.st.ldl]; exact ld_node a.st.nd _
      · show c.me ≠ lead c.keep.view c.n; exact fun e => hne e.symm
      · show 0 ≤ c.keep.view; omega
      · show c.keep.view ≤ G.V c.me; rw [a.st.me, a.st.keep.V]; exact Int.le_refl _
      · show G.DoOk c.me c.keep.view c.keep.normal c.commit c.keep.log; rw [a.st.me]; exact a.st.doOk hch
    · rename_i he
      have he : lead c.keep.view c.n = c.me := Classical.byContradiction he
      refine Act.begin (G := G) (c := { c with dos := fun x => if x = c.me then some c.doMsg else c.dos x }) ⟨a.ext, a.gi, ⟨a.st.me, a.st.n, a.st.nd, a.st.shard, a.st.keep, a.st.ch, a.st.cm, a.st.own, a.st.has, a.st.has0, fun y m hm => ?_⟩, a.lays, a.cuts, a.msgs, a.com, a.done, a.pat, a.idle, a.ra⟩ hch (by show G.ld c.keep.view = x; rw [← a.st.ldl, he]; exact a.st.me)
      simp only at hm
      split at hm
      · rename_i hy
        injection hm with hm; subst hm
        rw [hy, a.st.me]
        exact ⟨a.st.nd, ⟨a.st.keep.small, hv.1⟩, a.st.doOk hch⟩
      · exact a.st.dos y m hm
  · exact ⟨G, a⟩
theorem MsgOk.start {x y : Int} {c : Core} (s : St G x c) (h : node G.n y) (hy : y ≠ x) : MsgOk G { Msg.z with kind := 3, to_ := y, frm := c.me, shard := c.shard, view := c.keep.view } := by
  have hv := s.keep.view
  refine ⟨s.shard, ?_, h, ?_, ⟨?_, hv.2.2⟩, ?_, ⟨Int.le_refl 0, ?_⟩, ⟨Int.le_refl 0, by show (0 : Int) ≤ 2000; decide⟩, ⟨by show ([] : List Bs).length ≤ 2000; simp, fun b hb => by cases hb⟩, ⟨by show (1 : Int) ≤ 3; decide, by show (3 : Int) ≤ 5; decide⟩, (fun h => by cases h), (fun h => by cases h), (fun h => by cases h), (fun h => by cases h)⟩
  · show node G.n c.me; rw [s.me]; exact s.nd
  · show c.me ≠ y; rw [s.me]; exact fun e => hy e.symm
  · show 0 ≤ c.keep.view; omega
  · show c.keep.view ≤ G.V c.me; rw [s.me, s.keep.V]; exact Int.le_refl _
  · show 0 ≤ c.keep.view; omega
theorem Act.change {x : Int} {c0 c : Core} (a : Act G0 x c0 G c) (v : Int) (hv : c.keep.view < v ∧ v ≤ 1099511627776) : ∃ G', Act G0 x c0 G' (c.change v) := by
  obtain ⟨c2, hc2⟩ : ∃ c2 : Core, c2 = { (c.rec_ ⟨1, v, c.keep.normal, []⟩) with ch := true, idle := 0, begun := fun x => decide (x = c.me), dos := fun _ => none, has := fun _ => 0 } := ⟨_, rfl⟩
  have hkv := a.st.keep.view
  have hk2 : c2.keep = ⟨v, c.keep.normal, c.keep.log⟩ := by rw [hc2]; rfl
  have hVx : G.V x ≤ v := by rw [a.st.keep.V]; omega
  have e := raise_ext (G := G) hVx
  have hK : KeepOk (G.raise x v) x ⟨v, c.keep.normal, c.keep.log⟩ := ⟨upd_same _ _ _, a.st.keep.N, ⟨hkv.1, by show c.keep.normal ≤ v; omega, hv.2⟩, a.st.keep.small, e.hist a.st.keep.hist, raise_acks hVx a.st.keep.acks⟩
  have hld : c2.leads = false := by rw [hc2]; rfl
  have hlay : lay (Vw.lays c0.keep c.recs) ⟨1, v, c.keep.normal, []⟩ = ⟨v, c.keep.normal, c.keep.log⟩ := by rw [← a.lays]; rfl
  have hr2 : c2.recs = c.recs ++ [⟨1, v, c.keep.normal, []⟩] := by rw [hc2]; rfl
  have A2 : Act G0 x c0 (G.raise x v) c2 := by
    refine ⟨a.ext.trans e, raise_gi hVx a.gi, ⟨by rw [hc2]; exact a.st.me, by rw [hc2]; exact a.st.n, a.st.nd, by rw [hc2]; exact a.st.shard, by rw [hk2]; exact hK, ?_, by rw [hk2, hc2]; exact e.cm a.st.cm, (fun h => by rw [hld] at h; cases h), (fun h => by rw [hld] at h; cases h), (fun y => by rw [hc2]; exact Int.le_refl _), fun y m hm => by rw [hc2] at hm; cases hm⟩, ?_, ?_, fun m hm => ?_, ?_, ?_, ?_, ?_, fun r hr => ?_⟩
    · rw [hk2, hc2]
      refine ⟨fun _ => ?_, fun _ => rfl⟩
      show v ≠ c.keep.normal; omega
    · rw [hk2, hr2, lays_snoc, hlay]
    · rw [hr2]
      exact Cuts.snoc (P := fun K => ∃ Gk, Ext x G0 Gk ∧ Gk.GI ∧ KeepOk Gk x K) a.cuts ⟨G.raise x v, a.ext.trans e, raise_gi hVx a.gi, by rw [hlay]; exact hK⟩
    · rw [hc2] at hm
      exact ⟨(a.msgs m hm).1.ext e, (a.msgs m hm).2⟩
    · rw [hc2]; exact a.com
    · rw [hk2, hc2]; exact a.done
    · rw [hc2]; exact a.pat
    · rw [hc2]; exact .inr rfl
    · rw [hr2] at hr
      rcases List.mem_append.1 hr with h1 | h1
      · exact a.ra r h1
      · rw [List.mem_singleton.1 h1]; exact ⟨by show 0 ≤ v; omega, hv.2⟩
  have A3 := A2.all { Msg.z with kind := 3 } fun y h1 h2 => MsgOk.start A2.st h1 h2
  have e1 : c.change v = (c2.all { Msg.z with kind := 3 }).wanted := by rw [hc2]; rfl
  rw [e1]
  obtain ⟨G', A4⟩ := A3.wanted (by show c2.ch = true; rw [hc2])
  exact ⟨G', A4⟩
end Vw
end Go.Proofs.Ytmmgnbdngpkfcaa

namespace Go.Proofs.Ytmmgnbdngpkfcaa
set_option linter.unusedVariables false
namespace Vw
variable {G G0 G' : Gh}

/-- what is beside what lasts and what is told -/
theorem Act.beside {x : Int} {c0 c c' : Core} (a : Act G0 x c0 G c) (hme : c'.me = c.me) (hn : c'.n = c.n) (hs : c'.shard = c.shard) (hp : c'.pat = c.pat) (hk : c'.keep = c.keep) (hch : c'.ch = c.ch) (hc : c'.commit = c.commit) (hr : c'.recs = c.recs) (hm : c'.msgs = c.msgs) (hd : c'.done = c.done)
    (hi : c'.idle ≤ c0.idle + 1 ∨ c'.idle = 0) (hhas : c.leads = true → ∀ y, node G.n y → y ≠ x → (c'.has y).toNat ≤ G.ack y c.keep.view) (hh0 : ∀ y, 0 ≤ c'.has y)
    (hdos : ∀ y m, c'.dos y = some m → node G.n y ∧ (Small m.list ∧ 0 ≤ m.normal) ∧ G.DoOk y c.keep.view m.normal m.commit m.list) : Act G0 x c0 G c' := by
  have hl : c'.leads = c.leads := by unfold Core.leads; rw [hch, hk, hn, hme]
  exact ⟨a.ext, a.gi, ⟨hme.trans a.st.me, hn.trans a.st.n, a.st.nd, hs.trans a.st.shard, by rw [hk]; exact a.st.keep, by rw [hch, hk]; exact a.st.ch, by rw [hc, hk]; exact a.st.cm, by rw [hl, hk]; exact a.st.own, by rw [hl, hk]; exact hhas, hh0, by rw [hk]; exact hdos⟩, by rw [hk, hr]; exact a.lays, by rw [hr]; exact a.cuts, by rw [hm]; exact a.msgs, by rw [hc]; exact a.com, by rw [hd, hk, hc]; exact a.done, hp.trans a.pat, hi, by rw [hr]; exact a.ra⟩
/-- x says how much it has -/
theorem Act.says {x : Int} {c0 c : Core} (a : Act G0 x c0 G c) (h : c.keep.normal = c.keep.view) : Act G0 x c0 (G.says x c.keep.view c.keep.log.length) c := by
  have hV : G.V x ≤ c.keep.view := by rw [a.st.keep.V]; exact Int.le_refl _
  have hh : G.Hist c.keep.view c.keep.log := by rw [← h]; exact a.st.keep.hist
  have hA : G.Acks x c.keep.view c.keep.log := by rw [← h]; exact a.st.keep.acks
  have e := says_ext (G := G) (k := c.keep.log.length) hV
  exact ⟨a.ext.trans e, says_gi hV hh a.gi, ⟨a.st.me, a.st.n, a.st.nd, a.st.shard, ⟨a.st.keep.V, a.st.keep.N, a.st.keep.view, a.st.keep.small, e.hist a.st.keep.hist, by rw [h]; exact says_acks hV hh hA⟩, a.st.ch, e.cm a.st.cm, fun l => Nat.le_trans (a.st.own l) (e.a1 _ _), fun l y h1 h2 => Nat.le_trans (a.st.has l y h1 h2) (e.a1 _ _), a.st.has0, fun y m hm => ⟨(a.st.dos y m hm).1, (a.st.dos y m hm).2.1, e.doOk (a.st.dos y m hm).2.2⟩⟩, a.lays, a.cuts, fun m hm => ⟨(a.msgs m hm).1.ext e, (a.msgs m hm).2⟩, a.com, a.done, a.pat, a.idle, a.ra⟩
theorem says_mine (x v : Int) (k : Nat) : k ≤ (G.says x v k).ack x v := by rw [says_at]; exact Nat.le_max_right _ _
/-- and tells so -/
theorem Act.tells {x : Int} {c0 c : Core} (a : Act G0 x c0 G c) (h : c.keep.normal = c.keep.view) (y : Int) (hy : node G.n y) (hyx : y ≠ x) : Act G0 x c0 (G.says x c.keep.view c.keep.log.length) (c.send { Msg.z with kind := 2, to_ := y, at_ := c.keep.log.length }) := by
  have A := a.says h
  have hv := a.st.keep.view
  refine A.send _ ⟨a.st.shard, ?_, hy, ?_, ⟨?_, hv.2.2⟩, ?_, ⟨Int.le_refl 0, ?_⟩, ⟨?_, ?_⟩, ⟨by show ([] : List Bs).length ≤ 2000; simp, fun b hb => by cases hb⟩, ⟨by show (1 : Int) ≤ 2; decide, by show (2 : Int) ≤ 5; decide⟩, (fun h => by cases h), fun _ => ?_, (fun h => by cases h), (fun h => by cases h)⟩
  · show node G.n c.me; rw [a.st.me]; exact a.st.nd
  · show c.me ≠ y; rw [a.st.me]; exact fun e => hyx e.symm
  · show 0 ≤ c.keep.view; omega
  · show c.keep.view ≤ G.V c.me; rw [a.st.me, a.st.keep.V]; exact Int.le_refl _
  · show 0 ≤ c.keep.view; omega
  · show 0 ≤ (c.keep.log.length : Int); omega
  · show (c.keep.log.length : Int) ≤ 2000; have := a.st.keep.small.1; omega
  · show (c.keep.log.length : Int).toNat ≤ (G.says x c.keep.view c.keep.log.length).ack c.me c.keep.view
    rw [a.st.me, Int.toNat_natCast]; exact says_mine _ _ _
theorem Act.started {x : Int} {c0 c : Core} (a : Act G0 x c0 G c) (m : Msg) (hfr : node G.n m.frm) (hne : m.frm ≠ x) : ∃ G', Act G0 x c0 G' (c.started m) := by
  unfold Core.started
  have hv := a.st.keep.view
  split
  · exact ⟨G, a⟩
  · split
    · rename_i hch
      split
      · exact Act.wanted (a.beside (c' := { c with begun := fun x => decide (x = m.frm) || c.begun x }) rfl rfl rfl rfl rfl rfl rfl rfl rfl rfl a.idle a.st.has a.st.has0 a.st.dos) hch
      · exact ⟨G, a⟩
    · split
      · rename_i hl
        obtain ⟨l1, l2, l3⟩ := a.st.leads hl
        refine ⟨G, a.send _ ⟨a.st.shard, ?_, hfr, ?_, ⟨?_, hv.2.2⟩, ?_, ⟨Int.le_refl 0, ?_⟩, ⟨Int.le_refl 0, by show (0 : Int) ≤ 2000; decide⟩, a.st.keep.small, ⟨by show (1 : Int) ≤ 5; decide, by show (5 : Int) ≤ 5; decide⟩, (fun h => by cases h), (fun h => by cases h), (fun h => by cases h), fun _ => ⟨?_, ?_, ?_⟩⟩⟩
        · show node G.n c.me; rw [a.st.me]; exact a.st.nd
        · show c.me ≠ m.frm; rw [a.st.me]; exact fun e => hne e.symm
        · show 0 ≤ c.keep.view; omega
        · show c.keep.view ≤ G.V c.me; rw [a.st.me, a.st.keep.V]; exact Int.le_refl _
        · show 0 ≤ c.keep.view; omega
        · show c.me = G.ld c.keep.view; rw [a.st.me]; exact l2
        · show G.Hist c.keep.view c.keep.log; rw [← l1]; exact a.st.keep.hist
        · show G.CmAt c.keep.view c.commit; rw [← l1]; exact Cm.at a.st.cm
      · exact ⟨G, a⟩
/-- an entry of the one that leads -/
theorem Act.put {x : Int} {c0 c : Core} (a : Act G0 x c0 G c) (b : Bs) (hb : b.length ≤ 4000) (hl : c.keep.log.length < 2000) (hld : c.leads = false) (hp : G.chos c.keep.normal (c.keep.log.length + 1) → (G.L c.keep.normal)[c.keep.log.length]? = some b) : Act G0 x c0 G (c.rec_ ⟨2, 0, 0, b⟩) := by
  have hk : (c.rec_ ⟨2, 0, 0, b⟩).keep = ⟨c.keep.view, c.keep.normal, c.keep.log ++ [b]⟩ := rfl
  have hK : KeepOk G x ⟨c.keep.view, c.keep.normal, c.keep.log ++ [b]⟩ := ⟨a.st.keep.V, a.st.keep.N, a.st.keep.view, ⟨by show (c.keep.log ++ [b]).length ≤ _; simp; omega, fun z hz => by
    rcases List.mem_append.1 hz with h | h
    · exact a.st.keep.small.2 z h
    · rw [List.mem_singleton.1 h]; exact hb⟩, put_hist a.st.keep.hist hp, put_acks a.st.keep.acks⟩
  have hlay : lay (Vw.lays c0.keep c.recs) ⟨2, 0, 0, b⟩ = ⟨c.keep.view, c.keep.normal, c.keep.log ++ [b]⟩ := by rw [← a.lays]; rfl
  have hr : (c.rec_ ⟨2, 0, 0, b⟩).recs = c.recs ++ [⟨2, 0, 0, b⟩] := rfl
  have hle : (c.rec_ ⟨2, 0, 0, b⟩).leads = false := hld
  have hcm : G.Cm c.keep.normal c.commit (c.keep.log ++ [b]) := by
    rcases a.st.cm with h | ⟨u, h1, h2, h3⟩
    · exact .inl h
    · exact .inr ⟨u, h1, h2, fit_prefix h3 (List.prefix_append _ _)⟩
  have hci := Cm.fits a.st.cm
  refine ⟨a.ext, a.gi, ⟨a.st.me, a.st.n, a.st.nd, a.st.shard, by rw [hk]; exact hK, a.st.ch, by rw [hk]; exact hcm, (fun h => by rw [hle] at h; cases h), (fun h => by rw [hle] at h; cases h), a.st.has0, a.st.dos⟩, ?_, ?_, a.msgs, a.com, ?_, a.pat, a.idle, fun r hr' => by
    rcases List.mem_append.1 hr' with h1 | h1
    · exact a.ra r h1
    · rw [List.mem_singleton.1 h1]; exact ⟨Int.le_refl 0, by show (0 : Int) ≤ _; decide⟩⟩
  · rw [hk, hr, lays_snoc, hlay]
  · rw [hr]
    exact Cuts.snoc (P := fun K => ∃ Gk, Ext x G0 Gk ∧ Gk.GI ∧ KeepOk Gk x K) a.cuts ⟨G, a.ext, a.gi, by rw [hlay]; exact hK⟩
  · show c.done = ((c.keep.log ++ [b]).take c.commit).drop c0.commit
    rw [List.take_append_of_le_length hci]; exact a.done
/-- entries of the one that leads -/
theorem prep_fold {x : Int} {c0 : Core} {m : Msg} (hp : G.PrepOk m.view m.at_.toNat m.list) (hat : 0 ≤ m.at_) (hsm : Small m.list) {c : Core} (a : Act G0 x c0 G c) (hn : c.keep.normal = m.view) (hld : c.leads = false) (hl : m.at_ ≤ (c.keep.log.length : Int)) :
    ∀ j, j ≤ m.list.length → ∃ c', c' = (List.range j).foldl (fun c i => c.prepS m i) c ∧ Act G0 x c0 G c' ∧ c'.keep.normal = c.keep.normal ∧ c'.keep.view = c.keep.view ∧ c'.leads = false ∧ (m.at_ + j ≤ (c'.keep.log.length : Int) ∨ 2000 ≤ c'.keep.log.length)
  | 0, _ => ⟨c, rfl, a, rfl, rfl, hld, .inl (by omega)⟩
  | j + 1, hj => by
    obtain ⟨c', h1, h2, h3, h3v, h4, h5⟩ := prep_fold hp hat hsm a hn hld hl j (by omega)
    refine ⟨c'.prepS m j, by rw [List.range_succ, List.foldl_append, ← h1]; rfl, ?_⟩
    have ep : c'.prepS m j = if m.at_ + j ≥ (c'.keep.log.length : Int) ∧ c'.keep.log.length < 2000 then c'.rec_ ⟨2, 0, 0, m.list[j]⟩ else c' := by
      unfold Core.prepS
      rw [List.getElem?_eq_getElem (show j < m.list.length by omega)]
    rw [ep]
    split
    · rename_i hc
      have hlen : m.at_ + j = (c'.keep.log.length : Int) := by omega
      refine ⟨h2.put _ (hsm.2 _ (List.getElem_mem _)) hc.2 h4 (fun hch => ?_), h3, h3v, h4, .inl ?_⟩
      · rw [h3, hn] at hch ⊢
        obtain ⟨g1, g2⟩ := hp (c'.keep.log.length + 1) hch (by omega) c'.keep.log.length (by omega) (by omega)
        rw [g2, show c'.keep.log.length - m.at_.toNat = j by omega]
        exact List.getElem?_eq_getElem (by omega)
      · show m.at_ + (j + 1 : Nat) ≤ ((c'.keep.log ++ [m.list[j]]).length : Int)
        simp; omega
    · rename_i hc
      refine ⟨h2, h3, h3v, h4, ?_⟩
      rcases Nat.lt_or_ge c'.keep.log.length 2000 with h | h
      · left
        have : ¬ (m.at_ + j ≥ (c'.keep.log.length : Int)) := fun g => hc ⟨g, h⟩
        have := h5
        omega
      · exact .inr h
theorem Act.prep {x : Int} {c0 c : Core} (a : Act G0 x c0 G c) (m : Msg) (hm : MsgOk G m) (hk : m.kind = 1) (hto : m.to_ = x) (hv : m.view = c.keep.view) (hch : c.ch = false) : ∃ G', Act G0 x c0 G' (c.prep m) := by
  obtain ⟨f1, f2, f3⟩ := hm.k1 hk
  have hne : m.frm ≠ x := fun e => hm.ne (e.trans hto.symm)
  have hn := a.st.vn hch
  have hld : c.leads = false := by
    unfold Core.leads
    rw [hch, a.st.ldl, a.st.me, ← hv, ← f1]
    simpa using hne
  have A1 : Act G0 x c0 G { c with idle := 0 } := a.beside rfl rfl rfl rfl rfl rfl rfl rfl rfl rfl (.inr rfl) a.st.has a.st.has0 a.st.dos
  have key : ∃ c2, c.prep m = c2.send { Msg.z with kind := 2, to_ := m.frm, at_ := c2.keep.log.length } ∧ Act G0 x c0 G c2 ∧ c2.keep.normal = c2.keep.view := by
    unfold Core.prep
    refine ⟨_, rfl, ?_⟩
    show Act G0 x c0 G (if _ then _ else _) ∧ Keep.normal (Core.keep (if _ then _ else _)) = _
    split
    · rename_i hl
      obtain ⟨c', h1, h2, h3, h3v, h4, h5⟩ := prep_fold f2 hm.at_.1 hm.small A1 (hn.trans hv.symm) hld hl m.list.length (Nat.le_refl _)
      rw [← h1]
      refine ⟨h2.reach _ ?_, ?_⟩
      · rw [h3]; show G.CmAt c.keep.normal m.commit; rw [hn, ← hv]; exact f3
      · show c'.keep.normal = c'.keep.view
        rw [h3, h3v]; exact hn
    · exact ⟨A1, hn⟩
  obtain ⟨c2, e, A2, h2⟩ := key
  rw [e]
  exact ⟨_, A2.tells h2 _ (by rw [A2.ext.n, ← a.ext.n]; exact hm.frm) hne⟩
/-- what the one that leads sends the others -/
theorem Act.feeds {x : Int} {c0 c : Core} (a : Act G0 x c0 G c) (hl : c.leads = true) : Act G0 x c0 G c.feeds := by
  obtain ⟨l1, l2, l3⟩ := a.st.leads hl
  have hv := a.st.keep.view
  refine a.msgs' (fun tt => { c.feedM tt with frm := c.me, shard := c.shard, view := c.keep.view }) fun y h1 h2 => ⟨⟨a.st.shard, ?_, h1, ?_, ⟨?_, hv.2.2⟩, ?_, ⟨Int.le_refl 0, ?_⟩, ⟨?_, ?_⟩, small_take (small_drop a.st.keep.small _) _, ⟨by show (1 : Int) ≤ 1; decide, by show (1 : Int) ≤ 5; decide⟩, fun _ => ⟨?_, ?_, ?_⟩, (fun h => by cases h), (fun h => by cases h), (fun h => by cases h)⟩, a.st.me⟩
  · show node G.n c.me; rw [a.st.me]; exact a.st.nd
  · show c.me ≠ y; rw [a.st.me]; exact fun e => h2 e.symm
  · show 0 ≤ c.keep.view; omega
  · show c.keep.view ≤ G.V c.me; rw [a.st.me, a.st.keep.V]; exact Int.le_refl _
  · show 0 ≤ c.keep.view; omega
  · show 0 ≤ min (c.has y) (c.keep.log.length : Int); have := a.st.has0 y; omega
  · show min (c.has y) (c.keep.log.length : Int) ≤ 2000; have := a.st.keep.small.1; omega
  · show c.me = G.ld c.keep.view; rw [a.st.me]; exact l2
  · exact prep_of (by rw [← l1]; exact a.st.keep.hist) _ 8
  · show G.CmAt c.keep.view c.commit; rw [← l1]; exact Cm.at a.st.cm
/-- an entry is handed in -/
theorem Act.adds {x : Int} {c0 c : Core} (a : Act G0 x c0 G c) (b : Bs) (hb : b.length ≤ 4000) (hl : c.leads = true) (hfull : c.keep.log.length < 2000) : Act G0 x c0 (G.adds x c.keep.view c.keep.log b) (c.rec_ ⟨2, 0, 0, b⟩) := by
  obtain ⟨l1, l2, l3⟩ := a.st.leads hl
  have hV : G.V x ≤ c.keep.view := by rw [a.st.keep.V]; exact Int.le_refl _
  have hh : G.Hist c.keep.view c.keep.log := by rw [← l1]; exact a.st.keep.hist
  have hA : G.Acks x c.keep.view c.keep.log := by rw [← l1]; exact a.st.keep.acks
  have e := adds_ext (G := G) (l := c.keep.log) (e := b) hV
  have hgi := adds_gi (e := b) hV l2 hh hA a.gi
  have hk : (c.rec_ ⟨2, 0, 0, b⟩).keep = ⟨c.keep.view, c.keep.normal, c.keep.log ++ [b]⟩ := rfl
  have hK : KeepOk (G.adds x c.keep.view c.keep.log b) x ⟨c.keep.view, c.keep.normal, c.keep.log ++ [b]⟩ := ⟨a.st.keep.V, a.st.keep.N, a.st.keep.view, ⟨by show (c.keep.log ++ [b]).length ≤ _; simp; omega, fun z hz => by
    rcases List.mem_append.1 hz with h | h
    · exact a.st.keep.small.2 z h
    · rw [List.mem_singleton.1 h]; exact hb⟩, by show Gh.Hist _ c.keep.normal _; rw [l1]; exact adds_hist hV l2 hh hA a.gi, by show Gh.Acks _ _ c.keep.normal _; rw [l1]; exact adds_acks hV l2 hh hA a.gi⟩
  have hlay : lay (Vw.lays c0.keep c.recs) ⟨2, 0, 0, b⟩ = ⟨c.keep.view, c.keep.normal, c.keep.log ++ [b]⟩ := by rw [← a.lays]; rfl
  have hr : (c.rec_ ⟨2, 0, 0, b⟩).recs = c.recs ++ [⟨2, 0, 0, b⟩] := rfl
  have hcm : (G.adds x c.keep.view c.keep.log b).Cm c.keep.normal c.commit (c.keep.log ++ [b]) := by
    rcases e.cm a.st.cm with h | ⟨u, h1, h2, h3⟩
    · exact .inl h
    · exact .inr ⟨u, h1, h2, fit_prefix h3 (List.prefix_append _ _)⟩
  have hci := Cm.fits a.st.cm
  refine ⟨a.ext.trans e, hgi, ⟨a.st.me, a.st.n, a.st.nd, a.st.shard, by rw [hk]; exact hK, a.st.ch, by rw [hk]; exact hcm, fun _ => ?_, fun _ y h1 h2 => Nat.le_trans (a.st.has hl y h1 h2) (e.a1 _ _), a.st.has0, fun y m hm => ⟨(a.st.dos y m hm).1, (a.st.dos y m hm).2.1, e.doOk (a.st.dos y m hm).2.2⟩⟩, ?_, ?_, fun m hm => ⟨(a.msgs m hm).1.ext e, (a.msgs m hm).2⟩, a.com, ?_, a.pat, a.idle, fun r hr' => by
    rcases List.mem_append.1 hr' with h1 | h1
    · exact a.ra r h1
    · rw [List.mem_singleton.1 h1]; exact ⟨Int.le_refl 0, by show (0 : Int) ≤ _; decide⟩⟩
  · show (c.keep.log ++ [b]).length ≤ (G.adds x c.keep.view c.keep.log b).ack x c.keep.view
    rw [adds_at]; simp; omega
  · rw [hk, hr, lays_snoc, hlay]
  · rw [hr]
    exact Cuts.snoc (P := fun K => ∃ Gk, Ext x G0 Gk ∧ Gk.GI ∧ KeepOk Gk x K) a.cuts ⟨_, a.ext.trans e, hgi, by rw [hlay]; exact hK⟩
  · show c.done = ((c.keep.log ++ [b]).take c.commit).drop c0.commit
    rw [List.take_append_of_le_length hci]; exact a.done
theorem Act.propose {x : Int} {c0 c : Core} (a : Act G0 x c0 G c) (b : Bs) : ∃ G', Act G0 x c0 G' (c.propose b).1 := by
  unfold Core.propose
  split
  · exact ⟨G, a⟩
  · rename_i hl
    split
    · exact ⟨G, a⟩
    · split
      · exact ⟨G, a⟩
      · have hl : c.leads = true := by simpa using hl
        have A := a.adds b (by omega) hl (by omega)
        exact ⟨_, (A.feeds hl).count⟩
/-- a unit of time -/
theorem Act.tick {x : Int} {c : Core} (hI : G.GI) (s : St G x c) (h : c.recs = [] ∧ c.msgs = [] ∧ c.done = []) : ∃ G', Act G x c G' c.tick := by
  have A0 := Act.start hI s h
  have A : Act G x c G { c with idle := c.idle + 1 } := A0.beside rfl rfl rfl rfl rfl rfl rfl rfl rfl rfl (.inl (Int.le_refl _)) s.has s.has0 s.dos
  unfold Core.tick
  obtain ⟨d, hd⟩ : ∃ d : Core, d = { c with idle := c.idle + 1 } := ⟨_, rfl⟩
  rw [← hd] at A
  show ∃ G', Act G x c G' (if ({ c with idle := c.idle + 1 } : Core).leads then _ else _)
  rw [← hd]
  split
  · rename_i hl
    split
    · have A1 : Act G x c G { d with idle := 0 } := A.beside rfl rfl rfl rfl rfl rfl rfl rfl rfl rfl (.inr rfl) A.st.has A.st.has0 A.st.dos
      exact ⟨_, (A1.feeds hl).count⟩
    · exact ⟨_, A.count⟩
  · split
    · rename_i hc
      split
      · have A1 : Act G x c G { d with begun := fun x => decide (x = d.me) || d.begun x } := A.beside rfl rfl rfl rfl rfl rfl rfl rfl rfl rfl A.idle A.st.has A.st.has0 A.st.dos
        exact (A1.all { Msg.z with kind := 3 } fun y h1 h2 => MsgOk.start A1.st h1 h2).wanted hc.1
      · exact ⟨_, A⟩
    · split
      · split
        · exact A.change _ ⟨by omega, by omega⟩
        · exact ⟨_, A⟩
      · exact ⟨_, A⟩
/-- a message -/
theorem Act.in_ {x : Int} {c : Core} (hI : G.GI) (s : St G x c) (h : c.recs = [] ∧ c.msgs = [] ∧ c.done = []) (m : Msg) (hm : MsgOk G m) (hto : m.to_ = x) : ∃ G', Act G x c G' (c.in_ m) := by
  have a := Act.start hI s h
  have hne : m.frm ≠ x := fun e => hm.ne (e.trans hto.symm)
  unfold Core.in_
  split
  · exact ⟨G, a⟩
  split
  · split
    · exact ⟨G, a.send _ (MsgOk.start a.st hm.frm hne)⟩
    · exact ⟨G, a⟩
  rename_i hlow
  have hge : c.keep.view ≤ m.view := by omega
  obtain ⟨c1, hc1⟩ : ∃ c1, c1 = if m.view > c.keep.view ∧ m.kind ≠ 5 ∧ m.kind ≠ 2 then c.change m.view else c := ⟨_, rfl⟩
  have key : ∃ G1, Act G x c G1 c1 := by
    rw [hc1]
    split
    · rename_i h
      exact a.change _ ⟨h.1, hm.view.2⟩
    · exact ⟨G, a⟩
  have h5 : m.kind = 5 → c1 = c := fun h => by rw [hc1, if_neg (fun g => g.2.1 h)]
  show ∃ G', Act G x c G' ((if m.view > c.keep.view ∧ m.kind ≠ 5 ∧ m.kind ≠ 2 then c.change m.view else c).inD m (lead m.view c.n))
  rw [← hc1]
  unfold Core.inD
  clear hc1
  obtain ⟨G1, A⟩ := key
  have hm1 : MsgOk G1 m := hm.ext A.ext
  split
  · exact A.started m hm1.frm hne
  split
  · rename_i hk
    obtain ⟨k1, k2, k3, k4⟩ := hk
    have A1 : Act G x c G1 { c1 with dos := fun x => if x = m.frm then some m else c1.dos x } := A.beside rfl rfl rfl rfl rfl rfl rfl rfl rfl rfl A.idle A.st.has A.st.has0 fun y m' hy => by
      simp only at hy
      split at hy
      · rename_i e
        injection hy with hy; subst hy
        rw [e, ← k2]
        exact ⟨hm1.frm, ⟨hm1.small, hm1.normal.1⟩, hm1.k4 k1⟩
      · exact A.st.dos y m' hy
    refine A1.begin k3 ?_
    show G1.ld c1.keep.view = x
    rw [← k2, ← A.st.ldl, A.st.n, ← s.n.trans A.ext.n.symm, k4]
    exact A.st.me
  split
  · rename_i hk
    obtain ⟨k1, k2, k3⟩ := hk
    rw [h5 k1] at A k3 ⊢
    obtain ⟨e1, e2, e3⟩ := hm1.k5 k1
    have hkv := A.st.keep.view
    have hN : c.keep.normal < m.view := by
      rcases k3 with k3 | k3
      · omega
      · have := A.st.lt k3; omega
    have hV1 : G1.V x ≤ m.view := by rw [A.st.keep.V]; exact hge
    have hN1 : G1.N x ≤ m.view := by rw [A.st.keep.N]; omega
    have e := takes_ext hV1 hN1
    obtain ⟨A2, q1, q2⟩ := A.adopt m.view m.list hm.view.2 hN e2.old hm.small e (takes_gi hV1 hN1 A.gi) (upd_same _ _ _) (upd_same _ _ _) (e.hist e2) (takes_acks hV1 hN1 hN e2 A.st.keep.acks) (fun h => absurd (e1.trans h) hne)
    have A3 := A2.reach m.commit (by rw [q1]; exact e.cmAt e3)
    rw [← k2]
    refine ⟨_, A3.tells ?_ m.frm hm1.frm hne⟩
    show Keep.normal (Core.keep (Core.adopt _ _)) = Keep.view (Core.keep (Core.adopt _ _))
    rw [q1]
  split
  · rename_i hk
    obtain ⟨k1, k2, k3, k4⟩ := hk
    exact A.prep m hm1 k1 hto k2 k3
  split
  · rename_i hk
    obtain ⟨k1, k2, k3⟩ := hk
    have A1 : Act G x c G1 { c1 with has := fun x => if x = m.frm then max (c1.has x) (min m.at_ (c1.keep.log.length : Int)) else c1.has x } := A.beside rfl rfl rfl rfl rfl rfl rfl rfl rfl rfl A.idle (fun hl y h1 h2 => by
      show (if y = m.frm then _ else _ : Int).toNat ≤ _
      have g1 := A.st.has hl y h1 h2
      split
      · rename_i e
        have g2 := hm1.k2 k1
        rw [← e, k2] at g2
        omega
      · exact g1) (fun y => by
      show 0 ≤ (if y = m.frm then _ else _ : Int)
      have := A.st.has0 y
      have := hm1.at_.1
      split <;> omega) A.st.dos
    exact ⟨_, A1.count⟩
  · exact ⟨_, A⟩
end Vw
end Go.Proofs.Ytmmgnbdngpkfcaa

namespace Go.Proofs.Ytmmgnbdngpkfcaa
set_option linter.unusedVariables false
namespace Vw
variable {G G0 G' : Gh}

/-- members 1 to n, messages under way, what was told as done -/
structure Gr where
  n : Nat
  pat : Int
  core : Int → Core
  mail : List Msg
  sure : List Bs
structure GrOk (G : Gh) (x : Gr) (K : Nat) : Prop where
  gi : G.GI
  n : G.n = x.n
  st : ∀ y, node x.n y → St G y (x.core y)
  out : ∀ y, node x.n y → (x.core y).recs = [] ∧ (x.core y).msgs = [] ∧ (x.core y).done = []
  pat : ∀ y, node x.n y → (x.core y).pat = x.pat
  idle : ∀ y, node x.n y → (x.core y).idle ≤ K
  com : ∀ y, node x.n y → (x.core y).commit ≤ x.sure.length
  mail : ∀ m ∈ x.mail, MsgOk G m
  sure : ∃ N l, G.Cm N x.sure.length l ∧ x.sure = l.take x.sure.length
theorem GrOk.mono {x : Gr} {K K' : Nat} (h : GrOk G x K) (hk : K ≤ K') : GrOk G x K' := ⟨h.gi, h.n, h.st, h.out, h.pat, fun y hy => by have := h.idle y hy; omega, h.com, h.mail, h.sure⟩
/-- messages are lost -/
theorem GrOk.lose {x : Gr} {K : Nat} (h : GrOk G x K) {mail : List Msg} (hm : ∀ m ∈ mail, m ∈ x.mail) : GrOk G { x with mail := mail } K := ⟨h.gi, h.n, h.st, h.out, h.pat, h.idle, h.com, fun m hm' => h.mail m (hm m hm'), h.sure⟩
/-- a member begins again -/
theorem St.again {x : Int} {k : Keep} (hI : G.GI) (hx : node G.n x) (hk : KeepOk G x k) (pat : Int) : ∃ G', Ext x G G' ∧ G'.GI ∧ St G' x (Core.new x G.n 2 pat k) := by
  have hv := hk.view
  by_cases he : k.normal = k.view
  · have hV : G.V x ≤ k.view := by rw [hk.V]; exact Int.le_refl _
    have hh : G.Hist k.view k.log := by rw [← he]; exact hk.hist
    have hA : G.Acks x k.view k.log := by rw [← he]; exact hk.acks
    have e := says_ext (G := G) (k := k.log.length) hV
    refine ⟨_, e, says_gi hV hh hI, rfl, rfl, hx, rfl, ⟨hk.V, hk.N, hv, hk.small, e.hist hk.hist, by show Gh.Acks _ x k.normal k.log; rw [he]; exact says_acks hV hh hA⟩, ?_, .inl rfl, fun _ => says_mine _ _ _, fun _ y _ _ => Nat.zero_le _, fun y => Int.le_refl _, fun y m hm => by cases hm⟩
    show (k.view != k.normal) = true ↔ k.view ≠ k.normal
    simp
  · have hl : (Core.new x G.n 2 pat k).leads = false := by
      unfold Core.leads Core.new
      have : (k.view != k.normal) = true := by simpa using fun e => he e.symm
      simp [this]
    refine ⟨G, Ext.refl _ _, hI, rfl, rfl, hx, rfl, hk, ?_, .inl rfl, (fun h => by rw [hl] at h; cases h), (fun h => by rw [hl] at h; cases h), fun y => Int.le_refl _, fun y m hm => by cases hm⟩
    show (k.view != k.normal) = true ↔ k.view ≠ k.normal
    simp
/-- the power goes while x does what is to be done -/
theorem GrOk.cut {x : Gr} {K : Nat} (h : GrOk G x K) {y : Int} (hy : node x.n y) {c : Core} {G1 : Gh} (a : Act G y (x.core y) G1 c) (k : Nat) :
    ∃ G', GrOk G' { x with core := fun z => if z = y then Core.new y x.n 2 x.pat (lays (x.core y).keep (c.recs.take k)) else x.core z } K := by
  obtain ⟨Gk, e1, hI, hk⟩ := a.cuts k
  obtain ⟨G', e2, hI2, hs⟩ := St.again hI (e1.nd.2 (by rw [h.n]; exact hy)) hk x.pat
  have e := e1.trans e2
  rw [e1.n, h.n] at hs
  refine ⟨G', hI2, e.n.trans h.n, fun z hz => ?_, fun z hz => ?_, fun z hz => ?_, fun z hz => ?_, fun z hz => ?_, fun m hm => (h.mail m hm).ext e, ?_⟩
  · show St G' z (if z = y then _ else _)
    split
    · rename_i ez; rw [ez]; exact hs
    · rename_i ez; exact (h.st z hz).ext e ez
  · show Core.recs (if z = y then _ else _) = [] ∧ Core.msgs (if z = y then _ else _) = [] ∧ Core.done (if z = y then _ else _) = []
    split
    · exact ⟨rfl, rfl, rfl⟩
    · exact h.out z hz
  · show Core.pat (if z = y then _ else _) = _
    split
    · rfl
    · exact h.pat z hz
  · show Core.idle (if z = y then _ else _) ≤ _
    split
    · show (0 : Int) ≤ K; omega
    · exact h.idle z hz
  · show Core.commit (if z = y then _ else _) ≤ _
    split
    · exact Nat.zero_le _
    · exact h.com z hz
  · obtain ⟨N, l, h1, h2⟩ := h.sure
    exact ⟨N, l, e.cm h1, h2⟩
/-- what is told as done, behind what was told -/
def tells (sure : List Bs) (at_ : Nat) (done : List Bs) : List Bs := sure ++ done.drop (sure.length - at_)
theorem GrOk.act {x : Gr} {K : Nat} (h : GrOk G x K) {y : Int} (hy : node x.n y) {c : Core} {G1 : Gh} (a : Act G y (x.core y) G1 c) :
    c.commit = (x.core y).commit + c.done.length ∧ c.commit ≤ c.keep.log.length ∧ (∀ j b, c.done[j]? = some b → (tells x.sure (x.core y).commit c.done)[(x.core y).commit + j]? = some b) ∧
    ∀ mail, (∀ m ∈ mail, m ∈ x.mail ++ c.msgs) → GrOk G1 { x with core := fun z => if z = y then c.clear else x.core z, mail := mail, sure := tells x.sure (x.core y).commit c.done } (K + 1) := by
  obtain ⟨t, ht⟩ : ∃ t, t = (x.core y).commit := ⟨_, rfl⟩
  have hts : t ≤ x.sure.length := by rw [ht]; exact h.com y hy
  have htc : t ≤ c.commit := by rw [ht]; exact a.com
  have hcl := Cm.fits a.st.cm
  have hd : c.done = (c.keep.log.take c.commit).drop t := by rw [ht]; exact a.done
  have hdl : c.commit = t + c.done.length := by rw [hd, List.length_drop, List.length_take]; omega
  obtain ⟨N, l, s1, s2⟩ := h.sure
  have s1' := a.ext.cm s1
  have hsl := Cm.fits s1
  have key : ∀ i, i < x.sure.length → i < c.commit → x.sure[i]? = c.keep.log[i]? := by
    intro i h1 h2
    have e : l.take (min x.sure.length c.commit) = c.keep.log.take (min x.sure.length c.commit) := by
      rcases Nat.le_total x.sure.length c.commit with e | e
      · rw [Nat.min_eq_left e]; exact cm_same a.gi s1' a.st.cm e
      · rw [Nat.min_eq_right e]; exact (cm_same a.gi a.st.cm s1' e).symm
    have := congrArg (fun q => q[i]?) e
    simp only [List.getElem?_take, if_pos (show i < min x.sure.length c.commit by omega)] at this
    rw [s2, List.getElem?_take, if_pos h1]; exact this
  have htells : ∀ i, i < max x.sure.length c.commit → (tells x.sure t c.done)[i]? = if i < x.sure.length then x.sure[i]? else c.keep.log[i]? := by
    intro i hi
    unfold tells
    split
    · rename_i h1; rw [List.getElem?_append_left h1]
    · rename_i h1
      rw [List.getElem?_append_right (by omega), hd, List.getElem?_drop, List.getElem?_drop, List.getElem?_take, if_pos (by omega)]
      congr 1; omega
  have hlen : (tells x.sure t c.done).length = max x.sure.length c.commit := by
    unfold tells
    rw [List.length_append, List.length_drop]; omega
  rw [← ht]
  refine ⟨hdl, hcl, fun j b hj => ?_, fun mail hmail => ?_⟩
  · have hjl := (List.getElem?_eq_some_iff.1 hj).1
    rw [htells _ (by omega)]
    have hb : c.keep.log[t + j]? = some b := by
      rw [hd, List.getElem?_drop, List.getElem?_take, if_pos (by omega)] at hj
      exact hj
    split
    · rename_i h1; rw [key _ h1 (by omega)]; exact hb
    · exact hb
  · refine ⟨a.gi, a.ext.n.trans h.n, fun z hz => ?_, fun z hz => ?_, fun z hz => ?_, fun z hz => ?_, fun z hz => ?_, fun m hm => ?_, ?_⟩
    · show St G1 z (if z = y then _ else _)
      split
      · rename_i ez; rw [ez]
        exact ⟨a.st.me, a.st.n, a.st.nd, a.st.shard, a.st.keep, a.st.ch, a.st.cm, a.st.own, a.st.has, a.st.has0, a.st.dos⟩
      · rename_i ez; exact (h.st z hz).ext a.ext ez
    · show Core.recs (if z = y then _ else _) = [] ∧ Core.msgs (if z = y then _ else _) = [] ∧ Core.done (if z = y then _ else _) = []
      split
      · exact ⟨rfl, rfl, rfl⟩
      · exact h.out z hz
    · show Core.pat (if z = y then _ else _) = _
      split
      · exact a.pat.trans (h.pat y hy)
      · exact h.pat z hz
    · show Core.idle (if z = y then _ else _) ≤ ((K + 1 : Nat) : Int)
      split
      · show c.idle ≤ _
        have := h.idle y hy
        rcases a.idle with e | e <;> omega
      · have := h.idle z hz; omega
    · show Core.commit (if z = y then _ else _) ≤ (tells x.sure t c.done).length
      rw [hlen]
      split
      · show c.commit ≤ _; omega
      · have := h.com z hz; omega
    · rcases List.mem_append.1 (hmail m hm) with h1 | h1
      · exact (h.mail m h1).ext a.ext
      · exact (a.msgs m h1).1
    · show ∃ N l, G1.Cm N (tells x.sure t c.done).length l ∧ tells x.sure t c.done = l.take (tells x.sure t c.done).length
      rcases Nat.le_total x.sure.length c.commit with e | e
      · refine ⟨c.keep.normal, c.keep.log, by rw [hlen, Nat.max_eq_right e]; exact a.st.cm, ?_⟩
        apply List.ext_getElem?
        intro i
        rw [hlen, Nat.max_eq_right e, List.getElem?_take]
        split
        · rename_i h1
          rw [htells i (by omega)]
          split
          · rename_i h2; exact key i h2 h1
          · rfl
        · rename_i h1
          rw [List.getElem?_eq_none (by rw [hlen]; omega)]
      · refine ⟨N, l, by rw [hlen, Nat.max_eq_left e]; exact s1', ?_⟩
        rw [hlen, Nat.max_eq_left e, ← s2]
        unfold tells
        rw [List.drop_eq_nil_of_le (by omega), List.append_nil]
/-- the ghost at the start -/
def Gh.init (n : Nat) : Gh := { n := n, V := fun _ => 0, N := fun _ => 0, ack := fun _ _ => 0, beg := fun v => v = 0, L := fun _ => [] }
theorem init_gi (n : Nat) : (Gh.init n).GI := by
  refine ⟨fun v w k h1 h2 h3 h4 => ?_, fun v _ => Nat.le_refl _, fun w h => ?_, fun v _ => ⟨rfl, fun _ => rfl⟩, fun x _ => Int.le_refl _, fun x v k _ h1 h2 _ => ?_⟩
  · have h2 : w = 0 := h2
    obtain ⟨x, _, h5⟩ := h4.some
    have h5 : k ≤ 0 ∨ (0 : Int) ≤ v := h5
    omega
  · have h : w = 0 := h
    show w ≤ 0; omega
  · have h2 : k ≤ 0 := h2
    omega
theorem init_st {n : Nat} {x : Int} (hx : node n x) (pat : Int) : St (Gh.init n) x (Core.new x n 2 pat ⟨0, 0, []⟩) := by
  refine ⟨rfl, rfl, hx, rfl, ⟨rfl, rfl, ⟨Int.le_refl 0, Int.le_refl 0, by show (0 : Int) ≤ _; decide⟩, ⟨by show ([] : List Bs).length ≤ 2000; simp, fun b hb => by cases hb⟩, ⟨rfl, fun v k h1 h2 h3 => ?_, fun k h1 h2 => ?_⟩, fun v k h1 h2 => ?_⟩, ?_, .inl rfl, fun _ => Nat.zero_le _, fun _ y _ _ => Nat.zero_le _, fun y => Int.le_refl _, fun y m hm => by cases hm⟩
  · have h1 : v < 0 := h1
    obtain ⟨y, _, h5⟩ := h3.some
    have h5 : k ≤ 0 ∨ (0 : Int) ≤ v := h5
    omega
  · have h2 : k ≤ 0 := h2
    have : k = 0 := by omega
    subst this
    exact ⟨Nat.zero_le _, Nat.zero_le _, rfl⟩
  · have h2 : k ≤ 0 := h2
    omega
  · show ((0 : Int) != 0) = true ↔ (0 : Int) ≠ 0
    simp
def Gr.init (n : Nat) (pat : Int) : Gr := ⟨n, pat, fun y => Core.new y n 2 pat ⟨0, 0, []⟩, [], []⟩
theorem Gr.init_ok (n : Nat) (pat : Int) : GrOk (Gh.init n) (Gr.init n pat) 0 :=
  ⟨init_gi n, rfl, fun y hy => init_st hy pat, fun y _ => ⟨rfl, rfl, rfl⟩, fun y _ => rfl, fun y _ => Int.le_refl _, fun y _ => Nat.zero_le _, (fun m hm => by cases hm), 0, [], .inl rfl, rfl⟩
/-- whether it is handed in -/
theorem propose_recs (c : Core) (b : Bs) (h : c.recs = []) (hb : b.length ≤ 4000) : ((c.propose b).2 = 0 ∧ (c.propose b).1.recs.length = 1) ∨ (((c.propose b).2 = 50 ∨ (c.propose b).2 = 40) ∧ (c.propose b).1.recs = []) := by
  have hc : ∀ d : Core, d.count.recs = d.recs := fun d => by unfold Core.count; split <;> rfl
  unfold Core.propose
  split
  · exact .inr ⟨.inl rfl, h⟩
  · split
    · omega
    · split
      · exact .inr ⟨.inr rfl, h⟩
      · refine .inl ⟨rfl, ?_⟩
        rw [hc]
        show (c.recs ++ [_]).length = 1
        rw [h]; rfl
end Vw
end Go.Proofs.Ytmmgnbdngpkfcaa

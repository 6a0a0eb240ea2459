/-
  A group: views and logs grow by one a step: plain laws.
-/
import Derived.Test.YtmmgnbdngpkfcaaVwLg
namespace Go.Proofs.Ytmmgnbdngpkfcaa
set_option linter.unusedVariables false
namespace Vw

/-- what bounds a message -/
def MB (B : Int) (L : Nat) (m : Msg) : Prop := m.view ≤ B ∧ m.list.length ≤ L ∧ (m.kind = 1 → m.at_.toNat + m.list.length ≤ L)
def KB (B : Int) (L : Nat) (k : Keep) : Prop := k.view ≤ B ∧ k.log.length ≤ L
/-- a step of a member under way, within bounds -/
structure Bd (B : Int) (L : Nat) (k0 : Keep) (c : Core) : Prop where
  keep : KB B L c.keep
  dos : ∀ y m, c.dos y = some m → m.list.length ≤ L
  msgs : ∀ m ∈ c.msgs, MB B L m
  cuts : Cuts (KB B L) k0 c.recs
  lays : (Vw.lays k0 c.recs).log = c.keep.log
section
variable {B : Int} {L : Nat} {k0 : Keep} {c d : Core}
theorem Bd.start (h : c.recs = [] ∧ c.msgs = []) (hk : KB B L c.keep) (hd : ∀ y m, c.dos y = some m → m.list.length ≤ L) : Bd B L c.keep c :=
  ⟨hk, hd, (by rw [h.2]; intro m hm; cases hm), fun k => by rw [h.1]; simpa [Vw.lays] using hk, by rw [h.1]; rfl⟩
theorem Bd.beside (h : Bd B L k0 c) (e1 : d.keep = c.keep) (e2 : d.recs = c.recs) (e3 : d.msgs = c.msgs) (e4 : ∀ y m, d.dos y = some m → m.list.length ≤ L) : Bd B L k0 d :=
  ⟨by rw [e1]; exact h.keep, e4, by rw [e3]; exact h.msgs, by rw [e2]; exact h.cuts, by rw [e2, e1]; exact h.lays⟩
theorem Bd.more (h : Bd B L k0 c) (ms : List Msg) (hm : ∀ m ∈ ms, MB B L m) (e1 : d.keep = c.keep) (e2 : d.recs = c.recs) (e3 : d.msgs = c.msgs ++ ms) (e4 : d.dos = c.dos) : Bd B L k0 d :=
  ⟨by rw [e1]; exact h.keep, by rw [e4]; exact h.dos, fun m hmm => by
    rw [e3] at hmm
    rcases List.mem_append.1 hmm with g | g
    · exact h.msgs m g
    · exact hm m g, by rw [e2]; exact h.cuts, by rw [e2, e1]; exact h.lays⟩
theorem Bd.send (h : Bd B L k0 c) (m : Msg) (hl : m.list.length ≤ L) (hk : m.kind ≠ 1) : Bd B L k0 (c.send m) :=
  h.more [_] (fun q hq => by rw [List.mem_singleton.1 hq]; exact ⟨h.keep.1, hl, fun e => absurd e hk⟩) rfl rfl rfl rfl
theorem Bd.all (h : Bd B L k0 c) (m : Msg) (hl : m.list.length ≤ L) (hk : m.kind ≠ 1) : Bd B L k0 (c.all m) :=
  h.more _ (fun q hq => by
    obtain ⟨y, _, rfl⟩ := List.mem_map.1 hq
    exact ⟨h.keep.1, hl, fun e => absurd e hk⟩) rfl rfl rfl rfl
theorem Bd.reach (h : Bd B L k0 c) (k : Int) : Bd B L k0 (c.reach k) := h.beside rfl rfl rfl h.dos
theorem Bd.count (h : Bd B L k0 c) : Bd B L k0 c.count := by
  unfold Core.count
  split
  · exact h.reach _
  · exact h
theorem Bd.feeds (h : Bd B L k0 c) : Bd B L k0 c.feeds :=
  h.more _ (fun q hq => by
    obtain ⟨y, _, rfl⟩ := List.mem_map.1 hq
    have h1 := h.keep.2
    refine ⟨h.keep.1, ?_, fun _ => ?_⟩
    · show ((c.keep.log.drop _).take 8).length ≤ L
      rw [List.length_take, List.length_drop]; omega
    · show (min (c.has y) (c.keep.log.length : Int)).toNat + ((c.keep.log.drop _).take 8).length ≤ L
      rw [List.length_take, List.length_drop]; omega) rfl rfl rfl rfl
/-- another view, or an entry more -/
theorem Bd.recd (h : Bd B L k0 c) (r : Rc) (hr : r.kind = 1 ∨ r.kind = 2) (h1 : r.kind = 1 → r.a ≤ B) (h2 : r.kind = 2 → c.keep.log.length + 1 ≤ L) : Bd B L k0 (c.rec_ r) := by
  have hall : KB B L (Vw.lays k0 c.recs) := by
    have := h.cuts c.recs.length
    rw [List.take_of_length_le (Nat.le_refl _)] at this
    exact this
  rcases hr with e | e
  · have e1 : ∀ k : Keep, lay k r = { k with view := r.a, normal := r.b } := fun k => by unfold lay; rw [if_pos e]
    refine ⟨?_, h.dos, h.msgs, h.cuts.snoc ?_, ?_⟩
    · show KB B L (lay c.keep r)
      rw [e1]; exact ⟨h1 e, h.keep.2⟩
    · rw [e1]; exact ⟨h1 e, hall.2⟩
    · show (Vw.lays k0 (c.recs ++ [r])).log = (lay c.keep r).log
      rw [lays_snoc, e1, e1]; exact h.lays
  · have e1 : ∀ k : Keep, lay k r = { k with log := k.log ++ [r.data] } := fun k => by unfold lay; rw [if_neg (by omega), if_pos e]
    have := h2 e
    refine ⟨?_, h.dos, h.msgs, h.cuts.snoc ?_, ?_⟩
    · show KB B L (lay c.keep r)
      rw [e1]
      exact ⟨h.keep.1, by show (c.keep.log ++ [_]).length ≤ L; rw [List.length_append, List.length_singleton]; omega⟩
    · rw [e1]
      exact ⟨hall.1, by show ((Vw.lays k0 c.recs).log ++ [_]).length ≤ L; rw [h.lays, List.length_append, List.length_singleton]; omega⟩
    · show (Vw.lays k0 (c.recs ++ [r])).log = (lay c.keep r).log
      rw [lays_snoc, e1, e1]
      show (Vw.lays k0 c.recs).log ++ _ = _
      rw [h.lays]
theorem Bd.adopt (h : Bd B L k0 c) (l : List Bs) (hl : l.length ≤ L) (v : Int) (hv : v ≤ B) : Bd B L k0 ({ c with keep := { c.keep with view := v } }.adopt l) := by
  obtain ⟨c1, hc1⟩ : ∃ c1 : Core, c1 = { c with keep := { c.keep with view := v } } := ⟨_, rfl⟩
  rw [← hc1]
  have hall : KB B L (Vw.lays k0 c.recs) := by
    have := h.cuts c.recs.length
    rw [List.take_of_length_le (Nat.le_refl _)] at this
    exact this
  have hr : c1.recs = c.recs := by rw [hc1]
  have hlog : c1.keep.log = c.keep.log := by rw [hc1]
  have hview : c1.keep.view = v := by rw [hc1]
  obtain ⟨V, N, lg, hk⟩ : ∃ V N lg, Vw.lays k0 c.recs = ⟨V, N, lg⟩ := ⟨_, _, _, rfl⟩
  have hlg : lg = c1.keep.log := by
    rw [hlog, ← h.lays, hk]
  rw [hk] at hall
  have hC := adopt_cuts (P := KB B L) (k0 := k0) (V := V) (N := N) (B := l) c1 (by rw [hr]; exact h.cuts) (by rw [hr, hk, hlg])
    (fun j hj => ⟨hall.1, by show (l.take j).length ≤ L; rw [List.length_take]; omega⟩) ⟨by rw [hview]; exact hv, hl⟩
  obtain ⟨k1, k2, k3, k4, k5, k6, k7, k8, k9⟩ := c1.adopt_log l
  obtain ⟨f1, f2, f3, f4, f5⟩ := c1.adopt_rest2 l
  refine ⟨by rw [k1, hview]; exact ⟨hv, hl⟩, fun y m hm => (by rw [f5] at hm; cases hm), by rw [k8, hc1]; exact h.msgs, hC.1, by rw [hC.2, k1]⟩
theorem Bd.begin (h : Bd B L k0 c) : Bd B L k0 c.begin_ := by
  unfold Core.begin_
  split
  · have hb : ∀ j, (c.bestTo j).1.list.length ≤ L := fun j => by
      induction j with
      | zero => exact Nat.zero_le _
      | succ j ih =>
        cases hd : c.dos ((j : Int) + 1) with
        | none => rw [c.bestTo_none j hd]; exact ih
        | some m =>
          rw [c.bestTo_some j hd]
          show (if _ then m else _ : Msg).list.length ≤ L
          split
          · exact h.dos _ _ hd
          · exact ih
    have h1 : Bd B L k0 (c.adopt c.best.1.list) := h.adopt _ (by rw [← c.bestTo_n]; exact hb _) c.keep.view h.keep.1
    exact ((h1.all { Msg.z with kind := 5, commit := c.best.2, list := (c.adopt c.best.1.list).keep.log } h1.keep.2 (by show (5 : Int) ≠ 1; decide)).reach _).count
  · exact h
theorem Bd.wanted (h : Bd B L k0 c) : Bd B L k0 c.wanted := by
  unfold Core.wanted
  split
  · split
    · exact h.send _ h.keep.2 (by show (4 : Int) ≠ 1; decide)
    · refine Bd.begin (h.beside rfl rfl rfl fun y m hm => ?_)
      simp only at hm
      split at hm
      · injection hm with hm; subst hm; exact h.keep.2
      · exact h.dos y m hm
  · exact h
theorem Bd.change (h : Bd B L k0 c) (v : Int) (hv : v ≤ B) : Bd B L k0 (c.change v) := by
  have h1 := h.recd ⟨1, v, c.keep.normal, []⟩ (.inl rfl) (fun _ => hv) (fun e => by cases e)
  have h2 : Bd B L k0 { (c.rec_ ⟨1, v, c.keep.normal, []⟩) with ch := true, idle := 0, begun := fun x => decide (x = (c.rec_ ⟨1, v, c.keep.normal, []⟩).me), dos := fun _ => none, has := fun _ => 0 } := h1.beside rfl rfl rfl fun y m hm => by cases hm
  exact (h2.all { Msg.z with kind := 3 } (Nat.zero_le _) (by show (3 : Int) ≠ 1; decide)).wanted
theorem Bd.started (h : Bd B L k0 c) (m : Msg) : Bd B L k0 (c.started m) := by
  unfold Core.started
  split
  · exact h
  split
  · split
    · exact Bd.wanted (h.beside rfl rfl rfl h.dos)
    · exact h
  split
  · exact h.send _ h.keep.2 (by show (5 : Int) ≠ 1; decide)
  · exact h
theorem Bd.prep (h : Bd B L k0 c) (m : Msg) (ha : 0 ≤ m.at_) (hm : m.at_.toNat + m.list.length ≤ L) : Bd B L k0 (c.prep m) := by
  have key : ∀ j : Nat, j ≤ m.list.length → Bd B L k0 ((List.range j).foldl (fun c i => c.prepS m i) ({ c with idle := 0 } : Core)) := by
    intro j
    induction j with
    | zero => intro _; exact h.beside rfl rfl rfl h.dos
    | succ j ih =>
      intro hj
      have hi := ih (by omega)
      rw [List.range_succ, List.foldl_append]
      obtain ⟨f, hf⟩ : ∃ f, f = (List.range j).foldl (fun c i => c.prepS m i) ({ c with idle := 0 } : Core) := ⟨_, rfl⟩
      rw [← hf] at hi ⊢
      show Bd B L k0 (f.prepS m j)
      unfold Core.prepS
      split
      · split
        · rename_i hc
          exact hi.recd _ (.inr rfl) (fun e => by cases e) fun _ => by have := hc.1; omega
        · exact hi
      · exact hi
  obtain ⟨d, hd⟩ : ∃ d : Core, d = if m.at_ ≤ (c.keep.log.length : Int) then ((List.range m.list.length).foldl (fun c i => c.prepS m i) ({ c with idle := 0 } : Core)).reach m.commit else ({ c with idle := 0 } : Core) := ⟨_, rfl⟩
  have e : c.prep m = d.send { Msg.z with kind := 2, to_ := m.frm, at_ := d.keep.log.length } := by rw [hd]; rfl
  have h1 : Bd B L k0 d := by
    rw [hd]
    split
    · exact (key _ (Nat.le_refl _)).reach _
    · exact h.beside rfl rfl rfl h.dos
  rw [e]
  exact h1.send { Msg.z with kind := 2, to_ := m.frm, at_ := d.keep.log.length } (Nat.zero_le _) (by show (2 : Int) ≠ 1; decide)
theorem Bd.in_ (h : Bd B L k0 c) (m : Msg) (hm : MB B L m) : Bd B L k0 (c.in_ m) := by
  unfold Core.in_
  split
  · exact h
  rename_i hh
  have ha : 0 ≤ m.at_ := by
    have : c.hears m = true := by simpa using hh
    unfold Core.hears at this
    rw [decide_eq_true_eq] at this
    exact this.2.2.2.2.2.2.2.2.2.1
  split
  · split
    · exact h.send _ (Nat.zero_le _) (by show (3 : Int) ≠ 1; decide)
    · exact h
  obtain ⟨c1, hc1⟩ : ∃ c1, c1 = if m.view > c.keep.view ∧ m.kind ≠ 5 ∧ m.kind ≠ 2 then c.change m.view else c := ⟨_, rfl⟩
  have h1 : Bd B L k0 c1 := by
    rw [hc1]
    split
    · exact h.change _ hm.1
    · exact h
  show Bd B L k0 ((if m.view > c.keep.view ∧ m.kind ≠ 5 ∧ m.kind ≠ 2 then c.change m.view else c).inD m (lead m.view c.n))
  rw [← hc1]
  unfold Core.inD
  split
  · exact h1.started m
  split
  · refine Bd.begin (h1.beside rfl rfl rfl fun y q hq => ?_)
    simp only at hq
    split at hq
    · injection hq with hq; subst hq; exact hm.2.1
    · exact h1.dos y q hq
  split
  · exact ((h1.adopt m.list hm.2.1 m.view hm.1).reach _).send _ (Nat.zero_le _) (by show (2 : Int) ≠ 1; decide)
  split
  · rename_i hk
    exact h1.prep m ha (hm.2.2 hk.1)
  split
  · exact Bd.count (h1.beside rfl rfl rfl h1.dos)
  · exact h1
theorem Bd.tick (h : Bd B L k0 c) (hv : c.keep.view + 1 ≤ B) : Bd B L k0 c.tick := by
  have hd : Bd B L k0 ({ c with idle := c.idle + 1 } : Core) := h.beside rfl rfl rfl h.dos
  unfold Core.tick
  simp only
  split
  · refine Bd.count ?_
    split
    · exact Bd.feeds (hd.beside rfl rfl rfl h.dos)
    · exact hd
  split
  · split
    · refine Bd.wanted (Bd.all ?_ { Msg.z with kind := 3 } (Nat.zero_le _) (by show (3 : Int) ≠ 1; decide))
      exact hd.beside rfl rfl rfl h.dos
    · exact hd
  split
  · split
    · exact hd.change _ hv
    · exact hd
  · exact hd
theorem Bd.propose (h : Bd B L k0 c) (b : Bs) (hl : c.keep.log.length + 1 ≤ L) : Bd B L k0 (c.propose b).1 := by
  unfold Core.propose
  split
  · exact h
  split
  · exact h
  split
  · exact h
  · exact (h.recd _ (.inr rfl) (fun e => by cases e) fun _ => hl).feeds.count
end
/-- a group within bounds -/
structure BdG (B : Int) (L : Nat) (x : Gr) : Prop where
  keep : ∀ y, node x.n y → KB B L (x.core y).keep ∧ ∀ z m, (x.core y).dos z = some m → m.list.length ≤ L
  mail : ∀ m ∈ x.mail, MB B L m
theorem MB.mono {B B' : Int} {L L' : Nat} {m : Msg} (h : MB B L m) (hB : B ≤ B') (hL : L ≤ L') : MB B' L' m := ⟨by have := h.1; omega, by have := h.2.1; omega, fun e => by have := h.2.2 e; omega⟩
theorem BdG.mono {B B' : Int} {L L' : Nat} {x : Gr} (h : BdG B L x) (hB : B ≤ B') (hL : L ≤ L') : BdG B' L' x :=
  ⟨fun y hy => ⟨⟨by have := (h.keep y hy).1.1; omega, by have := (h.keep y hy).1.2; omega⟩, fun z m hm => by have := (h.keep y hy).2 z m hm; omega⟩, fun m hm => (h.mail m hm).mono hB hL⟩
theorem BdG.act {B : Int} {L : Nat} {x : Gr} (h : BdG B L x) {y : Int} (hy : node x.n y) {c : Core} (hc : Bd B L (x.core y).keep c) (cut : Int) : BdG B L (grDo x y c cut) := by
  unfold grDo
  split
  · refine ⟨fun z hz => ?_, h.mail⟩
    show KB B L (if z = y then _ else x.core z : Core).keep ∧ ∀ q m, (if z = y then _ else x.core z : Core).dos q = some m → _
    split
    · exact ⟨hc.cuts _, fun q m hm => by cases hm⟩
    · exact h.keep z hz
  · refine ⟨fun z hz => ?_, fun m hm => ?_⟩
    · show KB B L (if z = y then c.clear else x.core z : Core).keep ∧ ∀ q m, (if z = y then c.clear else x.core z : Core).dos q = some m → _
      split
      · exact ⟨hc.keep, hc.dos⟩
      · exact h.keep z hz
    · rcases List.mem_append.1 (mem_trim hm) with g | g
      · exact h.mail m g
      · exact hc.msgs m g
theorem BdG.start {B : Int} {L : Nat} {x : Gr} {K : Nat} (h : BdG B L x) (ho : GOk x K) {y : Int} (hy : node x.n y) : Bd B L (x.core y).keep (x.core y) :=
  Bd.start ⟨(ho.mb hy).recs, (ho.mb hy).msgs⟩ (h.keep y hy).1 (h.keep y hy).2
theorem BdG.step {B : Int} {L : Nat} {x : Gr} {K : Nat} (h : BdG B L x) (ho : GrI x K) (k N I : Int) : BdG (B + 1) (L + 1) (grStep x k N I) := by
  obtain ⟨i, hi, hN⟩ := idx_ok ho N
  have hok : GOk x K := ⟨ho.1, ho.2.1⟩
  have hy : node x.n ((i : Int) + 1) := ⟨by omega, by omega⟩
  have h' : BdG (B + 1) (L + 1) x := h.mono (by omega) (by omega)
  have s := h'.start hok hy
  unfold grStep
  simp only
  rw [hN]
  split
  · exact h'.act hy (s.tick (by have := (h.keep _ hy).1.1; omega)) _
  split
  · unfold grMail
    split
    · exact h'
    · rename_i m hm
      have hmem := List.mem_of_getElem? hm
      have hto := (hok.mg hmem).to_
      have key : ∀ x1 : Gr, x1.n = x.n → x1.core = x.core → (∀ q ∈ x1.mail, q ∈ x.mail) → BdG (B + 1) (L + 1) (if k ≠ 2 then grDo x1 m.to_ ((x1.core m.to_).in_ m) (if 6 ≤ k then I % 4 else -1) else x1) := fun x1 e1 e2 e3 => by
        have h1 : BdG (B + 1) (L + 1) x1 := ⟨by rw [e1, e2]; exact h'.keep, fun q hq => h'.mail q (e3 q hq)⟩
        split
        · refine h1.act (by rw [e1]; exact hto) ?_ _
          rw [e2]
          exact (h'.start hok hto).in_ m (h'.mail m hmem)
        · exact h1
      refine key _ ?_ ?_ ?_
      · split <;> rfl
      · split <;> rfl
      · intro q hq
        split at hq
        · exact (List.mem_append.1 hq).elim List.mem_of_mem_take List.mem_of_mem_drop
        · exact hq
  split
  · exact h'.act hy (s.propose _ (by have := (h.keep _ hy).1.2; omega)) _
  split
  · refine ⟨fun z hz => ?_, h'.mail⟩
    show KB (B + 1) (L + 1) (if z = (i : Int) + 1 then _ else x.core z : Core).keep ∧ ∀ q m, (if z = (i : Int) + 1 then _ else x.core z : Core).dos q = some m → _
    split
    · exact ⟨(h'.keep _ hy).1, fun q m hm => by cases hm⟩
    · exact h'.keep z hz
  · exact h'
theorem BdG.init (n : Nat) (pat : Int) : BdG 0 0 (Gr.init n pat) :=
  ⟨fun y hy => ⟨⟨Int.le_refl _, Nat.le_refl _⟩, fun z m hm => by cases hm⟩, fun m hm => by cases hm⟩
/-- a member alone never wants another view -/
theorem one_step {x : Gr} {K : Nat} (ho : GrI x K) (hn : x.n = 1) (h : (x.core 1).ch = false) (k N I : Int) : ((grStep x k N I).core 1).ch = false := by
  have hok : GOk x K := ⟨ho.1, ho.2.1⟩
  have h1 : node x.n 1 := ⟨Int.le_refl _, by rw [hn]; exact Int.le_refl _⟩
  have b := hok.mb h1
  have hl : (x.core 1).leads = true := leads_is.2 ⟨h, by
    rw [b.n, b.me, hn]
    unfold lead
    rw [show max ((1 : Nat) : Int) 1 = 1 from rfl, Int.emod_one]
    rfl⟩
  have hi : N % 65536 % (x.n : Int) + 1 = 1 := by rw [hn]; omega
  have hmail : x.mail = [] := by
    cases e : x.mail with
    | nil => rfl
    | cons m r =>
      have g := hok.mg (m := m) (by rw [e]; exact List.mem_cons_self)
      have h1 := g.to_
      have h2 := g.frm
      have h3 := g.ne
      unfold node at h1 h2
      omega
  have hdo : ∀ (c : Core) (cut : Int), c.ch = false → (c.recs = [] ∨ cut < 0) → ((grDo x 1 c cut).core 1).ch = false := fun c cut hc hr => by
    unfold grDo
    rw [if_neg (fun g => hr.elim (fun e => by
      have g2 := g.2
      rw [e] at g2
      have g2 : cut < 0 := g2
      omega) fun e => by omega)]
    show (if (1 : Int) = 1 then c.clear else x.core 1 : Core).ch = false
    rw [if_pos rfl]; exact hc
  unfold grStep
  simp only
  rw [hi]
  split
  · obtain ⟨d, hd⟩ : ∃ d : Core, d = if 2 ≤ (x.core 1).idle + 1 then ({ ({ x.core 1 with idle := (x.core 1).idle + 1 } : Core) with idle := 0 } : Core).feeds else ({ x.core 1 with idle := (x.core 1).idle + 1 } : Core) := ⟨_, rfl⟩
    have dl : ({ x.core 1 with idle := (x.core 1).idle + 1 } : Core).leads = true := hl
    have e : (x.core 1).tick = d.count := by
      rw [hd]
      show (if ({ x.core 1 with idle := (x.core 1).idle + 1 } : Core).leads then _ else _) = _
      rw [if_pos dl]
    have hr : d.recs = (x.core 1).recs ∧ d.ch = (x.core 1).ch := by
      rw [hd]
      split <;> exact ⟨rfl, rfl⟩
    obtain ⟨e1, e2, e3, e4, e5, e6, e7, e8, e9, e10, e11⟩ := d.count_same
    exact hdo _ _ (by rw [e, e4, hr.2]; exact h) (.inl (by rw [e, e10, hr.1]; exact b.recs))
  split
  · unfold grMail
    rw [hmail]
    exact h
  split
  · rename_i hk
    refine hdo _ _ ?_ (.inr (by rw [if_neg (by omega)]; decide))
    unfold Core.propose
    split
    · exact h
    split
    · exact h
    split
    · exact h
    · rw [(Core.count_same _).2.2.2.1]; exact h
  split
  · show (if (1 : Int) = 1 then Core.new 1 x.n 2 x.pat (x.core 1).keep else x.core 1 : Core).ch = false
    rw [if_pos rfl]
    obtain ⟨⟨G, hG⟩, _⟩ := hok
    have := (hG.st 1 h1).vn h
    show ((x.core 1).keep.view != (x.core 1).keep.normal) = false
    rw [this]; simp
  · exact h
end Vw
end Go.Proofs.Ytmmgnbdngpkfcaa

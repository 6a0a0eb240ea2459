/-
  A group in the calm: what a member does with a message and in a unit of time: plain laws.
-/
import Derived.Test.YtmmgnbdngpkfcaaVwPe
namespace Go.Proofs.Ytmmgnbdngpkfcaa
set_option linter.unusedVariables false
namespace Vw

theorem cnt_all {n : Nat} {p : Int → Bool} (h : ∀ y, node n y → p y = true) : cnt n p = n := by
  unfold cnt
  rw [List.filter_eq_self.2 fun i hi => h _ ⟨by omega, by have := List.mem_range.1 hi; omega⟩, List.length_range]
theorem cnt_le_one {n : Nat} {p : Int → Bool} (a : Int) (h : ∀ y, p y = true → y = a) : cnt n p ≤ 1 := by
  unfold cnt
  refine nodup_len (l' := [(a - 1).toNat]) ((List.nodup_range (n := n)).filter _) fun i hi => ?_
  have := h _ (List.mem_filter.1 hi).2
  exact List.mem_singleton.2 (by omega)
/-- a message of a kind, from one to another, of a view -/
def Has (l : List Msg) (k a b V : Int) : Prop := ∃ r ∈ l, r.kind = k ∧ r.frm = a ∧ r.to_ = b ∧ r.view = V
theorem Has.mono {l l' : List Msg} {k a b V : Int} (h : Has l k a b V) (hl : ∀ r ∈ l, r ∈ l') : Has l' k a b V := by
  obtain ⟨r, h1, h2⟩ := h
  exact ⟨r, hl r h1, h2⟩
def b2 (b : Bool) : Nat := if b = true then 1 else 0
/-- how much a message may still bring about -/
def wt (rk : Int → Nat) (m : Msg) : Nat := if m.kind = 1 ∨ m.kind = 3 then 3 + rk m.view else if m.kind = 5 then 2 else 1
def wts (rk : Int → Nat) (l : List Msg) : Nat := (l.map (wt rk)).sum
theorem wts_cons (rk : Int → Nat) (m : Msg) (l : List Msg) : wts rk (m :: l) = wt rk m + wts rk l := by simp [wts]
theorem wts_append (rk : Int → Nat) (l l' : List Msg) : wts rk (l ++ l') = wts rk l + wts rk l' := by simp [wts]
theorem wts_le {rk : Int → Nat} {k : Nat} : ∀ {l : List Msg}, (∀ m ∈ l, wt rk m ≤ k) → wts rk l ≤ l.length * k
  | [], _ => by simp [wts]
  | m :: l, h => by
    rw [wts_cons, List.length_cons, Nat.succ_mul]
    have h1 := h m List.mem_cons_self
    have h2 := wts_le (l := l) fun r hr => h r (List.mem_cons_of_mem _ hr)
    omega
theorem wt_pos (rk : Int → Nat) (m : Msg) : 1 ≤ wt rk m := by unfold wt; split; omega; split <;> omega
namespace Core
theorem others_len' (c : Core) (h : node c.n c.me) : (c.others c.n).length + 1 ≤ c.n := by
  have hx : c.me ∉ c.others c.n := fun h => (mem_others.1 h).2 rfl
  have := nodup_len (l := c.me :: c.others c.n) (l' := (List.range c.n).map fun i : Nat => (i : Int) + 1) (List.nodup_cons.2 ⟨hx, others_nodup c c.n⟩) fun y hy => by
    have hn : node c.n y := by
      rcases List.mem_cons.1 hy with rfl | hy
      · exact h
      · exact (mem_others.1 hy).1
    unfold node at hn
    exact List.mem_map.2 ⟨(y - 1).toNat, List.mem_range.2 (by omega), by show (((y - 1).toNat : Nat) : Int) + 1 = y; omega⟩
  simpa using this
/-- another view is wanted, by more than one member -/
def chg (c : Core) (v : Int) : Core :=
  { c with keep := { c.keep with view := v }, recs := c.recs ++ [⟨1, v, c.keep.normal, []⟩], ch := true, idle := 0, begun := fun x => decide (x = c.me), dos := fun _ => none, has := fun _ => 0, msgs := c.msgs ++ (c.others c.n).map fun tt => { Msg.z with kind := 3, to_ := tt, frm := c.me, shard := c.shard, view := v } }
theorem change_eq (c : Core) (v : Int) (h : 2 ≤ c.n) : c.change v = c.chg v := by
  have e : c.change v = (c.chg v).wanted := by unfold change chg rec_ all; rfl
  rw [e]
  unfold wanted most
  have h1 : cnt (c.chg v).n (c.chg v).begun ≤ 1 := cnt_le_one c.me fun y hy => by
    have hy : decide (y = c.me) = true := hy
    simpa using hy
  have h2 : (c.chg v).n = c.n := rfl
  rw [if_neg (by simp only [decide_eq_true_eq]; omega)]
theorem wanted_cases (c : Core) : (c.most (cnt c.n c.begun) = false ∧ c.wanted = c) ∨
    (c.most (cnt c.n c.begun) = true ∧ lead c.keep.view c.n ≠ c.me ∧ c.wanted = c.send c.doMsg) ∨
    (c.most (cnt c.n c.begun) = true ∧ lead c.keep.view c.n = c.me ∧ c.wanted = ({ c with dos := fun x => if x = c.me then some c.doMsg else c.dos x } : Core).begin_) := by
  unfold wanted
  split
  · rename_i h
    split
    · rename_i h2; exact .inr (.inl ⟨h, h2, rfl⟩)
    · rename_i h2; exact .inr (.inr ⟨h, by omega, rfl⟩)
  · rename_i h
    exact .inl ⟨by simpa using h, rfl⟩
/-- a view begins -/
structure Bgn (c d : Core) : Prop where
  me : d.me = c.me
  n : d.n = c.n
  keep : d.keep = ⟨c.keep.view, c.keep.view, c.best.1.list⟩
  ch : d.ch = false
  idle : d.idle = 0
  has : d.has = fun _ => 0
  msgs : d.msgs = c.msgs ++ (c.others c.n).map fun tt => { Msg.z with kind := 5, commit := c.best.2, list := c.best.1.list, to_ := tt, frm := c.me, shard := c.shard, view := c.keep.view }
theorem count_same (c : Core) : c.count.me = c.me ∧ c.count.n = c.n ∧ c.count.keep = c.keep ∧ c.count.ch = c.ch ∧ c.count.idle = c.idle ∧ c.count.msgs = c.msgs ∧ c.count.begun = c.begun ∧ c.count.dos = c.dos ∧ c.count.has = c.has ∧ c.count.recs = c.recs ∧ c.count.pat = c.pat ∧ c.count.shard = c.shard := by
  unfold count; split <;> exact ⟨rfl, rfl, rfl, rfl, rfl, rfl, rfl, rfl, rfl, rfl, rfl, rfl⟩
theorem adopt_rest2 (c : Core) (l : List Bs) : (c.adopt l).ch = false ∧ (c.adopt l).idle = 0 ∧ (c.adopt l).has = (fun _ => 0) ∧ (c.adopt l).begun = (fun _ => false) ∧ (c.adopt l).dos = fun _ => none := by
  rw [c.adopt_eq]; exact ⟨rfl, rfl, rfl, rfl, rfl⟩
theorem others_eq {c d : Core} (h : d.me = c.me) (j : Nat) : d.others j = c.others j := by unfold others; rw [h]
theorem begin_cases (c : Core) : (c.most (cnt c.n fun x => (c.dos x).isSome) = false ∧ c.begin_ = c) ∨ (c.most (cnt c.n fun x => (c.dos x).isSome) = true ∧ Bgn c c.begin_) := by
  unfold begin_
  split
  · rename_i h
    refine .inr ⟨h, ?_⟩
    obtain ⟨h1, h2, h3, h4, h5, h6, h7, h8, h9⟩ := c.adopt_log c.best.1.list
    obtain ⟨g1, g2, g3, g4, g5⟩ := c.adopt_rest2 c.best.1.list
    obtain ⟨e1, e2, e3, e4, e5, e6, e7, e8, e9, e10⟩ := (((c.adopt c.best.1.list).all { Msg.z with kind := 5, commit := c.best.2, list := (c.adopt c.best.1.list).keep.log }).reach c.best.2).count_same
    refine ⟨e1.trans h4, e2.trans h3, e3.trans h1, e4.trans g1, e5.trans g2, e9.trans g3, ?_⟩
    rw [e6]
    show (c.adopt c.best.1.list).msgs ++ ((c.adopt c.best.1.list).others (c.adopt c.best.1.list).n).map _ = _
    rw [h8, h3, others_eq h4, h1, h4, h5]
  · rename_i h
    exact .inl ⟨by simpa using h, rfl⟩
end Core
/-- what a member does with a message -/
inductive InR (c : Core) (m : Msg) (c' : Core) : Prop
  | stay (view : c'.keep.view = c.keep.view) (ch : c.ch = true) (ch' : c'.ch = true) (idle : c'.idle = c.idle) (low : m.view ≤ c.keep.view ∨ m.kind = 2)
      (begun : ∀ z, c.begun z = true → c'.begun z = true) (dos : ∀ z, (c.dos z).isSome = true → (c'.dos z).isSome = true)
      (st : m.kind = 3 → m.view = c.keep.view → c'.begun m.frm = true)
      (dd : m.kind = 4 → m.view = c.keep.view → lead c.keep.view c.n = c.me → (c'.dos m.frm).isSome = true)
      (wd : c.most (cnt c.n c'.begun) = true → c.most (cnt c.n c.begun) = true ∨ (lead c.keep.view c.n ≠ c.me ∧ Has c'.msgs 4 c.me (lead c.keep.view c.n) c.keep.view) ∨ (lead c.keep.view c.n = c.me ∧ (c'.dos c.me).isSome = true))
      (nd : lead c.keep.view c.n = c.me → c.most (cnt c.n fun z => (c.dos z).isSome) = false → c.most (cnt c.n fun z => (c'.dos z).isSome) = false)
      (n5 : ¬ (m.kind = 5 ∧ m.view = c.keep.view))
      (msgs : c'.msgs = [] ∨ ∃ r, c'.msgs = [r] ∧ r.frm = c.me ∧ r.view = c.keep.view ∧ ((r.kind = 4 ∧ m.kind = 3 ∧ m.view = c.keep.view) ∨ (r.kind = 3 ∧ (m.kind = 1 ∨ m.kind = 3) ∧ m.view < c.keep.view)))
  | up (lt : c.keep.view < m.view) (kind : m.kind = 1 ∨ m.kind = 3 ∨ m.kind = 4) (view : c'.keep.view = m.view) (ch' : c'.ch = true) (idle : c'.idle = 0) (begun : c'.begun c.me = true)
      (st : m.kind = 3 → c'.begun m.frm = true) (dd : m.kind = 4 → lead m.view c.n = c.me → (c'.dos m.frm).isSome = true)
      (wd : c.most (cnt c.n c'.begun) = true → (lead m.view c.n ≠ c.me ∧ Has c'.msgs 4 c.me (lead m.view c.n) m.view) ∨ (lead m.view c.n = c.me ∧ (c'.dos c.me).isSome = true))
      (nd : lead m.view c.n = c.me → c.most (cnt c.n fun z => (c'.dos z).isSome) = false)
      (starts : ∀ z, node c.n z → z ≠ c.me → Has c'.msgs 3 c.me z m.view)
      (msgs : ∃ s e, c'.msgs = s ++ e ∧ s.length + 1 ≤ c.n ∧ e.length ≤ 1 ∧ (∀ r ∈ s, r.kind = 3 ∧ r.frm = c.me ∧ r.view = m.view) ∧ ∀ r ∈ e, r.kind = 4 ∧ r.frm = c.me ∧ r.view = m.view)
  | bgn (view : c'.keep.view = c.keep.view) (ch : c.ch = true) (ch' : c'.ch = false) (idle : c'.idle = 0) (mv : m.view = c.keep.view) (kind : m.kind = 3 ∨ m.kind = 4) (ld : lead c.keep.view c.n = c.me)
      (news : ∀ z, node c.n z → z ≠ c.me → Has c'.msgs 5 c.me z c.keep.view)
      (msgs : c'.msgs.length + 1 ≤ c.n ∧ ∀ r ∈ c'.msgs, r.kind = 5 ∧ r.frm = c.me ∧ r.view = c.keep.view)
  | took (view : c'.keep.view = m.view) (ge : c.keep.view < m.view ∨ (c.keep.view = m.view ∧ c.ch = true)) (ch' : c'.ch = false) (idle : c'.idle = 0) (kind : m.kind = 5)
      (msgs : ∃ r, c'.msgs = [r] ∧ r.kind = 2 ∧ r.frm = c.me ∧ r.view = m.view)
  | norm (view : c'.keep.view = c.keep.view) (ch : c.ch = false) (ch' : c'.ch = false) (idle : c'.idle = c.idle ∨ (c'.idle = 0 ∧ m.kind = 1 ∧ m.view = c.keep.view)) (low : m.view ≤ c.keep.view ∨ m.kind = 2)
      (msgs : c'.msgs = [] ∨ ∃ r, c'.msgs = [r] ∧ r.frm = c.me ∧ r.view = c.keep.view ∧ ((r.kind = 3 ∧ (m.kind = 1 ∨ m.kind = 3) ∧ m.view < c.keep.view) ∨ (r.kind = 5 ∧ m.kind = 3 ∧ m.view = c.keep.view ∧ c.leads = true ∧ r.to_ = m.frm) ∨ (r.kind = 2 ∧ m.kind = 1 ∧ m.view = c.keep.view)))
      (an : m.kind = 3 → m.view = c.keep.view → c.leads = true → Has c'.msgs 5 c.me m.frm c.keep.view)
      (pr : m.kind = 1 → m.view = c.keep.view → m.frm = lead m.view c.n → c'.idle = 0)
theorem most_one {c : Core} (h2 : 2 ≤ c.n) {n : Nat} {k : Nat} (hn : n = c.n) (h : k ≤ 1) : c.most k = false := by
  unfold Core.most
  simp; omega
theorem has_all {c : Core} (f : Int → Msg) (k V : Int) (hf : ∀ z, (f z).kind = k ∧ (f z).frm = c.me ∧ (f z).to_ = z ∧ (f z).view = V) (l0 : List Msg) {z : Int} (h1 : node c.n z) (h2 : z ≠ c.me) : Has (l0 ++ (c.others c.n).map f) k c.me z V := by
  obtain ⟨e1, e2, e3, e4⟩ := hf z
  exact ⟨f z, List.mem_append_right _ (List.mem_map.2 ⟨z, mem_others.2 ⟨h1, h2⟩, rfl⟩), e1, e2, e3, e4⟩
theorem chg_msgs {c : Core} (hme : node c.n c.me) (h0 : c.msgs = []) (v : Int) (e : List Msg) (he : e.length ≤ 1) (hm : ∀ r ∈ e, r.kind = 4 ∧ r.frm = c.me ∧ r.view = v) :
    ∃ s e', (c.chg v).msgs ++ e = s ++ e' ∧ s.length + 1 ≤ c.n ∧ e'.length ≤ 1 ∧ (∀ r ∈ s, r.kind = 3 ∧ r.frm = c.me ∧ r.view = v) ∧ ∀ r ∈ e', r.kind = 4 ∧ r.frm = c.me ∧ r.view = v := by
  refine ⟨_, e, rfl, ?_, he, fun r hr => ?_, hm⟩
  · show (c.msgs ++ List.map _ _).length + 1 ≤ c.n
    rw [h0, List.nil_append, List.length_map]
    exact c.others_len' hme
  · have hr : r ∈ c.msgs ++ (c.others c.n).map _ := hr
    rw [h0, List.nil_append] at hr
    obtain ⟨y, _, rfl⟩ := List.mem_map.1 hr
    exact ⟨rfl, rfl, rfl⟩
theorem chg_starts (c : Core) (v : Int) {z : Int} (h1 : node c.n z) (h2 : z ≠ c.me) : Has (c.chg v).msgs 3 c.me z v :=
  has_all (fun tt => { Msg.z with kind := 3, to_ := tt, frm := c.me, shard := c.shard, view := v }) 3 v (fun z => ⟨rfl, rfl, rfl, rfl⟩) c.msgs h1 h2
/-- a member in another view, behind what it was told with it -/
theorem up_R {c : Core} {m : Msg} {d : Core} (hme : node c.n c.me) (h0 : c.msgs = []) (lt : c.keep.view < m.view) (kind : m.kind = 1 ∨ m.kind = 3 ∨ m.kind = 4)
    (b : Int → Bool) (o : Int → Option Msg) (e : List Msg) (hd : d = { c.chg m.view with begun := b, dos := o, msgs := (c.chg m.view).msgs ++ e })
    (hb : b c.me = true) (st : m.kind = 3 → b m.frm = true) (dd : m.kind = 4 → lead m.view c.n = c.me → (o m.frm).isSome = true)
    (wd : c.most (cnt c.n b) = true → (lead m.view c.n ≠ c.me ∧ Has e 4 c.me (lead m.view c.n) m.view) ∨ (lead m.view c.n = c.me ∧ (o c.me).isSome = true))
    (nd : lead m.view c.n = c.me → c.most (cnt c.n fun z => (o z).isSome) = false) (he : e.length ≤ 1) (hm : ∀ r ∈ e, r.kind = 4 ∧ r.frm = c.me ∧ r.view = m.view) : InR c m d := by
  subst hd
  refine .up lt kind rfl rfl rfl hb st dd (fun h => ?_) nd (fun z h1 h2 => (chg_starts c m.view h1 h2).mono fun r hr => List.mem_append_left _ hr) (chg_msgs hme h0 m.view e he hm)
  rcases wd h with ⟨g1, g2⟩ | g
  · exact .inl ⟨g1, g2.mono fun r hr => List.mem_append_right _ hr⟩
  · exact .inr g
theorem cnt_none {n : Nat} : cnt n (fun z => ((fun _ => none : Int → Option Msg) z).isSome) ≤ 1 := cnt_le_one 0 fun y hy => by cases hy
theorem bgn_R {c d c' : Core} {m : Msg} (h : Core.Bgn d c') (hme : node c.n c.me) (h0 : c.msgs = []) (ch : c.ch = true) (mv : m.view = c.keep.view) (kind : m.kind = 3 ∨ m.kind = 4) (ld : lead c.keep.view c.n = c.me)
    (e1 : d.me = c.me) (e2 : d.n = c.n) (e3 : d.keep = c.keep) (e4 : d.msgs = c.msgs) (e5 : d.shard = c.shard) : InR c m c' := by
  have hmsgs := h.msgs
  rw [e4, h0, List.nil_append, Core.others_eq e1, e2, e1, e5, e3] at hmsgs
  refine .bgn (by rw [h.keep, e3]) ch h.ch h.idle mv kind ld (fun z h1 h2 => ?_) ⟨?_, fun r hr => ?_⟩
  · rw [hmsgs]
    exact has_all _ 5 c.keep.view (fun z => ⟨rfl, rfl, rfl, rfl⟩) [] h1 h2
  · rw [hmsgs, List.length_map]; exact c.others_len' hme
  · rw [hmsgs] at hr
    obtain ⟨y, _, rfl⟩ := List.mem_map.1 hr
    exact ⟨rfl, rfl, rfl⟩
theorem took_R {c d : Core} {m : Msg} (tt : Int) (h1 : d.msgs = c.msgs) (h0 : c.msgs = []) (h2 : d.me = c.me) (h3 : d.keep.view = m.view) (h4 : d.ch = false) (h5 : d.idle = 0) (ge : c.keep.view < m.view ∨ (c.keep.view = m.view ∧ c.ch = true)) (k5 : m.kind = 5) : InR c m (d.send { Msg.z with kind := 2, to_ := tt, at_ := d.keep.log.length }) := by
  obtain ⟨r, hr⟩ : ∃ r : Msg, r = { Msg.z with kind := 2, to_ := tt, at_ := d.keep.log.length, frm := d.me, shard := d.shard, view := d.keep.view } := ⟨_, rfl⟩
  have hm : (d.send { Msg.z with kind := 2, to_ := tt, at_ := d.keep.log.length }).msgs = [r] := by
    rw [hr]
    show d.msgs ++ [_] = [_]
    rw [h1, h0]; rfl
  exact .took h3 ge h4 h5 k5 ⟨r, hm, by rw [hr], by rw [hr]; exact h2, by rw [hr]; exact h3⟩
theorem in_R {c : Core} {m : Msg} (h : InOk c m) (hk : 1 ≤ m.kind ∧ m.kind ≤ 5) (h2 : 2 ≤ c.n) (h0 : c.msgs = []) (h5 : m.kind = 5 → m.frm = lead m.view c.n) (hme : node c.n c.me) : InR c m (c.in_ m) := by
  have none_stay : ∀ (hch : c.ch = true) (low : m.view ≤ c.keep.view ∨ m.kind = 2) (st : m.kind = 3 → m.view = c.keep.view → c.begun m.frm = true) (dd : m.kind = 4 → m.view = c.keep.view → lead c.keep.view c.n = c.me → (c.dos m.frm).isSome = true) (n5 : ¬ (m.kind = 5 ∧ m.view = c.keep.view)), InR c m c := fun hch low st dd n5 =>
    .stay rfl hch hch rfl low (fun _ h => h) (fun _ h => h) st dd (fun h => .inl h) (fun _ h => h) n5 (.inl h0)
  have none_norm : ∀ (hch : c.ch = false) (low : m.view ≤ c.keep.view ∨ m.kind = 2) (an : m.kind = 3 → m.view = c.keep.view → c.leads = false) (pr : m.kind = 1 → m.view = c.keep.view → m.frm ≠ lead m.view c.n), InR c m c := fun hch low an pr =>
    .norm rfl hch hch (.inl rfl) low (.inl h0) (fun e1 e2 e3 => by rw [an e1 e2] at e3; cases e3) fun e1 e2 e3 => absurd e3 (pr e1 e2)
  by_cases hlow : m.view < c.keep.view
  · rw [c.in_low m h hk hlow]
    split
    · rename_i h13
      by_cases hch : c.ch = true
      · exact .stay rfl hch hch rfl (.inl (by omega)) (fun _ h => h) (fun _ h => h) (fun _ e => by omega) (fun _ e => by omega) (fun h => .inl h) (fun _ h => h) (fun e => by omega)
          (.inr ⟨_, by show c.msgs ++ [_] = [_]; rw [h0]; rfl, rfl, rfl, .inr ⟨rfl, h13, hlow⟩⟩)
      · have hch : c.ch = false := by simpa using hch
        exact .norm rfl hch hch (.inl rfl) (.inl (by omega)) (.inr ⟨_, by show c.msgs ++ [_] = [_]; rw [h0]; rfl, rfl, rfl, .inl ⟨rfl, h13, hlow⟩⟩) (fun _ e => by omega) fun _ e => by omega
    · rename_i h13
      by_cases hch : c.ch = true
      · exact none_stay hch (.inl (by omega)) (fun e => by omega) (fun _ e => by omega) (fun e => by omega)
      · exact none_norm (by simpa using hch) (.inl (by omega)) (fun e => by omega) fun _ e => by omega
  rw [c.in_high m h hk hlow]
  have hne : m.frm ≠ c.me := h.ne
  by_cases hgt : c.keep.view < m.view
  · by_cases k5 : m.kind = 5
    · have e : (c.inC m).inD m (lead m.view c.n) = (({ c with keep := { c.keep with view := m.view } }.adopt m.list).reach m.commit).send { Msg.z with kind := 2, to_ := lead m.view c.n, at_ := (({ c with keep := { c.keep with view := m.view } }.adopt m.list).reach m.commit).keep.log.length } := by
        unfold Core.inC
        rw [if_neg (by omega)]
        unfold Core.inD
        rw [if_neg (by omega), if_neg (by omega), if_pos ⟨k5, h5 k5, .inl hgt⟩]
      obtain ⟨g1, g2, g3, g4, g5, g6, g7, g8, g9⟩ := ({ c with keep := { c.keep with view := m.view } } : Core).adopt_log m.list
      obtain ⟨f1, f2, f3, f4, f5⟩ := ({ c with keep := { c.keep with view := m.view } } : Core).adopt_rest2 m.list
      rw [e]
      exact took_R _ g8 h0 g4 (by show (Core.adopt _ _).keep.view = _; rw [g1]) f1 f2 (.inl hgt) k5
    by_cases k2 : m.kind = 2
    · have e : (c.inC m).inD m (lead m.view c.n) = c := by
        unfold Core.inC
        rw [if_neg (by omega)]
        unfold Core.inD
        rw [if_neg (by omega), if_neg (by omega), if_neg (by omega), if_neg (by omega), if_neg (by omega)]
      rw [e]
      by_cases hch : c.ch = true
      · exact none_stay hch (.inr k2) (fun e => by omega) (fun _ e => by omega) (fun e => by omega)
      · exact none_norm (by simpa using hch) (.inr k2) (fun e => by omega) fun e => by omega
    have eC : c.inC m = c.chg m.view := by
      unfold Core.inC
      rw [if_pos ⟨hgt, k5, k2⟩, c.change_eq _ h2]
    rw [eC]
    have v1 : (c.chg m.view).keep.view = m.view := rfl
    have v2 : (c.chg m.view).ch = true := rfl
    have v3 : (c.chg m.view).me = c.me := rfl
    have v4 : (c.chg m.view).n = c.n := rfl
    have nob : c.most (cnt c.n fun y => decide (y = c.me)) = false := most_one h2 rfl (cnt_le_one c.me fun y hy => by simpa using hy)
    by_cases k1 : m.kind = 1
    · have e : (c.chg m.view).inD m (lead m.view c.n) = c.chg m.view := by
        unfold Core.inD
        rw [if_neg (by omega), if_neg (by omega), if_neg (by omega), if_neg (by rw [v2]; simp), if_neg (by omega)]
      rw [e]
      exact up_R hme h0 hgt (.inl k1) (c.chg m.view).begun (c.chg m.view).dos [] (by rw [List.append_nil]) (by show decide (c.me = c.me) = true; simp) (fun e => by omega) (fun e => by omega)
        (fun h => by rw [show cnt c.n (c.chg m.view).begun = cnt c.n fun y => decide (y = c.me) from rfl, nob] at h; cases h) (fun _ => most_one h2 rfl cnt_none) (Nat.zero_le _) (fun r hr => by cases hr)
    by_cases k3 : m.kind = 3
    · have e : (c.chg m.view).inD m (lead m.view c.n) = ({ c.chg m.view with begun := fun x => decide (x = m.frm) || decide (x = c.me) } : Core).wanted := by
        unfold Core.inD
        rw [if_pos k3]
        unfold Core.started
        rw [if_neg (by rw [v1]; simp), if_pos v2]
        have : (c.chg m.view).begun m.frm = false := by show decide (m.frm = c.me) = false; simpa using hne
        rw [this]
        rfl
      rw [e]
      have hb : (fun x => decide (x = m.frm) || decide (x = c.me) : Int → Bool) c.me = true := by simp
      have hst : (fun x => decide (x = m.frm) || decide (x = c.me) : Int → Bool) m.frm = true := by simp
      rcases Core.wanted_cases ({ c.chg m.view with begun := fun x => decide (x = m.frm) || decide (x = c.me) } : Core) with ⟨w1, w2⟩ | ⟨w1, w2, w3⟩ | ⟨w1, w2, w3⟩
      · rw [w2]
        have w1 : c.most (cnt c.n fun x => decide (x = m.frm) || decide (x = c.me)) = false := w1
        exact up_R hme h0 hgt (.inr (.inl k3)) _ (c.chg m.view).dos [] (by rw [List.append_nil]) hb (fun _ => hst) (fun e => by omega) (fun h => by rw [w1] at h; cases h) (fun _ => most_one h2 rfl cnt_none) (Nat.zero_le _) (fun r hr => by cases hr)
      · rw [w3]
        refine up_R hme h0 hgt (.inr (.inl k3)) _ (c.chg m.view).dos [_] rfl hb (fun _ => hst) (fun e => by omega) (fun h => .inl ⟨w2, ⟨_, List.mem_singleton.2 rfl, rfl, rfl, rfl, rfl⟩⟩) (fun _ => most_one h2 rfl cnt_none) (Nat.le_refl _) (fun r hr => ?_)
        rw [List.mem_singleton.1 hr]
        exact ⟨rfl, rfl, rfl⟩
      · rw [w3]
        have h1 : ∀ o : Option Msg, cnt c.n (fun z => (if z = c.me then o else none : Option Msg).isSome) ≤ 1 := fun o => cnt_le_one c.me fun y hy => by
          split at hy
          · assumption
          · cases hy
        rcases Core.begin_cases ({ ({ c.chg m.view with begun := fun x => decide (x = m.frm) || decide (x = c.me) } : Core) with dos := fun x => if x = c.me then some (Core.doMsg ({ c.chg m.view with begun := fun x => decide (x = m.frm) || decide (x = c.me) } : Core)) else none } : Core) with ⟨b1, b2⟩ | ⟨b1, b2⟩
        · refine up_R hme h0 hgt (.inr (.inl k3)) _ (fun x => if x = c.me then some (Core.doMsg ({ c.chg m.view with begun := fun x => decide (x = m.frm) || decide (x = c.me) } : Core)) else none) [] (b2.trans (by rw [List.append_nil])) hb (fun _ => hst) (fun e => by omega) (fun h => .inr ⟨w2, ?_⟩) (fun _ => most_one h2 rfl (h1 _)) (Nat.zero_le _) (fun r hr => by cases hr)
          show (if c.me = c.me then _ else none : Option Msg).isSome = true
          rw [if_pos rfl]; rfl
        · exfalso
          have b1 : c.most (cnt c.n fun z => (if z = c.me then _ else none : Option Msg).isSome) = true := b1
          rw [most_one h2 rfl (h1 _)] at b1
          cases b1
    have k4 : m.kind = 4 := by omega
    by_cases hl : lead m.view c.n = c.me
    · have e : (c.chg m.view).inD m (lead m.view c.n) = ({ c.chg m.view with dos := fun x => if x = m.frm then some m else none } : Core).begin_ := by
        unfold Core.inD
        rw [if_neg k3, if_pos ⟨k4, rfl, rfl, hl⟩]
        rfl
      rw [e]
      have h1 : cnt c.n (fun z => (if z = m.frm then some m else none : Option Msg).isSome) ≤ 1 := cnt_le_one m.frm fun y hy => by
        split at hy
        · assumption
        · cases hy
      rcases Core.begin_cases ({ c.chg m.view with dos := fun x => if x = m.frm then some m else none } : Core) with ⟨b1, b2⟩ | ⟨b1, b2⟩
      · refine up_R hme h0 hgt (.inr (.inr k4)) (c.chg m.view).begun (fun x => if x = m.frm then some m else none) [] (b2.trans (by rw [List.append_nil])) (by show decide (c.me = c.me) = true; simp) (fun e => by omega) (fun _ _ => by simp)
          (fun h => by rw [show cnt c.n (c.chg m.view).begun = cnt c.n fun y => decide (y = c.me) from rfl, nob] at h; cases h) (fun _ => most_one h2 rfl h1) (Nat.zero_le _) (fun r hr => by cases hr)
      · exfalso
        have b1 : c.most (cnt c.n fun z => (if z = m.frm then some m else none : Option Msg).isSome) = true := b1
        rw [most_one h2 rfl h1] at b1
        cases b1
    · have e : (c.chg m.view).inD m (lead m.view c.n) = c.chg m.view := by
        unfold Core.inD
        rw [if_neg k3, if_neg (fun g => hl g.2.2.2), if_neg (by omega), if_neg (by omega), if_neg (by omega)]
      rw [e]
      exact up_R hme h0 hgt (.inr (.inr k4)) (c.chg m.view).begun (c.chg m.view).dos [] (by rw [List.append_nil]) (by show decide (c.me = c.me) = true; simp) (fun e => by omega) (fun _ g => absurd g hl)
        (fun h => by rw [show cnt c.n (c.chg m.view).begun = cnt c.n fun y => decide (y = c.me) from rfl, nob] at h; cases h) (fun _ => most_one h2 rfl cnt_none) (Nat.zero_le _) (fun r hr => by cases hr)
  have heq : m.view = c.keep.view := by omega
  have eC : c.inC m = c := by unfold Core.inC; rw [if_neg (by omega)]
  rw [eC]
  have low : m.view ≤ c.keep.view ∨ m.kind = 2 := .inl (by omega)
  by_cases hch : c.ch = true
  · have nl : c.leads = false := by unfold Core.leads; rw [hch]; rfl
    by_cases k3 : m.kind = 3
    · have e : c.inD m (lead m.view c.n) = if c.begun m.frm = true then c else ({ c with begun := fun x => decide (x = m.frm) || c.begun x } : Core).wanted := by
        unfold Core.inD
        rw [if_pos k3]
        unfold Core.started
        rw [if_neg (by rw [heq]; simp), if_pos hch]
        cases c.begun m.frm <;> rfl
      rw [e]
      split
      · rename_i hb
        exact none_stay hch low (fun _ _ => hb) (fun e => by omega) (fun e => by omega)
      · have hb : ∀ z, c.begun z = true → (fun x => decide (x = m.frm) || c.begun x : Int → Bool) z = true := fun z hz => by simp [hz]
        have hst : (fun x => decide (x = m.frm) || c.begun x : Int → Bool) m.frm = true := by simp
        rcases Core.wanted_cases ({ c with begun := fun x => decide (x = m.frm) || c.begun x } : Core) with ⟨w1, w2⟩ | ⟨w1, w2, w3⟩ | ⟨w1, w2, w3⟩
        · rw [w2]
          have w1 : c.most (cnt c.n fun x => decide (x = m.frm) || c.begun x) = false := w1
          exact .stay rfl hch hch rfl low hb (fun _ h => h) (fun _ _ => hst) (fun e => by omega) (fun h => by
            have h : c.most (cnt c.n fun x => decide (x = m.frm) || c.begun x) = true := h
            rw [w1] at h; cases h) (fun _ h => h) (fun e => by omega) (.inl h0)
        · rw [w3]
          refine .stay rfl hch hch rfl low hb (fun _ h => h) (fun _ _ => hst) (fun e => by omega) (fun h => .inr (.inl ⟨w2, ⟨_, List.mem_append_right _ (List.mem_singleton.2 rfl), rfl, rfl, rfl, rfl⟩⟩)) (fun _ h => h) (fun e => by omega)
            (.inr ⟨_, by show c.msgs ++ [_] = [_]; rw [h0]; rfl, rfl, rfl, .inl ⟨rfl, k3, heq⟩⟩)
        · rw [w3]
          obtain ⟨dm, hdm⟩ : ∃ dm, dm = Core.doMsg ({ c with begun := fun x => decide (x = m.frm) || c.begun x } : Core) := ⟨_, rfl⟩
          rw [← hdm]
          rcases Core.begin_cases ({ ({ c with begun := fun x => decide (x = m.frm) || c.begun x } : Core) with dos := fun x => if x = c.me then some dm else c.dos x } : Core) with ⟨b1, b2⟩ | ⟨b1, b2⟩
          · rw [b2]
            refine .stay rfl hch hch rfl low hb (fun z hz => ?_) (fun _ _ => hst) (fun e => by omega) (fun h => .inr (.inr ⟨w2, ?_⟩)) (fun _ _ => b1) (fun e => by omega) (.inl h0)
            · show (if z = c.me then some dm else c.dos z : Option Msg).isSome = true
              split
              · rfl
              · exact hz
            · show (if c.me = c.me then some dm else c.dos c.me : Option Msg).isSome = true
              rw [if_pos rfl]; rfl
          · exact bgn_R b2 hme h0 hch heq (.inl k3) w2 rfl rfl rfl rfl rfl
    by_cases k4 : m.kind = 4
    · by_cases hl : lead m.view c.n = c.me
      · have e : c.inD m (lead m.view c.n) = ({ c with dos := fun x => if x = m.frm then some m else c.dos x } : Core).begin_ := by
          unfold Core.inD
          rw [if_neg k3, if_pos ⟨k4, heq, hch, hl⟩]
        rw [e]
        have hl' : lead c.keep.view c.n = c.me := by rw [← heq]; exact hl
        rcases Core.begin_cases ({ c with dos := fun x => if x = m.frm then some m else c.dos x } : Core) with ⟨b1, b2⟩ | ⟨b1, b2⟩
        · rw [b2]
          refine .stay rfl hch hch rfl low (fun _ h => h) (fun z hz => ?_) (fun e => by omega) (fun _ _ _ => ?_) (fun h => .inl h) (fun _ _ => b1) (fun e => by omega) (.inl h0)
          · show (if z = m.frm then some m else c.dos z : Option Msg).isSome = true
            split
            · rfl
            · exact hz
          · show (if m.frm = m.frm then some m else c.dos m.frm : Option Msg).isSome = true
            rw [if_pos rfl]; rfl
        · exact bgn_R b2 hme h0 hch heq (.inr k4) hl' rfl rfl rfl rfl rfl
      · have e : c.inD m (lead m.view c.n) = c := by
          unfold Core.inD
          rw [if_neg k3, if_neg (fun g => hl g.2.2.2), if_neg (by omega), if_neg (by omega), if_neg (by omega)]
        rw [e]
        exact none_stay hch low (fun e => by omega) (fun _ _ g => absurd (by rw [heq]; exact g) hl) (fun e => by omega)
    by_cases k5 : m.kind = 5
    · have e : c.inD m (lead m.view c.n) = (({ c with keep := { c.keep with view := m.view } }.adopt m.list).reach m.commit).send { Msg.z with kind := 2, to_ := lead m.view c.n, at_ := (({ c with keep := { c.keep with view := m.view } }.adopt m.list).reach m.commit).keep.log.length } := by
        unfold Core.inD
        rw [if_neg (by omega), if_neg (by omega), if_pos ⟨k5, h5 k5, .inr hch⟩]
      obtain ⟨g1, g2, g3, g4, g5, g6, g7, g8, g9⟩ := ({ c with keep := { c.keep with view := m.view } } : Core).adopt_log m.list
      obtain ⟨f1, f2, f3, f4, f5⟩ := ({ c with keep := { c.keep with view := m.view } } : Core).adopt_rest2 m.list
      rw [e]
      exact took_R _ g8 h0 g4 (by show (Core.adopt _ _).keep.view = _; rw [g1]) f1 f2 (.inr ⟨heq.symm, hch⟩) k5
    · have e : c.inD m (lead m.view c.n) = c := by
        unfold Core.inD
        rw [if_neg k3, if_neg (by omega), if_neg (by omega), if_neg (by rw [hch]; simp), if_neg (by rw [nl]; simp)]
      rw [e]
      exact none_stay hch low (fun e => by omega) (fun e => by omega) (fun e => by omega)
  have hch : c.ch = false := by simpa using hch
  by_cases k3 : m.kind = 3
  · have e : c.inD m (lead m.view c.n) = if c.leads = true then c.send { Msg.z with kind := 5, to_ := m.frm, commit := c.commit, list := c.keep.log } else c := by
      unfold Core.inD
      rw [if_pos k3]
      unfold Core.started
      rw [if_neg (by rw [heq]; simp), if_neg (by rw [hch]; simp)]
    rw [e]
    split
    · rename_i hl
      exact .norm rfl hch hch (.inl rfl) low (.inr ⟨_, by show c.msgs ++ [_] = [_]; rw [h0]; rfl, rfl, rfl, .inr (.inl ⟨rfl, k3, heq, hl, rfl⟩)⟩) (fun _ _ _ => ⟨_, List.mem_append_right _ (List.mem_singleton.2 rfl), rfl, rfl, rfl, rfl⟩) fun e => by omega
    · rename_i hl
      exact none_norm hch low (fun _ _ => by simpa using hl) fun e => by omega
  by_cases k1 : m.kind = 1 ∧ m.frm = lead m.view c.n
  · have e : c.inD m (lead m.view c.n) = c.prep m := by
      unfold Core.inD
      rw [if_neg k3, if_neg (by omega), if_neg (by omega), if_pos ⟨k1.1, heq, hch, k1.2⟩]
    rw [e]
    obtain ⟨d, hd⟩ : ∃ d : Core, d = if m.at_ ≤ (c.keep.log.length : Int) then ((List.range m.list.length).foldl (fun c i => c.prepS m i) ({ c with idle := 0 } : Core)).reach m.commit else ({ c with idle := 0 } : Core) := ⟨_, rfl⟩
    have hp : c.prep m = d.send { Msg.z with kind := 2, to_ := m.frm, at_ := d.keep.log.length } := by rw [hd]; rfl
    have key : ∀ (a b : Core), (b.keep.view = a.keep.view ∧ b.ch = a.ch ∧ b.idle = a.idle ∧ b.msgs = a.msgs ∧ b.me = a.me) → ∀ i, ((b.prepS m i).keep.view = a.keep.view ∧ (b.prepS m i).ch = a.ch ∧ (b.prepS m i).idle = a.idle ∧ (b.prepS m i).msgs = a.msgs ∧ (b.prepS m i).me = a.me) := by
      intro a b hb i
      unfold Core.prepS
      split
      · split
        · exact hb
        · exact hb
      · exact hb
    have keyF : ∀ j, ∀ b : Core, (b.keep.view = c.keep.view ∧ b.ch = c.ch ∧ b.idle = 0 ∧ b.msgs = c.msgs ∧ b.me = c.me) → (((List.range j).foldl (fun c i => c.prepS m i) b).keep.view = c.keep.view ∧ ((List.range j).foldl (fun c i => c.prepS m i) b).ch = c.ch ∧ ((List.range j).foldl (fun c i => c.prepS m i) b).idle = 0 ∧ ((List.range j).foldl (fun c i => c.prepS m i) b).msgs = c.msgs ∧ ((List.range j).foldl (fun c i => c.prepS m i) b).me = c.me) := by
      intro j
      induction j with
      | zero => intro b hb; exact hb
      | succ j ih =>
        intro b hb
        rw [List.range_succ, List.foldl_append]
        exact key ({ c with idle := 0 } : Core) _ (ih b hb) j
    have hdp : d.keep.view = c.keep.view ∧ d.ch = c.ch ∧ d.idle = 0 ∧ d.msgs = c.msgs ∧ d.me = c.me := by
      rw [hd]
      split
      · exact keyF _ _ ⟨rfl, rfl, rfl, rfl, rfl⟩
      · exact ⟨rfl, rfl, rfl, rfl, rfl⟩
    obtain ⟨d1, d2, d3, d4, d5⟩ := hdp
    rw [hp]
    exact .norm d1 hch (d2.trans hch) (.inr ⟨d3, k1.1, heq⟩) low (.inr ⟨_, by show d.msgs ++ [_] = [_]; rw [d4, h0]; rfl, d5, d1, .inr (.inr ⟨rfl, k1.1, heq⟩)⟩) (fun e => by omega) fun _ _ _ => d3
  by_cases k2 : m.kind = 2 ∧ c.leads = true
  · have e : c.inD m (lead m.view c.n) = ({ c with has := fun x => if x = m.frm then max (c.has x) (min m.at_ (c.keep.log.length : Int)) else c.has x } : Core).count := by
      unfold Core.inD
      rw [if_neg k3, if_neg (by omega), if_neg (by omega), if_neg (by omega), if_pos ⟨k2.1, heq, k2.2⟩]
    rw [e]
    obtain ⟨e1, e2, e3, e4, e5, e6, e7⟩ := ({ c with has := fun x => if x = m.frm then max (c.has x) (min m.at_ (c.keep.log.length : Int)) else c.has x } : Core).count_same
    exact .norm (by rw [e3]) hch (e4.trans hch) (.inl e5) low (.inl (e6.trans h0)) (fun e => by omega) fun e => by omega
  · have e : c.inD m (lead m.view c.n) = c := by
      unfold Core.inD
      rw [if_neg k3, if_neg (fun g => by rw [hch] at g; exact absurd g.2.2.1 (by simp)), if_neg (fun g => by rcases g.2.2 with g | g; omega; rw [hch] at g; cases g), if_neg (fun g => k1 ⟨g.1, g.2.2.2⟩), if_neg (fun g => k2 ⟨g.1, g.2.2⟩)]
    rw [e]
    exact none_norm hch low (fun e => absurd e k3) fun e1 _ e3 => k1 ⟨e1, e3⟩
/-- what a member does in a unit of time -/
inductive TkR (c : Core) (c' : Core) : Prop
  | lead (l : c.leads = true) (keep : c'.keep = c.keep) (ch : c'.ch = false) (low : c.idle + 1 < 2 → c'.idle = c.idle + 1 ∧ c'.msgs = []) (high : 2 ≤ c.idle + 1 → c'.idle = 0 ∧ ∀ z, node c.n z → z ≠ c.me → Has c'.msgs 1 c.me z c.keep.view)
      (msgs : c'.msgs.length + 1 ≤ c.n ∧ ∀ r ∈ c'.msgs, r.kind = 1 ∧ r.frm = c.me ∧ r.view = c.keep.view)
  | wait (nl : c.leads = false) (t : c.ch = true → c.idle + 1 < 2 * c.pat) (t2 : c.ch = false → c.idle + 1 < c.pat + c.me) (keep : c'.keep = c.keep) (ch : c'.ch = c.ch) (idle : c'.idle = c.idle + 1) (msgs : c'.msgs = [])
  | again (ch : c.ch = true) (t : c.idle + 1 < 2 * c.pat) (keep : c'.keep = c.keep) (ch' : c'.ch = true) (idle : c'.idle = c.idle + 1) (msgs : c'.msgs.length ≤ c.n ∧ ∀ r ∈ c'.msgs, (r.kind = 3 ∨ r.kind = 4) ∧ r.frm = c.me ∧ r.view = c.keep.view)
  | bgn (ch : c.ch = true) (view : c'.keep.view = c.keep.view) (ch' : c'.ch = false) (idle : c'.idle = 0) (ld : Vw.lead c.keep.view c.n = c.me) (msgs : c'.msgs.length ≤ 2 * c.n ∧ ∀ r ∈ c'.msgs, (r.kind = 3 ∨ r.kind = 5) ∧ r.frm = c.me ∧ r.view = c.keep.view)
  | up (nl : c.leads = false) (t : (c.ch = true ∧ 2 * c.pat ≤ c.idle + 1) ∨ (c.ch = false ∧ c.pat + c.me ≤ c.idle + 1)) (view : c'.keep.view = c.keep.view + 1) (ch' : c'.ch = true) (idle : c'.idle = 0) (begun : c'.begun = fun x => decide (x = c.me)) (dos : c'.dos = fun _ => none)
      (starts : ∀ z, node c.n z → z ≠ c.me → Has c'.msgs 3 c.me z (c.keep.view + 1)) (msgs : c'.msgs.length + 1 ≤ c.n ∧ ∀ r ∈ c'.msgs, r.kind = 3 ∧ r.frm = c.me ∧ r.view = c.keep.view + 1)
theorem tick_R {c : Core} (h2 : 2 ≤ c.n ∨ c.leads = true) (h0 : c.msgs = []) (hme : node c.n c.me) (hv : c.keep.view < 1099511627776) : TkR c c.tick := by
  obtain ⟨d, hd⟩ : ∃ d : Core, d = { c with idle := c.idle + 1 } := ⟨_, rfl⟩
  have d0 : d.msgs = [] := by rw [hd]; exact h0
  have dk : d.keep = c.keep := by rw [hd]
  have dc : d.ch = c.ch := by rw [hd]
  have dm : d.me = c.me := by rw [hd]
  have dn : d.n = c.n := by rw [hd]
  have di : d.idle = c.idle + 1 := by rw [hd]
  have dp : d.pat = c.pat := by rw [hd]
  have dl : d.leads = c.leads := by unfold Core.leads; rw [dk, dc, dm, dn]
  have hol : (d.others d.n).length + 1 ≤ c.n := by rw [← dn]; exact d.others_len' (by rw [dn, dm]; exact hme)
  have e : c.tick = if d.leads then (if 2 ≤ d.idle then ({ d with idle := 0 } : Core).feeds else d).count else if d.ch ∧ d.idle < 2 * d.pat then
      (if d.idle % d.pat = 0 then (({ d with begun := fun x => decide (x = d.me) || d.begun x } : Core).all { Msg.z with kind := 3 }).wanted else d)
    else if d.ch ∨ d.idle ≥ d.pat + d.me then (if d.keep.view < 1099511627776 then d.change (d.keep.view + 1) else d) else d := by rw [hd]; rfl
  rw [e]
  clear e
  by_cases hl : d.leads = true
  · rw [if_pos hl]
    have hl' : c.leads = true := by rw [← dl]; exact hl
    have hcf : d.ch = false := by
      unfold Core.leads at hl
      rw [Bool.and_eq_true] at hl
      simpa using hl.1
    by_cases h1 : 2 ≤ d.idle
    · rw [if_pos h1]
      obtain ⟨e1, e2, e3, e4, e5, e6, e7⟩ := (({ d with idle := 0 } : Core).feeds).count_same
      have hm : (({ d with idle := 0 } : Core).feeds).msgs = [] ++ (d.others d.n).map fun tt => { ({ d with idle := 0 } : Core).feedM tt with frm := d.me, shard := d.shard, view := d.keep.view } := by
        show d.msgs ++ _ = _
        rw [d0]; rfl
      refine .lead hl' (by rw [e3]; exact dk) (e4.trans hcf) (fun g => by omega) (fun _ => ⟨e5, fun z h1 h2 => ?_⟩) ⟨?_, fun r hr => ?_⟩
      · rw [e6, hm, ← dm]
        exact has_all _ 1 c.keep.view (fun z => ⟨rfl, rfl, rfl, by show d.keep.view = _; rw [dk]⟩) [] (by rw [dn]; exact h1) (by rw [dm]; exact h2)
      · rw [e6, hm, List.nil_append, List.length_map]; exact hol
      · rw [e6, hm, List.nil_append] at hr
        obtain ⟨y, _, rfl⟩ := List.mem_map.1 hr
        exact ⟨rfl, dm, by show d.keep.view = _; rw [dk]⟩
    · rw [if_neg h1]
      obtain ⟨e1, e2, e3, e4, e5, e6, e7⟩ := d.count_same
      refine .lead hl' (e3.trans dk) (e4.trans hcf) (fun _ => ⟨e5.trans di, e6.trans d0⟩) (fun g => by omega) ⟨?_, fun r hr => ?_⟩
      · rw [e6, d0]; show 0 + 1 ≤ c.n; omega
      · rw [e6, d0] at hr; cases hr
  rw [if_neg hl]
  have hnl : c.leads = false := by rw [← dl]; simpa using hl
  by_cases hw : d.ch = true ∧ d.idle < 2 * d.pat
  · rw [if_pos hw]
    have hch : c.ch = true := by rw [← dc]; exact hw.1
    have ht : c.idle + 1 < 2 * c.pat := by rw [← di, ← dp]; exact hw.2
    by_cases hz : d.idle % d.pat = 0
    · rw [if_pos hz]
      obtain ⟨f, hf⟩ : ∃ f : Core, f = ({ d with begun := fun x => decide (x = d.me) || d.begun x } : Core).all { Msg.z with kind := 3 } := ⟨_, rfl⟩
      rw [← hf]
      have fm : f.msgs = (d.others d.n).map fun tt => { ({ Msg.z with kind := 3 } : Msg) with to_ := tt, frm := d.me, shard := d.shard, view := d.keep.view } := by
        rw [hf]
        show d.msgs ++ _ = _
        rw [d0]; rfl
      have fk : f.keep = c.keep := by rw [hf]; exact dk
      have fme : f.me = c.me := by rw [hf]; exact dm
      have fn : f.n = c.n := by rw [hf]; exact dn
      have fc : f.ch = true := by rw [hf]; exact hw.1
      have fi : f.idle = c.idle + 1 := by rw [hf]; exact di
      have fml : f.msgs.length + 1 ≤ c.n := by rw [fm, List.length_map]; exact hol
      have fmk : ∀ r ∈ f.msgs, r.kind = 3 ∧ r.frm = c.me ∧ r.view = c.keep.view := fun r hr => by
        rw [fm] at hr
        obtain ⟨y, _, rfl⟩ := List.mem_map.1 hr
        exact ⟨rfl, dm, by show d.keep.view = _; rw [dk]⟩
      have stay : ∀ (g : Core) (e : List Msg), g.keep = f.keep → g.ch = f.ch → g.idle = f.idle → g.msgs = f.msgs ++ e → e.length ≤ 1 → (∀ r ∈ e, r.kind = 4 ∧ r.frm = c.me ∧ r.view = c.keep.view) → TkR c g := fun g e g1 g2 g3 g4 g5 g6 =>
        .again hch ht (g1.trans fk) (g2.trans fc) (g3.trans fi) ⟨by rw [g4, List.length_append]; omega, fun r hr => by
          rw [g4] at hr
          rcases List.mem_append.1 hr with hr | hr
          · exact ⟨.inl (fmk r hr).1, (fmk r hr).2⟩
          · exact ⟨.inr (g6 r hr).1, (g6 r hr).2⟩⟩
      rcases f.wanted_cases with ⟨w1, w2⟩ | ⟨w1, w2, w3⟩ | ⟨w1, w2, w3⟩
      · rw [w2]
        exact stay f [] rfl rfl rfl (by rw [List.append_nil]) (Nat.zero_le _) (fun r hr => by cases hr)
      · rw [w3]
        exact stay _ [_] rfl rfl rfl rfl (Nat.le_refl _) (fun r hr => by rw [List.mem_singleton.1 hr]; exact ⟨rfl, fme, by show f.keep.view = _; rw [fk]⟩)
      · rw [w3]
        rcases Core.begin_cases ({ f with dos := fun x => if x = f.me then some f.doMsg else f.dos x } : Core) with ⟨b1, b2⟩ | ⟨b1, b2⟩
        · rw [b2]
          exact stay _ [] rfl rfl rfl (by rw [List.append_nil]) (Nat.zero_le _) (fun r hr => by cases hr)
        · have hm := b2.msgs
          have hfo : (f.others f.n).length + 1 ≤ c.n := by rw [← fn]; exact f.others_len' (by rw [fn, fme]; exact hme)
          refine .bgn hch (by rw [b2.keep]; show f.keep.view = _; rw [fk]) b2.ch b2.idle (by rw [← fk, ← fn, ← fme]; exact w2) ⟨?_, fun r hr => ?_⟩
          · rw [hm, List.length_append, List.length_map]
            show f.msgs.length + (f.others f.n).length ≤ _
            omega
          · rw [hm] at hr
            rcases List.mem_append.1 hr with hr | hr
            · exact ⟨.inl (fmk r hr).1, (fmk r hr).2⟩
            · obtain ⟨y, _, rfl⟩ := List.mem_map.1 hr
              exact ⟨.inr rfl, fme, by show f.keep.view = _; rw [fk]⟩
    · rw [if_neg hz]
      exact .wait hnl (fun _ => ht) (fun g => by rw [hch] at g; cases g) dk dc di d0
  rw [if_neg hw]
  by_cases hu : d.ch = true ∨ d.idle ≥ d.pat + d.me
  · rw [if_pos hu, if_pos (by rw [dk]; exact hv), d.change_eq _ (by rw [dn]; rcases h2 with h2 | h2; exact h2; rw [hnl] at h2; cases h2)]
    have hm : (d.chg (d.keep.view + 1)).msgs = [] ++ (d.others d.n).map fun tt => { Msg.z with kind := 3, to_ := tt, frm := d.me, shard := d.shard, view := d.keep.view + 1 } := by
      show d.msgs ++ _ = _
      rw [d0]
    refine .up hnl ?_ (by show d.keep.view + 1 = _; rw [dk]) rfl rfl (by rw [← dm]; rfl) rfl (fun z h1 h2 => ?_) ⟨?_, fun r hr => ?_⟩
    · rw [← dc, ← dp, ← di, ← dm]
      by_cases hc : d.ch = true
      · left; exact ⟨hc, by have := mt (fun g => And.intro hc g) hw; omega⟩
      · right
        refine ⟨by simpa using hc, ?_⟩
        rcases hu with hu | hu
        · exact absurd hu hc
        · exact hu
    · rw [hm, ← dm, ← dk]
      exact has_all (fun tt => { Msg.z with kind := 3, to_ := tt, frm := d.me, shard := d.shard, view := d.keep.view + 1 }) 3 (d.keep.view + 1) (fun z => ⟨rfl, rfl, rfl, rfl⟩) [] (by rw [dn]; exact h1) (by rw [dm]; exact h2)
    · rw [hm, List.nil_append, List.length_map]; exact hol
    · rw [hm, List.nil_append] at hr
      obtain ⟨y, _, rfl⟩ := List.mem_map.1 hr
      exact ⟨rfl, dm, by show d.keep.view + 1 = _; rw [dk]⟩
  · rw [if_neg hu]
    have hu : ¬ (d.ch = true) ∧ ¬ (d.idle ≥ d.pat + d.me) := ⟨fun g => hu (.inl g), fun g => hu (.inr g)⟩
    exact .wait hnl (fun g => absurd (by rw [dc]; exact g) hu.1) (fun g => by have := hu.2; rw [di, dp, dm] at this; omega) dk dc di d0
end Vw
end Go.Proofs.Ytmmgnbdngpkfcaa

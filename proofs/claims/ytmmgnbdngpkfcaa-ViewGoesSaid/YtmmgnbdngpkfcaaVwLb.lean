/-
  A group in the calm: messages come one after the other, until none is left: plain laws.
-/
import Derived.Test.YtmmgnbdngpkfcaaVwLa
import Derived.Test.YtmmgnbdngpkfcaaVwHl
namespace Go.Proofs.Ytmmgnbdngpkfcaa
set_option linter.unusedVariables false
namespace Vw

def sumN : Nat → (Nat → Nat) → Nat
  | 0, _ => 0
  | n + 1, f => sumN n f + f n
theorem sumN_succ (n : Nat) (f : Nat → Nat) : sumN (n + 1) f = sumN n f + f n := rfl
theorem sumN_congr {n : Nat} {f g : Nat → Nat} (h : ∀ j, j < n → g j = f j) : sumN n g = sumN n f := by
  induction n with
  | zero => rfl
  | succ n ih => unfold sumN; rw [ih fun j hj => h j (by omega), h n (by omega)]
theorem sumN_upd {n : Nat} {f g : Nat → Nat} {i : Nat} (hi : i < n) (h : ∀ j, j ≠ i → g j = f j) : sumN n g + f i = sumN n f + g i := by
  induction n with
  | zero => omega
  | succ n ih =>
    unfold sumN
    by_cases e : i = n
    · subst e
      rw [sumN_congr (f := f) (g := g) fun j hj => h j (by omega)]
      omega
    · have := ih (by omega)
      rw [h n (by omega)]
      omega
theorem sumN_add {n : Nat} {f g : Nat → Nat} : sumN n (fun i => f i + g i) = sumN n f + sumN n g := by
  induction n with
  | zero => rfl
  | succ n ih => rw [sumN_succ, sumN_succ, sumN_succ, ih]; show _ + (f n + g n) = _; omega
theorem sumN_le {n k : Nat} {f : Nat → Nat} (h : ∀ j, j < n → f j ≤ k) : sumN n f ≤ n * k := by
  induction n with
  | zero => exact Nat.zero_le _
  | succ n ih =>
    unfold sumN
    have h1 := ih fun j hj => h j (by omega)
    have h2 := h n (by omega)
    rw [Nat.succ_mul]
    omega
theorem sumN_mul2 {n : Nat} {f : Nat → Nat} : sumN n (fun i => 2 * f i) = 2 * sumN n f := by
  induction n with
  | zero => rfl
  | succ n ih => rw [sumN_succ, sumN_succ, ih]; show _ + 2 * f n = _; omega
theorem cnt_sum (n : Nat) (p : Int → Bool) : cnt n p = sumN n fun i => b2 (p ((i : Int) + 1)) := by
  induction n with
  | zero => rfl
  | succ n ih =>
    unfold cnt at ih ⊢
    rw [sumN_succ, List.range_succ, List.filter_append, List.length_append, ih]
    congr 1
    show (List.filter (fun i : Nat => p ((i : Int) + 1)) [n]).length = b2 (p ((n : Int) + 1))
    unfold b2
    by_cases h : p ((n : Int) + 1) = true
    · rw [if_pos h]; simp [h]
    · rw [if_neg h]; simp [h]
/-- how many members stand above a view -/
def rk (n : Nat) (s : Int → Int) (v : Int) : Nat := cnt n fun z => decide (v < s z)
def InS (n : Nat) (s : Int → Int) (v : Int) : Prop := ∃ z, node n z ∧ s z = v
theorem cnt_more {n : Nat} {p q : Int → Bool} (h : ∀ z, p z = true → q z = true) {a : Int} (ha : node n a) (h1 : p a = false) (h2 : q a = true) : cnt n p < cnt n q := by
  unfold cnt
  have hx : (a - 1).toNat ∉ (List.range n).filter fun i : Nat => p ((i : Int) + 1) := fun hm => by
    have := (List.mem_filter.1 hm).2
    rw [show (((a - 1).toNat : Nat) : Int) + 1 = a by have := ha.1; omega, h1] at this
    cases this
  have := nodup_len (l := (a - 1).toNat :: (List.range n).filter fun i : Nat => p ((i : Int) + 1)) (l' := (List.range n).filter fun i : Nat => q ((i : Int) + 1)) (List.nodup_cons.2 ⟨hx, (List.nodup_range (n := n)).filter _⟩) fun i hi => by
    rcases List.mem_cons.1 hi with rfl | hi
    · exact List.mem_filter.2 ⟨List.mem_range.2 (by have := ha.1; have := ha.2; omega), by rw [show (((a - 1).toNat : Nat) : Int) + 1 = a by have := ha.1; omega]; exact h2⟩
    · exact List.mem_filter.2 ⟨(List.mem_filter.1 hi).1, h _ (List.mem_filter.1 hi).2⟩
  rw [List.length_cons] at this
  exact this
theorem rk_lt {n : Nat} {s : Int → Int} {a b : Int} (h : InS n s b) (hab : a < b) : rk n s b < rk n s a := by
  obtain ⟨z, hz, rfl⟩ := h
  exact cnt_more (fun y hy => by simp at hy ⊢; omega) hz (by simp) (by simpa using hab)
theorem rk_le {n : Nat} {s : Int → Int} {v : Int} (h : InS n s v) : rk n s v + 1 ≤ n := by
  obtain ⟨z, hz, rfl⟩ := h
  have := cnt_more (n := n) (p := fun y => decide (s z < s y)) (q := fun _ => true) (fun _ _ => rfl) hz (by simp) rfl
  rw [cnt_all (p := fun _ => true) fun _ _ => rfl] at this
  exact this
theorem pairs_le (s : Int → Int) : ∀ n : Nat, 2 * sumN n (fun i => rk n s (s ((i : Int) + 1))) ≤ n * n - n
  | 0 => Nat.le_refl _
  | n + 1 => by
    have ih := pairs_le s n
    have e : ∀ i : Nat, rk (n + 1) s (s ((i : Int) + 1)) = rk n s (s ((i : Int) + 1)) + b2 (decide (s ((i : Int) + 1) < s ((n : Int) + 1))) := fun i => by
      unfold rk
      rw [cnt_sum, cnt_sum]
      rfl
    have e2 : sumN (n + 1) (fun i => rk (n + 1) s (s ((i : Int) + 1))) = sumN n (fun i => rk n s (s ((i : Int) + 1)) + b2 (decide (s ((i : Int) + 1) < s ((n : Int) + 1)))) + (rk n s (s ((n : Int) + 1)) + b2 (decide (s ((n : Int) + 1) < s ((n : Int) + 1)))) := by
      rw [sumN_succ, e n]
      congr 1
      exact sumN_congr fun i _ => e i
    rw [e2, sumN_add]
    have e3 : rk n s (s ((n : Int) + 1)) = sumN n fun i => b2 (decide (s ((n : Int) + 1) < s ((i : Int) + 1))) := by unfold rk; rw [cnt_sum]
    have e4 : sumN n (fun i => b2 (decide (s ((i : Int) + 1) < s ((n : Int) + 1)))) + rk n s (s ((n : Int) + 1)) ≤ n * 1 := by
      rw [e3, ← sumN_add]
      refine sumN_le fun i _ => ?_
      unfold b2
      by_cases h1 : s ((i : Int) + 1) < s ((n : Int) + 1)
      · rw [if_pos (by simpa using h1), if_neg (by simp; omega)]; omega
      · rw [if_neg (by simpa using h1)]; split <;> omega
    have e5 : b2 (decide (s ((n : Int) + 1) < s ((n : Int) + 1))) = 0 := by simp [b2]
    rw [e5]
    have e6 : (n + 1) * (n + 1) - (n + 1) = n * n - n + 2 * n := by
      have h0 : n ≤ n * n := by
        rcases Nat.eq_zero_or_pos n with h | h
        · subst h; exact Nat.le_refl _
        · exact Nat.le_mul_of_pos_left n h
      rw [Nat.succ_mul, Nat.mul_succ]
      omega
    omega
/-! a member's rest of changes -/
def lv (n : Nat) (s : Int → Int) (c : Core) : Nat := 2 * rk n s c.keep.view + b2 c.ch
def lev (n : Nat) (s : Int → Int) (x : Gr) : Nat := sumN n fun i => lv n s (x.core ((i : Int) + 1))
theorem InR.pot {n : Nat} {s : Int → Int} {c : Core} {m : Msg} {c' : Core} (h : InR c m c') (hn : c.n = n) (hn5 : n ≤ 5) (hs : InS n s c.keep.view) (hm : InS n s m.view) :
    InS n s c'.keep.view ∧ (∀ r ∈ c'.msgs, InS n s r.view) ∧ c'.msgs.length + 4 * lv n s c' ≤ 1 + 4 * lv n s c ∧ wts (rk n s) c'.msgs + 25 * lv n s c' < wt (rk n s) m + 25 * lv n s c := by
  have hp := wt_pos (rk n s) m
  have b1 : ∀ b : Bool, b = true → b2 b = 1 := fun b h => by rw [h]; rfl
  have b0 : ∀ b : Bool, b = false → b2 b = 0 := fun b h => by rw [h]; rfl
  have bm : ∀ b : Bool, b2 b ≤ 1 := fun b => by unfold b2; split <;> omega
  unfold lv
  have one : ∀ r : Msg, c'.msgs = [r] → wts (rk n s) c'.msgs = wt (rk n s) r ∧ c'.msgs.length = 1 := fun r hr => by rw [hr]; exact ⟨by simp [wts], rfl⟩
  have mem1 : ∀ r : Msg, c'.msgs = [r] → ∀ v, r.view = v → InS n s v → ∀ q ∈ c'.msgs, InS n s q.view := fun r hr v hv hi q hq => by
    rw [hr] at hq
    rw [List.mem_singleton.1 hq, hv]; exact hi
  have nil : c'.msgs = [] → (∀ q ∈ c'.msgs, InS n s q.view) ∧ wts (rk n s) c'.msgs = 0 ∧ c'.msgs.length = 0 := fun hr => by
    rw [hr]; exact ⟨(fun q hq => by cases hq), rfl, rfl⟩
  have w3 : ∀ r : Msg, r.kind = 1 ∨ r.kind = 3 → wt (rk n s) r = 3 + rk n s r.view := fun r hr => by unfold wt; rw [if_pos hr]
  cases h with
  | stay view ch ch' idle low begun dos st dd wd nd n5 msgs =>
    rw [view, b1 _ ch, b1 _ ch']
    refine ⟨hs, ?_⟩
    rcases msgs with g | ⟨r, g, g1, g2, g3⟩
    · obtain ⟨q1, q2, q3⟩ := nil g
      exact ⟨q1, by omega, by omega⟩
    · obtain ⟨q2, q3⟩ := one r g
      refine ⟨mem1 r g _ g2 hs, by omega, ?_⟩
      rw [q2]
      rcases g3 with ⟨k1, k2, k3⟩ | ⟨k1, k2, k3⟩
      · have e1 : wt (rk n s) r = 1 := by unfold wt; rw [if_neg (by omega), if_neg (by omega)]
        have e2 := w3 m (.inr k2)
        omega
      · have e1 := w3 r (.inr k1)
        have e2 := w3 m k2
        have := rk_lt hs k3
        rw [g2] at e1
        omega
  | up lt kind view ch' idle begun st dd wd nd starts msgs =>
    have h1 := rk_lt hm lt
    have h2 := rk_le hs
    obtain ⟨a, e, g1, g2, g3, g4, g5⟩ := msgs
    have wa : wts (rk n s) a ≤ a.length * 6 := wts_le fun r hr => by
      obtain ⟨k1, k2, k3⟩ := g4 r hr
      rw [w3 r (.inr k1), k3]; omega
    have we : wts (rk n s) e ≤ e.length * 1 := wts_le fun r hr => by
      obtain ⟨k1, k2, k3⟩ := g5 r hr
      unfold wt; rw [if_neg (by omega), if_neg (by omega)]; exact Nat.le_refl _
    have hb := bm c.ch
    rw [view, b1 _ ch', g1, wts_append, List.length_append]
    refine ⟨hm, fun r hr => ?_, by omega, by omega⟩
    rcases List.mem_append.1 hr with hr | hr
    · rw [(g4 r hr).2.2]; exact hm
    · rw [(g5 r hr).2.2]; exact hm
  | bgn view ch ch' idle mv kind ld news msgs =>
    rw [view, b1 _ ch, b0 _ ch']
    have wa : wts (rk n s) c'.msgs ≤ c'.msgs.length * 2 := wts_le fun r hr => by
      obtain ⟨k1, k2, k3⟩ := msgs.2 r hr
      unfold wt; rw [if_neg (by omega), if_pos k1]; exact Nat.le_refl _
    have := msgs.1
    exact ⟨hs, fun r hr => by rw [(msgs.2 r hr).2.2]; exact hs, by omega, by omega⟩
  | took view ge ch' idle kind msgs =>
    obtain ⟨r, g, g1, g2, g3⟩ := msgs
    obtain ⟨q2, q3⟩ := one r g
    rw [view, b0 _ ch', q2, q3]
    have e1 : wt (rk n s) r = 1 := by unfold wt; rw [if_neg (by omega), if_neg (by omega)]
    rw [e1]
    refine ⟨hm, mem1 r g _ g3 hm, ?_⟩
    rcases ge with h | ⟨h, hc⟩
    · have := rk_lt hm h
      omega
    · rw [h, b1 _ hc]; omega
  | norm view ch ch' idle low msgs an pr =>
    rw [view, b0 _ ch, b0 _ ch']
    refine ⟨hs, ?_⟩
    rcases msgs with g | ⟨r, g, g1, g2, g3⟩
    · obtain ⟨q1, q2, q3⟩ := nil g
      exact ⟨q1, by omega, by omega⟩
    · obtain ⟨q2, q3⟩ := one r g
      refine ⟨mem1 r g _ g2 hs, by omega, ?_⟩
      rw [q2]
      rcases g3 with ⟨k1, k2, k3⟩ | ⟨k1, k2, k3, k4, k5⟩ | ⟨k1, k2, k3⟩
      · have e1 := w3 r (.inr k1)
        have e2 := w3 m k2
        have := rk_lt hs k3
        rw [g2] at e1
        omega
      · have e1 : wt (rk n s) r = 2 := by unfold wt; rw [if_neg (by omega), if_pos k1]
        have e2 := w3 m (.inr k2)
        omega
      · have e1 : wt (rk n s) r = 1 := by unfold wt; rw [if_neg (by omega), if_neg (by omega)]
        have e2 := w3 m (.inl k2)
        omega
/-! the group -/
def GOk (x : Gr) (K : Nat) : Prop := (∃ G, GrOk G x K) ∧ x.sure.length ≤ 2000
theorem GrOk.idle' {G : Gh} {x : Gr} {K K' : Nat} (h : GrOk G x K) (hi : ∀ y, node x.n y → (x.core y).idle ≤ K') : GrOk G x K' := ⟨h.gi, h.n, h.st, h.out, h.pat, hi, h.com, h.mail, h.sure⟩
/-- what is known of a member -/
structure Mb (x : Gr) (y : Int) : Prop where
  me : (x.core y).me = y
  n : (x.core y).n = x.n
  recs : (x.core y).recs = []
  msgs : (x.core y).msgs = []
  done : (x.core y).done = []
  pat : (x.core y).pat = x.pat
  view : 0 ≤ (x.core y).keep.view ∧ (x.core y).keep.view ≤ 1099511627776
theorem GOk.mb {x : Gr} {K : Nat} (h : GOk x K) {y : Int} (hy : node x.n y) : Mb x y := by
  obtain ⟨⟨G, h⟩, _⟩ := h
  have s := h.st y hy
  have o := h.out y hy
  exact ⟨s.me, s.n.trans h.n, o.1, o.2.1, o.2.2, h.pat y hy, by have := s.keep.view; omega⟩
theorem GOk.idle {x : Gr} {K : Nat} (h : GOk x K) {y : Int} (hy : node x.n y) : (x.core y).idle ≤ K := by
  obtain ⟨⟨G, h⟩, _⟩ := h
  exact h.idle y hy
structure Mg (x : Gr) (m : Msg) : Prop where
  to_ : node x.n m.to_
  frm : node x.n m.frm
  ne : m.frm ≠ m.to_
  inok : InOk (x.core m.to_) m
  kind : 1 ≤ m.kind ∧ m.kind ≤ 5
  k1 : m.kind = 1 → m.frm = lead m.view x.n
  k5 : m.kind = 5 → m.frm = lead m.view x.n
  view : m.view ≤ (x.core m.frm).keep.view
  at_ : 0 ≤ m.at_
theorem GOk.mg {x : Gr} {K : Nat} (h : GOk x K) {m : Msg} (hm : m ∈ x.mail) : Mg x m := by
  obtain ⟨⟨G, h⟩, _⟩ := h
  have o := h.mail m hm
  have h1 : node x.n m.to_ := by rw [← h.n]; exact o.to_
  have h2 : node x.n m.frm := by rw [← h.n]; exact o.frm
  have s := h.st _ h1
  have hl : ∀ v, G.ld v = lead v x.n := fun v => by unfold Gh.ld lead; rw [h.n]
  refine ⟨h1, h2, o.ne, ⟨s.me.symm, ?_, ?_, o.shard.trans s.shard.symm, o.view, o.normal.2, ⟨o.at_.1, by have := o.at_.2; omega⟩, o.small⟩, o.kind, fun k => (o.k1 k).1.trans (hl _), fun k => (o.k5 k).1.trans (hl _), ?_, o.at_.1⟩
  · rw [s.n]; exact o.frm
  · rw [s.me]; exact o.ne
  · rw [← (h.st _ h2).keep.V]; exact o.vv
theorem GOk.mono {x : Gr} {K K' : Nat} (h : GOk x K) (hk : K ≤ K') : GOk x K' := by
  obtain ⟨⟨G, h⟩, h2⟩ := h
  exact ⟨⟨G, h.mono hk⟩, h2⟩
/-- the next message comes -/
def deliver (x : Gr) : Gr :=
  match x.mail with
  | [] => x
  | m :: r => grDo { x with mail := r } m.to_ ((x.core m.to_).in_ m) (-1)
theorem deliver_eq {x : Gr} {m : Msg} {r : List Msg} (h : x.mail = m :: r) : deliver x = grDo { x with mail := r } m.to_ ((x.core m.to_).in_ m) (-1) := by unfold deliver; rw [h]
theorem deliver_nil {x : Gr} (h : x.mail = []) : deliver x = x := by unfold deliver; rw [h]
theorem step_deliver (x : Gr) (h : x.mail ≠ []) : grStep x 1 0 0 = deliver x := by
  obtain ⟨m, r, hm⟩ : ∃ m r, x.mail = m :: r := by
    cases e : x.mail with
    | nil => exact absurd e h
    | cons m r => exact ⟨m, r, rfl⟩
  rw [deliver_eq hm]
  have h0 : ((0 : Int) % 65536 % (x.mail.length : Int)).toNat = 0 := by simp
  have e : grStep x 1 0 0 = grMail x 1 0 (-1) := by
    unfold grStep
    simp
  rw [e]
  unfold grMail
  rw [h0, hm]
  simp
theorem InR.idle {c : Core} {m : Msg} {c' : Core} (h : InR c m c') : c'.idle = c.idle ∨ c'.idle = 0 := by
  cases h with
  | stay view ch ch' idle => exact .inl idle
  | up lt kind view ch' idle => exact .inr idle
  | bgn view ch ch' idle => exact .inr idle
  | took view ge ch' idle => exact .inr idle
  | norm view ch ch' idle =>
    rcases idle with h | h
    · exact .inl h
    · exact .inr h.1
theorem GOk.in_R {x : Gr} {K : Nat} (h : GOk x K) {m : Msg} (hm : m ∈ x.mail) : 2 ≤ x.n ∧ InR (x.core m.to_) m ((x.core m.to_).in_ m) := by
  have g := h.mg hm
  have b := h.mb g.to_
  have hn : 2 ≤ x.n := by
    have h1 := g.to_
    have h2 := g.frm
    have h3 := g.ne
    unfold node at h1 h2
    omega
  exact ⟨hn, Vw.in_R g.inok g.kind (by rw [b.n]; exact hn) b.msgs (fun k => by rw [b.n]; exact g.k5 k) (by rw [b.n, b.me]; exact g.to_)⟩
theorem tells_top {G G1 : Gh} {x : Gr} {K : Nat} (h : GrOk G x K) {y : Int} (hy : node x.n y) {c : Core} (a : Act G y (x.core y) G1 c) (hs : x.sure.length ≤ 2000) : (tells x.sure (x.core y).commit c.done).length ≤ 2000 := by
  obtain ⟨e1, e2, _⟩ := h.act hy a
  have := h.com y hy
  have := a.st.keep.small.1
  rw [tells_len (h.com y hy)]
  omega
theorem deliver_ok {x : Gr} {K : Nat} (h : GOk x K) {m : Msg} {r : List Msg} (hx : x.mail = m :: r) (hl : (r ++ ((x.core m.to_).in_ m).msgs).length ≤ 200) :
    GOk (deliver x) K ∧ (deliver x).n = x.n ∧ (deliver x).pat = x.pat ∧ (deliver x).core = updI x.core m.to_ ((x.core m.to_).in_ m).clear ∧ (deliver x).mail = r ++ ((x.core m.to_).in_ m).msgs := by
  have hmem : m ∈ x.mail := by rw [hx]; exact List.mem_cons_self
  have hR := (h.in_R hmem).2
  have g := h.mg hmem
  have e : deliver x = { x with core := updI x.core m.to_ ((x.core m.to_).in_ m).clear, mail := r ++ ((x.core m.to_).in_ m).msgs, sure := tells x.sure (x.core m.to_).commit ((x.core m.to_).in_ m).done } := by
    rw [deliver_eq hx]
    have ht : trim (r ++ ((x.core m.to_).in_ m).msgs) = r ++ ((x.core m.to_).in_ m).msgs := by
      unfold trim
      rw [if_neg (by omega)]
    unfold grDo
    rw [if_neg (by omega)]
    show ({ x with core := updI x.core m.to_ ((x.core m.to_).in_ m).clear, mail := trim (r ++ ((x.core m.to_).in_ m).msgs), sure := tells x.sure (x.core m.to_).commit ((x.core m.to_).in_ m).done } : Gr) = _
    rw [ht]
  rw [e]
  refine ⟨?_, rfl, rfl, rfl, rfl⟩
  obtain ⟨⟨G, hG⟩, hsu⟩ := h
  have hG1 : GrOk G { x with mail := r } K := hG.lose fun q hq => by rw [hx]; exact List.mem_cons_of_mem _ hq
  obtain ⟨G1, a⟩ := Act.in_ hG.gi (hG.st _ g.to_) (hG.out _ g.to_) m (hG.mail m hmem) rfl
  obtain ⟨e1, e2, e3, e4⟩ := hG1.act g.to_ a
  refine ⟨⟨G1, (e4 (r ++ ((x.core m.to_).in_ m).msgs) fun q hq => hq).idle' fun y hy => ?_⟩, tells_top hG g.to_ a hsu⟩
  show (if y = m.to_ then ((x.core m.to_).in_ m).clear else x.core y : Core).idle ≤ K
  split
  · show ((x.core m.to_).in_ m).idle ≤ K
    have h1 := hG.idle _ g.to_
    rcases hR.idle with h2 | h2 <;> omega
  · exact hG.idle y hy
/-- the calm's messages, of views that members have -/
structure D0 (n : Nat) (s : Int → Int) (K : Nat) (x : Gr) : Prop where
  ok : GOk x K
  nn : x.n = n
  n5 : n ≤ 5
  ins : ∀ y, node n y → InS n s (x.core y).keep.view
  insm : ∀ m ∈ x.mail, InS n s m.view
  len : x.mail.length + 4 * lev n s x ≤ 200
def pot (n : Nat) (s : Int → Int) (x : Gr) : Nat := wts (rk n s) x.mail + 25 * lev n s x
theorem D0.deliver {n : Nat} {s : Int → Int} {K : Nat} {x : Gr} (h : D0 n s K x) {m : Msg} {r : List Msg} (hx : x.mail = m :: r) :
    D0 n s K (deliver x) ∧ pot n s (deliver x) < pot n s x ∧ (deliver x).n = x.n ∧ (deliver x).pat = x.pat ∧ (deliver x).core = updI x.core m.to_ ((x.core m.to_).in_ m).clear ∧ (deliver x).mail = r ++ ((x.core m.to_).in_ m).msgs ∧ InR (x.core m.to_) m ((x.core m.to_).in_ m) := by
  have hmem : m ∈ x.mail := by rw [hx]; exact List.mem_cons_self
  have hR := (h.ok.in_R hmem).2
  have g := h.ok.mg hmem
  have b := h.ok.mb g.to_
  have hto : node n m.to_ := by rw [← h.nn]; exact g.to_
  obtain ⟨p1, p2, p3, p4⟩ := hR.pot (n := n) (s := s) (b.n.trans h.nn) h.n5 (h.ins _ hto) (h.insm m hmem)
  obtain ⟨i, hi⟩ : ∃ i : Nat, m.to_ = (i : Int) + 1 := ⟨(m.to_ - 1).toNat, by have := hto.1; omega⟩
  have hin : i < n := by have := hto.2; omega
  have hlen := h.len
  rw [hx, List.length_cons] at hlen
  obtain ⟨c', hc'⟩ : ∃ c', c' = (x.core m.to_).in_ m := ⟨_, rfl⟩
  rw [← hc'] at p1 p2 p3 p4 hR ⊢
  have hlev : ∀ z : Gr, z.core = updI x.core m.to_ c'.clear → lev n s z + lv n s (x.core m.to_) = lev n s x + lv n s c' := fun z hz => by
    have := sumN_upd (n := n) (f := fun i => lv n s (x.core ((i : Int) + 1))) (g := fun i => lv n s (z.core ((i : Int) + 1))) hin fun j hj => by
      show lv n s (z.core _) = _
      rw [hz, updI_other _ _ (by omega)]
    unfold lev
    rw [hz] at this ⊢
    rw [hi] at this ⊢
    simp only [updI_same] at this
    exact this
  obtain ⟨d1, d2, d3, d4, d5⟩ := deliver_ok h.ok hx (by
    rw [← hc', List.length_append]
    have := hlev { x with core := updI x.core m.to_ c'.clear } rfl
    omega)
  rw [← hc'] at d4 d5
  have hl := hlev _ d4
  refine ⟨⟨d1, d2.trans h.nn, h.n5, fun y hy => ?_, fun q hq => ?_, ?_⟩, ?_, d2, d3, d4, d5, hR⟩
  · rw [d4]
    by_cases e : y = m.to_
    · rw [e, updI_same]; exact p1
    · rw [updI_other _ _ e]; exact h.ins y hy
  · rw [d5] at hq
    rcases List.mem_append.1 hq with hq | hq
    · exact h.insm q (by rw [hx]; exact List.mem_cons_of_mem _ hq)
    · exact p2 q hq
  · rw [d5, List.length_append]; omega
  · unfold pot
    rw [d5, wts_append, hx, wts_cons]
    omega
/-- so many messages come -/
def mailRun0 (x : Gr) : Nat → Gr
  | 0 => x
  | k + 1 => Vw.deliver (mailRun0 x k)
@[irreducible] def mailRun (x : Gr) (k : Nat) : Gr := mailRun0 x k
theorem mailRun_zero (x : Gr) : mailRun x 0 = x := by unfold mailRun; rfl
theorem mailRun_succ (x : Gr) (k : Nat) : mailRun x (k + 1) = Vw.deliver (mailRun x k) := by unfold mailRun; rfl
theorem mail_run {n : Nat} {s : Int → Int} {K : Nat} {x : Gr} (h : D0 n s K x) {J : Gr → Prop} (hJ : J x)
    (step : ∀ z, D0 n s K z → J z → ∀ m r, z.mail = m :: r → J (Vw.deliver z)) : ∀ k, D0 n s K (mailRun x k) ∧ J (mailRun x k) ∧ (mailRun x k).pat = x.pat ∧ ((mailRun x k).mail = [] ∨ pot n s (mailRun x k) + k ≤ pot n s x)
  | 0 => by rw [mailRun_zero]; exact ⟨h, hJ, rfl, .inr (Nat.le_refl _)⟩
  | k + 1 => by
    obtain ⟨h1, h2, h0, h3⟩ := mail_run h hJ step k
    rw [mailRun_succ]
    cases hm : (mailRun x k).mail with
    | nil =>
      have e : Vw.deliver (mailRun x k) = mailRun x k := deliver_nil hm
      rw [e]
      exact ⟨h1, h2, h0, .inl hm⟩
    | cons m r =>
      obtain ⟨d1, d2, d3, d4, d5⟩ := h1.deliver hm
      refine ⟨d1, step _ h1 h2 m r hm, d4.trans h0, .inr ?_⟩
      rcases h3 with h3 | h3
      · rw [hm] at h3; cases h3
      · omega
/-! all members tick -/
def tickTo (x : Gr) : Nat → Gr
  | 0 => x
  | j + 1 => grDo (tickTo x j) ((j : Int) + 1) ((tickTo x j).core ((j : Int) + 1)).tick (-1)
def tickMail (x : Gr) : Nat → List Msg
  | 0 => []
  | j + 1 => tickMail x j ++ (x.core ((j : Int) + 1)).tick.msgs
theorem TkR.len {c c' : Core} (h : TkR c c') : c'.msgs.length ≤ 2 * c.n := by
  cases h with
  | lead l keep ch low high msgs => have := msgs.1; omega
  | wait nl t t2 keep ch idle msgs => rw [msgs]; exact Nat.zero_le _
  | again ch t keep ch' idle msgs => have := msgs.1; omega
  | bgn ch view ch' idle ld msgs => exact msgs.1
  | up nl t view ch' idle begun dos starts msgs => have := msgs.1; omega
theorem GOk.tick_R {x : Gr} {K : Nat} (h : GOk x K) {y : Int} (hy : node x.n y) (h2 : 2 ≤ x.n ∨ (x.core y).leads = true) (hv : (x.core y).keep.view < 1099511627776) : TkR (x.core y) (x.core y).tick := by
  have b := h.mb hy
  exact Vw.tick_R (by rw [b.n]; exact h2) b.msgs (by rw [b.n, b.me]; exact hy) hv
theorem tickTo_is {x : Gr} {K : Nat} (h : GOk x K) (hn : x.n ≤ 5) (h2 : ∀ y, node x.n y → 2 ≤ x.n ∨ (x.core y).leads = true) (hv : ∀ y, node x.n y → (x.core y).keep.view < 1099511627776) (hm : x.mail.length ≤ 100) : ∀ j : Nat, j ≤ x.n →
    GOk (tickTo x j) (K + 1) ∧ (tickTo x j).n = x.n ∧ (tickTo x j).pat = x.pat ∧ (∀ y, (tickTo x j).core y = if 1 ≤ y ∧ y ≤ j then (x.core y).tick.clear else x.core y) ∧ (tickTo x j).mail = x.mail ++ tickMail x j ∧ (tickMail x j).length ≤ j * (2 * x.n)
  | 0, _ => ⟨h.mono (Nat.le_succ _), rfl, rfl, fun y => by rw [if_neg (by omega)]; rfl, by show x.mail = x.mail ++ []; simp, Nat.zero_le _⟩
  | j + 1, hj => by
    obtain ⟨h1, e1, e2, e3, e4, e5⟩ := tickTo_is h hn h2 hv hm j (by omega)
    have hy : node x.n ((j : Int) + 1) := ⟨by omega, by omega⟩
    have ec : (tickTo x j).core ((j : Int) + 1) = x.core ((j : Int) + 1) := by rw [e3, if_neg (by omega)]
    have hT := (h.tick_R hy (h2 _ hy) (hv _ hy)).len
    rw [(h.mb hy).n] at hT
    have hlen : (tickMail x (j + 1)).length ≤ (j + 1) * (2 * x.n) := by
      show (tickMail x j ++ _).length ≤ _
      rw [List.length_append, Nat.succ_mul]; omega
    have h50 : (j + 1) * (2 * x.n) ≤ 5 * 10 := Nat.mul_le_mul (by omega) (by omega)
    have hmail : (tickTo x j).mail ++ (x.core ((j : Int) + 1)).tick.msgs = x.mail ++ tickMail x (j + 1) := by
      rw [e4, List.append_assoc]; rfl
    have e : tickTo x (j + 1) = { tickTo x j with core := updI (tickTo x j).core ((j : Int) + 1) (x.core ((j : Int) + 1)).tick.clear, mail := x.mail ++ tickMail x (j + 1), sure := tells (tickTo x j).sure (x.core ((j : Int) + 1)).commit (x.core ((j : Int) + 1)).tick.done } := by
      show grDo _ _ _ _ = _
      unfold grDo
      have ht : trim (x.mail ++ tickMail x (j + 1)) = x.mail ++ tickMail x (j + 1) := by
        unfold trim
        rw [if_neg (by rw [List.length_append]; omega)]
      rw [if_neg (by omega), ec, hmail, ht]
    rw [e]
    refine ⟨?_, e1, e2, fun y => ?_, rfl, hlen⟩
    · obtain ⟨⟨G, hG⟩, hsu⟩ := h1
      have hy1 : node (tickTo x j).n ((j : Int) + 1) := by rw [e1]; exact hy
      obtain ⟨G1, a⟩ := Act.tick hG.gi (hG.st _ hy1) (hG.out _ hy1)
      obtain ⟨q1, q2, q3, q4⟩ := hG.act hy1 a
      have q5 := q4 (x.mail ++ tickMail x (j + 1)) (fun m hm' => by rw [ec, hmail]; exact hm')
      have hst := tells_top hG hy1 a hsu
      rw [ec] at q5 a hst
      refine ⟨⟨G1, q5.idle' fun y hy' => ?_⟩, hst⟩
      show (if y = (j : Int) + 1 then (x.core ((j : Int) + 1)).tick.clear else (tickTo x j).core y : Core).idle ≤ ((K + 1 : Nat) : Int)
      split
      · show (x.core ((j : Int) + 1)).tick.idle ≤ _
        have h3 := h.idle hy
        rcases a.idle with h4 | h4 <;> omega
      · exact hG.idle y hy'
    · show updI _ _ _ y = _
      by_cases ey : y = (j : Int) + 1
      · rw [ey, updI_same, if_pos (by omega)]
      · rw [updI_other _ _ ey, e3]
        by_cases h3 : 1 ≤ y ∧ y ≤ (j : Int)
        · rw [if_pos h3, if_pos (by omega)]
        · rw [if_neg h3, if_neg (by omega)]
theorem mem_tickMail {x : Gr} {m : Msg} : ∀ {j : Nat}, m ∈ tickMail x j ↔ ∃ i : Nat, i < j ∧ m ∈ (x.core ((i : Int) + 1)).tick.msgs
  | 0 => ⟨fun h => (by cases h), fun ⟨i, h, _⟩ => by omega⟩
  | j + 1 => by
    show m ∈ tickMail x j ++ _ ↔ _
    rw [List.mem_append, mem_tickMail]
    constructor
    · rintro (⟨i, h1, h2⟩ | h)
      · exact ⟨i, by omega, h2⟩
      · exact ⟨j, by omega, h⟩
    · rintro ⟨i, h1, h2⟩
      by_cases e : i = j
      · subst e; exact .inr h2
      · exact .inl ⟨i, by omega, h2⟩
end Vw
end Go.Proofs.Ytmmgnbdngpkfcaa

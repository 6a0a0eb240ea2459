/-
  A group in the calm: a unit of time: plain laws.
  A group in the calm: a unit of time in which nobody goes to a view that is new, and one in which somebody does: plain laws.
-/
import Derived.Test.YtmmgnbdngpkfcaaVwLb
namespace Go.Proofs.Ytmmgnbdngpkfcaa
set_option linter.unusedVariables false
namespace Vw

/-- a unit of time: all tick, then all messages come -/
noncomputable def unit (x : Gr) : Gr := Classical.choose (⟨mailRun (tickTo x x.n) 2000, rfl⟩ : ∃ z, z = mailRun (tickTo x x.n) 2000)
theorem unit_is (x : Gr) : unit x = mailRun (tickTo x x.n) 2000 := Classical.choose_spec (⟨mailRun (tickTo x x.n) 2000, rfl⟩ : ∃ z, z = mailRun (tickTo x x.n) 2000)
theorem TkR.sent {c c' : Core} (h : TkR c c') : ∀ r ∈ c'.msgs, r.view = c'.keep.view := by
  intro r hr
  cases h with
  | lead l keep ch low high msgs => rw [(msgs.2 r hr).2.2, keep]
  | wait nl t t2 keep ch idle msgs => rw [msgs] at hr; cases hr
  | again ch t keep ch' idle msgs => rw [(msgs.2 r hr).2.2, keep]
  | bgn ch view ch' idle ld msgs => rw [(msgs.2 r hr).2.2, view]
  | up nl t view ch' idle begun dos starts msgs => rw [(msgs.2 r hr).2.2, view]
/-- how a group may stand at the start of a unit -/
structure UH (x : Gr) (K : Nat) : Prop where
  ok : GOk x K
  n5 : 1 ≤ x.n ∧ x.n ≤ 5
  h2 : ∀ y, node x.n y → 2 ≤ x.n ∨ (x.core y).leads = true
  hv : ∀ y, node x.n y → (x.core y).keep.view < 1099511627776
def vs (x : Gr) : Int → Int := fun y => ((tickTo x x.n).core y).keep.view
theorem UH.tk {x : Gr} {K : Nat} (h : UH x K) {y : Int} (hy : node x.n y) : TkR (x.core y) (x.core y).tick := h.ok.tick_R hy (h.h2 y hy) (h.hv y hy)
theorem UH.core {x : Gr} {K : Nat} (h : UH x K) (hm : x.mail.length ≤ 4) {y : Int} (hy : node x.n y) : (tickTo x x.n).core y = (x.core y).tick.clear := by
  have := (tickTo_is h.ok h.n5.2 h.h2 h.hv (by omega) x.n (Nat.le_refl _)).2.2.2.1 y
  rw [this, if_pos ⟨hy.1, hy.2⟩]
theorem UH.mail {x : Gr} {K : Nat} (h : UH x K) (hm : x.mail.length ≤ 4) {m : Msg} (hmm : m ∈ (tickTo x x.n).mail) : m ∈ x.mail ∨ ∃ y, node x.n y ∧ m ∈ (x.core y).tick.msgs := by
  rw [(tickTo_is h.ok h.n5.2 h.h2 h.hv (by omega) x.n (Nat.le_refl _)).2.2.2.2.1] at hmm
  rcases List.mem_append.1 hmm with h1 | h1
  · exact .inl h1
  · obtain ⟨i, hi, h2⟩ := mem_tickMail.1 h1
    exact .inr ⟨_, ⟨by omega, by omega⟩, h2⟩
theorem UH.sent {x : Gr} {K : Nat} (h : UH x K) (hm : x.mail.length ≤ 4) {y : Int} (hy : node x.n y) {m : Msg} (hmm : m ∈ (x.core y).tick.msgs) : m ∈ (tickTo x x.n).mail := by
  rw [(tickTo_is h.ok h.n5.2 h.h2 h.hv (by omega) x.n (Nat.le_refl _)).2.2.2.2.1]
  refine List.mem_append_right _ (mem_tickMail.2 ⟨(y - 1).toNat, by have := hy.1; have := hy.2; omega, ?_⟩)
  rw [show (((y - 1).toNat : Nat) : Int) + 1 = y by have := hy.1; omega]
  exact hmm
theorem UH.has {x : Gr} {K : Nat} (h : UH x K) (hm : x.mail.length ≤ 4) {y : Int} (hy : node x.n y) {k a b V : Int} (hh : Has (x.core y).tick.msgs k a b V) : Has (tickTo x x.n).mail k a b V :=
  hh.mono fun r hr => h.sent hm hy hr
theorem UH.d0 {x : Gr} {K : Nat} (h : UH x K) (hm : x.mail.length ≤ 4) (hx : ∀ m ∈ x.mail, InS x.n (vs x) m.view) :
    D0 x.n (vs x) (K + 1) (tickTo x x.n) ∧ pot x.n (vs x) (tickTo x x.n) < 2000 ∧ (tickTo x x.n).pat = x.pat := by
  obtain ⟨g1, g2, g3, g4, g5, g6⟩ := tickTo_is h.ok h.n5.2 h.h2 h.hv (by omega) x.n (Nat.le_refl _)
  obtain ⟨n, hn⟩ : ∃ n, n = x.n := ⟨_, rfl⟩
  have hn5 : 1 ≤ n ∧ n ≤ 5 := by rw [hn]; exact h.n5
  have hins : ∀ y, node x.n y → InS x.n (vs x) ((tickTo x x.n).core y).keep.view := fun y hy => ⟨y, hy, rfl⟩
  have hinsm : ∀ m ∈ (tickTo x x.n).mail, InS x.n (vs x) m.view := fun m hmm => by
    rcases h.mail hm hmm with h1 | ⟨y, hy, h1⟩
    · exact hx m h1
    · refine ⟨y, hy, ?_⟩
      show ((tickTo x x.n).core y).keep.view = _
      rw [h.core hm hy, (h.tk hy).sent m h1]; rfl
  have hlen : (tickTo x x.n).mail.length ≤ 54 := by
    rw [g5, List.length_append]
    have : x.n * (2 * x.n) ≤ 5 * 10 := Nat.mul_le_mul h.n5.2 (by have := h.n5.2; omega)
    omega
  have hlev : lev x.n (vs x) (tickTo x x.n) ≤ 25 := by
    have e : lev x.n (vs x) (tickTo x x.n) = sumN x.n (fun i => 2 * rk x.n (vs x) (vs x ((i : Int) + 1))) + sumN x.n fun i => b2 ((tickTo x x.n).core ((i : Int) + 1)).ch := by
      rw [← sumN_add]; rfl
    have p := pairs_le (vs x) x.n
    rw [e, sumN_mul2]
    have p2 : sumN x.n (fun i => b2 ((tickTo x x.n).core ((i : Int) + 1)).ch) ≤ x.n * 1 := sumN_le fun i _ => by unfold b2; split <;> omega
    rw [← hn] at p p2 ⊢
    have h5 : n * n - n ≤ 20 := by
      have : n * n ≤ n * 5 := Nat.mul_le_mul_left n hn5.2
      omega
    omega
  refine ⟨⟨g1, g2, h.n5.2, hins, hinsm, by omega⟩, ?_, g3⟩
  have hw : wts (rk x.n (vs x)) (tickTo x x.n).mail ≤ (tickTo x x.n).mail.length * 7 := wts_le fun m hmm => by
    have := rk_le (hinsm m hmm)
    have := h.n5.2
    unfold wt
    split
    · omega
    · split <;> omega
  unfold pot
  omega
theorem UH.run {x : Gr} {K : Nat} (h : UH x K) (hm : x.mail.length ≤ 4) (hx : ∀ m ∈ x.mail, InS x.n (vs x) m.view) {J : Gr → Prop} (hJ : J (tickTo x x.n))
    (step : ∀ z, D0 x.n (vs x) (K + 1) z → J z → ∀ m r, z.mail = m :: r → J (Vw.deliver z)) :
    (∀ k, D0 x.n (vs x) (K + 1) (mailRun (tickTo x x.n) k) ∧ J (mailRun (tickTo x x.n) k)) ∧ (D0 x.n (vs x) (K + 1) (unit x) ∧ J (unit x)) ∧ (unit x).mail = [] ∧ (unit x).pat = x.pat := by
  obtain ⟨h1, h2, h3⟩ := h.d0 hm hx
  have := mail_run h1 hJ step
  rw [unit_is]
  refine ⟨fun k => ⟨(this k).1, (this k).2.1⟩, ⟨(this 2000).1, (this 2000).2.1⟩, ?_, (this 2000).2.2.1.trans h3⟩
  rcases (this 2000).2.2.2 with g | g
  · exact g
  · omega
/-- what is under way stays so until it comes -/
theorem has_next {z : Gr} {m : Msg} {r l : List Msg} (hz : z.mail = m :: r) {z' : Gr} (hz' : z'.mail = r ++ l) {k a b V : Int} (h : Has z.mail k a b V) : Has z'.mail k a b V ∨ (m.kind = k ∧ m.frm = a ∧ m.to_ = b ∧ m.view = V) := by
  obtain ⟨q, h1, h2⟩ := h
  rw [hz] at h1
  rcases List.mem_cons.1 h1 with e | e
  · subst e; exact .inr h2
  · exact .inl ⟨q, by rw [hz']; exact List.mem_append_left _ e, h2⟩
theorem has_sent {r l : List Msg} {z' : Gr} (hz' : z'.mail = r ++ l) {k a b V : Int} (h : Has l k a b V) : Has z'.mail k a b V := h.mono fun q hq => by rw [hz']; exact List.mem_append_right _ hq
/-- what a message does to a member, seen from the highest view -/
structure InW (W : Int) (c : Core) (m : Msg) (c' : Core) : Prop where
  top : c'.keep.view ≤ W
  a : c.keep.view = W → c'.keep.view = W
  b : c.keep.view = W → c.ch = false → c'.ch = false
  c1 : c.keep.view = W → c.ch = true → c'.ch = true → c'.idle = c.idle ∧ (∀ z, c.begun z = true → c'.begun z = true) ∧ ∀ z, (c.dos z).isSome = true → (c'.dos z).isSome = true
  c2 : c'.keep.view = W → c.keep.view ≠ W → c'.idle = 0
  c3 : c.keep.view = W → c.ch = true → c'.ch = false → c'.idle = 0
  c4 : c.keep.view = W → c.ch = false → c'.idle = c.idle ∨ (c'.idle = 0 ∧ m.kind = 1 ∧ m.view = W)
  d : m.kind = 3 → m.view = W → c'.keep.view = W ∧ (c'.ch = false ∨ c'.begun m.frm = true)
  d1 : m.kind = 1 → m.view = W → c'.keep.view = W ∧ (c.keep.view = W → c.ch = false → m.frm = lead W c.n → c'.idle = 0)
  e : c'.keep.view = W → c'.ch = true → c.keep.view ≠ W → c'.begun c.me = true ∧ ∀ z, node c.n z → z ≠ c.me → Has c'.msgs 3 c.me z W
  f : c'.keep.view = W → c'.ch = true → c.most (cnt c.n c'.begun) = true → (c.keep.view = W ∧ c.ch = true ∧ c.most (cnt c.n c.begun) = true) ∨ (lead W c.n ≠ c.me ∧ Has c'.msgs 4 c.me (lead W c.n) W) ∨ (lead W c.n = c.me ∧ (c'.dos c.me).isSome = true)
  g : m.kind = 4 → m.view = W → lead W c.n = c.me → c'.keep.view = W ∧ (c'.ch = false ∨ (c'.dos m.frm).isSome = true)
  h : lead W c.n = c.me → c'.keep.view = W → c'.ch = true → (c.keep.view = W → c.ch = true ∧ (c.most (cnt c.n fun z => (c.dos z).isSome) = false → c.most (cnt c.n fun z => (c'.dos z).isSome) = false)) ∧ (c.keep.view ≠ W → c.most (cnt c.n fun z => (c'.dos z).isSome) = false)
  i : c'.keep.view = W → c'.ch = false → ¬ (c.keep.view = W ∧ c.ch = false) → (lead W c.n = c.me ∧ ∀ z, node c.n z → z ≠ c.me → Has c'.msgs 5 c.me z W) ∨ (m.kind = 5 ∧ m.view = W)
  j : m.kind = 5 → m.view = W → c'.keep.view = W ∧ c'.ch = false
  k : ∀ r ∈ c'.msgs, r.kind = 5 → r.view = W → c'.keep.view = W ∧ c'.ch = false ∧ lead W c.n = c.me
  k1 : ∀ r ∈ c'.msgs, r.kind ≠ 1
theorem InR.w {W : Int} {c : Core} {m : Msg} {c' : Core} (h : InR c m c') (hc : c.keep.view ≤ W) (hm : m.view ≤ W) : InW W c m c' := by
  have ft : ∀ {b : Bool} {P : Prop}, b = true → b = false → P := fun h1 h2 => by rw [h1] at h2; cases h2
  cases h with
  | stay view ch ch' idle low begun dos st dd wd nd n5 msgs =>
    refine ⟨by omega, fun h => by omega, fun _ h => ft ch h, fun _ _ _ => ⟨idle, begun, dos⟩, fun h1 h2 => absurd (view ▸ h1) h2, fun _ _ h => ft ch' h, fun _ h => ft ch h, fun h1 h2 => ⟨by omega, .inr (st h1 (by omega))⟩, fun h1 h2 => ⟨by omega, fun _ h => ft ch h⟩,
      fun h1 _ h2 => absurd (view ▸ h1) h2, fun h1 _ h3 => ?_, fun h1 h2 h3 => ?_, fun h1 h2 _ => ⟨fun h3 => ⟨ch, nd (by rw [h3]; exact h1)⟩, fun h3 => absurd (view ▸ h2) h3⟩, fun _ h => ft ch' h, fun h1 h2 => ?_, fun r hr h1 h2 => ?_, fun r hr h1 => ?_⟩
    · have hv : c.keep.view = W := view ▸ h1
      rcases wd h3 with w | w | w
      · exact .inl ⟨hv, ch, w⟩
      · exact .inr (.inl (by rw [hv] at w; exact w))
      · exact .inr (.inr (by rw [hv] at w; exact w))
    · have hv : c.keep.view = W := by omega
      exact ⟨by omega, .inr (dd h1 (by omega) (by rw [hv]; exact h3))⟩
    · exact absurd ⟨h1, by omega⟩ n5
    · rcases msgs with g | ⟨q, g, g1, g2, g3⟩
      · rw [g] at hr; cases hr
      · rw [g] at hr
        rw [List.mem_singleton.1 hr] at h1
        omega
    · rcases msgs with g | ⟨q, g, g1, g2, g3⟩
      · rw [g] at hr; cases hr
      · rw [g] at hr
        rw [List.mem_singleton.1 hr] at h1
        omega
  | up lt kind view ch' idle begun st dd wd nd starts msgs =>
    obtain ⟨s, e, g1, g2, g3, g4, g5⟩ := msgs
    have hk : ∀ r ∈ c'.msgs, r.kind = 3 ∨ r.kind = 4 := fun r hr => by
      rw [g1] at hr
      rcases List.mem_append.1 hr with hr | hr
      · exact .inl (g4 r hr).1
      · exact .inr (g5 r hr).1
    refine ⟨by omega, fun h => by omega, fun h => by omega, fun h => by omega, fun _ _ => idle, fun h => by omega, fun h => by omega, fun h1 h2 => ⟨by omega, .inr (st h1)⟩, fun h1 h2 => ⟨by omega, fun h => by omega⟩,
      fun h1 _ _ => ⟨begun, fun z z1 z2 => ?_⟩, fun h1 _ h3 => ?_, fun h1 h2 h3 => ⟨by omega, .inr (dd h1 (by rw [h2]; exact h3))⟩, fun h1 h2 _ => ⟨fun h3 => by omega, fun _ => nd (by rw [← view, h2]; exact h1)⟩, fun _ h => ft ch' h, fun h1 => by omega, fun r hr h1 => ?_, fun r hr h1 => ?_⟩
    · have := starts z z1 z2
      rw [← view, h1] at this; exact this
    · have := wd h3
      rw [← view, h1] at this
      exact .inr this
    · have := hk r hr; omega
    · have := hk r hr; omega
  | bgn view ch ch' idle mv kind ld news msgs =>
    refine ⟨by omega, fun h => by omega, fun _ h => ft ch h, fun _ _ h => ft h ch', fun _ _ => idle, fun _ _ _ => idle, fun _ h => ft ch h, fun _ h2 => ⟨by omega, .inl ch'⟩, fun h1 => by omega, fun _ h => ft h ch', fun _ h => ft h ch', fun _ h2 _ => ⟨by omega, .inl ch'⟩, fun _ _ h => ft h ch', fun h1 _ _ => .inl ?_, fun h1 => by omega, fun r hr h1 h2 => ?_, fun r hr h1 => ?_⟩
    · rw [view] at h1
      rw [← h1]
      exact ⟨ld, news⟩
    · have h3 : c.keep.view = W := by rw [← (msgs.2 r hr).2.2, h2]
      exact ⟨by omega, ch', by rw [← h3]; exact ld⟩
    · have := (msgs.2 r hr).1; omega
  | took view ge ch' idle kind msgs =>
    obtain ⟨q, g, g1, g2, g3⟩ := msgs
    refine ⟨by omega, fun h => by omega, fun _ h => ch', fun _ _ h => ft h ch', fun _ _ => idle, fun _ _ _ => idle, fun _ _ => ?_, fun h1 => by omega, fun h1 => by omega, fun _ h => ft h ch', fun _ h => ft h ch', fun h1 => by omega, fun _ _ h => ft h ch', fun h1 _ _ => .inr ⟨kind, by omega⟩, fun _ h2 => ⟨by omega, ch'⟩, fun r hr h1 => ?_, fun r hr h1 => ?_⟩
    · rename_i h1 h2
      rcases ge with h | h
      · omega
      · exact ft h.2 h2
    · rw [g] at hr
      rw [List.mem_singleton.1 hr] at h1
      omega
    · rw [g] at hr
      rw [List.mem_singleton.1 hr] at h1
      omega
  | norm view ch ch' idle low msgs an pr =>
    refine ⟨by omega, fun h => by omega, fun _ _ => ch', fun _ h => ft h ch, fun h1 h2 => absurd (view ▸ h1) h2, fun _ h => ft h ch, fun h1 _ => ?_, fun h1 h2 => ⟨by omega, .inl ch'⟩, fun h1 h2 => ⟨by omega, fun h3 _ h5 => pr h1 (by omega) (by rw [h2]; exact h5)⟩,
      fun _ h => ft h ch', fun _ h => ft h ch', fun h1 h2 _ => ⟨by omega, .inl ch'⟩, fun _ _ h => ft h ch', fun h1 _ h3 => absurd ⟨view ▸ h1, ch⟩ h3, fun h1 h2 => ⟨by omega, ch'⟩, fun r hr h1 h2 => ?_, fun r hr h1 => ?_⟩
    · rcases idle with h | h
      · exact .inl h
      · exact .inr ⟨h.1, h.2.1, by omega⟩
    · rcases msgs with g | ⟨q, g, g1, g2, g3⟩
      · rw [g] at hr; cases hr
      · rw [g] at hr
        rw [List.mem_singleton.1 hr] at h1 h2
        rcases g3 with g3 | ⟨g3, g4, g5, g6, g7⟩ | g3
        · omega
        · have hv : c.keep.view = W := by omega
          refine ⟨by omega, ch', ?_⟩
          unfold Core.leads at g6
          rw [Bool.and_eq_true, decide_eq_true_eq, hv] at g6
          exact g6.2
        · omega
    · rcases msgs with g | ⟨q, g, g1, g2, g3⟩
      · rw [g] at hr; cases hr
      · rw [g] at hr
        rw [List.mem_singleton.1 hr] at h1
        omega
end Vw
end Go.Proofs.Ytmmgnbdngpkfcaa

namespace Go.Proofs.Ytmmgnbdngpkfcaa
set_option linter.unusedVariables false
namespace Vw

/-- a message to y by which it goes to view V -/
def Brg (x : Gr) (y V : Int) : Prop := ∃ k a, (k = 1 ∨ k = 3) ∧ Has x.mail k a y V
/-- nobody stands above view V: what stays while messages come -/
structure NF (V : Int) (t x : Gr) : Prop where
  at_ : ∀ y, node t.n y → (t.core y).keep.view = V → (x.core y).keep.view = V ∧ ((t.core y).ch = false → (x.core y).ch = false) ∧ ((x.core y).ch = true → (t.core y).ch = true ∧ (x.core y).idle = (t.core y).idle)
  np : (∀ m ∈ t.mail, m.kind = 1 → m.view ≠ V) → (∀ m ∈ x.mail, m.kind = 1 → m.view ≠ V) ∧ ∀ y, node t.n y → (t.core y).keep.view = V → (t.core y).ch = false → (x.core y).idle = (t.core y).idle
  ld : ∀ y, node t.n y → (t.core y).keep.view = V → (t.core y).ch = false → y = lead V t.n → (x.core y).idle = (t.core y).idle
  br : ∀ y, node t.n y → ((t.core y).keep.view = V ∨ Brg t y V) → ((x.core y).keep.view = V ∨ Brg x y V)
  pz : ∀ y, node t.n y → (t.core y).keep.view = V → (t.core y).ch = false → Has t.mail 1 (lead V t.n) y V → ((x.core y).idle = 0 ∨ Has x.mail 1 (lead V t.n) y V)
theorem NF.step {n : Nat} {s : Int → Int} {K : Nat} {V : Int} {t z : Gr} (hn : t.n = n) (hs : ∀ y, node n y → s y ≤ V) (hd : D0 n s K z) (h : NF V t z) {m : Msg} {r : List Msg} (hz : z.mail = m :: r) : NF V t (deliver z) := by
  have hmem : m ∈ z.mail := by rw [hz]; exact List.mem_cons_self
  obtain ⟨d1, d2, d3, d4, d5, d6, hR⟩ := hd.deliver hz
  have g := hd.ok.mg hmem
  have hto : node n m.to_ := by rw [← hd.nn]; exact g.to_
  have b := hd.ok.mb g.to_
  have le : ∀ v, InS n s v → v ≤ V := fun v ⟨y, hy, e⟩ => by rw [← e]; exact hs y hy
  have w := hR.w (W := V) (le _ (hd.ins _ hto)) (le _ (hd.insm m hmem))
  obtain ⟨c', hc'⟩ : ∃ c', c' = (z.core m.to_).in_ m := ⟨_, rfl⟩
  rw [← hc'] at d5 d6 w
  have same : ∀ y, y ≠ m.to_ → (deliver z).core y = z.core y := fun y hy => by rw [d5, updI_other _ _ hy]
  have self : (deliver z).core m.to_ = c'.clear := by rw [d5, updI_same]
  refine ⟨fun y hy hv => ?_, fun hnp => ?_, fun y hy hv hc hl => ?_, fun y hy hb => ?_, fun y hy hv hc hp => ?_⟩
  · obtain ⟨h1, h2, h3⟩ := h.at_ y hy hv
    by_cases e : y = m.to_
    · subst e
      rw [self]
      refine ⟨w.a h1, fun hc => w.b h1 (h2 hc), fun hc => ?_⟩
      have hzc : (z.core m.to_).ch = true := by
        cases e : (z.core m.to_).ch with
        | true => rfl
        | false =>
          have := w.b h1 e
          rw [show c'.ch = true from hc] at this; cases this
      exact ⟨(h3 hzc).1, (w.c1 h1 hzc hc).1.trans (h3 hzc).2⟩
    · rw [same y e]; exact ⟨h1, h2, h3⟩
  · obtain ⟨h1, h2⟩ := h.np hnp
    refine ⟨fun q hq k => ?_, fun y hy hv hc => ?_⟩
    · rw [d6] at hq
      rcases List.mem_append.1 hq with hq | hq
      · exact h1 q (by rw [hz]; exact List.mem_cons_of_mem _ hq) k
      · exact absurd k (w.k1 q hq)
    · by_cases e : y = m.to_
      · subst e
        rw [self]
        obtain ⟨g1, g2, g3⟩ := h.at_ _ hy hv
        rcases w.c4 g1 (g2 hc) with h4 | h4
        · exact h4.trans (h2 _ hy hv hc)
        · exact absurd h4.2.2 (h1 m hmem h4.2.1)
      · rw [same y e]; exact h2 y hy hv hc
  · by_cases e : y = m.to_
    · subst e
      rw [self]
      obtain ⟨g1, g2, g3⟩ := h.at_ _ hy hv
      rcases w.c4 g1 (g2 hc) with h4 | h4
      · exact h4.trans (h.ld _ hy hv hc hl)
      · have := g.k1 h4.2.1
        rw [h4.2.2, hd.nn, ← hn, ← hl] at this
        exact absurd this g.ne
    · rw [same y e]; exact h.ld y hy hv hc hl
  · rcases h.br y hy hb with h1 | ⟨k, a, hk, h1⟩
    · left
      by_cases e : y = m.to_
      · subst e; rw [self]; exact w.a h1
      · rw [same y e]; exact h1
    · rcases has_next hz d6 h1 with h2 | ⟨h2, h3, h4, h5⟩
      · exact .inr ⟨k, a, hk, h2⟩
      · left
        rw [← h4, self]
        rcases hk with hk | hk
        · exact (w.d1 (h2.trans hk) h5).1
        · exact (w.d (h2.trans hk) h5).1
  · obtain ⟨g1, g2, g3⟩ := h.at_ _ hy hv
    rcases h.pz y hy hv hc hp with h1 | h1
    · left
      by_cases e : y = m.to_
      · subst e
        rw [self]
        rcases w.c4 g1 (g2 hc) with h4 | h4
        · exact h4.trans h1
        · exact h4.1
      · rw [same y e]; exact h1
    · rcases has_next hz d6 h1 with h2 | ⟨h2, h3, h4, h5⟩
      · exact .inr h2
      · left
        rw [← h4] at g1 g2 hc ⊢
        rw [self]
        exact (w.d1 h2 h5).2 g1 (g2 hc) (by rw [b.n, hd.nn, ← hn]; exact h3)
theorem NF.refl (V : Int) (t : Gr) : NF V t t :=
  ⟨fun y _ h => ⟨h, id, fun h => ⟨h, rfl⟩⟩, fun h => ⟨h, fun _ _ _ _ => rfl⟩, fun _ _ _ _ _ => rfl, fun _ _ h => h, fun _ _ _ _ h => .inr h⟩
/-- a unit in which nobody goes above view V -/
structure UN (V : Int) (x x' : Gr) : Prop where
  top : ∀ y, node x.n y → (x'.core y).keep.view ≤ V
  at_ : ∀ y, node x.n y → (x.core y).keep.view = V → (x'.core y).keep.view = V
  nm : ∀ y, node x.n y → (x.core y).keep.view = V → (x.core y).ch = false → (x'.core y).ch = false
  ch : ∀ y, node x.n y → (x.core y).keep.view = V → (x.core y).ch = true → (x'.core y).ch = false ∨ ((x'.core y).idle = (x.core y).idle + 1 ∧ (x.core y).idle + 1 < 2 * x.pat)
  fo : ∀ y, node x.n y → (x.core y).keep.view = V → (x.core y).ch = false → y ≠ lead V x.n → ¬ ((x.core (lead V x.n)).keep.view = V ∧ (x.core (lead V x.n)).ch = false ∧ 2 ≤ (x.core (lead V x.n)).idle + 1) → (x'.core y).idle = (x.core y).idle + 1 ∧ (x.core y).idle + 1 < x.pat + y
  l1 : ∀ y, node x.n y → (x.core y).keep.view = V → (x.core y).ch = false → y = lead V x.n → (x.core y).idle + 1 < 2 → (x'.core y).idle = (x.core y).idle + 1
  l2 : ∀ y, node x.n y → (x.core y).keep.view = V → (x.core y).ch = false → y = lead V x.n → 2 ≤ (x.core y).idle + 1 → (x'.core y).idle = 0 ∧ ∀ z, node x.n z → (x'.core z).keep.view = V ∧ ((x.core z).keep.view = V → (x.core z).ch = false → (x'.core z).idle = 0)
theorem lead_node {n : Nat} (h : 1 ≤ n) (V : Int) : node n (lead V n) := by
  unfold lead node
  have h1 : (0 : Int) < max (n : Int) 1 := by omega
  have := Int.emod_nonneg V (Int.ne_of_gt h1)
  have := Int.emod_lt_of_pos V h1
  omega
theorem leads_is {c : Core} : c.leads = true ↔ c.ch = false ∧ lead c.keep.view c.n = c.me := by
  unfold Core.leads
  rw [Bool.and_eq_true, decide_eq_true_eq]
  simp
theorem unit_n {x : Gr} {K : Nat} (h : UH x K) (hm : x.mail.length ≤ 4) (hx : ∀ m ∈ x.mail, InS x.n (vs x) m.view) : GOk (unit x) (K + 1) ∧ (unit x).n = x.n ∧ (unit x).pat = x.pat ∧ (unit x).mail = [] := by
  obtain ⟨h1, h4, h2, h3⟩ := h.run hm hx (J := fun _ => True) trivial fun _ _ _ _ _ _ => trivial
  exact ⟨h4.1.ok, h4.1.nn, h3, h2⟩
/-- a member does not go above -/
theorem tick_same {c c' : Core} {V : Int} (h : TkR c c') (hv : c.keep.view = V) (ht : c'.keep.view ≤ V) : c'.keep.view = V ∧ (c.ch = false → c'.ch = false) ∧ (c.ch = true → c'.ch = false ∨ (c'.ch = true ∧ c'.idle = c.idle + 1 ∧ c.idle + 1 < 2 * c.pat)) ∧
    (c.leads = true → (c.idle + 1 < 2 → c'.idle = c.idle + 1) ∧ (2 ≤ c.idle + 1 → c'.idle = 0 ∧ ∀ z, node c.n z → z ≠ c.me → Has c'.msgs 1 c.me z V)) ∧
    (c.leads = false → c.ch = false → c'.idle = c.idle + 1 ∧ c.idle + 1 < c.pat + c.me) := by
  have nl : ∀ {P : Prop}, c.leads = true → c.leads = false → P := fun h1 h2 => by rw [h1] at h2; cases h2
  have nc : ∀ {P : Prop}, c.ch = true → c.ch = false → P := fun h1 h2 => by rw [h1] at h2; cases h2
  have lc : c.leads = true → c.ch = false := fun h => (leads_is.1 h).1
  subst hv
  cases h with
  | lead l keep ch low high msgs => exact ⟨by rw [keep], fun _ => ch, fun h => nc h (lc l), fun _ => ⟨fun h => (low h).1, high⟩, fun h => nl l h⟩
  | wait nlr t t2 keep ch idle msgs => exact ⟨by rw [keep], fun h => ch.trans h, fun h => .inr ⟨ch.trans h, idle, t h⟩, fun h => nl h nlr, fun _ h => ⟨idle, t2 h⟩⟩
  | again ch t keep ch' idle msgs => exact ⟨by rw [keep], fun h => nc ch h, fun h => .inr ⟨ch', idle, t⟩, fun h => nc ch (lc h), fun _ h => nc ch h⟩
  | bgn ch view ch' idle ld msgs => exact ⟨view, fun h => nc ch h, fun h => .inl ch', fun h => nc ch (lc h), fun _ h => nc ch h⟩
  | up nlr t view ch' idle begun dos starts msgs => omega
/-- entries are sent by one that leads alone -/
theorem TkR.prep {c c' : Core} (h : TkR c c') : ∀ r ∈ c'.msgs, r.kind = 1 → c.leads = true ∧ 2 ≤ c.idle + 1 ∧ r.view = c.keep.view := by
  intro r hr hk
  cases h with
  | lead l keep ch low high msgs =>
    refine ⟨l, ?_, (msgs.2 r hr).2.2⟩
    by_cases h1 : c.idle + 1 < 2
    · rw [(low h1).2] at hr; cases hr
    · omega
  | wait nl t t2 keep ch idle msgs => rw [msgs] at hr; cases hr
  | again ch t keep ch' idle msgs => have := (msgs.2 r hr).1; omega
  | bgn ch view ch' idle ld msgs => have := (msgs.2 r hr).1; omega
  | up nl t view ch' idle begun dos starts msgs => have := (msgs.2 r hr).1; omega
theorem unit_none {x : Gr} {K : Nat} (h : UH x K) (hm : x.mail = []) {V : Int} (hV : ∀ y, node x.n y → (x.core y).tick.keep.view ≤ V) : UN V x (unit x) := by
  have hm4 : x.mail.length ≤ 4 := by rw [hm]; exact Nat.zero_le _
  have hx : ∀ m ∈ x.mail, InS x.n (vs x) m.view := fun m h => by rw [hm] at h; cases h
  obtain ⟨t, ht⟩ : ∃ t, t = tickTo x x.n := ⟨_, rfl⟩
  have hs : ∀ y, node x.n y → vs x y ≤ V := fun y hy => by
    show ((tickTo x x.n).core y).keep.view ≤ V
    rw [h.core hm4 hy]; exact hV y hy
  have htn : (tickTo x x.n).n = x.n := (h.d0 hm4 hx).1.nn
  obtain ⟨r1, r4, r2, r3⟩ := h.run hm4 hx (J := NF V (tickTo x x.n)) (NF.refl _ _) fun z hz hJ m r hmr => NF.step htn hs hz hJ hmr
  have hN : NF V (tickTo x x.n) (unit x) := r4.2
  have hD : D0 x.n (vs x) (K + 1) (unit x) := r4.1
  have hb : ∀ y, node x.n y → Mb x y := fun y hy => h.ok.mb hy
  have hc := fun y (hy : node x.n y) => h.core hm4 hy
  have T := fun y (hy : node x.n y) (hv : (x.core y).keep.view = V) => tick_same (h.tk hy) hv (hV y hy)
  have nob : ∀ y, ¬ Brg (unit x) y V := fun y ⟨k, a, _, q, hq, _⟩ => by rw [r2] at hq; cases hq
  have noh : ∀ k a y, ¬ Has (unit x).mail k a y V := fun k a y ⟨q, hq, _⟩ => by rw [r2] at hq; cases hq
  have hlead : ∀ y, node x.n y → (x.core y).keep.view = V → ((x.core y).leads = true ↔ (x.core y).ch = false ∧ y = lead V x.n) := fun y hy hv => by
    rw [leads_is, hv, (hb y hy).n, (hb y hy).me]
    exact ⟨fun ⟨a, b⟩ => ⟨a, b.symm⟩, fun ⟨a, b⟩ => ⟨a, b.symm⟩⟩
  have at1 : ∀ y, node x.n y → (x.core y).keep.view = V → ((tickTo x x.n).core y).keep.view = V := fun y hy hv => by rw [hc y hy]; exact (T y hy hv).1
  have nm1 : ∀ y, node x.n y → (x.core y).keep.view = V → (x.core y).ch = false → ((tickTo x x.n).core y).ch = false := fun y hy hv hcf => by rw [hc y hy]; exact (T y hy hv).2.1 hcf
  refine ⟨fun y hy => ?_, fun y hy hv => ?_, fun y hy hv hcf => ?_, fun y hy hv hct => ?_, fun y hy hv hcf hnl hno => ?_, fun y hy hv hcf hl hi => ?_, fun y hy hv hcf hl hi => ?_⟩
  · obtain ⟨z, hz, e⟩ := hD.ins y hy
    rw [← e]; exact hs z hz
  · exact (hN.at_ y (by rw [htn]; exact hy) (at1 y hy hv)).1
  · exact (hN.at_ y (by rw [htn]; exact hy) (at1 y hy hv)).2.1 (nm1 y hy hv hcf)
  · obtain ⟨g1, g2, g3⟩ := hN.at_ y (by rw [htn]; exact hy) (at1 y hy hv)
    rcases (T y hy hv).2.2.1 hct with h1 | ⟨h1, h2, h3⟩
    · exact .inl (g2 (by rw [hc y hy]; exact h1))
    · cases e : ((unit x).core y).ch with
      | false => exact .inl rfl
      | true =>
        right
        refine ⟨(g3 e).2.trans (by rw [hc y hy]; exact h2), by rw [← (hb y hy).pat]; exact h3⟩
  · have hnp : ∀ m ∈ (tickTo x x.n).mail, m.kind = 1 → m.view ≠ V := fun m hmm hk hmv => by
      rcases h.mail hm4 hmm with h1 | ⟨z, hz, h1⟩
      · rw [hm] at h1; cases h1
      · obtain ⟨p1, p2, p3⟩ := (h.tk hz).prep m h1 hk
        have hzv : (x.core z).keep.view = V := by rw [← p3]; exact hmv
        have := (hlead z hz hzv).1 p1
        exact hno (by rw [← this.2]; exact ⟨hzv, this.1, p2⟩)
    have g := (hN.np hnp).2 y (by rw [htn]; exact hy) (at1 y hy hv) (nm1 y hy hv hcf)
    have hnl' : (x.core y).leads = false := by
      cases e : (x.core y).leads with
      | false => rfl
      | true => exact absurd ((hlead y hy hv).1 e).2 hnl
    obtain ⟨e1, e2⟩ := (T y hy hv).2.2.2.2 hnl' hcf
    refine ⟨g.trans (by rw [hc y hy]; exact e1), ?_⟩
    rw [← (hb y hy).pat]
    have := (hb y hy).me
    rw [this] at e2
    exact e2
  · have g := hN.ld y (by rw [htn]; exact hy) (at1 y hy hv) (nm1 y hy hv hcf) (by rw [htn]; exact hl)
    exact g.trans (by rw [hc y hy]; exact ((T y hy hv).2.2.2.1 ((hlead y hy hv).2 ⟨hcf, hl⟩)).1 hi)
  · have g := hN.ld y (by rw [htn]; exact hy) (at1 y hy hv) (nm1 y hy hv hcf) (by rw [htn]; exact hl)
    obtain ⟨e1, e2⟩ := ((T y hy hv).2.2.2.1 ((hlead y hy hv).2 ⟨hcf, hl⟩)).2 hi
    rw [(hb y hy).n, (hb y hy).me] at e2
    refine ⟨g.trans (by rw [hc y hy]; exact e1), fun z hz => ?_⟩
    by_cases ez : z = y
    · subst ez
      exact ⟨(hN.at_ z (by rw [htn]; exact hy) (at1 z hy hv)).1, fun _ _ => g.trans (by rw [hc z hy]; exact e1)⟩
    · have hh : Has (tickTo x x.n).mail 1 y z V := h.has hm4 hy (e2 z hz ez)
      refine ⟨?_, fun hzv hzc => ?_⟩
      · rcases hN.br z (by rw [htn]; exact hz) (.inr ⟨1, y, .inl rfl, hh⟩) with h1 | h1
        · exact h1
        · exact absurd h1 (nob z)
      · rcases hN.pz z (by rw [htn]; exact hz) (at1 z hz hzv) (nm1 z hz hzv hzc) (by rw [htn, ← hl]; exact hh) with h1 | h1
        · exact h1
        · exact absurd h1 (noh _ _ _)
end Vw
end Go.Proofs.Ytmmgnbdngpkfcaa

/-
  A group in the calm: a unit of time in which somebody goes to a new view: all are in it at its end: plain laws.
-/
import Derived.Test.YtmmgnbdngpkfcaaVwLd
namespace Go.Proofs.Ytmmgnbdngpkfcaa
set_option linter.unusedVariables false
namespace Vw

/-- all are in a view that has begun, and nobody has waited -/
def Sync (V : Int) (x : Gr) : Prop := ∀ y, node x.n y → (x.core y).keep.view = V ∧ (x.core y).ch = false ∧ (x.core y).idle = 0
def mo (n : Nat) (k : Nat) : Bool := decide (n < 2 * k)
/-- while a new view W spreads -/
structure Wv (W : Int) (n : Nat) (x : Gr) : Prop where
  lo : ∀ y, node n y → (x.core y).keep.view ≠ W → ∃ a, Has x.mail 3 a y W
  z0 : ∀ y, node n y → (x.core y).keep.view = W → (x.core y).idle = 0
  bg : ∀ y z, node n y → node n z → z ≠ y → (x.core y).keep.view = W → (x.core y).ch = true → ((x.core z).keep.view = W ∧ ((x.core z).ch = false ∨ (x.core z).begun y = true)) ∨ Has x.mail 3 y z W
  own : ∀ y, node n y → (x.core y).keep.view = W → (x.core y).ch = true → (x.core y).begun y = true
  wd : ∀ y, node n y → (x.core y).keep.view = W → (x.core y).ch = true → mo n (cnt n (x.core y).begun) = true → (y = lead W n ∧ ((x.core y).dos y).isSome = true) ∨ (y ≠ lead W n ∧ (Has x.mail 4 y (lead W n) W ∨ ((x.core (lead W n)).keep.view = W ∧ ((x.core (lead W n)).ch = false ∨ ((x.core (lead W n)).dos y).isSome = true))))
  nd : (x.core (lead W n)).keep.view = W → (x.core (lead W n)).ch = true → mo n (cnt n fun z => ((x.core (lead W n)).dos z).isSome) = false
  nw : (x.core (lead W n)).keep.view = W → (x.core (lead W n)).ch = false → ∀ y, node n y → y ≠ lead W n → ((x.core y).keep.view = W ∧ (x.core y).ch = false) ∨ Has x.mail 5 (lead W n) y W
  ln : ∀ y, node n y → (x.core y).keep.view = W → (x.core y).ch = false → (x.core (lead W n)).keep.view = W ∧ (x.core (lead W n)).ch = false
  mn : ∀ m ∈ x.mail, m.kind = 5 → m.view = W → (x.core (lead W n)).keep.view = W ∧ (x.core (lead W n)).ch = false
theorem bcases (b : Bool) : b = true ∨ b = false := by cases b <;> simp
theorem Wv.step {n : Nat} {s : Int → Int} {K : Nat} {W : Int} {z : Gr} (h1n : 1 ≤ n) (hs : ∀ y, node n y → s y ≤ W) (hd : D0 n s K z) (h : Wv W n z) {m : Msg} {r : List Msg} (hz : z.mail = m :: r) : Wv W n (deliver z) := by
  have hmem : m ∈ z.mail := by rw [hz]; exact List.mem_cons_self
  obtain ⟨d1, d2, d3, d4, d5, d6, hR⟩ := hd.deliver hz
  have g := hd.ok.mg hmem
  have hto : node n m.to_ := by rw [← hd.nn]; exact g.to_
  have b := hd.ok.mb g.to_
  have le : ∀ v, InS n s v → v ≤ W := fun v ⟨y, hy, e⟩ => by rw [← e]; exact hs y hy
  have w := hR.w (W := W) (le _ (hd.ins _ hto)) (le _ (hd.insm m hmem))
  obtain ⟨c', hc'⟩ : ∃ c', c' = (z.core m.to_).in_ m := ⟨_, rfl⟩
  rw [← hc'] at d5 d6 w
  obtain ⟨c, hc⟩ : ∃ c, c = z.core m.to_ := ⟨_, rfl⟩
  rw [← hc] at w
  have hcn : c.n = n := by rw [hc, b.n, hd.nn]
  have hcm : c.me = m.to_ := by rw [hc, b.me]
  have same : ∀ y, y ≠ m.to_ → (deliver z).core y = z.core y := fun y hy => by rw [d5, updI_other _ _ hy]
  have self : (deliver z).core m.to_ = c'.clear := by rw [d5, updI_same]
  have most_is : ∀ k, c.most k = mo n k := fun k => by unfold Core.most mo; rw [hcn]
  have hmn : ∀ y, node n y → (z.core y).keep.view = W → (z.core y).ch = false → ((deliver z).core y).keep.view = W ∧ ((deliver z).core y).ch = false := fun y hy hv hcf => by
    by_cases e : y = m.to_
    · subst e
      rw [self]
      exact ⟨w.a (by rw [hc]; exact hv), w.b (by rw [hc]; exact hv) (by rw [hc]; exact hcf)⟩
    · rw [same y e]; exact ⟨hv, hcf⟩
  obtain ⟨l, hl⟩ : ∃ l, l = lead W n := ⟨_, rfl⟩
  have hln : node n l := by rw [hl]; exact lead_node h1n W
  refine ⟨fun y hy hv => ?_, fun y hy hv => ?_, fun y q hy hq hne hv hct => ?_, fun y hy hv hct => ?_, fun y hy hv hct hmo => ?_, fun hv hct => ?_, fun hv hcf y hy hyl => ?_, fun y hy hv hcf => ?_, fun q hq hk hqv => ?_⟩
  · by_cases e : y = m.to_
    · subst e
      rw [self] at hv
      have hcv : c.keep.view ≠ W := fun e => hv (w.a e)
      obtain ⟨a, ha⟩ := h.lo _ hy (by rw [← hc]; exact hcv)
      rcases has_next hz d6 ha with h2 | ⟨h2, h3, h4, h5⟩
      · exact ⟨a, h2⟩
      · exact absurd (w.d h2 h5).1 hv
    · rw [same y e] at hv
      obtain ⟨a, ha⟩ := h.lo y hy hv
      rcases has_next hz d6 ha with h2 | ⟨h2, h3, h4, h5⟩
      · exact ⟨a, h2⟩
      · exact absurd h4.symm e
  · by_cases e : y = m.to_
    · subst e
      rw [self] at hv ⊢
      show c'.idle = 0
      by_cases hcv : c.keep.view = W
      · have h0 := h.z0 _ hy (by rw [← hc]; exact hcv)
        rw [← hc] at h0
        rcases bcases c.ch with hcc | hcc
        · rcases bcases c'.ch with hc2 | hc2
          · exact (w.c1 hcv hcc hc2).1.trans h0
          · exact w.c3 hcv hcc hc2
        · rcases w.c4 hcv hcc with h4 | h4
          · exact h4.trans h0
          · exact h4.1
      · exact w.c2 hv hcv
    · rw [same y e] at hv ⊢; exact h.z0 y hy hv
  · -- y changes at W; q has its Start, or it is under way
    by_cases ey : y = m.to_
    · subst ey
      rw [self] at hv hct
      rw [same q hne]
      by_cases hcv : c.keep.view = W
      · have hcc : c.ch = true := by
          rcases bcases c.ch with hcc | hcc
          · exact hcc
          · have := w.b hcv hcc
            rw [show c'.ch = true from hct] at this; cases this
        rcases h.bg _ q hy hq hne (by rw [← hc]; exact hcv) (by rw [← hc]; exact hcc) with h1 | h1
        · exact .inl h1
        · rcases has_next hz d6 h1 with h2 | ⟨h2, h3, h4, h5⟩
          · exact .inr h2
          · exact absurd h3 g.ne
      · have := (w.e hv hct hcv).2 q (by rw [hcn]; exact hq) (by rw [hcm]; exact hne)
        rw [hcm] at this
        exact .inr (has_sent d6 this)
    · rw [same y ey] at hv hct
      rcases h.bg y q hy hq hne hv hct with ⟨h1, h2⟩ | h1
      · left
        by_cases eq : q = m.to_
        · subst eq
          rw [self]
          rw [← hc] at h1 h2
          refine ⟨w.a h1, ?_⟩
          rcases bcases c'.ch with hc2 | hc2
          · rcases bcases c.ch with hcc | hcc
            · rcases h2 with h2 | h2
              · rw [hcc] at h2; cases h2
              · exact .inr ((w.c1 h1 hcc hc2).2.1 _ h2)
            · exact .inl (w.b h1 hcc)
          · exact .inl hc2
        · rw [same q eq]; exact ⟨h1, h2⟩
      · rcases has_next hz d6 h1 with h2 | ⟨h2, h3, h4, h5⟩
        · exact .inr h2
        · left
          rw [← h4, self]
          have := w.d h2 h5
          rw [h3] at this
          exact this
  · by_cases ey : y = m.to_
    · subst ey
      rw [self] at hv hct ⊢
      show c'.begun m.to_ = true
      by_cases hcv : c.keep.view = W
      · have hcc : c.ch = true := by
          rcases bcases c.ch with hcc | hcc
          · exact hcc
          · have := w.b hcv hcc
            rw [show c'.ch = true from hct] at this; cases this
        have h0 := h.own _ hy (by rw [← hc]; exact hcv) (by rw [← hc]; exact hcc)
        rw [← hc] at h0
        exact (w.c1 hcv hcc hct).2.1 _ h0
      · rw [← hcm]; exact (w.e hv hct hcv).1
    · rw [same y ey] at hv hct ⊢; exact h.own y hy hv hct
  · -- who wants W with most has told its leader
    rw [← hl]
    have keepL : ∀ y, (z.core l).keep.view = W ∧ ((z.core l).ch = false ∨ ((z.core l).dos y).isSome = true) → ((deliver z).core l).keep.view = W ∧ (((deliver z).core l).ch = false ∨ (((deliver z).core l).dos y).isSome = true) := fun y ⟨h1, h2⟩ => by
      by_cases el : l = m.to_
      · subst el
        rw [self]
        rw [← hc] at h1 h2
        refine ⟨w.a h1, ?_⟩
        rcases bcases c'.ch with hc2 | hc2
        · rcases bcases c.ch with hcc | hcc
          · rcases h2 with h2 | h2
            · rw [hcc] at h2; cases h2
            · exact .inr ((w.c1 h1 hcc hc2).2.2 _ h2)
          · exact .inl (w.b h1 hcc)
        · exact .inl hc2
      · rw [same l el]; exact ⟨h1, h2⟩
    have old : ∀ y, node n y → (z.core y).keep.view = W → (z.core y).ch = true → mo n (cnt n (z.core y).begun) = true → y ≠ l → (Has (deliver z).mail 4 y l W ∨ (((deliver z).core l).keep.view = W ∧ (((deliver z).core l).ch = false ∨ (((deliver z).core l).dos y).isSome = true))) := fun y hy hv hct hmo hyl => by
      rcases h.wd y hy hv hct hmo with ⟨h1, h2⟩ | ⟨h1, h2⟩
      · rw [← hl] at h1; exact absurd h1 hyl
      · rw [← hl] at h2
        rcases h2 with h2 | h2
        · rcases has_next hz d6 h2 with h3 | ⟨h3, h4, h5, h6⟩
          · exact .inl h3
          · right
            rw [← h5, self, ← h4]
            exact w.g h3 h6 (by rw [hcn, hcm, ← hl, h5])
        · exact .inr (keepL y h2)
    by_cases ey : y = m.to_
    · subst ey
      rw [self] at hv hct hmo
      have hmo : c.most (cnt c.n c'.begun) = true := by rw [most_is, hcn]; exact hmo
      rcases w.f hv hct hmo with ⟨f1, f2, f3⟩ | ⟨f1, f2⟩ | ⟨f1, f2⟩
      · rw [most_is, hcn] at f3
        by_cases hyl : m.to_ = l
        · left
          refine ⟨hyl, ?_⟩
          rw [self]
          show (c'.dos m.to_).isSome = true
          rcases h.wd _ hy (by rw [← hc]; exact f1) (by rw [← hc]; exact f2) (by rw [← hc]; exact f3) with ⟨h1, h2⟩ | ⟨h1, h2⟩
          · rw [← hc] at h2
            exact (w.c1 f1 f2 hct).2.2 _ h2
          · rw [← hl] at h1; exact absurd hyl h1
        · exact .inr ⟨hyl, old _ hy (by rw [← hc]; exact f1) (by rw [← hc]; exact f2) (by rw [← hc]; exact f3) hyl⟩
      · rw [hcn, hcm, ← hl] at f1
        rw [hcn, hcm, ← hl] at f2
        exact .inr ⟨fun e => f1 e.symm, .inl (has_sent d6 f2)⟩
      · rw [hcn, hcm, ← hl] at f1
        rw [hcm] at f2
        refine .inl ⟨f1.symm, ?_⟩
        rw [self]; exact f2
    · rw [same y ey] at hv hct hmo ⊢
      by_cases hyl : y = l
      · left
        rcases h.wd y hy hv hct hmo with ⟨h1, h2⟩ | ⟨h1, h2⟩
        · exact ⟨hyl, h2⟩
        · rw [← hl] at h1; exact absurd hyl h1
      · exact .inr ⟨hyl, old y hy hv hct hmo hyl⟩
  · rw [← hl] at hv hct ⊢
    have hnd := h.nd
    rw [← hl] at hnd
    by_cases el : l = m.to_
    · subst el
      rw [self] at hv hct ⊢
      obtain ⟨h1, h2⟩ := w.h (by rw [hcn, hcm, ← hl]) hv hct
      show mo n (cnt n fun z => (c'.dos z).isSome) = false
      rw [← most_is, ← hcn]
      by_cases hcv : c.keep.view = W
      · obtain ⟨h3, h4⟩ := h1 hcv
        refine h4 ?_
        rw [most_is, hcn]
        have := hnd (by rw [← hc]; exact hcv) (by rw [← hc]; exact h3)
        rw [← hc] at this
        exact this
      · exact h2 hcv
    · rw [same l el] at hv hct ⊢; exact hnd hv hct
  · rw [← hl] at hv hcf hyl ⊢
    have hnw := h.nw
    rw [← hl] at hnw
    have old : (z.core l).keep.view = W → (z.core l).ch = false → (((deliver z).core y).keep.view = W ∧ ((deliver z).core y).ch = false) ∨ Has (deliver z).mail 5 l y W := fun e1 e2 => by
      rcases hnw e1 e2 y hy hyl with h1 | h1
      · exact .inl (hmn y hy h1.1 h1.2)
      · rcases has_next hz d6 h1 with h2 | ⟨h2, h3, h4, h5⟩
        · exact .inr h2
        · left
          rw [← h4, self]
          exact w.j h2 h5
    by_cases el : l = m.to_
    · subst el
      rw [self] at hv hcf
      by_cases hno : c.keep.view = W ∧ c.ch = false
      · exact old (by rw [← hc]; exact hno.1) (by rw [← hc]; exact hno.2)
      · rcases w.i hv hcf hno with ⟨h1, h2⟩ | ⟨h1, h2⟩
        · have := h2 y (by rw [hcn]; exact hy) (by rw [hcm]; exact hyl)
          rw [hcm] at this
          exact .inr (has_sent d6 this)
        · have := g.k5 h1
          rw [h2, hd.nn, ← hl] at this
          exact absurd this g.ne
    · rw [same l el] at hv hcf; exact old hv hcf
  · have key : (z.core (lead W n)).keep.view = W ∧ (z.core (lead W n)).ch = false → ((deliver z).core (lead W n)).keep.view = W ∧ ((deliver z).core (lead W n)).ch = false := fun ⟨e1, e2⟩ => hmn _ (lead_node h1n W) e1 e2
    by_cases ey : y = m.to_
    · subst ey
      rw [self] at hv hcf
      by_cases hno : c.keep.view = W ∧ c.ch = false
      · exact key (h.ln _ hy (by rw [← hc]; exact hno.1) (by rw [← hc]; exact hno.2))
      · rcases w.i hv hcf hno with ⟨h1, h2⟩ | ⟨h1, h2⟩
        · rw [hcn, hcm] at h1
          rw [h1, self]; exact ⟨hv, hcf⟩
        · exact key (h.mn m hmem h1 h2)
    · rw [same y ey] at hv hcf; exact key (h.ln y hy hv hcf)
  · rw [d6] at hq
    rcases List.mem_append.1 hq with hq | hq
    · obtain ⟨e1, e2⟩ := h.mn q (by rw [hz]; exact List.mem_cons_of_mem _ hq) hk hqv
      exact hmn _ (lead_node h1n W) e1 e2
    · obtain ⟨e1, e2, e3⟩ := w.k q hq hk hqv
      rw [hcn, hcm] at e3
      rw [e3, self]; exact ⟨e1, e2⟩
theorem TkR.top {c c' : Core} (h : TkR c c') : c'.keep.view ≤ c.keep.view + 1 ∧ (c'.keep.view ≠ c.keep.view → c'.ch = true ∧ c'.idle = 0 ∧ (c'.begun = fun x => decide (x = c.me)) ∧ (c'.dos = fun _ => none) ∧ ∀ z, node c.n z → z ≠ c.me → Has c'.msgs 3 c.me z (c.keep.view + 1)) ∧ (∀ r ∈ c'.msgs, r.view ≠ c.keep.view → r.kind = 3) := by
  cases h with
  | lead l keep ch low high msgs => exact ⟨by rw [keep]; omega, fun h => absurd (by rw [keep]) h, fun r hr hv => absurd (msgs.2 r hr).2.2 hv⟩
  | wait nlr t t2 keep ch idle msgs => exact ⟨by rw [keep]; omega, fun h => absurd (by rw [keep]) h, fun r hr => by rw [msgs] at hr; cases hr⟩
  | again ch t keep ch' idle msgs => exact ⟨by rw [keep]; omega, fun h => absurd (by rw [keep]) h, fun r hr hv => absurd (msgs.2 r hr).2.2 hv⟩
  | bgn ch view ch' idle ld msgs => exact ⟨by omega, fun h => absurd view h, fun r hr hv => absurd (msgs.2 r hr).2.2 hv⟩
  | up nlr t view ch' idle begun dos starts msgs => exact ⟨by omega, fun _ => ⟨ch', idle, begun, dos, starts⟩, fun r hr hv => (msgs.2 r hr).1⟩
/-- somebody goes to a new view: it has begun at the unit's end -/
theorem unit_wave {x : Gr} {K : Nat} (h : UH x K) (h2n : 2 ≤ x.n) (hm : x.mail = []) {V : Int} (hV : ∀ y, node x.n y → (x.core y).keep.view ≤ V) {y0 : Int} (hy0 : node x.n y0) (hup : V < (x.core y0).tick.keep.view) : Sync (V + 1) (unit x) := by
  have hm4 : x.mail.length ≤ 4 := by rw [hm]; exact Nat.zero_le _
  have hx : ∀ m ∈ x.mail, InS x.n (vs x) m.view := fun m h => by rw [hm] at h; cases h
  obtain ⟨W, hW⟩ : ∃ W, W = V + 1 := ⟨_, rfl⟩
  rw [← hW]
  have hc := fun y (hy : node x.n y) => h.core hm4 hy
  have T := fun y (hy : node x.n y) => (h.tk hy).top
  have hb : ∀ y, node x.n y → Mb x y := fun y hy => h.ok.mb hy
  have hs : ∀ y, node x.n y → vs x y ≤ W := fun y hy => by
    show ((tickTo x x.n).core y).keep.view ≤ W
    rw [hc y hy]
    have := (T y hy).1
    have := hV y hy
    show (x.core y).tick.keep.view ≤ W
    omega
  have htn : (tickTo x x.n).n = x.n := (h.d0 hm4 hx).1.nn
  have hln : node x.n (lead W x.n) := lead_node h.n5.1 W
  -- who is in W has just gone there
  have inW : ∀ y, node x.n y → ((tickTo x x.n).core y).keep.view = W → (x.core y).keep.view + 1 = W ∧ ((tickTo x x.n).core y).ch = true ∧ ((tickTo x x.n).core y).idle = 0 ∧ (((tickTo x x.n).core y).begun = fun z => decide (z = y)) ∧ (((tickTo x x.n).core y).dos = fun _ => none) ∧ ∀ z, node x.n z → z ≠ y → Has (tickTo x x.n).mail 3 y z W := fun y hy hv => by
    rw [hc y hy] at hv ⊢
    have hv : (x.core y).tick.keep.view = W := hv
    have g1 := (T y hy).1
    have g2 := hV y hy
    have g3 : (x.core y).tick.keep.view ≠ (x.core y).keep.view := by omega
    obtain ⟨e1, e2, e3, e4, e5⟩ := (T y hy).2.1 g3
    have ev : (x.core y).keep.view + 1 = W := by omega
    refine ⟨ev, e1, e2, ?_, e4, fun z hz hzy => ?_⟩
    · show (x.core y).tick.begun = _
      rw [e3, (hb y hy).me]
    · have := e5 z (by rw [(hb y hy).n]; exact hz) (by rw [(hb y hy).me]; exact hzy)
      rw [(hb y hy).me, ev] at this
      exact h.has hm4 hy this
  have hno1 : ∀ y : Int, mo x.n (cnt x.n fun z => decide (z = y)) = false := fun y => by
    have : cnt x.n (fun z => decide (z = y)) ≤ 1 := cnt_le_one y fun z hz => by simpa using hz
    unfold mo
    simp; omega
  have hno0 : mo x.n (cnt x.n fun z => ((fun _ => none : Int → Option Msg) z).isSome) = false := by
    have : cnt x.n (fun z => ((fun _ => none : Int → Option Msg) z).isSome) ≤ 1 := cnt_none
    unfold mo
    exact decide_eq_false (by omega)
  have hJ : Wv W x.n (tickTo x x.n) := by
    have nch : ∀ y, node x.n y → ((tickTo x x.n).core y).keep.view = W → ((tickTo x x.n).core y).ch = false → False := fun y hy hv hcf => by
      rw [(inW y hy hv).2.1] at hcf; cases hcf
    have hv0 : ((tickTo x x.n).core y0).keep.view = W := by
      rw [hc y0 hy0]
      have := (T y0 hy0).1
      have := hV y0 hy0
      show (x.core y0).tick.keep.view = W
      omega
    refine ⟨fun y hy hv => ⟨y0, (inW y0 hy0 hv0).2.2.2.2.2 y hy fun e => hv (by rw [e]; exact hv0)⟩, fun y hy hv => (inW y hy hv).2.2.1, fun y z hy hz hne hv _ => .inr ((inW y hy hv).2.2.2.2.2 z hz hne), fun y hy hv _ => by rw [(inW y hy hv).2.2.2.1]; simp, fun y hy hv _ hmo => ?_, fun hv _ => by rw [(inW _ hln hv).2.2.2.2.1]; exact hno0, fun hv hcf => absurd hcf fun e => nch _ hln hv e, fun y hy hv hcf => absurd hcf fun e => nch y hy hv e, fun m hmm hk hmv => ?_⟩
    · rw [(inW y hy hv).2.2.2.1, hno1] at hmo; cases hmo
    · rcases h.mail hm4 hmm with h1 | ⟨y, hy, h1⟩
      · rw [hm] at h1; cases h1
      · have := (T y hy).2.2 m h1 (by have := hV y hy; omega)
        omega
  obtain ⟨r1, r4, r2, r3⟩ := h.run hm4 hx (J := Wv W x.n) hJ fun z hz hJ m r hmr => Wv.step h.n5.1 hs hz hJ hmr
  have hN : Wv W x.n (unit x) := r4.2
  have noh : ∀ k a y, ¬ Has (unit x).mail k a y W := fun k a y ⟨q, hq, _⟩ => by rw [r2] at hq; cases hq
  have hat : ∀ y, node x.n y → ((unit x).core y).keep.view = W := fun y hy => Classical.byContradiction fun e => by
    obtain ⟨a, ha⟩ := hN.lo y hy e
    exact noh _ _ _ ha
  have hfull : mo x.n x.n = true := by unfold mo; simp; omega
  have hlf : ((unit x).core (lead W x.n)).ch = false := by
    rcases bcases ((unit x).core (lead W x.n)).ch with e | e
    · exfalso
      have allch : ∀ y, node x.n y → ((unit x).core y).ch = true := fun y hy => by
        rcases bcases ((unit x).core y).ch with e2 | e2
        · exact e2
        · rw [(hN.ln y hy (hat y hy) e2).2] at e; cases e
      have allbg : ∀ y, node x.n y → cnt x.n ((unit x).core y).begun = x.n := fun y hy => cnt_all fun z hz => by
        by_cases ez : z = y
        · subst ez; exact hN.own z hz (hat z hz) (allch z hz)
        · rcases hN.bg z y hz hy (fun e => ez e.symm) (hat z hz) (allch z hz) with ⟨_, h1⟩ | h1
          · rcases h1 with h1 | h1
            · rw [allch y hy] at h1; cases h1
            · exact h1
          · exact absurd h1 (noh _ _ _)
      have alld : cnt x.n (fun z => (((unit x).core (lead W x.n)).dos z).isSome) = x.n := cnt_all fun y hy => by
        rcases hN.wd y hy (hat y hy) (allch y hy) (by rw [allbg y hy]; exact hfull) with ⟨h1, h2⟩ | ⟨h1, h2⟩
        · rw [← h1]; exact h2
        · rcases h2 with h2 | ⟨_, h2⟩
          · exact absurd h2 (noh _ _ _)
          · rcases h2 with h2 | h2
            · rw [e] at h2; cases h2
            · exact h2
      have := hN.nd (hat _ hln) e
      rw [alld, hfull] at this
      cases this
    · exact e
  have hn : (unit x).n = x.n := r4.1.nn
  intro y hy
  rw [hn] at hy
  refine ⟨hat y hy, ?_, hN.z0 y hy (hat y hy)⟩
  by_cases e : y = lead W x.n
  · rw [e]; exact hlf
  · rcases hN.nw (hat _ hln) hlf y hy e with h1 | h1
    · exact h1.2
    · exact absurd h1 (noh _ _ _)
end Vw
end Go.Proofs.Ytmmgnbdngpkfcaa

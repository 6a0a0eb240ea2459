/-
  A group in the calm: before long all are in one view that stays: plain laws.
-/
import Derived.Test.YtmmgnbdngpkfcaaVwLe
namespace Go.Proofs.Ytmmgnbdngpkfcaa
set_option linter.unusedVariables false
namespace Vw

noncomputable def units (x : Gr) : Nat → Gr
  | 0 => x
  | k + 1 => unit (units x k)
theorem units_add (x : Gr) (i : Nat) : ∀ j, units x (i + j) = units (units x i) j
  | 0 => rfl
  | j + 1 => by
    show unit (units x (i + j)) = unit (units (units x i) j)
    rw [units_add x i j]
/-- a group of more than one member at the start of a unit, no message under way, no view above B -/
structure Ub (x : Gr) (K : Nat) (B : Int) : Prop where
  ok : GOk x K
  n : 2 ≤ x.n ∧ x.n ≤ 5
  mail : x.mail = []
  top : ∀ y, node x.n y → (x.core y).keep.view ≤ B
  idle : ∀ y, node x.n y → 0 ≤ (x.core y).idle
  pat : 1 ≤ x.pat
theorem Ub.uh {x : Gr} {K : Nat} {B : Int} (h : Ub x K B) (hB : B < 1099511627776) : UH x K :=
  ⟨h.ok, ⟨by have := h.n; omega, h.n.2⟩, fun y hy => .inl h.n.1, fun y hy => by have := h.top y hy; omega⟩
theorem TkR.idle0 {c c' : Core} (h : TkR c c') (h0 : 0 ≤ c.idle) : 0 ≤ c'.idle := by
  cases h with
  | lead l keep ch low high msgs =>
    by_cases h1 : c.idle + 1 < 2
    · have := (low h1).1; omega
    · have := (high (by omega)).1; omega
  | wait nlr t t2 keep ch idle msgs => omega
  | again ch t keep ch' idle msgs => omega
  | bgn ch view ch' idle ld msgs => omega
  | up nlr t view ch' idle begun dos starts msgs => omega
theorem Ub.unit {x : Gr} {K : Nat} {B : Int} (h : Ub x K B) (hB : B < 1099511627776) : Ub (Vw.unit x) (K + 1) (B + 1) ∧ (Vw.unit x).n = x.n ∧ (Vw.unit x).pat = x.pat := by
  have u := h.uh hB
  have hm4 : x.mail.length ≤ 4 := by rw [h.mail]; exact Nat.zero_le _
  have hx : ∀ m ∈ x.mail, InS x.n (vs x) m.view := fun m hm => by rw [h.mail] at hm; cases hm
  obtain ⟨g1, g2, g3, g4⟩ := unit_n u hm4 hx
  have htn : (tickTo x x.n).n = x.n := (u.d0 hm4 hx).1.nn
  obtain ⟨r1, r4, r2, r3⟩ := u.run hm4 hx (J := fun z => ∀ y, node x.n y → 0 ≤ (z.core y).idle) (fun y hy => by
    rw [u.core hm4 hy]
    exact (u.tk hy).idle0 (h.idle y hy)) fun z hz hJ m r hmr y hy => by
      obtain ⟨d1, d2, d3, d4, d5, d6, hR⟩ := hz.deliver hmr
      rw [d5]
      by_cases e : y = m.to_
      · subst e
        rw [updI_same]
        have := hJ _ hy
        show 0 ≤ ((z.core m.to_).in_ m).idle
        rcases hR.idle with h1 | h1 <;> omega
      · rw [updI_other _ _ e]; exact hJ y hy
  refine ⟨⟨g1, by rw [g2]; exact h.n, g4, fun y hy => ?_, fun y hy => r4.2 y (by rw [← g2]; exact hy), by rw [g3]; exact h.pat⟩, g2, g3⟩
  rw [g2] at hy
  obtain ⟨z, hz, e⟩ := r4.1.ins y hy
  rw [← e]
  show ((tickTo x x.n).core z).keep.view ≤ _
  rw [u.core hm4 hz]
  have := (u.tk hz).top.1
  have := h.top z hz
  show (x.core z).tick.keep.view ≤ _
  omega
theorem Ub.units {x : Gr} {K : Nat} {B : Int} (h : Ub x K B) : ∀ k : Nat, B + k < 1099511627776 → Ub (Vw.units x k) (K + k) (B + k) ∧ (Vw.units x k).n = x.n ∧ (Vw.units x k).pat = x.pat
  | 0, _ => by
    refine ⟨?_, rfl, rfl⟩
    show Ub x K (B + ((0 : Nat) : Int))
    rw [show B + ((0 : Nat) : Int) = B by omega]; exact h
  | k + 1, hk => by
    obtain ⟨h1, h2, h3⟩ := h.units k (by omega)
    obtain ⟨g1, g2, g3⟩ := h1.unit (by omega)
    refine ⟨?_, g2.trans h2, g3.trans h3⟩
    rw [show B + ((k + 1 : Nat) : Int) = B + (k : Int) + 1 by omega]
    exact g1
/-- either somebody goes to a new view within k units, or nobody does -/
theorem quiet_or {x : Gr} {K : Nat} {B V : Int} (h : Ub x K B) (hV : ∀ y, node x.n y → (x.core y).keep.view ≤ V) : ∀ k : Nat, B + k < 1099511627776 →
    (∃ i, i < k ∧ Sync (V + 1) (units x (i + 1))) ∨ ((∀ i, i < k → UN V (units x i) (units x (i + 1))) ∧ ∀ i, i ≤ k → ∀ y, node x.n y → ((units x i).core y).keep.view ≤ V)
  | 0, _ => .inr ⟨fun i hi => by omega, fun i hi => by
    have : i = 0 := by omega
    subst this; exact hV⟩
  | k + 1, hk => by
    rcases quiet_or h hV k (by omega) with ⟨i, h1, h2⟩ | ⟨h1, h1v⟩
    · exact .inl ⟨i, by omega, h2⟩
    · obtain ⟨g1, g2, g3⟩ := h.units k (by omega)
      have hVk : ∀ y, node (units x k).n y → ((units x k).core y).keep.view ≤ V := fun y hy => h1v k (Nat.le_refl _) y (by rw [← g2]; exact hy)
      by_cases hup : ∃ y, node (units x k).n y ∧ V < ((units x k).core y).tick.keep.view
      · obtain ⟨y0, h3, h4⟩ := hup
        exact .inl ⟨k, by omega, unit_wave (g1.uh (by omega)) g1.n.1 g1.mail hVk h3 h4⟩
      · have hn := unit_none (g1.uh (by omega)) g1.mail (V := V) fun y hy => Classical.byContradiction fun e => hup ⟨y, hy, by omega⟩
        refine .inr ⟨fun i hi => ?_, fun i hi => ?_⟩
        · by_cases e : i = k
          · subst e; exact hn
          · exact h1 i (by omega)
        · by_cases e : i = k + 1
          · subst e
            intro y hy
            exact hn.top y (by rw [g2]; exact hy)
          · exact h1v i (by omega)
section
variable {x : Gr} {K : Nat} {B V : Int} {T : Nat}
/-- T units in which nobody goes to a new view -/
structure Quiet (x : Gr) (K : Nat) (B V : Int) (T : Nat) : Prop where
  ub : Ub x K B
  top : B + T < 1099511627776
  un : ∀ i, i < T → UN V (units x i) (units x (i + 1))
theorem Quiet.at_ (h : Quiet x K B V T) {y : Int} (hy : node x.n y) {i : Nat} (hv : ((units x i).core y).keep.view = V) : ∀ j : Nat, i + j ≤ T → ((units x (i + j)).core y).keep.view = V
  | 0, _ => hv
  | j + 1, hj => by
    have hn := (h.ub.units (i + j) (by have := h.top; omega)).2.1
    exact (h.un (i + j) (by omega)).at_ y (by rw [hn]; exact hy) (h.at_ hy hv j (by omega))
theorem Quiet.nm (h : Quiet x K B V T) {y : Int} (hy : node x.n y) {i : Nat} (hv : ((units x i).core y).keep.view = V) (hc : ((units x i).core y).ch = false) : ∀ j : Nat, i + j ≤ T → ((units x (i + j)).core y).ch = false
  | 0, _ => hc
  | j + 1, hj => by
    have hn := (h.ub.units (i + j) (by have := h.top; omega)).2.1
    exact (h.un (i + j) (by omega)).nm y (by rw [hn]; exact hy) (h.at_ hy hv j (by omega)) (h.nm hy hv hc j (by omega))
theorem Quiet.idle (h : Quiet x K B V T) {y : Int} (hy : node x.n y) {i : Nat} (hi : i ≤ T) : 0 ≤ ((units x i).core y).idle := by
  obtain ⟨g1, g2, g3⟩ := h.ub.units i (by have := h.top; omega)
  exact g1.idle y (by rw [g2]; exact hy)
/-- who changes in V has it begun before long -/
theorem Quiet.s1 (h : Quiet x K B V T) {y : Int} (hy : node x.n y) {i : Nat} (hv : ((units x i).core y).keep.view = V) (ht : i + (2 * x.pat).toNat ≤ T) : ((units x (i + (2 * x.pat).toNat)).core y).ch = false := by
  have key : ∀ j : Nat, i + j ≤ T → ((units x (i + j)).core y).ch = false ∨ ((j : Int) ≤ ((units x (i + j)).core y).idle ∧ (1 ≤ j → ((units x (i + j)).core y).idle < 2 * x.pat)) := by
    intro j
    induction j with
    | zero => intro hj; exact .inr ⟨h.idle hy (by omega), fun h => by omega⟩
    | succ j ih =>
      intro hj
      obtain ⟨g1, g2, g3⟩ := h.ub.units (i + j) (by have := h.top; omega)
      have hyj : node (units x (i + j)).n y := by rw [g2]; exact hy
      have hvj := h.at_ hy hv j (by omega)
      rcases ih (by omega) with h1 | h1
      · exact .inl ((h.un (i + j) (by omega)).nm y hyj hvj h1)
      · rcases bcases ((units x (i + j)).core y).ch with hc | hc
        · rcases (h.un (i + j) (by omega)).ch y hyj hvj hc with h2 | ⟨h2, h3⟩
          · exact .inl h2
          · right
            rw [g3] at h3
            show (((j + 1 : Nat) : Int) ≤ ((units x (i + j + 1)).core y).idle ∧ (1 ≤ j + 1 → ((units x (i + j + 1)).core y).idle < 2 * x.pat))
            rw [h2]
            exact ⟨by omega, fun _ => h3⟩
        · exact .inl ((h.un (i + j) (by omega)).nm y hyj hvj hc)
  have hp := h.ub.pat
  rcases key (2 * x.pat).toNat ht with h1 | ⟨h1, h2⟩
  · exact h1
  · have := h2 (by omega)
    omega
/-- if somebody has V begun, its leader has before long -/
theorem Quiet.s2 (h : Quiet x K B V T) {y : Int} (hy : node x.n y) {i : Nat} (hv : ((units x i).core y).keep.view = V) (hc : ((units x i).core y).ch = false) (ht : i + (x.pat + x.n).toNat ≤ T) :
    ∃ j, j ≤ (x.pat + x.n).toNat ∧ ((units x (i + j)).core (lead V x.n)).keep.view = V ∧ ((units x (i + j)).core (lead V x.n)).ch = false := by
  by_cases hyl : y = lead V x.n
  · exact ⟨0, Nat.zero_le _, by rw [← hyl]; exact hv, by rw [← hyl]; exact hc⟩
  apply Classical.byContradiction
  intro hno
  have hln : node x.n (lead V x.n) := lead_node (by have := h.ub.n; omega) V
  have key : ∀ j : Nat, j ≤ (x.pat + x.n).toNat → (j : Int) ≤ ((units x (i + j)).core y).idle ∧ (1 ≤ j → ((units x (i + j)).core y).idle < x.pat + y) := by
    intro j
    induction j with
    | zero => intro hj; exact ⟨h.idle hy (by omega), fun h => by omega⟩
    | succ j ih =>
      intro hj
      obtain ⟨g1, g2, g3⟩ := h.ub.units (i + j) (by have := h.top; omega)
      have hyj : node (units x (i + j)).n y := by rw [g2]; exact hy
      have h1 := ih (by omega)
      obtain ⟨h2, h3⟩ := (h.un (i + j) (by omega)).fo y hyj (h.at_ hy hv j (by omega)) (h.nm hy hv hc j (by omega)) (by rw [g2]; exact hyl) (by
        rw [g2]
        rintro ⟨e1, e2, _⟩
        exact hno ⟨j, by omega, e1, e2⟩)
      rw [g3] at h3
      show (((j + 1 : Nat) : Int) ≤ ((units x (i + j + 1)).core y).idle ∧ (1 ≤ j + 1 → ((units x (i + j + 1)).core y).idle < x.pat + y))
      rw [h2]
      exact ⟨by omega, fun _ => h3⟩
  have hp := h.ub.pat
  obtain ⟨h1, h2⟩ := key (x.pat + x.n).toNat (Nat.le_refl _)
  have := h2 (by omega)
  have := hy.2
  omega
/-- the leader tells all before long -/
theorem Quiet.s3 (h : Quiet x K B V T) {i : Nat} (hv : ((units x i).core (lead V x.n)).keep.view = V) (hc : ((units x i).core (lead V x.n)).ch = false) (ht : i + 2 ≤ T) :
    ∃ j, 1 ≤ j ∧ j ≤ 2 ∧ ((units x (i + j)).core (lead V x.n)).idle = 0 ∧ ∀ z, node x.n z → ((units x (i + j)).core z).keep.view = V ∧ (((units x (i + (j - 1))).core z).keep.view = V → ((units x (i + (j - 1))).core z).ch = false → ((units x (i + j)).core z).idle = 0) := by
  have hln : node x.n (lead V x.n) := lead_node (by have := h.ub.n; omega) V
  obtain ⟨g1, g2, g3⟩ := h.ub.units i (by have := h.top; omega)
  obtain ⟨f1, f2, f3⟩ := h.ub.units (i + 1) (by have := h.top; omega)
  by_cases h1 : 2 ≤ ((units x i).core (lead V x.n)).idle + 1
  · obtain ⟨e1, e2⟩ := (h.un i (by omega)).l2 _ (by rw [g2]; exact hln) hv hc (by rw [g2]) h1
    refine ⟨1, Nat.le_refl _, by omega, e1, fun z hz => ?_⟩
    rw [show i + (1 - 1) = i by omega]
    exact e2 z (by rw [g2]; exact hz)
  · have e0 := (h.un i (by omega)).l1 _ (by rw [g2]; exact hln) hv hc (by rw [g2]) (by omega)
    have h0 := h.idle hln (i := i) (by omega)
    obtain ⟨e1, e2⟩ := (h.un (i + 1) (by omega)).l2 _ (by rw [f2]; exact hln) (h.at_ hln hv 1 (by omega)) (h.nm hln hv hc 1 (by omega)) (by rw [f2]) (by rw [e0]; omega)
    rw [show i + 1 + 1 = i + 2 by omega] at e1 e2
    refine ⟨2, by omega, Nat.le_refl _, e1, fun z hz => ?_⟩
    rw [show i + (2 - 1) = i + 1 by omega]
    exact e2 z (by rw [f2]; exact hz)
end
/-- the highest view -/
theorem highest (x : Gr) : ∀ k : Nat, 1 ≤ k → ∃ V y0, node k y0 ∧ (x.core y0).keep.view = V ∧ ∀ y, node k y → (x.core y).keep.view ≤ V := by
  intro k
  induction k with
  | zero => intro h; omega
  | succ k ih =>
    intro _
    by_cases hk : k = 0
    · subst hk
      exact ⟨_, 1, ⟨by omega, by omega⟩, rfl, fun y hy => by
        have : y = 1 := by have := hy.1; have := hy.2; omega
        rw [this]; exact Int.le_refl _⟩
    · obtain ⟨V, y0, h1, h2, h3⟩ := ih (by omega)
      by_cases h4 : V < (x.core ((k : Int) + 1)).keep.view
      · refine ⟨_, (k : Int) + 1, ⟨by omega, by omega⟩, rfl, fun y hy => ?_⟩
        by_cases e : y = (k : Int) + 1
        · rw [e]; exact Int.le_refl _
        · have := h3 y ⟨hy.1, by have := hy.2; omega⟩
          omega
      · refine ⟨V, y0, ⟨h1.1, by have := h1.2; omega⟩, h2, fun y hy => ?_⟩
        by_cases e : y = (k : Int) + 1
        · rw [e]; omega
        · exact h3 y ⟨hy.1, by have := hy.2; omega⟩
/-- before long all are in one view that has begun -/
theorem reach_sync {x : Gr} {K : Nat} {B : Int} (h : Ub x K B) (hp : x.pat ≤ 16) (hB : B + 200 < 1099511627776) : ∃ i V, i ≤ (5 * x.pat + x.n + 4).toNat ∧ Sync V (units x i) := by
  have hn := h.n
  have hp1 := h.pat
  obtain ⟨V, y0, hy0, hy0v, hV⟩ := highest x x.n (by omega)
  obtain ⟨T, hT⟩ : ∃ T, T = (5 * x.pat + x.n + 4).toNat := ⟨_, rfl⟩
  rw [← hT]
  rcases quiet_or h hV T (by omega) with ⟨i, h1, h2⟩ | ⟨h1, _⟩
  · exact ⟨i + 1, V + 1, by omega, h2⟩
  · have q : Quiet x K B V T := ⟨h, by omega, h1⟩
    have a1 := q.s1 hy0 (i := 0) hy0v (by omega)
    rw [Nat.zero_add] at a1
    have b1 := q.at_ hy0 (i := 0) hy0v (2 * x.pat).toNat (by omega)
    rw [Nat.zero_add] at b1
    obtain ⟨j, hj, c1, c2⟩ := q.s2 hy0 (i := (2 * x.pat).toNat) b1 a1 (by omega)
    obtain ⟨i2, hi2⟩ : ∃ i2, i2 = (2 * x.pat).toNat + j := ⟨_, rfl⟩
    rw [← hi2] at c1 c2
    obtain ⟨k, hk1, hk2, d1, d2⟩ := q.s3 (i := i2) c1 c2 (by omega)
    obtain ⟨i3, hi3⟩ : ∃ i3, i3 = i2 + k := ⟨_, rfl⟩
    rw [← hi3] at d1 d2
    have hln : node x.n (lead V x.n) := lead_node (by omega) V
    have e1 : ∀ z, node x.n z → ((units x (i3 + (2 * x.pat).toNat)).core z).ch = false := fun z hz => q.s1 hz (i := i3) (d2 z hz).1 (by omega)
    have e2 : ∀ z, node x.n z → ((units x (i3 + (2 * x.pat).toNat)).core z).keep.view = V := fun z hz => q.at_ hz (i := i3) (d2 z hz).1 _ (by omega)
    obtain ⟨i4, hi4⟩ : ∃ i4, i4 = i3 + (2 * x.pat).toNat := ⟨_, rfl⟩
    rw [← hi4] at e1 e2
    obtain ⟨m, hm1, hm2, f1, f2⟩ := q.s3 (i := i4) (e2 _ hln) (e1 _ hln) (by omega)
    refine ⟨i4 + m, V, by omega, fun y hy => ?_⟩
    have hny := (h.units (i4 + m) (by omega)).2.1
    rw [hny] at hy
    exact ⟨(f2 y hy).1, q.nm hy (e2 y hy) (e1 y hy) m (by omega), (f2 y hy).2 (q.at_ hy (e2 y hy) (m - 1) (by omega)) (q.nm hy (e2 y hy) (e1 y hy) (m - 1) (by omega))⟩
/-- all in a view that has begun: two units later they are so again, or in the next view, if member 1 waits less long than its leader -/
theorem sync_next {x : Gr} {K : Nat} {B V : Int} (h : Ub x K B) (hB : B + 2 < 1099511627776) (hs : Sync V x) (y0 : Int) (hy0 : node x.n y0) (hl : y0 ≠ lead V x.n) (ht : x.pat + y0 ≤ 2) : Sync (V + 1) (units x 2) := by
  have hln : node x.n (lead V x.n) := lead_node (by have := h.n; omega) V
  have u0 := h.uh (by omega)
  obtain ⟨h1, n1, p1⟩ := h.unit (by omega)
  have nld : ∀ (x : Gr) (y : Int), GOk x K → node x.n y → (x.core y).keep.view = V → y ≠ lead V x.n → (x.core y).leads = false := fun x y hok hy hv hne => by
    cases e : (x.core y).leads with
    | false => rfl
    | true =>
      have := (leads_is.1 e).2
      rw [hv, (hok.mb hy).n, (hok.mb hy).me] at this
      exact absurd this.symm hne
  -- the first unit: nobody goes on
  have hq : UN V x (unit x) := unit_none u0 h.mail fun y hy => by
    obtain ⟨e1, e2, e3⟩ := hs y hy
    have T := u0.tk hy
    have b := h.ok.mb hy
    cases T with
    | lead l keep ch low high msgs => rw [keep]; omega
    | wait nlr t t2 keep ch idle msgs => rw [keep]; omega
    | again ch t keep ch' idle msgs => rw [keep]; omega
    | bgn ch view ch' idle ld msgs => omega
    | up nlr t view ch' idle begun dos starts msgs =>
      rcases t with ⟨t1, t2⟩ | ⟨t1, t2⟩
      · rw [e2] at t1; cases t1
      · rw [b.pat, b.me, e3] at t2
        have := h.pat
        have := hy.1
        omega
  have s1 : ∀ y, node x.n y → ((unit x).core y).keep.view = V ∧ ((unit x).core y).ch = false := fun y hy => ⟨hq.at_ y hy (hs y hy).1, hq.nm y hy (hs y hy).1 (hs y hy).2.1⟩
  have i0 := (hq.fo y0 hy0 (hs y0 hy0).1 (hs y0 hy0).2.1 hl (by
    rintro ⟨_, _, e⟩
    rw [(hs _ hln).2.2] at e
    omega)).1
  rw [(hs y0 hy0).2.2] at i0
  -- the second one: y0 goes on
  have hy1 : node (unit x).n y0 := by rw [n1]; exact hy0
  have u1 := h1.uh (by omega)
  have T := u1.tk hy1
  have b := h1.ok.mb hy1
  obtain ⟨e1, e2⟩ := s1 y0 hy0
  have hnl : ((unit x).core y0).leads = false := by
    cases e : ((unit x).core y0).leads with
    | false => rfl
    | true =>
      have := (leads_is.1 e).2
      rw [e1, b.n, b.me, n1] at this
      exact absurd this.symm hl
  refine unit_wave u1 h1.n.1 h1.mail (V := V) (fun y hy => by rw [(s1 y (by rw [← n1]; exact hy)).1]; exact Int.le_refl _) hy1 ?_
  cases T with
  | lead l keep ch low high msgs => rw [hnl] at l; cases l
  | wait nlr t t2 keep ch idle msgs =>
    have := t2 e2
    rw [i0, b.pat, b.me, p1] at this
    omega
  | again ch t keep ch' idle msgs => rw [e2] at ch; cases ch
  | bgn ch view ch' idle ld msgs => rw [e2] at ch; cases ch
  | up nlr t view ch' idle begun dos starts msgs => omega
/-- before long all are in a view whose leader is in time for all -/
theorem sync_good {K : Nat} : ∀ (k : Nat) {x : Gr} {K : Nat} {B V : Int}, Ub x K B → B + 2 * k < 1099511627776 → Sync V x → (V + k) % (x.n : Int) = 0 → ∃ i V', i ≤ 2 * k ∧ Sync V' (units x i) ∧ ∀ y, node x.n y → y ≠ lead V' x.n → 3 ≤ x.pat + y
  | 0, x, K, B, V, h, hB, hs, hm => by
    refine ⟨0, V, Nat.le_refl _, hs, fun y hy hne => ?_⟩
    have h1 : V % (x.n : Int) = 0 := by rw [show V + ((0 : Nat) : Int) = V by omega] at hm; exact hm
    have h2 := h.n
    unfold lead at hne
    rw [show max (x.n : Int) 1 = x.n by omega, h1] at hne
    have := hy.1
    have := h.pat
    omega
  | k + 1, x, K, B, V, h, hB, hs, hm => by
    by_cases hok : ∀ y, node x.n y → y ≠ lead V x.n → 3 ≤ x.pat + y
    · exact ⟨0, V, Nat.zero_le _, hs, hok⟩
    · have : ∃ y, node x.n y ∧ y ≠ lead V x.n ∧ x.pat + y ≤ 2 := Classical.byContradiction fun hno => hok fun y hy hne => Classical.byContradiction fun h3 => hno ⟨y, hy, hne, by omega⟩
      obtain ⟨y0, h1, h2, h3⟩ := this
      have s2 := sync_next h (by omega) hs y0 h1 h2 h3
      obtain ⟨g1, g2, g3⟩ := h.units 2 (by omega)
      obtain ⟨i, V', q1, q2, q3⟩ := sync_good (K := K) k g1 (by omega) s2 (by rw [g2, show V + 1 + (k : Int) = V + ((k + 1 : Nat) : Int) by omega]; exact hm)
      refine ⟨2 + i, V', by omega, by rw [units_add]; exact q2, ?_⟩
      rw [g2, g3] at q3
      exact q3
theorem reach_good {x : Gr} {K : Nat} {B : Int} (h : Ub x K B) (hp : x.pat ≤ 16) (hB : B + 300 < 1099511627776) : ∃ i V, i ≤ (5 * x.pat + 3 * x.n + 2).toNat ∧ Sync V (units x i) ∧ ∀ y, node x.n y → y ≠ lead V x.n → 3 ≤ x.pat + y := by
  have hn := h.n
  have hp1 := h.pat
  obtain ⟨i, V, h1, h2⟩ := reach_sync h hp (by omega)
  obtain ⟨g1, g2, g3⟩ := h.units i (by omega)
  obtain ⟨k, hk1, hk2⟩ : ∃ k : Nat, k + 1 ≤ x.n ∧ (V + k) % (x.n : Int) = 0 := by
    have a1 := Int.emod_nonneg V (show (x.n : Int) ≠ 0 by omega)
    have a2 := Int.emod_lt_of_pos V (show 0 < (x.n : Int) by omega)
    by_cases e : V % (x.n : Int) = 0
    · exact ⟨0, by omega, by rw [show V + ((0 : Nat) : Int) = V by omega]; exact e⟩
    · refine ⟨x.n - (V % (x.n : Int)).toNat, by omega, ?_⟩
      have e2 : V + ((x.n - (V % (x.n : Int)).toNat : Nat) : Int) = V - V % (x.n : Int) + x.n := by omega
      rw [e2, Int.add_emod_right, Int.sub_emod, Int.emod_emod_of_dvd _ (Int.dvd_refl _)]
      simp
  obtain ⟨j, V', q1, q2, q3⟩ := sync_good (K := K) k g1 (by omega) h2 (by rw [g2]; exact hk2)
  refine ⟨i + j, V', by omega, by rw [units_add]; exact q2, ?_⟩
  rw [g2, g3] at q3
  exact q3
end Vw
end Go.Proofs.Ytmmgnbdngpkfcaa

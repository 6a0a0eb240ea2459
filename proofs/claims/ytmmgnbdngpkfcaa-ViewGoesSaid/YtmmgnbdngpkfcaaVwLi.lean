/-
  A group in the calm: what is handed in behind it is done at all: plain laws.
-/
import Derived.Test.YtmmgnbdngpkfcaaVwLh
namespace Go.Proofs.Ytmmgnbdngpkfcaa
set_option linter.unusedVariables false
namespace Vw

/-- who leads is handed an entry, once -/
def propTo (b : Bs) : Nat → Gr × Nat → Gr × Nat
  | 0, p => p
  | j + 1, p =>
    if ((propTo b j p).1.core ((j : Int) + 1)).leads = true ∧ (propTo b j p).2 = 0 then (grDo (propTo b j p).1 ((j : Int) + 1) (((propTo b j p).1.core ((j : Int) + 1)).propose b).1 (-1), (((propTo b j p).1.core ((j : Int) + 1)).propose b).1.keep.log.length) else propTo b j p
/-- so many units; behind unit S the entry -/
noncomputable def goes (S : Nat) (b : Bs) (x : Gr) : Nat → Gr × Nat
  | 0 => (x, 0)
  | u + 1 => if u = S then propTo b x.n (unit (goes S b x u).1, (goes S b x u).2) else (unit (goes S b x u).1, (goes S b x u).2)
theorem goes_low (S : Nat) (b : Bs) (x : Gr) : ∀ u, u ≤ S → goes S b x u = (units x u, 0)
  | 0, _ => rfl
  | u + 1, h => by
    show (if u = S then _ else _) = _
    rw [if_neg (by omega), goes_low S b x u (by omega)]
    rfl
theorem goes_succ (S : Nat) (b : Bs) (x : Gr) (u : Nat) : goes S b x (u + 1) = if u = S then propTo b x.n (unit (goes S b x u).1, (goes S b x u).2) else (unit (goes S b x u).1, (goes S b x u).2) := rfl
theorem units_succ (x : Gr) (k : Nat) : units x (k + 1) = unit (units x k) := rfl
theorem goes_high (S : Nat) (b : Bs) (x : Gr) {z : Gr} {at_ : Nat} (hz : goes S b x (S + 1) = (z, at_)) : ∀ i, goes S b x (S + 1 + i) = (units z i, at_)
  | 0 => hz
  | i + 1 => by
    rw [show S + 1 + (i + 1) = (S + 1 + i) + 1 by omega, goes_succ, if_neg (by omega), goes_high S b x hz i, units_succ]
/-- a unit's steps are safe -/
structure Safe (x : Gr) (K : Nat) : Prop where
  n : 1 ≤ x.n ∧ x.n ≤ 5
  pat : 1 ≤ x.pat ∧ x.pat ≤ 16
  ticks : ∀ j, j ≤ x.n → GrI (tickTo x j) K
  mails : ∀ k, GrI (mailRun (tickTo x x.n) k) K
  fin : (unit x).mail = []
theorem UH.safe {x : Gr} {K K' : Nat} (h : UH x K) (hm : x.mail.length ≤ 4) (hx : ∀ m ∈ x.mail, InS x.n (vs x) m.view) (hp : 1 ≤ x.pat ∧ x.pat ≤ 16) (hK : K + 1 ≤ K') (hK1 : 1 ≤ K') : Safe x K' := by
  obtain ⟨r1, r4, r2, r3⟩ := h.run hm hx (J := fun z => z.pat = x.pat) (h.d0 hm hx).2.2 fun z hz hJ m r hmr => (hz.deliver hmr).2.2.2.1.trans hJ
  have fit : ∀ z : Gr, GOk z (K + 1) → z.n = x.n → z.pat = x.pat → z.mail.length ≤ 200 → GrI z K' := fun z h1 h2 h3 h4 => by
    obtain ⟨h5, h6⟩ := h1.mono hK
    refine ⟨h5, h6, ?_, by rw [h2]; exact h.n5, by rw [h3]; omega⟩
    have := Nat.mul_le_mul_left 40000 hK1
    omega
  refine ⟨h.n5, hp, fun j hj => ?_, fun k => ?_, r2⟩
  · obtain ⟨g1, g2, g3, g4, g5, g6⟩ := tickTo_is h.ok h.n5.2 h.h2 h.hv (by omega) j hj
    refine fit _ g1 g2 g3 ?_
    rw [g5, List.length_append]
    have : j * (2 * x.n) ≤ 5 * 10 := Nat.mul_le_mul (by have := h.n5.2; omega) (by have := h.n5.2; omega)
    omega
  · obtain ⟨d, e⟩ := r1 k
    exact fit _ d.ok d.nn e (by have := d.len; omega)
theorem Good.insm {V : Int} {Lg : List Bs} {h K : Nat} {x : Gr} (g : Good V Lg h K x) : ∀ m ∈ x.mail, InS x.n (vs x) m.view := fun m hm => by
  have hln : node x.n (lead V x.n) := lead_node g.n5.1 V
  have b := g.ok.mb hln
  refine ⟨lead V x.n, hln, ?_⟩
  show ((tickTo x x.n).core (lead V x.n)).keep.view = _
  rw [g.uh.core g.few hln, (g.mail m hm).1]
  have hl : (x.core (lead V x.n)).leads = true := leads_is.2 ⟨(g.all _ hln).2, by rw [(g.all _ hln).1, b.n, b.me]⟩
  show (x.core (lead V x.n)).tick.keep.view = V
  rw [(tick_lead hl b.msgs).1]
  exact (g.all _ hln).1
theorem Good.safe {V : Int} {Lg : List Bs} {h K K' : Nat} {x : Gr} (g : Good V Lg h K x) (hp : 1 ≤ x.pat ∧ x.pat ≤ 16) (hK : K + 1 ≤ K') : Safe x K' := g.uh.safe g.few g.insm hp hK (by omega)
theorem zero_one {i : Int} (h : 0 ≤ i ∧ i ≤ 1) : i = 0 ∨ i = 1 := by omega
/-- while the view stays, the leader learns of ever more entries that all have -/
theorem Good.more {V : Int} {Lg : List Bs} {h K : Nat} {x : Gr} (g : Good V Lg h K x) : ∀ k : Nat, ∃ a : Nat, Good V Lg (h + 8 * a) (K + k) (units x k) ∧ ((k : Int) ≤ 2 * a + ((units x k).core (lead V x.n)).idle) ∧ (units x k).n = x.n ∧ (units x k).pat = x.pat ∧ (1 ≤ k → (units x k).mail = [])
  | 0 => ⟨0, g, by have := g.il.1; show ((0 : Nat) : Int) ≤ 2 * ((0 : Nat) : Int) + (x.core _).idle; omega, rfl, rfl, fun h => by omega⟩
  | k + 1 => by
    obtain ⟨a, h1, h2, h3, h4, _⟩ := g.more k
    obtain ⟨u1, u2, _⟩ := unit_good h1
    have il := h1.il
    rw [h3] at il u1
    have e0 := u2.i0
    have e1 := u2.i1
    rw [h3] at e0 e1
    have hcase := zero_one il
    rcases hcase with e | e
    · rw [if_neg (by omega)] at u1
      refine ⟨a, u1, ?_, u2.n.trans h3, u2.pat.trans h4, fun _ => u2.mail⟩
      show ((k + 1 : Nat) : Int) ≤ 2 * a + ((unit (units x k)).core (lead V x.n)).idle
      rw [e0 e]; omega
    · rw [if_pos e] at u1
      refine ⟨a + 1, ?_, ?_, u2.n.trans h3, u2.pat.trans h4, fun _ => u2.mail⟩
      · rw [show h + 8 * (a + 1) = h + 8 * a + 8 by omega]; exact u1
      · show ((k + 1 : Nat) : Int) ≤ 2 * ((a + 1 : Nat) : Int) + ((unit (units x k)).core (lead V x.n)).idle
        rw [(e1 e).1]; omega
theorem Good.fewer {V : Int} {Lg : List Bs} {h h' K : Nat} {x : Gr} (g : Good V Lg h K x) (hh : h' ≤ h ∨ Lg.length ≤ h) : Good V Lg h' K x :=
  ⟨g.ok, g.n5, g.top, g.all, g.lg, g.lgs, g.mail, g.few, fun y hy hne => by have := g.hs y hy hne; omega, g.il, g.fi⟩
theorem Good.commit {V : Int} {Lg : List Bs} {h K : Nat} {x : Gr} (g : Good V Lg h K x) {y : Int} (hy : node x.n y) : ∀ k j : Nat, ((units x k).core y).commit ≤ ((units x (k + j)).core y).commit
  | k, 0 => Nat.le_refl _
  | k, j + 1 => by
    obtain ⟨a, h1, h2, h3, h4, _⟩ := g.more (k + j)
    obtain ⟨u1, u2, _⟩ := unit_good h1
    exact Nat.le_trans (g.commit hy k j) (u2.cmo y (by rw [h3]; exact hy))
/-- who has the leader's entries, but for the last one, has it done five units later -/
theorem Good.done {V : Int} {Lg : List Bs} {h K : Nat} {x : Gr} (g : Good V Lg h K x) (hl : Lg.length ≤ h + 1) {k : Nat} (hk : 5 ≤ k) : ∀ y, node x.n y → Lg.length ≤ ((units x k).core y).commit := by
  have hln : node x.n (lead V x.n) := lead_node g.n5.1 V
  obtain ⟨i2, hi2⟩ : ∃ i2 : Nat, i2 = 2 := ⟨_, rfl⟩
  have c3 : Lg.length ≤ ((units x (i2 + 1)).core (lead V x.n)).commit := by
    obtain ⟨a2, p1, p2, p3, p4, _⟩ := g.more i2
    have il2 := p1.il
    rw [p3] at il2
    have ha2 : 1 ≤ a2 := by omega
    obtain ⟨u1, u2, _⟩ := unit_good p1
    have := u2.cl (by omega)
    rw [p3] at this
    exact this
  -- a unit in which the leader tells it
  have tell : ∀ i : Nat, i2 + 1 ≤ i → ((units x i).core (lead V x.n)).idle = 1 → ∀ y, node x.n y → y ≠ lead V x.n → Lg.length ≤ ((units x (i + 1)).core y).commit := by
    intro i hi e y hy hne
    have hc := g.commit hln (i2 + 1) (i - (i2 + 1))
    rw [show (i2 + 1) + (i - (i2 + 1)) = i by omega] at hc
    have hc : Lg.length ≤ ((units x i).core (lead V x.n)).commit := Nat.le_trans c3 hc
    clear c3
    obtain ⟨a, q1, q2, q3, q4, _⟩ := g.more i
    obtain ⟨v1, v2, _⟩ := unit_good q1
    have ha : 1 ≤ a := by clear v1 v2; omega
    have e1 := v2.i1
    rw [q3] at e1
    rw [units_succ]
    refine (e1 e).2 Lg.length hc (fun z hz => ?_) y hy hne
    have gh := good_ghost q1.ok q1.n5.1 q1.all
    rw [q3] at gh
    by_cases ez : z = lead V x.n
    · have := q1.lg
      rw [q3] at this
      rw [ez, this]; exact Nat.le_refl _
    · have h1 := (gh z hz).2 ez
      have h2 := q1.hs z (by rw [q3]; exact hz) (by rw [q3]; exact ez)
      rw [q3] at h2
      clear v1 v2
      omega
  have up : ∀ i : Nat, i ≤ k → ∀ y, node x.n y → Lg.length ≤ ((units x i).core y).commit → Lg.length ≤ ((units x k).core y).commit := fun i hi y hy h0 => by
    have := g.commit hy i (k - i)
    rw [show i + (k - i) = k by omega] at this
    exact Nat.le_trans h0 this
  intro y hy
  by_cases e : y = lead V x.n
  · exact up (i2 + 1) (by omega) y hy (by rw [e]; exact c3)
  · obtain ⟨a3, q1, q2, q3, q4, _⟩ := g.more (i2 + 1)
    have il3 := q1.il
    rw [q3] at il3
    rcases zero_one il3 with e3 | e3
    · obtain ⟨v1, v2, _⟩ := unit_good q1
      have i4 := v2.i0
      rw [q3] at i4
      have i4 := i4 e3
      rw [← units_succ] at i4
      exact up (i2 + 1 + 1 + 1) (by omega) y hy (tell (i2 + 1 + 1) (by omega) i4 y hy e)
    · exact up (i2 + 1 + 1) (by omega) y hy (tell (i2 + 1) (by omega) e3 y hy e)
/-- the leader is handed an entry -/
theorem Good.propose {V : Int} {Lg : List Bs} {h K : Nat} {x : Gr} (g : Good V Lg h K x) (hmail : x.mail = []) (hh : Lg.length ≤ h) (hs : Lg.length < 2000) {b : Bs} (hb : b.length ≤ 4000) {l : Int} (hl : l = lead V x.n) :
    ((x.core l).propose b).2 = 0 ∧ ((x.core l).propose b).1.keep.log = Lg ++ [b] ∧ Good V (Lg ++ [b]) Lg.length (K + 1) (grDo x l ((x.core l).propose b).1 (-1)) ∧ (grDo x l ((x.core l).propose b).1 (-1)).n = x.n ∧ (grDo x l ((x.core l).propose b).1 (-1)).pat = x.pat := by
  have hln : node x.n l := by rw [hl]; exact lead_node g.n5.1 V
  have bl := g.ok.mb hln
  have gl := g.all l hln
  have glg := g.lg
  rw [← hl] at glg
  have hlead : (x.core l).leads = true := leads_is.2 ⟨gl.2, by rw [gl.1, bl.n, bl.me, hl]⟩
  obtain ⟨f, hf⟩ : ∃ f : Core, f = ((x.core l).rec_ ⟨2, 0, 0, b⟩).feeds := ⟨_, rfl⟩
  have e : (x.core l).propose b = (f.count, 0) := by
    unfold Core.propose
    rw [if_neg (by rw [hlead]; simp), if_neg (by omega), if_neg (by rw [glg]; omega), hf]
  rw [e]
  obtain ⟨e1, e2, e3, e4, e5, e6, e7, e8, e9, e10⟩ := f.count_same
  have fk : f.keep = ⟨V, (x.core l).keep.normal, Lg ++ [b]⟩ := by
    rw [hf]
    show Keep.mk (x.core l).keep.view (x.core l).keep.normal ((x.core l).keep.log ++ [b]) = _
    rw [gl.1, glg]
  have fm : f.msgs = ((x.core l).others x.n).map fun tt => { Msg.z with kind := 1, to_ := tt, at_ := min ((x.core l).has tt) ((Lg ++ [b]).length : Int), commit := (x.core l).commit, list := ((Lg ++ [b]).drop (min ((x.core l).has tt) ((Lg ++ [b]).length : Int)).toNat).take 8, frm := (x.core l).me, shard := (x.core l).shard, view := V } := by
    rw [hf]
    show (x.core l).msgs ++ ((x.core l).others (x.core l).n).map (fun tt => { Msg.z with kind := 1, to_ := tt, at_ := min ((x.core l).has tt) (((x.core l).keep.log ++ [b]).length : Int), commit := (x.core l).commit, list := (((x.core l).keep.log ++ [b]).drop (min ((x.core l).has tt) (((x.core l).keep.log ++ [b]).length : Int)).toNat).take 8, frm := (x.core l).me, shard := (x.core l).shard, view := (x.core l).keep.view }) = _
    rw [bl.msgs, List.nil_append, bl.n, glg, gl.1]
  have fh : f.has = (x.core l).has := by rw [hf]; rfl
  have fc : f.ch = false := by rw [hf]; exact gl.2
  have fi : f.idle = (x.core l).idle := by rw [hf]; rfl
  have hol : ((x.core l).others x.n).length + 1 ≤ x.n := by
    have := (x.core l).others_len' (by rw [bl.n, bl.me]; exact hln)
    rw [bl.n] at this; exact this
  have hml : f.count.msgs.length ≤ 4 := by
    rw [e6, fm, List.length_map]
    have := g.n5.2
    omega
  have ht : trim (x.mail ++ f.count.msgs) = f.count.msgs := by
    rw [hmail, List.nil_append]
    unfold trim
    rw [if_neg (by omega)]
  obtain ⟨z, hz⟩ : ∃ z : Gr, z = { x with core := updI x.core l f.count.clear, mail := f.count.msgs, sure := tells x.sure (x.core l).commit f.count.done } := ⟨_, rfl⟩
  have ez : grDo x l f.count (-1) = z := by
    unfold grDo
    rw [if_neg (by omega), ht, hz]
  show (0 : Int) = 0 ∧ f.count.keep.log = Lg ++ [b] ∧ Good V (Lg ++ [b]) Lg.length (K + 1) (grDo x l f.count (-1)) ∧ (grDo x l f.count (-1)).n = x.n ∧ (grDo x l f.count (-1)).pat = x.pat
  rw [ez]
  have zn : z.n = x.n := by rw [hz]
  have zp : z.pat = x.pat := by rw [hz]
  have zl : z.core l = f.count.clear := by rw [hz]; exact updI_same _ _ _
  have zo : ∀ y, y ≠ l → z.core y = x.core y := fun y hy => by rw [hz]; exact updI_other _ _ hy
  have gh := good_ghost g.ok g.n5.1 g.all
  rw [← hl] at gh
  refine ⟨rfl, by rw [e3, fk], ⟨?_, by rw [zn]; exact g.n5, g.top, fun y hy => ?_, by rw [zn, ← hl, zl]; show f.count.keep.log = _; rw [e3, fk], by rw [List.length_append, List.length_singleton]; omega, fun m hm => ?_, by rw [hz]; exact hml, fun y hy hne => ?_, ?_, fun y hy hne => ?_⟩, zn, zp⟩
  · obtain ⟨⟨G, hG⟩, hsu⟩ := g.ok
    obtain ⟨G1, a⟩ := Act.propose (Act.start hG.gi (hG.st _ hln) (hG.out _ hln)) b
    rw [e] at a
    obtain ⟨q1, q2, q3, q4⟩ := hG.act hln a
    have q5 := q4 f.count.msgs (fun m hm' => by rw [hmail]; exact hm')
    rw [hz]
    exact ⟨⟨G1, q5⟩, tells_top hG hln a hsu⟩
  · rw [zn] at hy
    by_cases ey : y = l
    · rw [ey, zl]
      exact ⟨by show f.count.keep.view = V; rw [e3, fk], e4.trans fc⟩
    · rw [zo y ey]; exact g.all y hy
  · rw [zn, ← hl]
    rw [hz] at hm
    have hm : m ∈ f.count.msgs := hm
    rw [e6, fm] at hm
    obtain ⟨y, hy, rfl⟩ := List.mem_map.1 hm
    have hy' : y ∈ (x.core l).others (x.core l).n := by rw [bl.n]; exact hy
    obtain ⟨y1, y2⟩ := mem_others.1 hy'
    rw [bl.n] at y1
    rw [bl.me] at y2
    have h1 := (gh y y1).2 y2
    have h0 : 0 ≤ (x.core l).has y := by
      obtain ⟨⟨G, hG⟩, _⟩ := g.ok
      exact (hG.st l hln).has0 y
    refine ⟨rfl, .inl ⟨rfl, y2, ?_, ?_⟩⟩
    · show min ((x.core l).has y) _ ≤ ((z.core y).keep.log.length : Int)
      rw [zo y y2]; omega
    · show min ((x.core l).has y) ((Lg ++ [b]).length : Int) + (((((Lg ++ [b]).drop _).take 8).length : Nat) : Int) ≤ ((Lg ++ [b]).length : Int)
      rw [List.length_take, List.length_drop]
      omega
  · rw [zn] at hy hne ⊢
    rw [← hl] at hne ⊢
    rw [zl]
    show _ ≤ f.count.has y
    rw [e9, fh]
    have := g.hs y hy (by rw [← hl]; exact hne)
    rw [← hl] at this
    have h2 : ((Lg ++ [b]).length : Int) = Lg.length + 1 := by rw [List.length_append, List.length_singleton]; rfl
    omega
  · rw [zn, ← hl, zl]
    show 0 ≤ f.count.idle ∧ f.count.idle ≤ 1
    rw [e5, fi]
    have := g.il
    rw [← hl] at this
    exact this
  · rw [zn] at hy hne ⊢
    rw [← hl] at hne ⊢
    rw [zo y hne, zl, zp]
    have := g.fi y hy (by rw [← hl]; exact hne)
    rw [← hl] at this
    obtain ⟨i1, i2, i3, i4⟩ := this
    refine ⟨i1, i2, i3, fun e0 => i4 ?_⟩
    have e0 : f.count.idle = 0 := e0
    rw [e5, fi] at e0
    exact e0
theorem Good.propTo {V : Int} {Lg : List Bs} {h K : Nat} {x : Gr} (g : Good V Lg h K x) {b : Bs} : ∀ j : Nat, j ≤ x.n → Vw.propTo b j (x, 0) = if lead V x.n ≤ j then (grDo x (lead V x.n) ((x.core (lead V x.n)).propose b).1 (-1), ((x.core (lead V x.n)).propose b).1.keep.log.length) else (x, 0)
  | 0, _ => by
    have := (lead_node g.n5.1 V).1
    rw [if_neg (by omega)]; rfl
  | j + 1, hj => by
    have ih := g.propTo (b := b) j (by omega)
    have hln := lead_node g.n5.1 V
    obtain ⟨p, hp⟩ : ∃ p, p = Vw.propTo b j (x, 0) := ⟨_, rfl⟩
    have e : Vw.propTo b (j + 1) (x, 0) = if (p.1.core ((j : Int) + 1)).leads = true ∧ p.2 = 0 then (grDo p.1 ((j : Int) + 1) ((p.1.core ((j : Int) + 1)).propose b).1 (-1), ((p.1.core ((j : Int) + 1)).propose b).1.keep.log.length) else p := by rw [hp]; rfl
    rw [e]
    rw [← hp] at ih
    have hy : node x.n ((j : Int) + 1) := ⟨by omega, by omega⟩
    by_cases h1 : lead V x.n ≤ (j : Int)
    · rw [if_pos h1] at ih
      have h3 : lead V x.n ≤ ((j + 1 : Nat) : Int) := by omega
      rw [if_pos h3, if_neg, ih]
      rintro ⟨h2, _⟩
      have hne : (j : Int) + 1 ≠ lead V x.n := by omega
      have e : p.1.core ((j : Int) + 1) = x.core ((j : Int) + 1) := by
        rw [ih]
        show (grDo x (lead V x.n) ((x.core (lead V x.n)).propose b).1 (-1)).core ((j : Int) + 1) = _
        unfold grDo
        rw [if_neg (by omega)]
        exact updI_other _ _ hne
      rw [e] at h2
      have h4 := (leads_is.1 h2).2
      rw [(g.all _ hy).1, (g.ok.mb hy).n, (g.ok.mb hy).me] at h4
      exact hne h4.symm
    · rw [if_neg h1] at ih
      rw [ih]
      by_cases h2 : lead V x.n = (j : Int) + 1
      · have b1 := g.ok.mb hln
        have hl : (x.core ((j : Int) + 1)).leads = true := by
          rw [← h2]
          exact leads_is.2 ⟨(g.all _ hln).2, by rw [(g.all _ hln).1, b1.n, b1.me]⟩
        have h3 : lead V x.n ≤ ((j + 1 : Nat) : Int) := by omega
        rw [if_pos ⟨hl, rfl⟩, if_pos h3, h2]
      · have h3 : ¬ lead V x.n ≤ ((j + 1 : Nat) : Int) := by omega
        rw [if_neg h3, if_neg]
        rintro ⟨h4, _⟩
        have h4 := (leads_is.1 h4).2
        rw [(g.all _ hy).1, (g.ok.mb hy).n, (g.ok.mb hy).me] at h4
        exact h2 h4
theorem Bd.clear {B : Int} {L : Nat} {k0 : Keep} {c : Core} (h : Bd B L k0 c) : KB B L c.clear.keep ∧ ∀ z m, c.clear.dos z = some m → m.list.length ≤ L := ⟨h.keep, h.dos⟩
/-- logs do not grow in the calm -/
theorem unit_bd {x : Gr} {K : Nat} (h : UH x K) (hm : x.mail = []) {B : Int} {L : Nat} (hb : BdG B L x) : BdG (B + 1) L (unit x) := by
  have hm4 : x.mail.length ≤ 4 := by rw [hm]; exact Nat.zero_le _
  have hx : ∀ m ∈ x.mail, InS x.n (vs x) m.view := fun m hh => by rw [hm] at hh; cases hh
  have htn : (tickTo x x.n).n = x.n := (h.d0 hm4 hx).1.nn
  have hb1 : BdG (B + 1) L x := hb.mono (by omega) (Nat.le_refl _)
  have bt : ∀ y, node x.n y → Bd (B + 1) L (x.core y).keep (x.core y).tick := fun y hy => (hb1.start h.ok hy).tick (by have := (hb.keep y hy).1.1; omega)
  obtain ⟨r1, r4, r2, r3⟩ := h.run hm4 hx (J := fun z => z.n = x.n ∧ BdG (B + 1) L z) ⟨htn, fun y hy => by
    rw [htn] at hy
    rw [h.core hm4 hy]
    exact (bt y hy).clear, fun m hmm => by
      rcases h.mail hm4 hmm with h1 | ⟨y, hy, h1⟩
      · rw [hm] at h1; cases h1
      · exact (bt y hy).msgs m h1⟩ fun z hz hJ m r hmr => by
        obtain ⟨d1, d2, d3, d4, d5, d6, hR⟩ := hz.deliver hmr
        have hmem : m ∈ z.mail := by rw [hmr]; exact List.mem_cons_self
        have g := hz.ok.mg hmem
        have bb := (hJ.2.start hz.ok g.to_).in_ m (hJ.2.mail m hmem)
        refine ⟨d3.trans hJ.1, fun y hy => ?_, fun q hq => ?_⟩
        · rw [d3] at hy
          rw [d5]
          by_cases e : y = m.to_
          · rw [e, updI_same]; exact bb.clear
          · rw [updI_other _ _ e]; exact hJ.2.keep y hy
        · rw [d6] at hq
          rcases List.mem_append.1 hq with hq | hq
          · exact hJ.2.mail q (by rw [hmr]; exact List.mem_cons_of_mem _ hq)
          · exact bb.msgs q hq
  exact r4.2.2
theorem Ub.bd {x : Gr} {K : Nat} {B : Int} (h : Ub x K B) {L : Nat} (hb : BdG B L x) : ∀ k : Nat, B + k < 1099511627776 → BdG (B + k) L (Vw.units x k)
  | 0, _ => hb.mono (by omega) (Nat.le_refl _)
  | k + 1, hk => by
    obtain ⟨g1, g2, g3⟩ := h.units k (by omega)
    have := unit_bd (g1.uh (by omega)) g1.mail (h.bd hb k (by omega))
    rw [show B + ((k + 1 : Nat) : Int) = B + (k : Int) + 1 by omega]
    exact this
/-- a member alone: behind a unit it stands as one that leads for good -/
theorem one_good {x : Gr} {K : Nat} (hI : GOk x K) (hn : x.n = 1) (hc : (x.core 1).ch = false) (hm : x.mail = []) (hid : 0 ≤ (x.core 1).idle) (hv : (x.core 1).keep.view < 1099511627776) (h : Nat) :
    UH x K ∧ Good (x.core 1).keep.view (x.core 1).keep.log h (K + 1) (unit x) ∧ (unit x).n = x.n ∧ (unit x).pat = x.pat := by
  have h1 : node x.n 1 := ⟨Int.le_refl _, by rw [hn]; exact Int.le_refl _⟩
  have only : ∀ y, node x.n y → y = 1 := fun y hy => by have := hy.1; have := hy.2; rw [hn] at this; omega
  have b := hI.mb h1
  have l1 : ∀ v, lead v x.n = 1 := fun v => by
    rw [hn]
    unfold lead
    rw [show max ((1 : Nat) : Int) 1 = 1 from rfl, Int.emod_one]
    rfl
  have hl : (x.core 1).leads = true := leads_is.2 ⟨hc, by rw [b.n, b.me]; exact l1 _⟩
  have u : UH x K := ⟨hI, by rw [hn]; omega, fun y hy => .inr (by rw [only y hy]; exact hl), fun y hy => by rw [only y hy]; exact hv⟩
  have hm4 : x.mail.length ≤ 4 := by rw [hm]; exact Nat.zero_le _
  have hx : ∀ m ∈ x.mail, InS x.n (vs x) m.view := fun m hh => by rw [hm] at hh; cases hh
  obtain ⟨g1, g2, g3, g4⟩ := unit_n u hm4 hx
  obtain ⟨r1, r4, r2, r3⟩ := u.run hm4 hx (J := fun z => z.core 1 = (x.core 1).tick.clear) (u.core hm4 h1) fun z hz hJ m r hmr => by
    exfalso
    have := (hz.ok.in_R (m := m) (by rw [hmr]; exact List.mem_cons_self)).1
    rw [hz.nn, hn] at this
    omega
  have hc1 : (unit x).core 1 = (x.core 1).tick.clear := r4.2
  obtain ⟨t1, t2, t3, t4, t5⟩ := tick_lead hl b.msgs
  have T := u.tk h1
  have hti : 0 ≤ (x.core 1).tick.idle ∧ (x.core 1).tick.idle ≤ 1 ∧ (x.core 1).tick.ch = false := by
    cases T with
    | lead l0 keep ch low high msgs =>
      by_cases e : (x.core 1).idle + 1 < 2
      · have := (low e).1; exact ⟨by omega, by omega, ch⟩
      · have := (high (by omega)).1; exact ⟨by omega, by omega, ch⟩
    | wait nlr t t2 keep ch idle msgs => rw [hl] at nlr; cases nlr
    | again ch t keep ch' idle msgs => rw [hc] at ch; cases ch
    | bgn ch view ch' idle ld msgs => rw [hc] at ch; cases ch
    | up nlr t view ch' idle begun dos starts msgs => rw [hl] at nlr; cases nlr
  refine ⟨u, ⟨g1, by rw [g2]; exact u.n5, hv, fun y hy => ?_, ?_, ?_, fun m hh => (by rw [g4] at hh; cases hh), by rw [g4]; exact Nat.zero_le _, fun y hy hne => ?_, ?_, fun y hy hne => ?_⟩, g2, g3⟩
  · rw [g2] at hy
    rw [only y hy, hc1]
    exact ⟨by show (x.core 1).tick.keep.view = _; rw [t1], hti.2.2⟩
  · rw [g2, l1, hc1]
    show (x.core 1).tick.keep.log = _
    rw [t1]
  · obtain ⟨⟨G, hG⟩, _⟩ := hI
    exact (hG.st 1 h1).keep.small.1
  · rw [g2] at hy hne
    exact absurd ((only y hy).trans (l1 _).symm) hne
  · rw [g2, l1, hc1]
    exact ⟨hti.1, hti.2.1⟩
  · rw [g2] at hy hne
    exact absurd ((only y hy).trans (l1 _).symm) hne
/-- behind S units all is in order, and each step so far was safe -/
theorem reach_all {x : Gr} {K : Nat} (hI : GrI x K) (hK : K ≤ 250) (hB : BdG 250 250 x) (hid : ∀ y, node x.n y → 0 ≤ (x.core y).idle) (h1 : x.n = 1 → (x.core 1).ch = false) (hm : x.mail = []) (hp : x.pat ≤ 16) {S : Nat} (hS : (S : Int) = 40 * x.n + 20 * x.pat) :
    (∀ u, u ≤ S → Safe (units x u) 1000 ∧ (units x u).n = x.n ∧ (units x u).pat = x.pat) ∧ (units x (S + 1)).n = x.n ∧ (units x (S + 1)).pat = x.pat ∧ (units x (S + 1)).mail = [] ∧ ∃ V Lg h, Good V Lg h 800 (units x (S + 1)) ∧ Lg.length ≤ 250 ∧ Lg.length ≤ h := by
  have hn := hI.2.2.2.1
  have hp1 := hI.2.2.2.2.1
  have hok : GOk x K := ⟨hI.1, hI.2.1⟩
  have gmono : ∀ {V : Int} {Lg : List Bs} {h K K' : Nat} {z : Gr}, Good V Lg h K z → K ≤ K' → Good V Lg h K' z := fun g hk => ⟨g.ok.mono hk, g.n5, g.top, g.all, g.lg, g.lgs, g.mail, g.few, g.hs, g.il, g.fi⟩
  by_cases h2 : x.n = 1
  · have hn1 : node x.n 1 := ⟨Int.le_refl _, by rw [h2]; exact Int.le_refl _⟩
    obtain ⟨u, g, gn, gp⟩ := one_good hok h2 (h1 h2) hm (hid 1 hn1) (by have := (hB.keep 1 hn1).1.1; omega) (x.core 1).keep.log.length
    have e : ∀ j, units x (1 + j) = units (unit x) j := fun j => units_add x 1 j
    refine ⟨fun w hw => ?_, ?_⟩
    · by_cases w0 : w = 0
      · subst w0
        exact ⟨u.safe (by show x.mail.length ≤ 4; rw [hm]; exact Nat.zero_le _) (fun m hh => by rw [hm] at hh; cases hh) ⟨hp1, hp⟩ (by omega) (by omega), rfl, rfl⟩
      · obtain ⟨a, q1, q2, q3, q4, _⟩ := g.more (w - 1)
        rw [← e, show 1 + (w - 1) = w by omega] at q1 q3 q4
        exact ⟨q1.safe (by rw [q4, gp]; exact ⟨hp1, hp⟩) (by omega), q3.trans gn, q4.trans gp⟩
    · obtain ⟨a, q1, q2, q3, q4, q5⟩ := g.more S
      rw [← e, show 1 + S = S + 1 by omega] at q1 q3 q4 q5
      exact ⟨q3.trans gn, q4.trans gp, q5 (by omega), _, _, _, gmono (q1.fewer (h' := (x.core 1).keep.log.length) (.inl (by omega))) (by omega), (hB.keep 1 hn1).1.2, Nat.le_refl _⟩
  · have ub : Ub x K 250 := ⟨hok, by omega, hm, fun y hy => (hB.keep y hy).1.1, hid, hp1⟩
    obtain ⟨i, V, hi, hs, hg⟩ := reach_good ub hp (by omega)
    obtain ⟨g1, g2, g3⟩ := ub.units i (by omega)
    have gb := ub.bd hB i (by omega)
    have hln : node x.n (lead V x.n) := lead_node hn.1 V
    have hln' : node (units x i).n (lead V x.n) := by rw [g2]; exact hln
    obtain ⟨Lg, hLg⟩ : ∃ Lg, Lg = ((units x i).core (lead V x.n)).keep.log := ⟨_, rfl⟩
    have hLl : Lg.length ≤ 250 := by rw [hLg]; exact (gb.keep _ hln').1.2
    have good : Good V Lg 0 (K + i) (units x i) := by
      refine ⟨g1.ok, by rw [g2]; exact hn, ?_, fun y hy => ⟨(hs y hy).1, (hs y hy).2.1⟩, by rw [g2, hLg], by omega, fun m hh => (by rw [g1.mail] at hh; cases hh), by rw [g1.mail]; exact Nat.zero_le _, fun y hy hne => ?_, ?_, fun y hy hne => ?_⟩
      · have := g1.top _ hln'
        rw [(hs _ hln').1] at this
        omega
      · rw [g2]
        obtain ⟨⟨G, hG⟩, _⟩ := g1.ok
        have := (hG.st _ hln').has0 y
        omega
      · rw [g2, (hs _ hln').2.2]; omega
      · rw [g2] at hne ⊢
        rw [g3, (hs y hy).2.2]
        exact ⟨hg y (by rw [← g2]; exact hy) hne, by omega, by omega, fun _ => rfl⟩
    refine ⟨fun w hw => ?_, ?_⟩
    · obtain ⟨f1, f2, f3⟩ := ub.units w (by omega)
      exact ⟨(f1.uh (by omega)).safe (by rw [f1.mail]; exact Nat.zero_le _) (fun m hh => by rw [f1.mail] at hh; cases hh) (by rw [f3]; exact ⟨hp1, hp⟩) (by omega) (by omega), f2, f3⟩
    · obtain ⟨a, q1, q2, q3, q4, q5⟩ := good.more (S + 1 - i)
      rw [← units_add, show i + (S + 1 - i) = S + 1 by omega] at q1 q2 q3 q4 q5
      have il := q1.il
      rw [g2] at q2
      rw [q3, g2] at il
      have ha : 32 ≤ a := by omega
      exact ⟨q3.trans g2, q4.trans g3, q5 (by omega), _, _, _, gmono q1 (by omega), hLl, by omega⟩
/-- what the law looks at -/
structure GoesOk (x : Gr) (b : Bs) (S : Nat) : Prop where
  safe : ∀ u, u ≤ S + 20 → Safe (goes S b x u).1 1000 ∧ (goes S b x u).1.n = x.n ∧ (goes S b x u).1.pat = x.pat
  zero : (goes S b x S).2 = 0
  prop : ∀ j, j ≤ x.n → GrI (propTo b j (unit (goes S b x S).1, 0)).1 1000
  code : ∀ j : Nat, j < x.n → ((propTo b j (unit (goes S b x S).1, 0)).1.core ((j : Int) + 1)).leads = true → (propTo b j (unit (goes S b x S).1, 0)).2 = 0 → (((propTo b j (unit (goes S b x S).1, 0)).1.core ((j : Int) + 1)).propose b).2 = 0
  at_ : (goes S b x (S + 21)).2 ≠ 0 ∧ (goes S b x (S + 21)).2 ≤ 2000
  sure : (goes S b x (S + 21)).1.sure[(goes S b x (S + 21)).2 - 1]? = some b
  told : ∀ y, node x.n y → (goes S b x (S + 21)).2 ≤ ((goes S b x (S + 21)).1.core y).commit
  fin : GrI (goes S b x (S + 21)).1 1000
  mid : ∀ u, u ≤ S + 20 → GrI (goes S b x u).1 1000
theorem Good.gri {V : Int} {Lg : List Bs} {h K K' : Nat} {x : Gr} (g : Good V Lg h K x) (hp : 1 ≤ x.pat ∧ x.pat ≤ 16) (hK : K ≤ K') (h1 : 1 ≤ K') : GrI x K' := by
  obtain ⟨h5, h6⟩ := g.ok.mono hK
  refine ⟨h5, h6, ?_, g.n5, by omega⟩
  have := Nat.mul_le_mul_left 40000 h1
  have := g.few
  omega
theorem goes_all {x : Gr} {K : Nat} (hI : GrI x K) (hK : K ≤ 250) (hB : BdG 250 250 x) (hid : ∀ y, node x.n y → 0 ≤ (x.core y).idle) (h1 : x.n = 1 → (x.core 1).ch = false) (hm : x.mail = []) (hp : x.pat ≤ 16) {S : Nat} (hS : (S : Int) = 40 * x.n + 20 * x.pat) {b : Bs} (hb : b.length ≤ 4000) : GoesOk x b S := by
  have hn := hI.2.2.2.1
  have hp1 := hI.2.2.2.2.1
  obtain ⟨a1, a2, a3, a4, V, Lg, h, g, hL, hLh⟩ := reach_all hI hK hB hid h1 hm hp hS
  obtain ⟨z, hz⟩ : ∃ z, z = units x (S + 1) := ⟨_, rfl⟩
  rw [← hz] at a2 a3 a4 g
  have ez : unit (goes S b x S).1 = z := by rw [goes_low S b x S (Nat.le_refl _), hz, units_succ]
  have gS : (goes S b x S).2 = 0 := by rw [goes_low S b x S (Nat.le_refl _)]
  obtain ⟨l, hl⟩ : ∃ l, l = lead V z.n := ⟨_, rfl⟩
  have hln : node z.n l := by rw [hl]; exact lead_node g.n5.1 V
  obtain ⟨p1, p2, p3, p4, p5⟩ := g.propose a4 hLh (by omega) hb hl
  obtain ⟨z', hz'⟩ : ∃ z', z' = grDo z l ((z.core l).propose b).1 (-1) := ⟨_, rfl⟩
  have hpt := fun j hj => g.propTo (b := b) j hj
  rw [← hl] at hpt
  rw [← hz'] at p3 p4 p5 hpt
  have hlen : ((z.core l).propose b).1.keep.log.length = Lg.length + 1 := by rw [p2, List.length_append]; rfl
  rw [hlen] at hpt
  have go1 : goes S b x (S + 1) = (z', Lg.length + 1) := by
    rw [goes_succ, if_pos rfl, ez, gS, ← a2, hpt z.n (Nat.le_refl _), if_pos hln.2]
  have hi := goes_high S b x go1
  have gz : GrI z 1000 := g.gri (by rw [a3]; exact ⟨hp1, hp⟩) (by omega) (by omega)
  have gz' : GrI z' 1000 := p3.gri (by rw [p5, a3]; exact ⟨hp1, hp⟩) (by omega) (by omega)
  have lo : ∀ u, u ≤ S → (goes S b x u).1 = units x u := fun u hu => by rw [goes_low S b x u hu]
  have hgh : ∀ u, S < u → goes S b x u = (units z' (u - (S + 1)), Lg.length + 1) := fun u hu => by
    have := hi (u - (S + 1))
    rw [show S + 1 + (u - (S + 1)) = u by omega] at this
    exact this
  have gm : ∀ j, ∃ a, Good V (Lg ++ [b]) (Lg.length + 8 * a) (801 + j) (units z' j) ∧ (units z' j).n = x.n ∧ (units z' j).pat = x.pat := fun j => by
    obtain ⟨a, q1, q2, q3, q4, _⟩ := p3.more j
    exact ⟨a, q1, q3.trans (p4.trans a2), q4.trans (p5.trans a3)⟩
  obtain ⟨aF, qF, nF, pF⟩ := gm 20
  have hF : goes S b x (S + 21) = (units z' 20, Lg.length + 1) := by
    have := hgh (S + 21) (by omega)
    rw [show S + 21 - (S + 1) = 20 by omega] at this
    exact this
  have hdone := p3.done (by rw [List.length_append, List.length_singleton]; exact Nat.le_refl _) (k := 20) (by omega)
  have hll : (Lg ++ [b]).length = Lg.length + 1 := by rw [List.length_append, List.length_singleton]
  rw [hll] at hdone
  refine ⟨fun u hu => ?_, gS, fun j hj => ?_, fun j hj hld h0 => ?_, ?_, ?_, fun y hy => ?_, ?_, fun u hu => ?_⟩
  · by_cases e : u ≤ S
    · rw [lo u e]; exact a1 u e
    · rw [hgh u (by omega)]
      obtain ⟨a, q1, q2, q3⟩ := gm (u - (S + 1))
      exact ⟨q1.safe (by rw [q3]; exact ⟨hp1, hp⟩) (by omega), q2, q3⟩
  · rw [ez, hpt j (by rw [a2]; exact hj)]
    split
    · exact gz'
    · exact gz
  · rw [ez, hpt j (by rw [a2]; omega)] at hld h0 ⊢
    by_cases e : l ≤ (j : Int)
    · rw [if_pos e] at h0; simp at h0
    · rw [if_neg e] at hld ⊢
      have hy : node z.n ((j : Int) + 1) := ⟨by omega, by rw [a2]; omega⟩
      have h4 := (leads_is.1 hld).2
      show ((z.core ((j : Int) + 1)).propose b).2 = 0
      have h4 : lead (z.core ((j : Int) + 1)).keep.view (z.core ((j : Int) + 1)).n = (z.core ((j : Int) + 1)).me := h4
      rw [(g.all _ hy).1, (g.ok.mb hy).n, (g.ok.mb hy).me, ← hl] at h4
      rw [← h4]; exact p1
  · rw [hF]
    exact ⟨by simp, by show Lg.length + 1 ≤ 2000; omega⟩
  · rw [hF]
    show (units z' 20).sure[Lg.length + 1 - 1]? = some b
    have hlF : node (units z' 20).n (lead V (units z' 20).n) := lead_node qF.n5.1 V
    obtain ⟨⟨G, hG⟩, _⟩ := qF.ok
    have hcm := hdone (lead V (units z' 20).n) (by rw [p4, a2, ← nF]; exact hlF)
    have st := hG.st _ hlF
    have hco := hG.com _ hlF
    obtain ⟨N, m, s1, s2⟩ := hG.sure
    have e := cm_same hG.gi st.cm s1 hco
    rw [qF.lg] at e
    have e2 := congrArg (fun q => q[Lg.length]?) e
    simp only [List.getElem?_take] at e2
    rw [if_pos (by omega), if_pos (by omega)] at e2
    rw [s2, List.getElem?_take, show Lg.length + 1 - 1 = Lg.length by omega, if_pos (by omega), ← e2]
    simp
  · rw [hF]
    exact hdone y (by rw [p4, a2]; exact hy)
  · rw [hF]
    exact qF.gri (by rw [pF]; exact ⟨hp1, hp⟩) (by omega) (by omega)
  · by_cases e : u ≤ S
    · rw [lo u e]
      exact (a1 u e).1.ticks 0 (Nat.zero_le _)
    · rw [hgh u (by omega)]
      obtain ⟨a, q1, q2, q3⟩ := gm (u - (S + 1))
      exact q1.gri (by rw [q3]; exact ⟨hp1, hp⟩) (by omega) (by omega)
end Vw
end Go.Proofs.Ytmmgnbdngpkfcaa

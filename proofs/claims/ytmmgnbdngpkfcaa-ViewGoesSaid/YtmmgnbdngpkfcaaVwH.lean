/-
  A member's small functions, walked: whether it leads, what is most, how many are done, what is to be done is taken.
-/
import Derived.Test.YtmmgnbdngpkfcaaVwE
namespace Go.Proofs.Ytmmgnbdngpkfcaa
open Go.RowKit
set_option linter.unusedVariables false

theorem vw_Leads {M : Col} {g : Nat} {c : Vw.Core} (w : World) (h : VwAt M w g c) :
    Calls Try.prog 60 #[.pointer (some ⟨g, 0, none⟩)] w fun e w' => e = .returned (.bool c.leads) ∧ Below w.heap.size w w' := by
  obtain ⟨L, h⟩ := h
  have y0 := h.c0
  have y1 := h.c1
  have y5 := h.c5
  have y8 := h.c8
  have hv := h.right.view
  have hn := h.right.n
  have hL := vw_Leader c.keep.view c.n w.drew hv.1 ⟨hn.1, by omega⟩
  have HL := Lib.hid hL
  obtain ⟨ld, hld⟩ : ∃ ld, ld = Vw.lead c.keep.view c.n := ⟨_, rfl⟩
  have hb : c.leads = (!c.ch && decide (ld = c.me)) := by rw [hld]; rfl
  rw [hb]
  rw [← hld] at HL
  have Hb : RowKit.Hid (Below w.heap.size w w.drew) := Lib.hid (Below.refl _ w).drew
  clear hb hL hv hn hld h
  obtain ⟨ch, hch⟩ : ∃ b, b = c.ch := ⟨_, rfl⟩
  rw [← hch] at y8 ⊢
  clear hch
  cases ch with
  | true =>
    go_enter Try.func60, Try.ntmps60
    go_wp2_with fail
    go_region
    go_wp2_with fail
    go_ret
    exact ⟨rfl, Hb.out⟩
  | false =>
    go_enter Try.func60, Try.ntmps60
    go_wp2_with fail
    go_region_held3 (fun W => W.cell? ⟨g, 0, none⟩ = some (.int .i64 c.me) ∧ W.cell? ⟨g, 1, none⟩ = some (.int .i64 c.n) ∧ W.cell? ⟨g, 5, none⟩ = some (.int .i64 c.keep.view) ∧ W.cell? ⟨g, 8, none⟩ = some (.bool false))
      (first | go_keep)
      ((go_at_call 63; refine HL.out.mono ?_; rintro e w4 ⟨rfl, rfl⟩))
    go_wp2_with fail
    go_ret
    exact ⟨rfl, Hb.out⟩
theorem vw_most {M : Col} {g : Nat} {c : Vw.Core} (w : World) (h : VwAt M w g c) (k : Nat) (hk : k ≤ 1000000) :
    Calls Try.prog 135 #[.pointer (some ⟨g, 0, none⟩), .int .i64 k] w fun e w' => e = .returned (.bool (c.most k)) ∧ w = w' := by
  obtain ⟨L, h⟩ := h
  have y1 := h.c1
  have hm : IntKind.i64.wrap (2 * (k : Int)) = 2 * (k : Int) := IntWalk.i64_in _ (by omega)
  have hb : c.most k = decide ((c.n : Int) < 2 * (k : Int)) := by
    unfold Vw.Core.most
    by_cases hh : c.n < 2 * k
    · rw [decide_eq_true hh, decide_eq_true (by omega)]
    · rw [decide_eq_false hh, decide_eq_false (by omega)]
  have Hb := Lib.hid hb
  clear h hb
  go_enter Try.func135, Try.ntmps135
  go_wp2_with fail
  go_ret
  exact ⟨by rw [Hb.out]; rfl, rfl⟩
theorem vw_Commit {M : Col} {g : Nat} {c : Vw.Core} (w : World) (h : VwAt M w g c) :
    Calls Try.prog 59 #[.pointer (some ⟨g, 0, none⟩)] w fun e w' => e = .returned (.int .i64 c.commit) ∧ w = w' := by
  obtain ⟨L, h⟩ := h
  have y9 := h.c9
  clear h
  go_enter Try.func59, Try.ntmps59
  go_wp2_with fail
  go_ret
  exact ⟨rfl, rfl⟩
/-- what is to be done, as a value -/
def OutV (M : Col) (w : World) (rs : List Vw.Rc) (ms : List Vw.Msg) (ds : List Vw.Bs) (v : Value) : Prop :=
  ∃ a1 c1 a2 c2 a3 c3, v = .agg #[.slice a1 rs.length c1, .slice a2 ms.length c2, .slice a3 ds.length c3] ∧ ((rs.length ≤ c1 ∧ c1 ≤ maxLen) ∧ Sl ERec (Im M) w a1 rs) ∧ ((ms.length ≤ c2 ∧ c2 ≤ maxLen) ∧ Sl EMsg (Im M) w a2 ms) ∧ ((ds.length ≤ c3 ∧ c3 ≤ maxLen) ∧ Sl EBytes (Im M) w a3 ds)
def TakeTo (M : Col) (w w' : World) (g : Nat) (c : Vw.Core) (v : Value) : Prop := ∃ M', VwAt M' w' g c.clear ∧ Fr M w M' w' ∧ OutV M' w' c.recs c.msgs c.done v
theorem OutV.nil (M : Col) (w : World) : OutV M w [] [] [] (.agg #[.slice none 0 0, .slice none 0 0, .slice none 0 0]) :=
  ⟨none, 0, none, 0, none, 0, rfl, ⟨⟨Nat.le_refl _, Nat.zero_le _⟩, Sl.nil _ _ _ _⟩, ⟨⟨Nat.le_refl _, Nat.zero_le _⟩, Sl.nil _ _ _ _⟩, ⟨⟨Nat.le_refl _, Nat.zero_le _⟩, Sl.nil _ _ _ _⟩⟩
theorem OutV.below {M : Col} {w w1 : World} {rs : List Vw.Rc} {ms : List Vw.Msg} {ds : List Vw.Bs} {v : Value} (h : OutV M w rs ms ds v) (hb : Below w.heap.size w w1) : OutV M w1 rs ms ds v := by
  obtain ⟨a1, c1, a2, c2, a3, c3, e, ⟨h1, s1⟩, ⟨h2, s2⟩, ⟨h3, s3⟩⟩ := h
  exact ⟨a1, c1, a2, c2, a3, c3, e, ⟨h1, s1.below (by decide) hb⟩, ⟨h2, s2.below (by decide) hb⟩, ⟨h3, s3.below (by decide) hb⟩⟩
theorem OutV.fr {M M1 : Col} {w w1 : World} {rs : List Vw.Rc} {ms : List Vw.Msg} {ds : List Vw.Bs} {v : Value} (h : OutV M w rs ms ds v) (f : Fr M w M1 w1) : OutV M1 w1 rs ms ds v := by
  obtain ⟨a1, c1, a2, c2, a3, c3, e, ⟨h1, s1⟩, ⟨h2, s2⟩, ⟨h3, s3⟩⟩ := h
  exact ⟨a1, c1, a2, c2, a3, c3, e, ⟨h1, s1.fr (by decide) f⟩, ⟨h2, s2.fr (by decide) f⟩, ⟨h3, s3.fr (by decide) f⟩⟩
theorem take_fold {M : Col} {w w1 : World} {g : Nat} {c : Vw.Core} {L : Lo} (h : VwL M w g c L) (ho : Only (· = g) w w1) (hr : w1.heap[g]? = some (.cells (coreRow c.clear { L with rv := .slice none 0 0, mv := .slice none 0 0, dv := .slice none 0 0 }) 164 (0, 0))) :
    ∃ M1, VwAt M1 w1 g c.clear ∧ Fr M w M1 w1 ∧ OutV M1 w1 c.recs c.msgs c.done (.agg #[L.rv, L.mv, L.dv]) := by
  obtain ⟨M1, hM1⟩ : ∃ M1 : Col, M1 = fun k => if M k = 5 ∨ M k = 6 ∨ M k = 7 then 0 else M k := ⟨_, rfl⟩
  have hMk : ∀ k, M k ≠ 5 → M k ≠ 6 → M k ≠ 7 → M1 k = M k := fun k h5 h6 h7 => by rw [hM1]; simp [h5, h6, h7]
  have hM0 : ∀ k, M k = 5 ∨ M k = 6 ∨ M k = 7 → M1 k = 0 := fun k hk => by rw [hM1]; simp [hk]
  have hF1 : ∀ k, M k = 0 → M1 k = 0 := fun k hk => by rw [hMk k (by omega) (by omega) (by omega)]; exact hk
  have hkeep : ∀ k, M k ≠ 1 → k < w.heap.size → w1.heap[k]? = w.heap[k]? := fun k hk hlt => ho.block k hlt fun e => hk (by rw [e]; exact h.gc)
  have fr : Fr M w M1 w1 := ⟨ho.mono fun k hk => by rw [hk]; show 1 ≤ M g ∧ M g ≤ 7; rw [h.gc]; decide, fun k _ hk => hMk k (fun e => hk ⟨by omega, by omega⟩) (fun e => hk ⟨by omega, by omega⟩) (fun e => hk ⟨by omega, by omega⟩)⟩
  obtain ⟨f, h1, h2, h3⟩ := h.p.has
  obtain ⟨fd, d1, d2⟩ := h.p.dos
  have out : ∀ {α : Type} {i : Nat} {E : Enc α} {te : TypeId} {v : Value} {l : List α}, (i = 5 ∨ i = 6 ∨ i = 7) → 0 < E.sz → OwnV M i E te w v l → ∃ a cp, v = .slice a l.length cp ∧ (l.length ≤ cp ∧ cp ≤ maxLen) ∧ Sl E (Im M1) w1 a l := by
    intro α i E te v l hi hs ho
    rcases ho with ⟨rfl, rfl⟩ | ⟨b, cap, cur, rfl, hb, hh, q1, q2, q3, q4⟩
    · exact ⟨none, 0, rfl, ⟨Nat.le_refl _, Nat.zero_le _⟩, Sl.nil _ _ _ _⟩
    · have hb1 : w1.heap[b]? = _ := (hkeep b (by omega) (Array.getElem?_eq_some_iff.1 hh).1).trans hh
      refine ⟨some ⟨b, 0, none⟩, cap, rfl, ⟨q1, q2⟩, fun k x hx => ?_⟩
      obtain ⟨cs, hr, hc⟩ := q4 k x hx
      refine ⟨b, 0, rfl, hM0 b (by omega), cs, E.mono hr fun b2 hb2 hlt => ⟨fr.block hlt hb2, hF1 b2 hb2⟩, fun j v hj => ?_⟩
      have := hc j v hj
      simp [World.cell?, hb1, this]
  obtain ⟨a1, c1, e1, b1, s1⟩ := out (.inl rfl) (by decide) h.p.recs
  obtain ⟨a2, c2, e2, b2, s2⟩ := out (.inr (.inl rfl)) (by decide) h.p.msgs
  obtain ⟨a3, c3, e3, b3, s3⟩ := out (.inr (.inr rfl)) (by decide) h.p.done
  refine ⟨M1, ⟨_, hr, by rw [hMk g (by rw [h.gc]; decide) (by rw [h.gc]; decide) (by rw [h.gc]; decide)]; exact h.gc, ⟨fun k hk => ?_, h.p.lc, h.p.log.fr (by decide) fr, ?_, ⟨f, h1.keep (hkeep _ (by rw [h.p.hc]; decide) h1.lt), h2, h3⟩, ?_, h.p.begun.keep (hkeep _ (by rw [h.p.bc]; decide) h.p.begun.lt), ?_, ⟨fd, d1.keep (hkeep _ (by rw [h.p.dc]; decide) d1.lt), fun z => (d2 z).mono fun k hk hlt => ⟨fr.block hlt hk, hF1 k hk⟩⟩, OwnV.nil _ _ _ _ _, OwnV.nil _ _ _ _ _, OwnV.nil _ _ _ _ _⟩,
    ⟨h.right.n, h.right.me, h.right.pat, h.right.view, h.right.log, h.right.commit, h.right.idle, h.right.begun, h.right.dos, h.right.has⟩⟩, fr, ⟨a1, c1, a2, c2, a3, c3, by rw [e1, e2, e3], ⟨b1, s1⟩, ⟨b2, s2⟩, ⟨b3, s3⟩⟩⟩
  · have : M k ≠ 0 := fun e => hk (hF1 k e)
    exact Nat.lt_of_lt_of_le (h.p.dom k this) ho.size
  · rw [hMk _ (by rw [h.p.hc]; decide) (by rw [h.p.hc]; decide) (by rw [h.p.hc]; decide)]; exact h.p.hc
  · rw [hMk _ (by rw [h.p.bc]; decide) (by rw [h.p.bc]; decide) (by rw [h.p.bc]; decide)]; exact h.p.bc
  · rw [hMk _ (by rw [h.p.dc]; decide) (by rw [h.p.dc]; decide) (by rw [h.p.dc]; decide)]; exact h.p.dc
set_option maxHeartbeats 3200000 in
theorem vw_take {M : Col} {g : Nat} {c : Vw.Core} (w : World) (h : VwAt M w g c) :
    Calls Try.prog 98 #[.pointer (some ⟨g, 0, none⟩)] w fun e w' => ∃ v1 v2 v3, e = .returned (.agg #[v1, v2, v3]) ∧ TakeTo M w w' g c (.agg #[v1, v2, v3]) := by
  obtain ⟨L, h⟩ := h
  obtain ⟨w1, hw1⟩ : ∃ x, x = w.alloc (.cells #[.slice none 0 0, .slice none 0 0, .slice none 0 0] 107) := ⟨_, rfl⟩
  have hb1 : Below w.heap.size w w1 := by rw [hw1]; exact alloc_below _ _
  have h1 := h.below hb1
  obtain ⟨q, hq⟩ : ∃ q, q = w.heap.size := ⟨_, rfl⟩
  have hh1 : w1.heap[q]? = some (.cells #[.slice none 0 0, .slice none 0 0, .slice none 0 0] 107 (0, 0)) := by rw [hw1, hq]; exact heap_alloc_new w _
  have hz1 : w1.heap.size = q + 1 := by rw [hw1, hq]; simp
  obtain ⟨r1, rn1, rc1, hr1⟩ := h1.p.recs.shape'
  obtain ⟨r2, rn2, rc2, hr2⟩ := h1.p.msgs.shape'
  obtain ⟨r3, rn3, rc3, hr3⟩ := h1.p.done.shape'
  have y14 : w1.cell? ⟨g, 14, none⟩ = some (.slice r1 rn1 rc1) := by rw [← hr1]; exact h1.c14
  have y15 : w1.cell? ⟨g, 15, none⟩ = some (.slice r2 rn2 rc2) := by rw [← hr2]; exact h1.c15
  have y16 : w1.cell? ⟨g, 16, none⟩ = some (.slice r3 rn3 rc3) := by rw [← hr3]; exact h1.c16
  have Hw1 := Lib.hid hw1.symm
  have Hq := Lib.hid hq.symm
  have H := Lib.hid h
  have H1 := Lib.hid h1
  have Hh1 := Lib.hid hh1
  have Hz1 := Lib.hid hz1
  have Hb1 := Lib.hid hb1
  have Hr := Lib.hid (And.intro hr1 (And.intro hr2 hr3))
  have hgq : g < q := by rw [hq]; exact h.lt
  clear hw1 hq h h1 hh1 hz1 hb1 hr1 hr2 hr3
  go_enter Try.func98, Try.ntmps98
  go_upto_region 1 with fail
  rw [Hw1.out, Hq.out]
  go_upto_region 2 with fail
  obtain ⟨w2, hw2⟩ : ∃ x, x = w1.alloc (.cells #[.slice r1 rn1 rc1, .slice r2 rn2 rc2, .slice r3 rn3 rc3] 107) := ⟨_, rfl⟩
  have hh2 : w2.heap[w1.heap.size]? = some (.cells #[.slice r1 rn1 rc1, .slice r2 rn2 rc2, .slice r3 rn3 rc3] 107 (0, 0)) := by rw [hw2]; exact heap_alloc_new w1 _
  have hb2 : Below w1.heap.size w1 w2 := by rw [hw2]; exact alloc_below w1 _
  rw [← hw2]
  obtain ⟨p, hp⟩ : ∃ p, p = w1.heap.size := ⟨_, rfl⟩
  rw [← hp] at hh2 ⊢
  have h2 := H1.out.below hb2
  have hq2 : w2.heap[q]? = _ := (hb2.block q (by rw [Hz1.out]; omega)).trans Hh1.out
  have hpq : p = q + 1 := by rw [hp, Hz1.out]
  have z14 : w2.cell? ⟨g, 14, none⟩ = some (.slice r1 rn1 rc1) := cell_thru y14 hb2
  have z15 : w2.cell? ⟨g, 15, none⟩ = some (.slice r2 rn2 rc2) := cell_thru y15 hb2
  have z16 : w2.cell? ⟨g, 16, none⟩ = some (.slice r3 rn3 rc3) := cell_thru y16 hb2
  have zf := h2.fz
  have H2 := Lib.hid h2
  have Hb2 := Lib.hid hb2
  have Hh2 := Lib.hid hh2
  have Hq2 := Lib.hid hq2
  have Hp := Lib.hid hpq
  clear hw2 hb2 hh2 hq2 h2 hp hpq y14 y15 y16
  go_upto_region 3 with fail
  obtain ⟨w3, hw3⟩ : ∃ x, x = ((w2.setCell ⟨g, 14, none⟩ (.slice none 0 0)).setCell ⟨g, 15, none⟩ (.slice none 0 0)).setCell ⟨g, 16, none⟩ (.slice none 0 0) := ⟨_, rfl⟩
  have ho3 : Only (· = g) w2 w3 := by rw [hw3]; exact setg (S := (· = g)) (setg (S := (· = g)) (setg (S := (· = g)) (Only.refl _ w2) rfl 14 _) rfl 15 _) rfl 16 _
  have hr3 : w3.heap[g]? = some (.cells (coreRow c.clear { L with rv := .slice none 0 0, mv := .slice none 0 0, dv := .slice none 0 0 }) 164 (0, 0)) := by rw [hw3, heap_set (heap_set (heap_set H2.out.row 14 _) 15 _) 16 _]; rfl
  rw [← hw3]
  have hp3 : w3.heap[p]? = _ := (ho3.block p (Array.getElem?_eq_some_iff.1 Hh2.out).1 (by have := Hp.out; omega)).trans Hh2.out
  have hq3 : w3.heap[q]? = _ := (ho3.block q (Array.getElem?_eq_some_iff.1 Hq2.out).1 (by omega)).trans Hq2.out
  have p0 : w3.cell? ⟨p, 0, none⟩ = some (.slice r1 rn1 rc1) := by simp [World.cell?, hp3]
  have p1 : w3.cell? ⟨p, 1, none⟩ = some (.slice r2 rn2 rc2) := by simp [World.cell?, hp3]
  have p2 : w3.cell? ⟨p, 2, none⟩ = some (.slice r3 rn3 rc3) := by simp [World.cell?, hp3]
  have q0 : w3.cell? ⟨q, 0, none⟩ = some (.slice none 0 0) := by simp [World.cell?, hq3]
  have q1 : w3.cell? ⟨q, 1, none⟩ = some (.slice none 0 0) := by simp [World.cell?, hq3]
  have q2 : w3.cell? ⟨q, 2, none⟩ = some (.slice none 0 0) := by simp [World.cell?, hq3]
  have qf : ∀ o, w3.frozen? ⟨q, o, none⟩ = false := fun o => by simp [World.frozen?, hq3]
  have hfin : ∀ W, W = (((w3.setCell ⟨q, 0, none⟩ (.slice r1 rn1 rc1)).setCell ⟨q, 1, none⟩ (.slice r2 rn2 rc2)).setCell ⟨q, 2, none⟩ (.slice r3 rn3 rc3)) → W.heap[q]? = some (.cells #[.slice r1 rn1 rc1, .slice r2 rn2 rc2, .slice r3 rn3 rc3] 107 (0, 0)) ∧ TakeTo M w W g c (.agg #[.slice r1 rn1 rc1, .slice r2 rn2 rc2, .slice r3 rn3 rc3]) := by
    rintro W rfl
    refine ⟨by rw [heap_set (heap_set (heap_set hq3 0 _) 1 _) 2 _]; rfl, ?_⟩
    have oq : Only (· = q) w3 _ := setg (S := (· = q)) (setg (S := (· = q)) (setg (S := (· = q)) (Only.refl _ w3) rfl 0 (.slice r1 rn1 rc1)) rfl 1 (.slice r2 rn2 rc2)) rfl 2 (.slice r3 rn3 rc3)
    have o12 : Only (· = g) w w2 := (Below.only Hb1.out).trans (Below.only (S := fun _ => False) Hb2.out) fun _ _ h => h.elim
    have oall := (o12.trans ho3 fun _ _ h => h).trans oq fun k hk e => by rw [e, ← Hq.out] at hk; exact absurd hk (Nat.lt_irrefl _)
    have rall := (oq.block g (by have := ho3.size; have := (Array.getElem?_eq_some_iff.1 Hq2.out).1; omega) (by omega)).trans hr3
    obtain ⟨M3, v3, f3, o3⟩ := take_fold H.out oall rall
    rw [Hr.out.1, Hr.out.2.1, Hr.out.2.2] at o3
    exact ⟨M3, v3, f3, o3⟩
  have Hfin := Lib.hid hfin
  clear hfin hp3 hq3 hr3 ho3 hw3
  go_wp2_with fail
  obtain ⟨f1, f2⟩ := Hfin.out _ rfl
  refine bodyPost_ret (v := .agg #[.slice r1 rn1 rc1, .slice r2 rn2 rc2, .slice r3 rn3 rc3]) (results_cell_row Try.results98 _ _ q 107 _ (0, 0) _ rfl f1 Try.underlying107 rfl (by kernel_rfl)) rfl ?_
  exact ⟨_, _, _, rfl, f2⟩
end Go.Proofs.Ytmmgnbdngpkfcaa

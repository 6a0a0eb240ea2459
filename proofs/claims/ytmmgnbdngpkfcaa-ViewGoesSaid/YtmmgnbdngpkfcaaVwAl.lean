/-
  A member tells all others, walked.
-/
import Derived.Test.YtmmgnbdngpkfcaaVwN
namespace Go.Proofs.Ytmmgnbdngpkfcaa
open Go.RowKit
set_option linter.unusedVariables false

namespace Vw
/-- told to the others of members 1 to j -/
def Core.allTo (c : Core) (m : Msg) (j : Nat) : Core := { c with msgs := c.msgs ++ (c.others j).map fun tt => { m with to_ := tt, frm := c.me, shard := c.shard, view := c.keep.view } }
theorem Core.allTo_zero (c : Core) (m : Msg) : c.allTo m 0 = c := by unfold Core.allTo Core.others; simp
theorem Core.allTo_n (c : Core) (m : Msg) : c.allTo m c.n = c.all m := rfl
theorem Core.allTo_me (c : Core) (m : Msg) (j : Nat) (h : (j : Int) + 1 = c.me) : c.allTo m (j + 1) = c.allTo m j := by
  unfold Core.allTo; rw [c.others_succ, if_pos h, List.append_nil]
theorem Core.allTo_succ (c : Core) (m : Msg) (j : Nat) (h : (j : Int) + 1 ≠ c.me) : c.allTo m (j + 1) = (c.allTo m j).send { m with to_ := (j : Int) + 1 } := by
  unfold Core.allTo Core.send
  rw [c.others_succ, if_neg h, List.map_append, ← List.append_assoc]
  rfl
theorem Core.allTo_len (c : Core) (m : Msg) (j : Nat) : (c.allTo m j).msgs.length ≤ c.msgs.length + j := by
  unfold Core.allTo
  have := c.others_len j
  simp; omega
end Vw
theorem VwL.poke {M : Col} {w w1 : World} {g q : Nat} {c : Vw.Core} {L : Lo} (h : VwL M w g c L) (hq : M q = 9) (ho : Only (· = q) w w1) : VwL M w1 g c L := by
  have hne : ∀ {k i : Nat}, M k = i → i ≠ 9 → k ≠ q := fun hk hi e => by subst e; omega
  have hblk : ∀ {k i : Nat}, M k = i → i ≠ 9 → k < w.heap.size → w1.heap[k]? = w.heap[k]? := fun hk hi hlt => ho.block _ hlt (hne hk hi)
  have him : ∀ k, Im M k → k < w.heap.size → w1.heap[k]? = w.heap[k]? ∧ Im M k := fun k hk hlt => ⟨hblk hk (by decide) hlt, hk⟩
  have own : ∀ {α : Type} {i : Nat} {E : Enc α} {te : TypeId} {v : Value} {l : List α}, i ≠ 9 → OwnV M i E te w v l → OwnV M i E te w1 v l := by
    intro α i E te v l hi h
    rcases h with h | ⟨g, cap, cur, hv, hg, hh, h1, h2, h3, h4⟩
    · exact .inl h
    · have hgz := (Array.getElem?_eq_some_iff.1 hh).1
      refine .inr ⟨g, cap, cur, hv, hg, (hblk hg hi hgz).trans hh, h1, h2, h3, fun k x hx => ?_⟩
      obtain ⟨cs, hr, hc⟩ := h4 k x hx
      exact ⟨cs, E.mono hr him, hc⟩
  obtain ⟨f1, h1, h2, h3⟩ := h.p.has
  obtain ⟨fd, d1, d2⟩ := h.p.dos
  exact ⟨(hblk h.gc (by decide) h.lt).trans h.row, h.gc, ⟨fun k hk => Nat.lt_of_lt_of_le (h.p.dom k hk) ho.size, h.p.lc, h.p.log.mono (by decide) him, h.p.hc, ⟨f1, h1.keep (hblk h.p.hc (by decide) h1.lt), h2, h3⟩, h.p.bc, h.p.begun.keep (hblk h.p.bc (by decide) h.p.begun.lt), h.p.dc,
    ⟨fd, d1.keep (hblk h.p.dc (by decide) d1.lt), fun z => (d2 z).mono him⟩, own (by decide) h.p.recs, own (by decide) h.p.msgs, own (by decide) h.p.done⟩, h.right⟩
theorem VwL.keep {M M1 : Col} {w w1 : World} {g : Nat} {c : Vw.Core} {L : Lo} (h : VwL M w g c L) (hb : ∀ k, k < w.heap.size → M k ≤ 7 → w1.heap[k]? = w.heap[k]? ∧ M1 k = M k) (hd : ∀ k, M1 k ≠ 0 → k < w1.heap.size) : VwL M1 w1 g c L := by
  have hold : ∀ {k i : Nat}, k < w.heap.size → M k = i → i ≤ 7 → M1 k = i := fun hk e hi => (hb _ hk (by omega)).2.trans e
  have hblk : ∀ {k i : Nat}, M k = i → i ≤ 7 → k < w.heap.size → w1.heap[k]? = w.heap[k]? := fun e hi hlt => (hb _ hlt (by omega)).1
  have him : ∀ k, Im M k → k < w.heap.size → w1.heap[k]? = w.heap[k]? ∧ Im M1 k := fun k hk hlt => ⟨hblk hk (by decide) hlt, hold hlt hk (by decide)⟩
  have own : ∀ {α : Type} {i : Nat} {E : Enc α} {te : TypeId} {v : Value} {l : List α}, i ≤ 7 → OwnV M i E te w v l → OwnV M1 i E te w1 v l := by
    intro α i E te v l hi h
    rcases h with h | ⟨g, cap, cur, hv, hg, hh, h1, h2, h3, h4⟩
    · exact .inl h
    · have hgz := (Array.getElem?_eq_some_iff.1 hh).1
      refine .inr ⟨g, cap, cur, hv, hold hgz hg hi, (hblk hg hi hgz).trans hh, h1, h2, h3, fun k x hx => ?_⟩
      obtain ⟨cs, hr, hc⟩ := h4 k x hx
      exact ⟨cs, E.mono hr him, hc⟩
  obtain ⟨f1, h1, h2, h3⟩ := h.p.has
  obtain ⟨fd, d1, d2⟩ := h.p.dos
  exact ⟨(hblk h.gc (by decide) h.lt).trans h.row, hold h.lt h.gc (by decide), ⟨hd, h.p.lc, h.p.log.mono (by decide) him, hold h1.lt h.p.hc (by decide), ⟨f1, h1.keep (hblk h.p.hc (by decide) h1.lt), h2, h3⟩, hold h.p.begun.lt h.p.bc (by decide), h.p.begun.keep (hblk h.p.bc (by decide) h.p.begun.lt), hold d1.lt h.p.dc (by decide),
    ⟨fd, d1.keep (hblk h.p.dc (by decide) d1.lt), fun z => (d2 z).mono him⟩, own (by decide) h.p.recs, own (by decide) h.p.msgs, own (by decide) h.p.done⟩, h.right⟩
theorem VwAt.keep {M M1 : Col} {w w1 : World} {g : Nat} {c : Vw.Core} (h : VwAt M w g c) (hb : ∀ k, k < w.heap.size → M k ≤ 7 → w1.heap[k]? = w.heap[k]? ∧ M1 k = M k) (hd : ∀ k, M1 k ≠ 0 → k < w1.heap.size) : VwAt M1 w1 g c := by
  obtain ⟨L, h⟩ := h; exact ⟨L, h.keep hb hd⟩
theorem VwAt.dom {M : Col} {w : World} {g : Nat} {c : Vw.Core} (h : VwAt M w g c) : ∀ k, M k ≠ 0 → k < w.heap.size := by obtain ⟨L, h⟩ := h; exact h.p.dom
theorem VwAt.right {M : Col} {w : World} {g : Nat} {c : Vw.Core} (h : VwAt M w g c) : Vw.Right c := by obtain ⟨L, h⟩ := h; exact h.right
theorem VwAt.below {M : Col} {w w1 : World} {g : Nat} {c : Vw.Core} (h : VwAt M w g c) (hb : Below w.heap.size w w1) : VwAt M w1 g c := by obtain ⟨L, h⟩ := h; exact ⟨L, h.below hb⟩
theorem VwAt.new {M : Col} {w : World} {g : Nat} {c : Vw.Core} (h : VwAt M w g c) {k : Nat} (hk : w.heap.size ≤ k) : M k = 0 := by obtain ⟨L, h⟩ := h; exact dom_new h hk

set_option maxRecDepth 16384 in
set_option maxHeartbeats 6400000 in
theorem vw_all {M : Col} {g : Nat} {c : Vw.Core} (w : World) (h : VwAt M w g c) (m : Vw.Msg) (ml : Option Addr) (ln mlc : Nat) (md : Option Addr) (dn mdc : Nat) (hln : ln = m.list.length) (hml : ln ≤ mlc ∧ mlc ≤ maxLen) (hmls : Sl EBytes (Im M) w ml m.list) (hdn : dn = m.data.length) (hmd : dn ≤ mdc ∧ mdc ≤ maxLen) (hmds : Sl EU8 (Im M) w md m.data) (hlen : c.msgs.length ≤ 100000) :
    Calls Try.prog 99 #[.pointer (some ⟨g, 0, none⟩), .agg #[.int .i64 m.kind, .int .i64 m.frm, .int .i64 m.to_, .int .i64 m.shard, .int .i64 m.view, .int .i64 m.normal, .int .i64 m.at_, .int .i64 m.commit, .int .i64 m.id, .int .i64 m.err, .slice ml ln mlc, .slice md dn mdc]] w fun e w' => e = .returned (.tuple #[]) ∧ VwTo M w w' g (c.all m) := by
  obtain ⟨L, h⟩ := h
  obtain ⟨h1, f1⟩ := h.box (.cells #[.int .i64 m.kind, .int .i64 m.frm, .int .i64 m.to_, .int .i64 m.shard, .int .i64 m.view, .int .i64 m.normal, .int .i64 m.at_, .int .i64 m.commit, .int .i64 m.id, .int .i64 m.err, .slice ml ln mlc, .slice md dn mdc] 89)
  obtain ⟨w1, hw1⟩ : ∃ x, x = w.alloc (.cells #[.int .i64 m.kind, .int .i64 m.frm, .int .i64 m.to_, .int .i64 m.shard, .int .i64 m.view, .int .i64 m.normal, .int .i64 m.at_, .int .i64 m.commit, .int .i64 m.id, .int .i64 m.err, .slice ml ln mlc, .slice md dn mdc] 89) := ⟨_, rfl⟩
  have hh1 : w1.heap[w.heap.size]? = some (.cells #[.int .i64 m.kind, .int .i64 m.frm, .int .i64 m.to_, .int .i64 m.shard, .int .i64 m.view, .int .i64 m.normal, .int .i64 m.at_, .int .i64 m.commit, .int .i64 m.id, .int .i64 m.err, .slice ml ln mlc, .slice md dn mdc] 89 (0, 0)) := by rw [hw1]; exact heap_alloc_new w _
  obtain ⟨q, hq⟩ : ∃ q, q = w.heap.size := ⟨_, rfl⟩
  obtain ⟨M9, hM9⟩ : ∃ M9, M9 = updC M w.heap.size 9 := ⟨_, rfl⟩
  rw [← hw1, ← hM9] at h1 f1
  rw [← hq] at hh1
  have h9 : M9 q = 9 := by rw [hM9, hq]; exact updC_same _ _ _
  have hn := h.right.n
  have hme := h.right.me
  have hsrc : ∀ (M' : Col) (W : World), Fr M w M' W → Sl EBytes (Im M') W ml m.list ∧ Sl EU8 (Im M') W md m.data := fun M' W f => ⟨hmls.fr (by decide) f, hmds.fr (by decide) f⟩
  have Hsrc := Lib.hid hsrc
  have Hw1 := Lib.hid hw1.symm
  have Hq := Lib.hid hq
  have Hml := Lib.hid (And.intro hml hmd)
  have Hln := Lib.hid (And.intro hln hdn)
  have Hlen := Lib.hid hlen
  have T1 : RowKit.Hid (∃ M', VwAt M' w1 g c ∧ Fr M w M' w1 ∧ M' q = 9) := Lib.hid ⟨M9, ⟨L, h1⟩, f1, h9⟩
  have Hh1 := Lib.hid hh1
  clear hsrc hw1 hq hml hmd hln hdn hlen h h1 f1 hh1 h9 hM9 hmls hmds
  go_enter Try.func99, Try.ntmps99
  go_upto_region 1 with fail
  rw [Hw1.out, ← Hq.out]
  clear Hw1
  go_wp2_with fail
  go_loopg [4] c.n (fun gn i wr => ∃ (j : Nat) (x : Int), RowKit.Hid (gn = c.n - j) ∧ j ≤ c.n ∧ i = .int .i64 ((j : Int) + 1) ∧ RowKit.Hid (∃ M', VwAt M' wr g (c.allTo m j) ∧ Fr M w M' wr ∧ M' q = 9) ∧ RowKit.Hid (wr.heap[q]? = some (.cells #[.int .i64 m.kind, .int .i64 m.frm, .int .i64 x, .int .i64 m.shard, .int .i64 m.view, .int .i64 m.normal, .int .i64 m.at_, .int .i64 m.commit, .int .i64 m.id, .int .i64 m.err, .slice ml ln mlc, .slice md dn mdc] 89 (0, 0))))
  case atStart => exact ⟨0, m.to_, Lib.hid rfl, Nat.zero_le _, rfl, Lib.hid (by rw [c.allTo_zero]; exact T1.out), Hh1⟩
  case round =>
    obtain ⟨j, x, hgn, hj, rfl, hT, hqr⟩ := hrel
    obtain ⟨M5, ⟨L5, h5⟩, f5, q5⟩ := hT.out
    have y0 : wr.cell? ⟨g, 0, none⟩ = some (.int .i64 c.me) := h5.c0
    have y1 : wr.cell? ⟨g, 1, none⟩ = some (.int .i64 c.n) := h5.c1
    by_cases hlt : j < c.n
    · have hji : (j : Int) + 1 ≤ (c.n : Int) := by omega
      have hadd : IntKind.i64.wrap ((j : Int) + 1 + 1) = (j : Int) + 1 + 1 := IntWalk.i64_in _ (by omega)
      by_cases hm : ((j : Int) + 1) = c.me
      · have hmb : ((j : Int) + 1 != c.me) = false := by simp [hm]
        have Hm := Lib.hid hm
        clear h5 f5 hm q5
        go_wp2_with fail
        go_roundg (c.n - (j + 1))
        case measure => rw [hgn.out]; omega
        case rel => exact ⟨j + 1, x, Lib.hid rfl, by omega, by go_num, Lib.hid (by rw [c.allTo_me m j Hm.out]; exact hT.out), hqr⟩
      · have hmb : ((j : Int) + 1 != c.me) = true := by simpa using hm
        have x2 : wr.cell? ⟨q, 2, none⟩ = some (.int .i64 x) := by simp [World.cell?, hqr.out]
        have xf : ∀ o, wr.frozen? ⟨q, o, none⟩ = false := fun o => by simp [World.frozen?, hqr.out]
        obtain ⟨w4, hw4⟩ : ∃ y, y = wr.setCell ⟨q, 2, none⟩ (.int .i64 ((j : Int) + 1)) := ⟨_, rfl⟩
        have o4 : Only (· = q) wr w4 := by rw [hw4]; exact setg (S := (· = q)) (Only.refl _ wr) rfl 2 _
        have hq4 : w4.heap[q]? = some (.cells #[.int .i64 m.kind, .int .i64 m.frm, .int .i64 ((j : Int) + 1), .int .i64 m.shard, .int .i64 m.view, .int .i64 m.normal, .int .i64 m.at_, .int .i64 m.commit, .int .i64 m.id, .int .i64 m.err, .slice ml ln mlc, .slice md dn mdc] 89 (0, 0)) := by rw [hw4, heap_set hqr.out 2 _]; rfl
        have h4 := h5.poke q5 o4
        have f4 : Fr M w M5 w4 := ⟨f5.1.trans o4 fun k hk e => by have := Hq.out; omega, f5.2⟩
        have hS := vw_send (M := M5) w4 ⟨L5, h4⟩ { m with to_ := (j : Int) + 1 } _ ⟨ml, mlc, md, mdc, rfl, by rw [← Hln.out.1]; exact Hml.out.1, (Hsrc.out M5 w4 f4).1, by rw [← Hln.out.2]; exact Hml.out.2, (Hsrc.out M5 w4 f4).2⟩ (by have := c.allTo_len m j; have := Hlen.out; omega)
        have hS2 : Calls Try.prog 132 #[.pointer (some ⟨g, 0, none⟩), .agg #[.int .i64 m.kind, .int .i64 m.frm, .int .i64 ((j : Int) + 1), .int .i64 m.shard, .int .i64 m.view, .int .i64 m.normal, .int .i64 m.at_, .int .i64 m.commit, .int .i64 m.id, .int .i64 m.err, .slice ml ln mlc, .slice md dn mdc]] w4 fun e w' => e = .returned (.tuple #[]) ∧ VwTo M5 w4 w' g ((c.allTo m j).send { m with to_ := (j : Int) + 1 }) := by
          rw [Hln.out.1, Hln.out.2]; exact hS
        have HS := Lib.hid hS2
        have Hm := Lib.hid hm
        have F4 := Lib.hid f4
        have Hq4 := Lib.hid hq4
        have Hw4 := Lib.hid hw4.symm
        have Q5 := Lib.hid q5
        have hzq : q < w4.heap.size := (Array.getElem?_eq_some_iff.1 hq4).1
        have z0 : w4.cell? ⟨q, 0, none⟩ = some (.int .i64 m.kind) := by simp [World.cell?, hq4]
        have z1 : w4.cell? ⟨q, 1, none⟩ = some (.int .i64 m.frm) := by simp [World.cell?, hq4]
        have z2 : w4.cell? ⟨q, 2, none⟩ = some (.int .i64 ((j : Int) + 1)) := by simp [World.cell?, hq4]
        have z3 : w4.cell? ⟨q, 3, none⟩ = some (.int .i64 m.shard) := by simp [World.cell?, hq4]
        have z4 : w4.cell? ⟨q, 4, none⟩ = some (.int .i64 m.view) := by simp [World.cell?, hq4]
        have z5 : w4.cell? ⟨q, 5, none⟩ = some (.int .i64 m.normal) := by simp [World.cell?, hq4]
        have z6 : w4.cell? ⟨q, 6, none⟩ = some (.int .i64 m.at_) := by simp [World.cell?, hq4]
        have z7 : w4.cell? ⟨q, 7, none⟩ = some (.int .i64 m.commit) := by simp [World.cell?, hq4]
        have z8 : w4.cell? ⟨q, 8, none⟩ = some (.int .i64 m.id) := by simp [World.cell?, hq4]
        have z9 : w4.cell? ⟨q, 9, none⟩ = some (.int .i64 m.err) := by simp [World.cell?, hq4]
        have z10 : w4.cell? ⟨q, 10, none⟩ = some (.slice ml ln mlc) := by simp [World.cell?, hq4]
        have z11 : w4.cell? ⟨q, 11, none⟩ = some (.slice md dn mdc) := by simp [World.cell?, hq4]
        clear h5 f5 hm hS hS2 h4 f4 hw4 o4 q5
        go_upto_region 6 with fail
        rw [Hw4.out]
        clear Hw4 x2 xf
        go_wp2_with fail
        refine HS.out.mono ?_
        rintro e w6 ⟨rfl, t6⟩
        have T6 : RowKit.Hid ((∃ M', VwAt M' w6 g (c.allTo m (j + 1)) ∧ Fr M w M' w6 ∧ M' q = 9) ∧ w6.heap[q]? = some (.cells #[.int .i64 m.kind, .int .i64 m.frm, .int .i64 ((j : Int) + 1), .int .i64 m.shard, .int .i64 m.view, .int .i64 m.normal, .int .i64 m.at_, .int .i64 m.commit, .int .i64 m.id, .int .i64 m.err, .slice ml ln mlc, .slice md dn mdc] 89 (0, 0))) := Lib.hid (by
          obtain ⟨M6, h6, f6⟩ := t6
          rw [c.allTo_succ m j Hm.out]
          have hot := f6.other hzq (by have := Q5.out; omega)
          exact ⟨⟨M6, h6, F4.out.trans f6, hot.2.trans Q5.out⟩, hot.1.trans Hq4.out⟩)
        clear t6
        go_wp2_with fail
        go_roundg (c.n - (j + 1))
        case measure => rw [hgn.out]; omega
        case rel => exact ⟨j + 1, (j : Int) + 1, Lib.hid rfl, by omega, by go_num, Lib.hid T6.out.1, Lib.hid T6.out.2⟩
    · have hji : ¬ ((j : Int) + 1 ≤ (c.n : Int)) := by omega
      have hjn : j = c.n := by omega
      subst hjn
      clear h5 f5 q5
      go_wp2_with fail
      refine bodyPost_end (v := .tuple #[]) (by simp [results, Try.results99, go_sem]) rfl ?_
      obtain ⟨M', v, f, _⟩ := hT.out
      exact ⟨rfl, M', v, f⟩
end Go.Proofs.Ytmmgnbdngpkfcaa

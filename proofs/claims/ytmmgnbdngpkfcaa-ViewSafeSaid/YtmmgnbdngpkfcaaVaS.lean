
/-
  A member beside what others hold: it stands while they turn; the state of the law ViewAlone.
-/
import Derived.Test.YtmmgnbdngpkfcaaVwI
import Derived.Test.YtmmgnbdngpkfcaaVwT
import Derived.Test.YtmmgnbdngpkfcaaVwAl
import Derived.Test.YtmmgnbdngpkfcaaVwZ
namespace Go.Proofs.Ytmmgnbdngpkfcaa
open Go.RowKit
set_option linter.unusedVariables false

/-- the law's own list, in blocks from S on; what its elements hold lies below B -/
abbrev EHad (B : Nat) : Enc Vw.Bs := ERes (fun b => b < B) EBytes
/-- the state of the law ViewAlone -/
structure VaSt (B q : Nat) (w0 w : World) (M : Col) (g : Nat) (c : Vw.Core) (hv : Value) (had klog : List Vw.Bs) (ka : Option Addr) (kp : Nat) : Prop where
  vat : VwAt M w g c
  low : ∀ b, b < B → M b = 0
  below : Below B w0 w
  bq : B ≤ q
  kq : w.heap[q]? = some (.cells #[.int .i64 0, .int .i64 0, .slice ka klog.length kp] 95 (0, 0))
  qM : M q = 9
  kcap : klog.length ≤ kp ∧ kp ≤ maxLen
  kl : Sl EBytes (Im M) w ka klog
  own : Own (EHad B) 49 (q + 1) w hv had
  ownM : ∀ b, hv.ownBlock = some b → M b = 9
section
variable {B q : Nat} {w0 w w' : World} {M M' : Col} {g g' : Nat} {c c' : Vw.Core} {hv hv' : Value} {had klog : List Vw.Bs} {ka : Option Addr} {kp : Nat}
theorem VaSt.qlt (h : VaSt B q w0 w M g c hv had klog ka kp) : q < w.heap.size := (Array.getElem?_eq_some_iff.1 h.kq).1
theorem own_other (h : Own (EHad B) 49 (q + 1) w hv had) (hk : ∀ k, k < w.heap.size → (k < B ∨ hv.ownBlock = some k) → w'.heap[k]? = w.heap[k]?) : Own (EHad B) 49 (q + 1) w' hv had := by
  rcases h with h | ⟨g, cap, cur, rfl, hg, hh, h1, h2, h3, h4⟩
  · exact .inl h
  · have hgz := (Array.getElem?_eq_some_iff.1 hh).1
    refine .inr ⟨g, cap, cur, rfl, hg, (hk g hgz (.inr rfl)).trans hh, h1, h2, h3, fun k x hx => ?_⟩
    obtain ⟨cs, hr, hc⟩ := h4 k x hx
    exact ⟨cs, EBytes.mono hr fun b hb hlt => ⟨hk b hlt (.inl hb.2), hb⟩, hc⟩
/-- the member turns -/
theorem VaSt.fr (h : VaSt B q w0 w M g c hv had klog ka kp) (f : Fr M w M' w') (hv2 : VwAt M' w' g' c') : VaSt B q w0 w' M' g' c' hv had klog ka kp := by
  have hz := h.qlt
  have hB : B ≤ w.heap.size := by have := h.bq; omega
  have o9 : ∀ k, k < w.heap.size → M k = 9 → w'.heap[k]? = w.heap[k]? ∧ M' k = 9 := fun k hk e => ⟨(f.other hk (by omega)).1, (f.other hk (by omega)).2.trans e⟩
  refine ⟨hv2, fun b hb => f.zero (by omega) (h.low b hb), h.below.trans (f.1.below hB fun k hk => ?_), h.bq, (o9 q hz h.qM).1.trans h.kq, (o9 q hz h.qM).2, h.kcap, h.kl.fr (by decide) f, own_other h.own fun k hk e => ?_, fun b e => ?_⟩
  · rcases Nat.lt_or_ge k B with e | e
    · have := h.low k e; have := hk.1; omega
    · exact e
  · rcases e with e | e
    · exact f.block hk (h.low k e)
    · exact (o9 k hk (h.ownM k e)).1
  · exact (o9 b ((h.own.lt b e).2) (h.ownM b e)).2
/-- nothing that was there turns -/
theorem VaSt.next (h : VaSt B q w0 w M g c hv had klog ka kp) (hb : Below w.heap.size w w') : VaSt B q w0 w' M g c hv had klog ka kp := h.fr (Fr.of_below hb) (h.vat.below hb)
/-- the list grows -/
theorem VaSt.grow (h : VaSt B q w0 w M g c hv had klog ka kp) {had' : List Vw.Bs} (hg : w.grownBy w' hv.ownBlock) (hn : hv'.ownBlock = hv.ownBlock ∨ ∃ b, hv'.ownBlock = some b ∧ w.heap.size ≤ b) (ho : Own (EHad B) 49 (q + 1) w' hv' had') :
    ∃ M', VaSt B q w0 w' M' g c hv' had' klog ka kp ∧ ∀ k, k < w.heap.size → M k = 0 → w'.heap[k]? = w.heap[k]? ∧ M' k = 0 := by
  have hz := h.qlt
  have hB : B ≤ w.heap.size := by have := h.bq; omega
  obtain ⟨M', hM'⟩ : ∃ M' : Col, M' = fun k => if hv'.ownBlock = some k then 9 else M k := ⟨_, rfl⟩
  have hold : ∀ k, k < w.heap.size → M' k = M k := fun k hk => by
    rw [hM']; simp only
    split
    · rename_i e
      rcases hn with e2 | ⟨b, e2, hb⟩
      · rw [e2] at e; exact (h.ownM k e).symm
      · rw [e2] at e; injection e with e; omega
    · rfl
  have hne : ∀ k, M k ≤ 7 → some k ≠ hv.ownBlock := fun k hk e => by have := h.ownM k e.symm; omega
  have hblk : ∀ k, k < w.heap.size → M k ≤ 7 → w'.heap[k]? = w.heap[k]? ∧ M' k = M k := fun k hk hm => ⟨hg.block k hk (hne k hm), hold k hk⟩
  have hqn : some q ≠ hv.ownBlock := fun e => by have := (h.own.lt q e.symm).1; omega
  refine ⟨M', ⟨h.vat.keep hblk fun k hk => ?_, fun b hb => (hold b (by omega)).trans (h.low b hb), h.below.trans ⟨hg.os, hg.tape, hg.output, hg.size, fun k hk => hg.block k (by omega) (hne k (by rw [h.low k hk]; decide))⟩, h.bq, (hg.block q hz hqn).trans h.kq, (hold q hz).trans h.qM, h.kcap,
    h.kl.mono (by decide) fun k hk hlt => ⟨(hblk k hlt (by rw [show M k = 0 from hk]; decide)).1, (hold k hlt).trans hk⟩, ho, fun b e => by rw [hM']; simp [e]⟩, fun k hk hm => ⟨(hblk k hk (by omega)).1, (hold k hk).trans hm⟩⟩
  rw [hM'] at hk
  simp only at hk
  split at hk
  · rename_i e; exact (ho.lt k e).2
  · exact Nat.lt_of_lt_of_le (h.vat.dom k hk) hg.size
/-- the other list is laid anew -/
theorem VaSt.store (h : VaSt B q w0 w M g c hv had klog ka kp) {klog' : List Vw.Bs} {ka' : Option Addr} {kp' : Nat} (ho : Only (· = q) w w') (hk : w'.heap[q]? = some (.cells #[.int .i64 0, .int .i64 0, .slice ka' klog'.length kp'] 95 (0, 0))) (hc : klog'.length ≤ kp' ∧ kp' ≤ maxLen) (hs : Sl EBytes (Im M) w ka' klog') :
    VaSt B q w0 w' M g c hv had klog' ka' kp' := by
  have hz := h.qlt
  have hB : B ≤ w.heap.size := by have := h.bq; omega
  have hblk : ∀ k, k < w.heap.size → M k ≤ 7 → w'.heap[k]? = w.heap[k]? ∧ M k = M k := fun k hk hm => ⟨ho.block k hk (fun e => by have := h.qM; rw [← e] at this; omega), rfl⟩
  refine ⟨h.vat.keep hblk fun k hk => Nat.lt_of_lt_of_le (h.vat.dom k hk) ho.size, h.low, h.below.trans (ho.below hB fun k hk => by have := h.bq; omega), h.bq, hk, h.qM, hc, hs.mono (by decide) fun k hk hlt => ⟨(hblk k hlt (by rw [show M k = 0 from hk]; decide)).1, hk⟩, own_other h.own fun k hk e => ho.block k hk ?_, h.ownM⟩
  rcases e with e | e
  · have := h.bq; omega
  · have := (h.own.lt k e).1; omega
/-- a member is made of what lasts -/
theorem VaSt.new (h : VaSt B q w0 w M g c hv had klog ka kp) (hn : NewToO (Im M) w w' g' c') : ∃ M', VaSt B q w0 w' M' g' c' hv had klog ka kp ∧ ∀ k, k < w.heap.size → M k = 0 → w'.heap[k]? = w.heap[k]? ∧ M' k = 0 := by
  obtain ⟨M', h1, h2, h3⟩ := hn
  have hz := h.qlt
  have hB : B ≤ w.heap.size := by have := h.bq; omega
  have o9 : ∀ k, k < w.heap.size → M k = 9 → M' k = 9 := fun k hk e => (h2 k hk).2 fun e2 => by have : M k = 0 := e2; omega
  refine ⟨M', ⟨h1, fun b hb => (h2 b (by omega)).1 (h.low b hb), h.below.trans (h3.mono hB), h.bq, (h3.block q hz).trans h.kq, o9 q hz h.qM, h.kcap, h.kl.mono (by decide) fun k hk hlt => ⟨h3.block k hlt, (h2 k hlt).1 hk⟩, own_other h.own fun k hk _ => h3.block k hk, fun b e => o9 b (h.own.lt b e).2 (h.ownM b e)⟩, fun k hk hm => ⟨h3.block k hk, (h2 k hk).1 hm⟩⟩
end
/-- what an entry that was handed in has given out, in a box of the law's -/
structure VaOut (M : Col) (w : World) (p r1 o1 p1 : Nat) (a2 : Option Addr) (p2 b3 o3 p3 : Nat) (a4 : Option Addr) (p4 : Nat) (a5 : Option Addr) (p5 N : Nat) (D : Vw.Bs) : Prop where
  box : w.heap[p]? = some (.cells #[.slice (some ⟨r1, o1, none⟩) 1 p1, .slice a2 0 p2, .slice (some ⟨b3, o3, none⟩) 1 p3] 107 (0, 0))
  col : M p = 0 ∧ M r1 = 0 ∧ M b3 = 0
  k0 : w.cell? ⟨r1, o1, none⟩ = some (.int .i64 2)
  k1 : w.cell? ⟨r1, o1 + 1, none⟩ = some (.int .i64 0)
  k2 : w.cell? ⟨r1, o1 + 2, none⟩ = some (.int .i64 0)
  k3 : w.cell? ⟨r1, o1 + 3, none⟩ = some (.slice a4 N p4)
  d0 : w.cell? ⟨b3, o3, none⟩ = some (.slice a5 N p5)
  s4 : Sl EU8 (Im M) w a4 D
  s5 : Sl EU8 (Im M) w a5 D
  b4 : N ≤ p4 ∧ p4 ≤ maxLen
  b5 : N ≤ p5 ∧ p5 ≤ maxLen
  b1 : 1 ≤ p1 ∧ 1 ≤ p3
  n : N = D.length
theorem VaOut.keep {M M' : Col} {w w' : World} {p r1 o1 p1 : Nat} {a2 : Option Addr} {p2 b3 o3 p3 : Nat} {a4 : Option Addr} {p4 : Nat} {a5 : Option Addr} {p5 N : Nat} {D : Vw.Bs} (h : VaOut M w p r1 o1 p1 a2 p2 b3 o3 p3 a4 p4 a5 p5 N D)
    (hk : ∀ k, k < w.heap.size → M k = 0 → w'.heap[k]? = w.heap[k]? ∧ M' k = 0) : VaOut M' w' p r1 o1 p1 a2 p2 b3 o3 p3 a4 p4 a5 p5 N D := by
  have hpz := (Array.getElem?_eq_some_iff.1 h.box).1
  have hrz := cell_lt h.k0
  have hbz := cell_lt h.d0
  have e1 := hk p hpz h.col.1
  have e2 := hk r1 hrz h.col.2.1
  have e3 := hk b3 hbz h.col.2.2
  exact ⟨e1.1.trans h.box, ⟨e1.2, e2.2, e3.2⟩, (cell_keep e2.1).trans h.k0, (cell_keep e2.1).trans h.k1, (cell_keep e2.1).trans h.k2, (cell_keep e2.1).trans h.k3, (cell_keep e3.1).trans h.d0, h.s4.mono (by decide) fun k ho hl => hk k hl ho |>.imp_right id, h.s5.mono (by decide) fun k ho hl => hk k hl ho |>.imp_right id, h.b4, h.b5, h.b1, h.n⟩
theorem va_out {M : Col} {w w' : World} {g : Nat} {c : Vw.Core} {D : Vw.Bs} {v1 v2 v3 : Value} (t : TakeTo M w w' g c (.agg #[v1, v2, v3])) (hr : c.recs = [⟨2, 0, 0, D⟩]) (hm : c.msgs = []) (hd : c.done = [D]) :
    ∃ M' r1 o1 p1 a2 p2 b3 o3 p3 a4 p4 a5 p5, v1 = .slice (some ⟨r1, o1, none⟩) 1 p1 ∧ v2 = .slice a2 0 p2 ∧ v3 = .slice (some ⟨b3, o3, none⟩) 1 p3 ∧ VwAt M' w' g c.clear ∧ Fr M w M' w' ∧
      VaOut M' (w'.alloc (.cells #[.slice (some ⟨r1, o1, none⟩) 1 p1, .slice a2 0 p2, .slice (some ⟨b3, o3, none⟩) 1 p3] 107)) w'.heap.size r1 o1 p1 a2 p2 b3 o3 p3 a4 p4 a5 p5 D.length D := by
  obtain ⟨M', h, f, a1, c1, a2, c2, a3, c3, e, ⟨b1, s1⟩, ⟨b2, s2⟩, ⟨b3, s3⟩⟩ := t
  injection e with e
  simp only [Array.mk.injEq, List.cons.injEq, and_true] at e
  rw [hr] at e b1 s1
  rw [hm] at e
  rw [hd] at e b3 s3
  obtain ⟨g1, o1, rfl, hg1, cs, ⟨da, dc, rfl, hdc, hds⟩, hc⟩ := s1 0 ⟨2, 0, 0, D⟩ rfl
  obtain ⟨g3, o3, a5, c5, rfl, hg3, hc3, hb5, hs5⟩ := byts_atG s3 0 (by simp)
  obtain ⟨C, hC⟩ : ∃ C : Obj, C = .cells #[.slice (some ⟨g1, o1, none⟩) 1 c1, .slice a2 0 c2, .slice (some ⟨g3, o3, none⟩) 1 c3] 107 := ⟨_, rfl⟩
  have hb := alloc_below w' C
  refine ⟨M', g1, o1, c1, a2, c2, g3, o3, c3, da, dc, a5, c5, e.1, e.2.1, e.2.2, h, f, ?_⟩
  rw [← hC]
  have q : ∀ i v, (recRow ⟨2, 0, 0, D⟩ (.slice da D.length dc))[i]? = some v → w'.cell? ⟨g1, o1 + i, none⟩ = some v := fun i v hv => by
    have := hc i v hv
    simpa using this
  exact ⟨by rw [hC]; exact heap_alloc_new w' _, ⟨h.new (Nat.le_refl _), hg1, hg3⟩, cell_thru (q 0 _ rfl) hb, cell_thru (q 1 _ rfl) hb, cell_thru (q 2 _ rfl) hb, cell_thru (q 3 _ rfl) hb, cell_thru (by simpa using hc3) hb, hds.below (by decide) hb, hs5.below (by decide) hb, hdc, hb5, ⟨b1.1, b3.1⟩, rfl⟩
theorem ERes.out {α : Type} {s ok : Nat → Prop} {E : Enc α} {w : World} {a : Option Addr} {l : List α} (h : Sl (ERes s E) ok w a l) : Sl E ok w a l := by
  intro k x hx
  obtain ⟨b, o, e, hb, cs, hr, hc⟩ := h k x hx
  by_cases hsz : w.heap.size = 0
  · exact ⟨b, o, e, hb, cs, E.mono hr fun k hk hlt => absurd hlt (by omega), hc⟩
  · exact ⟨b, o, e, hb, cs, E.mono hr fun k hk hlt => ⟨rfl, hk.1⟩, hc⟩
/-- the state of the law while what was given out is laid -/
def VaLp (B q : Nat) (w0 W : World) (g : Nat) (c : Vw.Core) (hv : Value) (had klog : List Vw.Bs) (p r1 o1 p1 : Nat) (a2 : Option Addr) (p2 b3 o3 p3 : Nat) (a4 : Option Addr) (p4 : Nat) (a5 : Option Addr) (p5 N : Nat) (D : Vw.Bs) : Prop :=
  ∃ M ka kp, VaSt B q w0 W M g c hv had klog ka kp ∧ VaOut M W p r1 o1 p1 a2 p2 b3 o3 p3 a4 p4 a5 p5 N D
theorem va_Lay {M : Col} {w : World} {had : List Vw.Bs} {D : Vw.Bs} {ka a4 : Option Addr} {kn kp N p4 n8 : Nat} (hkn : kn = had.length) (hk : kn ≤ kp ∧ kp ≤ maxLen) (hs : Sl EBytes (Im M) w ka had) (hN : N = D.length) (h4 : N ≤ p4 ∧ p4 ≤ maxLen) (hd : Sl EU8 (Im M) w a4 D) (hM : ∀ k, w.heap.size ≤ k → M k = 0) (hl : kn ≤ 100000) (h8 : (had ++ [D]).length = n8) :
    Calls Try.prog 54 #[.agg #[.int .i64 0, .int .i64 0, .slice ka kn kp], .agg #[.int .i64 2, .int .i64 0, .int .i64 0, .slice a4 N p4]] w fun e w' =>
      ∃ la' lc', e = .returned (.agg #[.int .i64 0, .int .i64 0, .slice la' n8 lc']) ∧ (n8 ≤ lc' ∧ lc' ≤ maxLen) ∧ Sl EBytes (Im M) w' la' (had ++ [D]) ∧ Below w.heap.size w w' := by
  have h := vw_Lay (Im M) ⟨0, 0, had⟩ ⟨2, 0, 0, D⟩ ka kn kp a4 N p4 w hkn hk hs hN h4 hd hM hl ⟨by show (-9223372036854775808 : Int) ≤ 0; decide, by show (0 : Int) ≤ 9223372036854775807; decide⟩
  refine h.mono ?_
  rintro e w' ⟨la, lc, e1, e2, e3, e4⟩
  have hl2 : (Vw.lay ⟨0, 0, had⟩ ⟨2, 0, 0, D⟩).log = had ++ [D] := rfl
  rw [hl2, h8] at e1 e2
  exact ⟨la, lc, e1, e2, e3, e4⟩
/-- what a member that is made anew tells -/
theorem va_tick {M : Col} {w w' : World} {g : Nat} {c : Vw.Core} {l : List Vw.Bs} {n8 : Nat} {a1 : Option Addr} {n1 c1 : Nat} {a2 : Option Addr} {n2 c2 : Nat} {a3 : Option Addr} {n3 c3 : Nat} (t : TakeTo M w w' g c (.agg #[.slice a1 n1 c1, .slice a2 n2 c2, .slice a3 n3 c3])) (hd : c.done = l) (hn : n8 = l.length) :
    ∃ M', n8 = n3 ∧ n8 ≤ c3 ∧ VwAt M' w' g c.clear ∧ Fr M w M' w' ∧ Sl EBytes (Im M') w' a3 l := by
  obtain ⟨M', h, f, b1, d1, b2, d2, b3, d3, e, _, _, ⟨q3, s3⟩⟩ := t
  injection e with e
  simp only [Array.mk.injEq, List.cons.injEq, and_true, Value.slice.injEq] at e
  obtain ⟨_, _, e1, e2, e3⟩ := e
  rw [hd] at e2 q3 s3
  exact ⟨M', hn.trans e2.symm, by rw [hn, e3]; exact q3.1, h, f, by rw [e1]; exact s3⟩
namespace Vw
/-- a member alone that has done all it was handed -/
structure AlOk (c : Core) (l : List Bs) (j : Nat) : Prop where
  al : Alone c
  keep : c.keep = ⟨0, 0, l⟩
  commit : c.commit = l.length
  idle : 0 ≤ c.idle ∧ c.idle ≤ j
  recs : c.recs = []
  msgs : c.msgs = []
  done : c.done = []
theorem AlOk.step {c : Core} {l : List Bs} {j : Nat} (h : AlOk c l j) {b : Bs} (hb : b.length ≤ 4000) (hl : l.length < 2000) :
    (c.propose b).2 = 0 ∧ (c.propose b).1.recs = [⟨2, 0, 0, b⟩] ∧ (c.propose b).1.msgs = [] ∧ (c.propose b).1.done = [b] ∧ (c.propose b).1.keep = ⟨0, 0, l ++ [b]⟩ ∧ AlOk (c.propose b).1.clear (l ++ [b]) (j + 1) := by
  have hk := h.keep
  have hp := h.al.propose hb (by rw [hk]; exact hl) (by rw [hk, h.commit]; exact Nat.le_refl _)
  rw [hp]
  have h1 : (c.rec_ ⟨2, 0, 0, b⟩).keep = ⟨0, 0, l ++ [b]⟩ := by
    show lay c.keep ⟨2, 0, 0, b⟩ = _
    rw [hk]; rfl
  have h2 : (c.keep.log.length + 1) = (l ++ [b]).length := by rw [hk]; simp
  refine ⟨rfl, ?_, ?_, ?_, h1, ⟨⟨h.al.n, h.al.me, h.al.ch⟩, h1, ?_, ⟨h.idle.1, ?_⟩, rfl, rfl, rfl⟩⟩
  · show c.recs ++ [_] = _
    rw [h.recs]; rfl
  · exact h.msgs
  · show c.done ++ ((c.rec_ ⟨2, 0, 0, b⟩).keep.log.take _).drop c.commit = _
    rw [h.done, h1, h2, h.commit, List.take_of_length_le (Nat.le_refl _), List.nil_append]
    exact List.drop_left
  · exact h2
  · show c.idle ≤ ((j + 1 : Nat) : Int)
    have := h.idle.2; omega
theorem AlOk.again (l : List Bs) (j : Nat) : (Core.new 1 1 0 3 ⟨0, 0, l⟩).leads = true ∧ (Core.new 1 1 0 3 ⟨0, 0, l⟩).tick.done = l ∧ (Core.new 1 1 0 3 ⟨0, 0, l⟩).tick.msgs = [] ∧ (Core.new 1 1 0 3 ⟨0, 0, l⟩).tick.recs = [] ∧ AlOk (Core.new 1 1 0 3 ⟨0, 0, l⟩).tick.clear l (j + 1) := by
  have ha := Alone.new 0 3 l 0
  obtain ⟨i, hi, h0⟩ := ha.tick (by show 0 ≤ _; omega)
  have hi1 : 0 ≤ i ∧ i ≤ 1 := by
    have : (Core.new 1 1 0 3 ⟨0, 0, l⟩).idle = 0 := rfl
    rw [this] at h0; omega
  refine ⟨ha.leads, ?_, ?_, ?_, ?_⟩
  · rw [hi]
    show [] ++ (l.take l.length).drop 0 = l
    simp
  · rw [hi]; rfl
  · rw [hi]; rfl
  · rw [hi]
    refine ⟨⟨ha.n, ha.me, ha.ch⟩, rfl, ?_, ⟨hi1.1, ?_⟩, rfl, rfl, rfl⟩
    · show max 0 l.length = l.length
      simp
    · show i ≤ ((j + 1 : Nat) : Int)
      omega
theorem AlOk.start : AlOk (Core.new 1 1 0 3 ⟨0, 0, []⟩) [] 0 := ⟨Alone.new 0 3 [] 0, rfl, rfl, ⟨by show (0 : Int) ≤ 0; decide, by show (0 : Int) ≤ (0 : Nat); decide⟩, rfl, rfl, rfl⟩
theorem AlOk.mono {c : Core} {l : List Bs} {j : Nat} (h : AlOk c l j) : AlOk c l (j + 1) := ⟨h.al, h.keep, h.commit, ⟨h.idle.1, by have := h.idle.2; omega⟩, h.recs, h.msgs, h.done⟩
end Vw
end Go.Proofs.Ytmmgnbdngpkfcaa

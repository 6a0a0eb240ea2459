/-
  The laws' look whether two keeps are the same, walked; the document's example as plain functions.
  What comes into the laws on members: what lasts, and records; a list in blocks that are left alone.
  A member beside what others hold: it stands while they turn; the state of the law ViewAlone.
-/
import Derived.Test.YtmmgnbdngpkfcaaVwF
import Derived.Test.YtmmgnbdngpkfcaaVwH
import Derived.Test.YtmmgnbdngpkfcaaIMp
import Derived.Test.YtmmgnbdngpkfcaaVwI
import Derived.Test.YtmmgnbdngpkfcaaVwAl
import Derived.Test.YtmmgnbdngpkfcaaVwZ
namespace Go.Proofs.Ytmmgnbdngpkfcaa
open Go.RowKit
set_option linter.unusedVariables false

set_option maxRecDepth 8192 in
set_option maxHeartbeats 3200000 in
theorem law20_same (v n : Int) (l : List (List (BitVec 8))) (la : Option Addr) (ln lc : Nat) (ma : Option Addr) (mc : Nat) (w : World) (hl : Sl EBytes (fun _ => True) w la l) (hm : Sl EBytes (fun _ => True) w ma l) (hln : ln = l.length) (hlc : ln ≤ lc) (hmc : ln ≤ mc) (hmx : ln ≤ 1000000) :
    Calls Try.prog 55 #[.agg #[.int .i64 v, .int .i64 n, .slice la ln lc], .agg #[.int .i64 v, .int .i64 n, .slice ma ln mc]] w fun e w' => e = .returned (.bool true) ∧ Below w.heap.size w w' := by
  obtain ⟨w3, hw3⟩ : ∃ x, x = (w.alloc (.cells #[.int .i64 v, .int .i64 n, .slice la ln lc] 95)).alloc (.cells #[.int .i64 v, .int .i64 n, .slice ma ln mc] 95) := ⟨_, rfl⟩
  obtain ⟨B, hB⟩ : ∃ B, B = w.heap.size := ⟨_, rfl⟩
  have b1 := alloc_below w (.cells #[.int .i64 v, .int .i64 n, .slice la ln lc] 95)
  have b2 := alloc_below (w.alloc (.cells #[.int .i64 v, .int .i64 n, .slice la ln lc] 95)) (.cells #[.int .i64 v, .int .i64 n, .slice ma ln mc] 95)
  have z1 := alloc_size w (.cells #[.int .i64 v, .int .i64 n, .slice la ln lc] 95)
  have hb3 : Below B w w3 := by rw [hw3, hB]; exact b1.trans (b2.mono (by omega))
  have h0 : w3.heap[B]? = some (.cells #[.int .i64 v, .int .i64 n, .slice la ln lc] 95 (0, 0)) := by rw [hw3, hB, b2.block _ (by omega)]; exact heap_alloc_new w _
  have h1 : w3.heap[B + 1]? = some (.cells #[.int .i64 v, .int .i64 n, .slice ma ln mc] 95 (0, 0)) := by rw [hw3, hB, ← z1]; exact heap_alloc_new _ _
  have c00 : w3.cell? ⟨B, 0, none⟩ = some (.int .i64 v) := by simp [World.cell?, h0]
  have c01 : w3.cell? ⟨B, 1, none⟩ = some (.int .i64 n) := by simp [World.cell?, h0]
  have c02 : w3.cell? ⟨B, 2, none⟩ = some (.slice la ln lc) := by simp [World.cell?, h0]
  have c10 : w3.cell? ⟨B + 1, 0, none⟩ = some (.int .i64 v) := by simp [World.cell?, h1]
  have c11 : w3.cell? ⟨B + 1, 1, none⟩ = some (.int .i64 n) := by simp [World.cell?, h1]
  have c12 : w3.cell? ⟨B + 1, 2, none⟩ = some (.slice ma ln mc) := by simp [World.cell?, h1]
  have Hl := Lib.hid (hl.below (by decide) (by rw [← hB]; exact hb3))
  have Hm := Lib.hid (hm.below (by decide) (by rw [← hB]; exact hb3))
  have Hw3 := Lib.hid hw3.symm
  have HB := Lib.hid hB.symm
  have Hb3 := Lib.hid hb3
  have Hbz : RowKit.Hid (B ≤ w3.heap.size) := Lib.hid (by rw [hB]; exact hb3.size)
  have Hln := Lib.hid hln
  clear hl hm hw3 hB hb3 h0 h1 b1 b2 z1 hln
  go_enter Try.func55, Try.ntmps55
  go_upto_region 1 with fail
  rw [Hw3.out, HB.out]
  clear Hw3
  go_wp2_with fail
  go_loopg [5, 30] ln (fun gn u i wr => ∃ j : Nat, RowKit.Hid (gn = ln - j) ∧ j ≤ ln ∧ i = .int .i64 j ∧ RowKit.Hid (Below w3.heap.size w3 wr))
  case atStart => exact ⟨0, Lib.hid rfl, Nat.zero_le _, rfl, Lib.hid (Below.refl _ _)⟩
  case round =>
    obtain ⟨j, hgn, hj, rfl, hb⟩ := hrel
    have d02 : wr.cell? ⟨B, 2, none⟩ = some (.slice la ln lc) := cell_thru c02 hb.out
    have d12 : wr.cell? ⟨B + 1, 2, none⟩ = some (.slice ma ln mc) := cell_thru c12 hb.out
    have hl2 := Hl.out.below (by decide) hb.out
    have hm2 := Hm.out.below (by decide) hb.out
    by_cases hlt : j < ln
    · have hji : (j : Int) < (ln : Int) := by omega
      have hjl : j < l.length := by rw [← Hln.out]; exact hlt
      obtain ⟨b, o, a2, p2, rfl, _, e1, q1, s1⟩ := byts_atG hl2 j hjl
      obtain ⟨b', o', a3, p3, rfl, _, e2, q2, s2⟩ := byts_atG hm2 j hjl
      obtain ⟨E, hE⟩ : ∃ E, E = l[j] := ⟨_, rfl⟩
      rw [← hE] at e1 e2 s1 s2
      obtain ⟨N, hN⟩ : ∃ N, N = E.length := ⟨_, rfl⟩
      rw [← hN] at e1 e2
      have hC : ∀ W : World, W.heap = wr.heap → Calls Try.prog 58 #[.slice a2 N p2, .slice a3 N p3] W fun e w' => e = .returned (.bool true) ∧ W = w' := by
        intro W hW
        refine (ref_Same a2 a3 N N p2 p3 E E W ⟨hN, s1.heap (by decide) hW⟩ ⟨hN, s2.heap (by decide) hW⟩).mono ?_
        intro e w' h
        simpa using h
      have HC := Lib.hid hC
      have hadd : IntKind.i64.wrap ((j : Int) + 1) = (j : Int) + 1 := IntWalk.i64_in _ (by omega)
      clear hC hl2 hm2 s1 s2 q1 q2 hE hN
      go_wp2_with fail
      go_region_held3 (fun W => W.cell? ⟨B, 2, none⟩ = some (.slice (some ⟨b, o, none⟩) ln lc) ∧ W.cell? ⟨B + 1, 2, none⟩ = some (.slice (some ⟨b', o', none⟩) ln mc) ∧ W.cell? ⟨b, o + j, none⟩ = some (.slice a2 N p2) ∧ W.cell? ⟨b', o' + j, none⟩ = some (.slice a3 N p3))
        (first | exact ⟨d02, d12, e1, e2⟩ | go_keep)
        ((go_at_call 58; refine (HC.out wr.drew rfl).mono ?_; rintro e w4 ⟨rfl, rfl⟩))
      have Hb4 : RowKit.Hid (Below w3.heap.size w3 wr.drew) := Lib.hid hb.out.drew
      go_wp2_with fail
      go_roundg (ln - (j + 1))
      case measure => rw [hgn.out]; omega
      case rel => exact ⟨j + 1, Lib.hid rfl, by omega, by go_num, Hb4⟩
    · have hji : ¬ ((j : Int) < (ln : Int)) := by omega
      clear hl2 hm2
      go_wp2_with fail
      go_ret
      refine ⟨rfl, ?_⟩
      rw [HB.out]
      exact Hb3.out.trans (hb.out.mono Hbz.out)
namespace Vw
def h0 : Core := Core.new 1 1 0 5 ⟨0, 0, []⟩
theorem h0_leads : h0.leads = true := by decide +kernel
theorem h0_err : (h0.propose [97#8]).2 = 0 := by decide +kernel
theorem h0_log : (h0.propose [97#8]).1.keep.log = [[97#8]] := by decide +kernel
theorem h0_done : (h0.propose [97#8]).1.done = [[97#8]] := by decide +kernel
theorem h0_commit : (h0.propose [97#8]).1.commit = 1 := by decide +kernel
theorem h0_recs : (h0.propose [97#8]).1.recs.map (fun r => (r.kind, r.a, r.b, r.data)) = [(2, 0, 0, [97#8])] := by decide +kernel
theorem h0_msgs : (h0.propose [97#8]).1.msgs.length = 0 := by decide +kernel
end Vw
end Go.Proofs.Ytmmgnbdngpkfcaa

namespace Go.Proofs.Ytmmgnbdngpkfcaa
open Go.RowKit
set_option linter.unusedVariables false

/-- what is held besides lies in such blocks alone -/
def ERes {α : Type} (s : Nat → Prop) (E : Enc α) : Enc α where
  sz := E.sz
  rep ok w cs x := E.rep (fun b => ok b ∧ s b) w cs x
  len h := E.len h
  one h := E.one h
  mono h hk := E.mono h fun k hk1 hlt => ⟨(hk k hk1.1 hlt).1, (hk k hk1.1 hlt).2, hk1.2⟩
/-- what is owned and holds such things can be read in such blocks -/
theorem Own.sl_res {α : Type} {s : Nat → Prop} {E : Enc α} {te base : Nat} {w : World} {v : Value} {l : List α} (h : Own (ERes s E) te base w v l) (hs : ∀ k, base ≤ k → s k) : ∃ a c, v = .slice a l.length c ∧ (l.length ≤ c ∧ c ≤ maxLen) ∧ Sl E s w a l := by
  rcases h with ⟨rfl, rfl⟩ | ⟨g, cap, cur, rfl, hg, hh, h1, h2, h3, h4⟩
  · exact ⟨none, 0, rfl, ⟨Nat.le_refl _, Nat.zero_le _⟩, Sl.nil _ _ _ _⟩
  · refine ⟨some ⟨g, 0, none⟩, cap, rfl, ⟨h1, h2⟩, fun k x hx => ?_⟩
    obtain ⟨cs, hr, hc⟩ := h4 k x hx
    refine ⟨g, 0, rfl, hs g hg, cs, E.mono hr fun b hb _ => ⟨rfl, hb.2⟩, fun j v hj => ?_⟩
    have := hc j v hj
    simp [World.cell?, hh]; exact this
theorem ti_res (s : Nat → Prop) : ElemInfo Try.prog 50 49 (ERes s EBytes).sz 24 := ti_texts
theorem rfieldsE_cons {α β : Type} {P : Program} {f : Field} {fs : List Field} {off : Nat} {A : Enc α} {B : Enc β} (hr : ∃ m : α → Nat, Reads P f.type A m) (ho : f.offset = off) (hc : P.cellsOf f.type = A.sz) (hrest : ∃ n : β → Nat, FieldsRead P fs (off + A.sz) B n) : ∃ m : α × β → Nat, FieldsRead P (f :: fs) off (EPair A B) m := by
  obtain ⟨m, hr⟩ := hr; obtain ⟨n, hrest⟩ := hrest; exact ⟨_, fields_cons ho hc hr hrest⟩
theorem rfieldsE_one {α : Type} {P : Program} {f : Field} {off : Nat} {E : Enc α} (hr : ∃ m : α → Nat, Reads P f.type E m) (ho : f.offset = off) (hc : P.cellsOf f.type = E.sz) : ∃ m : α → Nat, FieldsRead P [f] off E m := by
  obtain ⟨m, hr⟩ := hr; exact ⟨m, fields_one ho hc hr⟩
theorem rreadsE_struct {α : Type} {P : Program} {t : TypeId} {fs : Array Field} {E : Enc α} (h : P.underlying t = some (.struct fs)) (hc : P.cellsOf t = E.sz) (hr : ∃ m : α → Nat, FieldsRead P fs.toList 0 E m) : ∃ m : α → Nat, Reads P t E m := by
  obtain ⟨m, hr⟩ := hr; exact ⟨m, reads_struct h hc hr⟩
theorem rreadsE_int : ∃ m : Int → Nat, Reads Try.prog 3 EInt m := ⟨_, reads_int Try.underlying3⟩
/-- what lasts, as it comes in -/
def EKeepI : Enc Vw.Keep where
  sz := 3
  rep ok w cs k := ∃ la lc, cs = [.int .i64 k.view, .int .i64 k.normal, .slice la k.log.length lc] ∧ (k.log.length ≤ lc ∧ lc ≤ maxLen) ∧ Sl EBytes ok w la k.log
  len h := by obtain ⟨_, _, rfl, _⟩ := h; rfl
  one h := by
    obtain ⟨_, _, rfl, _⟩ := h
    intro u hu
    simp only [List.mem_cons, List.not_mem_nil, or_false] at hu
    rcases hu with rfl | rfl | rfl <;> rfl
  mono h hk := by
    obtain ⟨la, lc, e, h1, h2⟩ := h
    exact ⟨la, lc, e, h1, h2.mono (by decide) hk⟩
end Go.Proofs.Ytmmgnbdngpkfcaa

namespace Go.Proofs.Ytmmgnbdngpkfcaa
open Go.RowKit
set_option linter.unusedVariables false

/-- the law's own list, in blocks from S on; what its elements hold lies below B -/
abbrev EHad (B : Nat) : Enc Vw.Bs := ERes (fun b => b < B) EBytes
/-- the state of the law ViewAlone -/
structure VaSt (B q : Nat) (w0 w : World) (M : Col) (g : Nat) (c : Vw.Core) (hv : Value) (had klog : List Vw.Bs) (ka : Option Addr) (kp : Nat) : Prop where
  vat : VwAt M w g c
  low : ∀ b, b < B → M b = 0
  below : Below B w0 w
  bq : B ≤ q
  kq : w.heap[q]? = some (.cells #[.int .i64 0, .int .i64 0, .slice ka klog.length kp] 95 (0, 0))
  qM : M q = 9
  kcap : klog.length ≤ kp ∧ kp ≤ maxLen
  kl : Sl EBytes (Im M) w ka klog
  own : Own (EHad B) 49 (q + 1) w hv had
  ownM : ∀ b, hv.ownBlock = some b → M b = 9
section
variable {B q : Nat} {w0 w w' : World} {M M' : Col} {g g' : Nat} {c c' : Vw.Core} {hv hv' : Value} {had klog : List Vw.Bs} {ka : Option Addr} {kp : Nat}
theorem VaSt.qlt (h : VaSt B q w0 w M g c hv had klog ka kp) : q < w.heap.size := (Array.getElem?_eq_some_iff.1 h.kq).1
theorem own_other (h : Own (EHad B) 49 (q + 1) w hv had) (hk : ∀ k, k < w.heap.size → (k < B ∨ hv.ownBlock = some k) → w'.heap[k]? = w.heap[k]?) : Own (EHad B) 49 (q + 1) w' hv had := by
  rcases h with h | ⟨g, cap, cur, rfl, hg, hh, h1, h2, h3, h4⟩
  · exact .inl h
  · have hgz := (Array.getElem?_eq_some_iff.1 hh).1
    refine .inr ⟨g, cap, cur, rfl, hg, (hk g hgz (.inr rfl)).trans hh, h1, h2, h3, fun k x hx => ?_⟩
    obtain ⟨cs, hr, hc⟩ := h4 k x hx
    exact ⟨cs, EBytes.mono hr fun b hb hlt => ⟨hk b hlt (.inl hb.2), hb⟩, hc⟩
/-- the member turns -/
theorem VaSt.fr (h : VaSt B q w0 w M g c hv had klog ka kp) (f : Fr M w M' w') (hv2 : VwAt M' w' g' c') : VaSt B q w0 w' M' g' c' hv had klog ka kp := by
  have hz := h.qlt
  have hB : B ≤ w.heap.size := by have := h.bq; omega
  have o9 : ∀ k, k < w.heap.size → M k = 9 → w'.heap[k]? = w.heap[k]? ∧ M' k = 9 := fun k hk e => ⟨(f.other hk (by omega)).1, (f.other hk (by omega)).2.trans e⟩
  refine ⟨hv2, fun b hb => f.zero (by omega) (h.low b hb), h.below.trans (f.1.below hB fun k hk => ?_), h.bq, (o9 q hz h.qM).1.trans h.kq, (o9 q hz h.qM).2, h.kcap, h.kl.fr (by decide) f, own_other h.own fun k hk e => ?_, fun b e => ?_⟩
  · rcases Nat.lt_or_ge k B with e | e
    · have := h.low k e; have := hk.1; omega
    · exact e
  · rcases e with e | e
    · exact f.block hk (h.low k e)
    · exact (o9 k hk (h.ownM k e)).1
  · exact (o9 b ((h.own.lt b e).2) (h.ownM b e)).2
/-- the list grows -/
theorem VaSt.grow (h : VaSt B q w0 w M g c hv had klog ka kp) {had' : List Vw.Bs} (hg : w.grownBy w' hv.ownBlock) (hn : hv'.ownBlock = hv.ownBlock ∨ ∃ b, hv'.ownBlock = some b ∧ w.heap.size ≤ b) (ho : Own (EHad B) 49 (q + 1) w' hv' had') :
    ∃ M', VaSt B q w0 w' M' g c hv' had' klog ka kp ∧ ∀ k, k < w.heap.size → M k = 0 → w'.heap[k]? = w.heap[k]? ∧ M' k = 0 := by
  have hz := h.qlt
  have hB : B ≤ w.heap.size := by have := h.bq; omega
  obtain ⟨M', hM'⟩ : ∃ M' : Col, M' = fun k => if hv'.ownBlock = some k then 9 else M k := ⟨_, rfl⟩
  have hold : ∀ k, k < w.heap.size → M' k = M k := fun k hk => by
    rw [hM']; simp only
    split
    · rename_i e
      rcases hn with e2 | ⟨b, e2, hb⟩
      · rw [e2] at e; exact (h.ownM k e).symm
      · rw [e2] at e; injection e with e; omega
    · rfl
  have hne : ∀ k, M k ≤ 7 → some k ≠ hv.ownBlock := fun k hk e => by have := h.ownM k e.symm; omega
  have hblk : ∀ k, k < w.heap.size → M k ≤ 7 → w'.heap[k]? = w.heap[k]? ∧ M' k = M k := fun k hk hm => ⟨hg.block k hk (hne k hm), hold k hk⟩
  have hqn : some q ≠ hv.ownBlock := fun e => by have := (h.own.lt q e.symm).1; omega
  refine ⟨M', ⟨h.vat.keep hblk fun k hk => ?_, fun b hb => (hold b (by omega)).trans (h.low b hb), h.below.trans ⟨hg.os, hg.tape, hg.output, hg.size, fun k hk => hg.block k (by omega) (hne k (by rw [h.low k hk]; decide))⟩, h.bq, (hg.block q hz hqn).trans h.kq, (hold q hz).trans h.qM, h.kcap,
    h.kl.mono (by decide) fun k hk hlt => ⟨(hblk k hlt (by rw [show M k = 0 from hk]; decide)).1, (hold k hlt).trans hk⟩, ho, fun b e => by rw [hM']; simp [e]⟩, fun k hk hm => ⟨(hblk k hk (by omega)).1, (hold k hk).trans hm⟩⟩
  rw [hM'] at hk
  simp only at hk
  split at hk
  · rename_i e; exact (ho.lt k e).2
  · exact Nat.lt_of_lt_of_le (h.vat.dom k hk) hg.size
/-- the other list is laid anew -/
theorem VaSt.store (h : VaSt B q w0 w M g c hv had klog ka kp) {klog' : List Vw.Bs} {ka' : Option Addr} {kp' : Nat} (ho : Only (· = q) w w') (hk : w'.heap[q]? = some (.cells #[.int .i64 0, .int .i64 0, .slice ka' klog'.length kp'] 95 (0, 0))) (hc : klog'.length ≤ kp' ∧ kp' ≤ maxLen) (hs : Sl EBytes (Im M) w ka' klog') :
    VaSt B q w0 w' M g c hv had klog' ka' kp' := by
  have hz := h.qlt
  have hB : B ≤ w.heap.size := by have := h.bq; omega
  have hblk : ∀ k, k < w.heap.size → M k ≤ 7 → w'.heap[k]? = w.heap[k]? ∧ M k = M k := fun k hk hm => ⟨ho.block k hk (fun e => by have := h.qM; rw [← e] at this; omega), rfl⟩
  refine ⟨h.vat.keep hblk fun k hk => Nat.lt_of_lt_of_le (h.vat.dom k hk) ho.size, h.low, h.below.trans (ho.below hB fun k hk => by have := h.bq; omega), h.bq, hk, h.qM, hc, hs.mono (by decide) fun k hk hlt => ⟨(hblk k hlt (by rw [show M k = 0 from hk]; decide)).1, hk⟩, own_other h.own fun k hk e => ho.block k hk ?_, h.ownM⟩
  rcases e with e | e
  · have := h.bq; omega
  · have := (h.own.lt k e).1; omega
/-- a member is made of what lasts -/
theorem VaSt.new (h : VaSt B q w0 w M g c hv had klog ka kp) (hn : NewToO (Im M) w w' g' c') : ∃ M', VaSt B q w0 w' M' g' c' hv had klog ka kp ∧ ∀ k, k < w.heap.size → M k = 0 → w'.heap[k]? = w.heap[k]? ∧ M' k = 0 := by
  obtain ⟨M', h1, h2, h3⟩ := hn
  have hz := h.qlt
  have hB : B ≤ w.heap.size := by have := h.bq; omega
  have o9 : ∀ k, k < w.heap.size → M k = 9 → M' k = 9 := fun k hk e => (h2 k hk).2 fun e2 => by have : M k = 0 := e2; omega
  refine ⟨M', ⟨h1, fun b hb => (h2 b (by omega)).1 (h.low b hb), h.below.trans (h3.mono hB), h.bq, (h3.block q hz).trans h.kq, o9 q hz h.qM, h.kcap, h.kl.mono (by decide) fun k hk hlt => ⟨h3.block k hlt, (h2 k hlt).1 hk⟩, own_other h.own fun k hk _ => h3.block k hk, fun b e => o9 b (h.own.lt b e).2 (h.ownM b e)⟩, fun k hk hm => ⟨h3.block k hk, (h2 k hk).1 hm⟩⟩
end
/-- what an entry that was handed in has given out, in a box of the law's -/
structure VaOut (M : Col) (w : World) (p r1 o1 p1 : Nat) (a2 : Option Addr) (p2 b3 o3 p3 : Nat) (a4 : Option Addr) (p4 : Nat) (a5 : Option Addr) (p5 N : Nat) (D : Vw.Bs) : Prop where
  box : w.heap[p]? = some (.cells #[.slice (some ⟨r1, o1, none⟩) 1 p1, .slice a2 0 p2, .slice (some ⟨b3, o3, none⟩) 1 p3] 107 (0, 0))
  col : M p = 0 ∧ M r1 = 0 ∧ M b3 = 0
  k0 : w.cell? ⟨r1, o1, none⟩ = some (.int .i64 2)
  k1 : w.cell? ⟨r1, o1 + 1, none⟩ = some (.int .i64 0)
  k2 : w.cell? ⟨r1, o1 + 2, none⟩ = some (.int .i64 0)
  k3 : w.cell? ⟨r1, o1 + 3, none⟩ = some (.slice a4 N p4)
  d0 : w.cell? ⟨b3, o3, none⟩ = some (.slice a5 N p5)
  s4 : Sl EU8 (Im M) w a4 D
  s5 : Sl EU8 (Im M) w a5 D
  b4 : N ≤ p4 ∧ p4 ≤ maxLen
  b5 : N ≤ p5 ∧ p5 ≤ maxLen
  b1 : 1 ≤ p1 ∧ 1 ≤ p3
  n : N = D.length
theorem VaOut.keep {M M' : Col} {w w' : World} {p r1 o1 p1 : Nat} {a2 : Option Addr} {p2 b3 o3 p3 : Nat} {a4 : Option Addr} {p4 : Nat} {a5 : Option Addr} {p5 N : Nat} {D : Vw.Bs} (h : VaOut M w p r1 o1 p1 a2 p2 b3 o3 p3 a4 p4 a5 p5 N D)
    (hk : ∀ k, k < w.heap.size → M k = 0 → w'.heap[k]? = w.heap[k]? ∧ M' k = 0) : VaOut M' w' p r1 o1 p1 a2 p2 b3 o3 p3 a4 p4 a5 p5 N D := by
  have hpz := (Array.getElem?_eq_some_iff.1 h.box).1
  have hrz := cell_lt h.k0
  have hbz := cell_lt h.d0
  have e1 := hk p hpz h.col.1
  have e2 := hk r1 hrz h.col.2.1
  have e3 := hk b3 hbz h.col.2.2
  exact ⟨e1.1.trans h.box, ⟨e1.2, e2.2, e3.2⟩, (cell_keep e2.1).trans h.k0, (cell_keep e2.1).trans h.k1, (cell_keep e2.1).trans h.k2, (cell_keep e2.1).trans h.k3, (cell_keep e3.1).trans h.d0, h.s4.mono (by decide) fun k ho hl => hk k hl ho |>.imp_right id, h.s5.mono (by decide) fun k ho hl => hk k hl ho |>.imp_right id, h.b4, h.b5, h.b1, h.n⟩
theorem ERes.out {α : Type} {s ok : Nat → Prop} {E : Enc α} {w : World} {a : Option Addr} {l : List α} (h : Sl (ERes s E) ok w a l) : Sl E ok w a l := by
  intro k x hx
  obtain ⟨b, o, e, hb, cs, hr, hc⟩ := h k x hx
  by_cases hsz : w.heap.size = 0
  · exact ⟨b, o, e, hb, cs, E.mono hr fun k hk hlt => absurd hlt (by omega), hc⟩
  · exact ⟨b, o, e, hb, cs, E.mono hr fun k hk hlt => ⟨rfl, hk.1⟩, hc⟩
namespace Vw
/-- a member alone that has done all it was handed -/
structure AlOk (c : Core) (l : List Bs) (j : Nat) : Prop where
  al : Alone c
  keep : c.keep = ⟨0, 0, l⟩
  commit : c.commit = l.length
  idle : 0 ≤ c.idle ∧ c.idle ≤ j
  recs : c.recs = []
  msgs : c.msgs = []
  done : c.done = []
theorem AlOk.step {c : Core} {l : List Bs} {j : Nat} (h : AlOk c l j) {b : Bs} (hb : b.length ≤ 4000) (hl : l.length < 2000) :
    (c.propose b).2 = 0 ∧ (c.propose b).1.recs = [⟨2, 0, 0, b⟩] ∧ (c.propose b).1.msgs = [] ∧ (c.propose b).1.done = [b] ∧ (c.propose b).1.keep = ⟨0, 0, l ++ [b]⟩ ∧ AlOk (c.propose b).1.clear (l ++ [b]) (j + 1) := by
  have hk := h.keep
  have hp := h.al.propose hb (by rw [hk]; exact hl) (by rw [hk, h.commit]; exact Nat.le_refl _)
  rw [hp]
  have h1 : (c.rec_ ⟨2, 0, 0, b⟩).keep = ⟨0, 0, l ++ [b]⟩ := by
    show lay c.keep ⟨2, 0, 0, b⟩ = _
    rw [hk]; rfl
  have h2 : (c.keep.log.length + 1) = (l ++ [b]).length := by rw [hk]; simp
  refine ⟨rfl, ?_, ?_, ?_, h1, ⟨⟨h.al.n, h.al.me, h.al.ch⟩, h1, ?_, ⟨h.idle.1, ?_⟩, rfl, rfl, rfl⟩⟩
  · show c.recs ++ [_] = _
    rw [h.recs]; rfl
  · exact h.msgs
  · show c.done ++ ((c.rec_ ⟨2, 0, 0, b⟩).keep.log.take _).drop c.commit = _
    rw [h.done, h1, h2, h.commit, List.take_of_length_le (Nat.le_refl _), List.nil_append]
    exact List.drop_left
  · exact h2
  · show c.idle ≤ ((j + 1 : Nat) : Int)
    have := h.idle.2; omega
theorem AlOk.again (l : List Bs) (j : Nat) : (Core.new 1 1 0 3 ⟨0, 0, l⟩).leads = true ∧ (Core.new 1 1 0 3 ⟨0, 0, l⟩).tick.done = l ∧ (Core.new 1 1 0 3 ⟨0, 0, l⟩).tick.msgs = [] ∧ (Core.new 1 1 0 3 ⟨0, 0, l⟩).tick.recs = [] ∧ AlOk (Core.new 1 1 0 3 ⟨0, 0, l⟩).tick.clear l (j + 1) := by
  have ha := Alone.new 0 3 l 0
  obtain ⟨i, hi, h0⟩ := ha.tick (by show 0 ≤ _; omega)
  have hi1 : 0 ≤ i ∧ i ≤ 1 := by
    have : (Core.new 1 1 0 3 ⟨0, 0, l⟩).idle = 0 := rfl
    rw [this] at h0; omega
  refine ⟨ha.leads, ?_, ?_, ?_, ?_⟩
  · rw [hi]
    show [] ++ (l.take l.length).drop 0 = l
    simp
  · rw [hi]; rfl
  · rw [hi]; rfl
  · rw [hi]
    refine ⟨⟨ha.n, ha.me, ha.ch⟩, rfl, ?_, ⟨hi1.1, ?_⟩, rfl, rfl, rfl⟩
    · show max 0 l.length = l.length
      simp
    · show i ≤ ((j + 1 : Nat) : Int)
      omega
theorem AlOk.start : AlOk (Core.new 1 1 0 3 ⟨0, 0, []⟩) [] 0 := ⟨Alone.new 0 3 [] 0, rfl, rfl, ⟨by show (0 : Int) ≤ 0; decide, by show (0 : Int) ≤ (0 : Nat); decide⟩, rfl, rfl, rfl⟩
theorem AlOk.mono {c : Core} {l : List Bs} {j : Nat} (h : AlOk c l j) : AlOk c l (j + 1) := ⟨h.al, h.keep, h.commit, ⟨h.idle.1, by have := h.idle.2; omega⟩, h.recs, h.msgs, h.done⟩
end Vw
end Go.Proofs.Ytmmgnbdngpkfcaa

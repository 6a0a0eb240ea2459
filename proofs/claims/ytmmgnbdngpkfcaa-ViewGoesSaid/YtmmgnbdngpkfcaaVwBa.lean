/-
  A member takes a log over, walked.
-/
import Derived.Test.YtmmgnbdngpkfcaaVwGh
import Derived.Test.YtmmgnbdngpkfcaaVwN
import Derived.Test.YtmmgnbdngpkfcaaVwAl
namespace Go.Proofs.Ytmmgnbdngpkfcaa
open Go.RowKit
set_option linter.unusedVariables false

namespace Vw
theorem cp_is {l m : List Bs} {s : Nat} (h1 : s ≤ l.length) (h2 : s ≤ m.length) (h3 : l.take s = m.take s) (h4 : ∀ (a : s < l.length) (b : s < m.length), l[s] ≠ m[s]) : Core.cp l m = s := by
  have h5 := cp_most l m s h1 h2 h3
  rcases Nat.lt_or_eq_of_le h5 with h | h
  · have hl := cp_le l m
    have ht := congrArg (fun x => x[s]?) (cp_take l m)
    simp only [List.getElem?_take, if_pos h] at ht
    rw [List.getElem?_eq_getElem (by omega), List.getElem?_eq_getElem (by omega)] at ht
    exact absurd (by injection ht) (h4 (by omega) (by omega))
  · exact h.symm
theorem take_snoc2 {l m : List Bs} {s : Nat} (a : s < l.length) (b : s < m.length) (h : l.take s = m.take s) (e : l[s] = m[s]) : l.take (s + 1) = m.take (s + 1) := by
  rw [List.take_succ_eq_append_getElem a, List.take_succ_eq_append_getElem b, h, e]
namespace Core
theorem puts_succ (c : Core) (l : List Bs) (i : Nat) (h : i < l.length) : c.puts (l.take (i + 1)) = (c.puts (l.take i)).rec_ ⟨2, 0, 0, l[i]⟩ := by
  unfold puts
  rw [List.take_succ_eq_append_getElem h, List.foldl_append]
  rfl
theorem puts_log : ∀ (l : List Bs) (c : Core), (c.puts l).keep = { c.keep with log := c.keep.log ++ l } ∧ (c.puts l).recs.length = c.recs.length + l.length ∧ (c.puts l).n = c.n ∧ (c.puts l).me = c.me ∧ (c.puts l).shard = c.shard ∧ (c.puts l).pat = c.pat ∧ (c.puts l).commit = c.commit ∧ (c.puts l).idle = c.idle ∧ (c.puts l).begun = c.begun ∧ (c.puts l).dos = c.dos ∧ (c.puts l).has = c.has ∧ (c.puts l).msgs = c.msgs ∧ (c.puts l).done = c.done
  | [], c => by simp [puts]
  | b :: l, c => by
    have h := puts_log l (c.rec_ ⟨2, 0, 0, b⟩)
    have e : c.puts (b :: l) = (c.rec_ ⟨2, 0, 0, b⟩).puts l := rfl
    rw [e]
    obtain ⟨h1, h2, h3⟩ := h
    refine ⟨?_, ?_, h3⟩
    · rw [h1]
      show Keep.mk c.keep.view c.keep.normal ((c.keep.log ++ [b]) ++ l) = _
      simp
    · rw [h2]
      show (c.recs ++ [_]).length + l.length = _
      simp; omega
/-- the log is cut where it differs -/
def cut1 (c : Core) (s : Nat) : Core := if s < c.keep.log.length then c.rec_ ⟨3, s, 0, []⟩ else c
theorem cut1_log (c : Core) (s : Nat) (hs : s ≤ c.keep.log.length) : (c.cut1 s).keep = { c.keep with log := c.keep.log.take s } ∧ (c.cut1 s).recs.length ≤ c.recs.length + 1 ∧ (c.cut1 s).n = c.n ∧ (c.cut1 s).me = c.me ∧ (c.cut1 s).shard = c.shard ∧ (c.cut1 s).pat = c.pat ∧ (c.cut1 s).commit = c.commit ∧ (c.cut1 s).idle = c.idle ∧ (c.cut1 s).begun = c.begun ∧ (c.cut1 s).dos = c.dos ∧ (c.cut1 s).has = c.has ∧ (c.cut1 s).msgs = c.msgs ∧ (c.cut1 s).done = c.done := by
  unfold cut1
  split
  · refine ⟨?_, by show (c.recs ++ [_]).length ≤ _; simp, rfl, rfl, rfl, rfl, rfl, rfl, rfl, rfl, rfl, rfl, rfl⟩
    show Keep.mk c.keep.view c.keep.normal (c.keep.log.take (min (max (s : Int) 0) (c.keep.log.length : Int)).toNat) = _
    have : (min (max (s : Int) 0) (c.keep.log.length : Int)).toNat = s := by omega
    rw [this]
  · refine ⟨?_, Nat.le_succ _, rfl, rfl, rfl, rfl, rfl, rfl, rfl, rfl, rfl, rfl, rfl⟩
    rw [List.take_of_length_le (by omega)]
theorem adopt_eq (c : Core) (l : List Bs) : c.adopt l = { (((c.cut1 (cp l c.keep.log)).puts (l.drop (cp l c.keep.log))).rec_ ⟨1, c.keep.view, c.keep.view, []⟩) with ch := false, idle := 0, has := fun _ => 0, begun := fun _ => false, dos := fun _ => none } := by
  have h1 := (c.cut1_log (cp l c.keep.log) (cp_le l c.keep.log).2).1
  have h2 := (puts_log (l.drop (cp l c.keep.log)) (c.cut1 (cp l c.keep.log))).1
  have hv : ((c.cut1 (cp l c.keep.log)).puts (l.drop (cp l c.keep.log))).keep.view = c.keep.view := by rw [h2, h1]
  show { (((c.cut1 (cp l c.keep.log)).puts (l.drop (cp l c.keep.log))).rec_ ⟨1, ((c.cut1 (cp l c.keep.log)).puts (l.drop (cp l c.keep.log))).keep.view, ((c.cut1 (cp l c.keep.log)).puts (l.drop (cp l c.keep.log))).keep.view, []⟩) with ch := false, idle := 0, has := fun _ => 0, begun := fun _ => false, dos := fun _ => none } = _
  rw [hv]
end Core
end Vw
set_option maxHeartbeats 400000 in
theorem vw_Equal (a1 a2 : Option Addr) (n1 n2 c1 c2 : Nat) (l m : List (BitVec 8)) (w : World) (hs : RB w a1 n1 l) (ht : RB w a2 n2 m) :
    Calls Try.prog 151 #[.slice a1 n1 c1, .slice a2 n2 c2] w fun e w' => e = .returned (.bool (l == m)) ∧ w = w' := by
  go_enter Try.func151, Try.ntmps151
  go_wp2_with (first
    | (refine wpList_tostr rfl rfl rfl Try.underlying49 Try.underlying5 Try.underlying9 hs.1 hs.2 ?_)
    | (refine wpList_tostr rfl rfl rfl Try.underlying49 Try.underlying5 Try.underlying9 ht.1 ht.2 ?_))
  go_ret
  exact ⟨rfl, rfl⟩
/-- 'log[i:]' -/
theorem slice_texts_from {ok : Nat → Prop} {w : World} {a : Option Addr} {l : List (List (BitVec 8))} {c i : Nat} (h : Sl EBytes ok w a l) (hi : i ≤ l.length) (hc : l.length ≤ c) :
    ∃ a', (∀ W : World, (Instr.slice 50 (.slice a l.length c) (some (.int .i64 i)) none none).run Try.prog W = .ok (.slice a' (l.length - i) (c - i)) W) ∧ Sl EBytes ok w a' (l.drop i) := by
  obtain ⟨i0, z, hi0, hz, hsz, hby, hzc⟩ := ti_texts.info
  refine ⟨if c = i then a else a.map (·.add (i * 1)), fun W => ?_, ?_⟩
  · have e3 : (l.length : Int) ≤ (c : Int) := by omega
    have e4 : (i : Int) ≤ (l.length : Int) := by omega
    have e5 : i0.size = 1 := hsz
    simp [Instr.slice, run_underlying ti_texts.under, Instr.sliceBounds, run_sliceBound, sizeOf, typeInfo, hi0, e5, hi]
  · have := h.cut (c := c) hi (Nat.le_refl _) hc (decide (c = i)) (by simp; omega)
    simp only [decide_eq_true_eq] at this
    rw [List.take_of_length_le (by simp)] at this
    exact this
/-- three maps made anew, and two cells of the row -/
theorem fresh_fold {M : Col} {w : World} {g : Nat} {c : Vw.Core} {L : Lo} (h : VwL M w g c L) (b : Bool) (k : Int) (hk : 0 ≤ k ∧ k ≤ 1000000000000) (W1 W2 W3 : World)
    (e1 : W1 = (w.setCell ⟨g, 8, none⟩ (.bool b)).setCell ⟨g, 10, none⟩ (.int .i64 k)) (e2 : W2 = ((W1.alloc (.map #[] 0)).alloc (.map #[] 0)).alloc (.map #[] 0))
    (e3 : W3 = ((W2.setCell ⟨g, 11, none⟩ (.map (some W1.heap.size))).setCell ⟨g, 12, none⟩ (.map (some (W1.heap.size + 1)))).setCell ⟨g, 13, none⟩ (.map (some (W1.heap.size + 1 + 1)))) :
    VwTo M w W3 g { c with ch := b, idle := k, has := fun _ => 0, begun := fun _ => false, dos := fun _ => none } := by
  have hr := h.right
  obtain ⟨h1, f1⟩ := h.put (w1 := W1) (c' := { c with ch := b, idle := k }) (L' := L) (by rw [e1]; exact setg (S := (· = g)) (setg (S := (· = g)) (Only.refl _ w) rfl 8 _) rfl 10 _) (by rw [e1, heap_set (heap_set h.row 8 _) 10 _]; rfl)
    ⟨h.p.dom, h.p.lc, h.p.log, h.p.hc, h.p.has, h.p.bc, h.p.begun, h.p.dc, h.p.dos, h.p.recs, h.p.msgs, h.p.done⟩ ⟨hr.n, hr.me, hr.pat, hr.view, hr.log, hr.commit, hk, hr.begun, hr.dos, hr.has⟩
  have b1 := alloc_below W1 (.map #[] 0)
  have b2 := alloc_below (W1.alloc (.map #[] 0)) (.map #[] 0)
  have b3 := alloc_below ((W1.alloc (.map #[] 0)).alloc (.map #[] 0)) (.map #[] 0)
  have z1 := alloc_size W1 (.map #[] 0)
  have z2 := alloc_size (W1.alloc (.map #[] 0)) (.map #[] 0)
  have z3 := alloc_size ((W1.alloc (.map #[] 0)).alloc (.map #[] 0)) (.map #[] 0)
  have hb : Below W1.heap.size W1 W2 := by rw [e2]; exact b1.trans ((b2.mono (by omega)).trans (b3.mono (by omega)))
  have hz : W2.heap.size = W1.heap.size + 3 := by rw [e2]; omega
  have n1 : W2.heap[W1.heap.size]? = some (.map #[] 0) := by rw [e2, b3.block _ (by omega), b2.block _ (by omega)]; exact heap_alloc_new W1 _
  have n2 : W2.heap[W1.heap.size + 1]? = some (.map #[] 0) := by rw [e2, b3.block _ (by omega), ← z1]; exact heap_alloc_new _ _
  have n3 : W2.heap[W1.heap.size + 1 + 1]? = some (.map #[] 0) := by rw [e2, ← z1, ← z2]; exact heap_alloc_new _ _
  have hmap : ∀ x, W2.heap[x]? = some (.map #[] 0) → IMap W2 x 8 fun _ => none := fun x hh => by
    obtain ⟨D, ⟨es, clock, hb, r⟩, h2⟩ := IMap.made w
    rw [heap_alloc_new w _] at hb
    exact IMap.mono (f := fun _ => none) ⟨D, ⟨es, clock, hh.trans hb, r⟩, h2⟩ (Nat.zero_le _)
  obtain ⟨M1, p1, f2, hold⟩ := h1.p.maps (hf := fun _ => 0) (bf := fun _ => false) hb (p := W1.heap.size) (q := W1.heap.size + 1) (r := W1.heap.size + 1 + 1) ⟨by omega, by omega⟩ ⟨by omega, by omega⟩ ⟨by omega, by omega⟩ (by omega) (by omega) (by omega) (hmap _ n1) (by simpa using hmap _ n2) (hmap _ n3)
  have h2 := h1.keep (M1 := M1) (w1 := W2) (fun k hk _ => ⟨hb.block k hk, hold k hk⟩) p1.dom
  obtain ⟨h3, f3⟩ := h2.put (w1 := W3) (by rw [e3]; exact setg (S := (· = g)) (setg (S := (· = g)) (setg (S := (· = g)) (Only.refl _ W2) rfl 11 _) rfl 12 _) rfl 13 _) (by rw [e3, heap_set (heap_set (heap_set h2.row 11 _) 12 _) 13 _]; rfl) p1
    ⟨hr.n, hr.me, hr.pat, hr.view, hr.log, hr.commit, hk, (fun z h => by cases h), (fun z m h => by cases h), fun z => ⟨Int.le_refl 0, by show (0 : Int) ≤ 2000; decide⟩⟩
  exact ⟨M1, ⟨_, h3⟩, f1.trans (f2.trans f3)⟩
set_option maxRecDepth 16384 in
set_option maxHeartbeats 12800000 in
theorem vw_adopt {M : Col} {g : Nat} {c : Vw.Core} (w : World) (h : VwAt M w g c) (la : Option Addr) (ln lc : Nat) (l : List Vw.Bs) (hln : ln = l.length) (hlc : ln ≤ lc ∧ lc ≤ maxLen) (hs : Sl EBytes (Im M) w la l) (hsm : Vw.Small l) (hlen : c.recs.length ≤ 100000) :
    Calls Try.prog 138 #[.pointer (some ⟨g, 0, none⟩), .slice la ln lc] w fun e w' => e = .returned (.tuple #[]) ∧ VwTo M w w' g (c.adopt l) := by
  obtain ⟨kn, hkn⟩ : ∃ kn, kn = c.keep.log.length := ⟨_, rfl⟩
  have hR := h.right
  have hkl : kn ≤ 2000 := by rw [hkn]; exact hR.log.1
  have hll : ln ≤ 2000 := by rw [hln]; exact hsm.1
  obtain ⟨N, hN⟩ : ∃ N, N = min ln kn := ⟨_, rfl⟩
  have hmin : min (ln : Int) (kn : Int) = (N : Int) := by omega
  have hNl : N ≤ ln ∧ N ≤ kn := by omega
  have H := Lib.hid h
  have Hkn := Lib.hid hkn
  have Hln := Lib.hid hln
  have HN := Lib.hid hN
  have Hs := Lib.hid hs
  have Hsm := Lib.hid hsm
  have HR := Lib.hid hR
  have Hlen := Lib.hid hlen
  have Hmin := Lib.hid hmin
  clear h hkn hln hN hs hsm hR hlen hmin
  go_enter Try.func138, Try.ntmps138
  go_wp2_with fail
  go_loopg [4] (N + 1) (fun gn i wr => ∃ s : Nat, RowKit.Hid (gn = N + 1 - s) ∧ s ≤ N ∧ i = .int .i64 s ∧ RowKit.Hid (l.take s = c.keep.log.take s) ∧ RowKit.Hid (Below w.heap.size w wr))
  case atStart => exact ⟨0, Lib.hid rfl, Nat.zero_le _, rfl, Lib.hid (by simp), Lib.hid (Below.refl _ _)⟩
  case round =>
    obtain ⟨s, hgn, hsN, rfl, ht, hb⟩ := hrel
    obtain ⟨L, h1⟩ := H.out.below hb.out
    have hs1 := Hs.out.below (by decide) hb.out
    have y7 : wr.cell? ⟨g, 7, none⟩ = some (.slice L.la kn L.lc) := by rw [Hkn.out]; exact h1.c7
    by_cases hlt : s < N
    · have hsl : s < l.length := by rw [← Hln.out]; omega
      have hsk : s < c.keep.log.length := by rw [← Hkn.out]; omega
      obtain ⟨b1, o1, a1, c1, rfl, _, e1, q1, t1⟩ := byts_atG hs1 s hsl
      obtain ⟨b2, o2, a2, c2, hla2, _, e2, q2, t2⟩ := byts_atG (show Sl EBytes (Im M) wr L.la c.keep.log from h1.p.log) s hsk
      rw [hla2] at y7
      obtain ⟨x1, hx1⟩ : ∃ x, x = l[s] := ⟨_, rfl⟩
      obtain ⟨x2, hx2⟩ : ∃ x, x = c.keep.log[s] := ⟨_, rfl⟩
      rw [← hx1] at e1 t1
      rw [← hx2] at e2 t2
      obtain ⟨n1, hn1⟩ : ∃ x, x = x1.length := ⟨_, rfl⟩
      obtain ⟨n2, hn2⟩ : ∃ x, x = x2.length := ⟨_, rfl⟩
      rw [← hn1] at e1
      rw [← hn2] at e2
      obtain ⟨q, hq⟩ : ∃ q, q = (x1 == x2) := ⟨_, rfl⟩
      have hE : Calls Try.prog 151 #[.slice a1 n1 c1, .slice a2 n2 c2] wr.drew fun e w' => e = .returned (.bool q) ∧ wr.drew = w' := by
        rw [hq]
        exact vw_Equal a1 a2 n1 n2 c1 c2 x1 x2 wr.drew ⟨hn1, (t1.any (by decide)).heap (by decide) rfl⟩ ⟨hn2, (t2.any (by decide)).heap (by decide) rfl⟩
      have hsi : (s : Int) < (N : Int) := by omega
      have hsli : (s : Int) < (ln : Int) := by omega
      have hski : (s : Int) < (kn : Int) := by omega
      have hmi := Hmin.out
      have hadd : IntKind.i64.wrap ((s : Int) + 1) = (s : Int) + 1 := IntWalk.i64_in _ (by omega)
      have HE := Lib.hid hE
      have Hq := Lib.hid hq
      have Hx := Lib.hid (And.intro hx1 hx2)
      clear hE hq hx1 hx2 hn1 hn2 t1 t2 q1 q2 hs1 h1 hla2
      go_wp2_with fail
      go_region_held3 (fun W => W.cell? ⟨g, 7, none⟩ = some (.slice (some ⟨b2, o2, none⟩) kn L.lc) ∧ W.cell? ⟨b1, o1 + s, none⟩ = some (.slice a1 n1 c1) ∧ W.cell? ⟨b2, o2 + s, none⟩ = some (.slice a2 n2 c2))
        (first | exact ⟨y7, e1, e2⟩ | go_keep)
        ((go_at_call 151; refine HE.out.mono ?_; rintro e w4 ⟨rfl, rfl⟩))
      have Hb4 : RowKit.Hid (Below w.heap.size w wr.drew) := Lib.hid hb.out.drew
      cases q with
      | true =>
        have hxe : x1 = x2 := by have := Hq.out; simpa using this.symm
        have Ht : RowKit.Hid (l.take (s + 1) = c.keep.log.take (s + 1)) := Lib.hid (Vw.take_snoc2 hsl hsk ht.out (by rw [← Hx.out.1, ← Hx.out.2]; exact hxe))
        clear hxe
        go_wp2_with fail
        go_roundg (N + 1 - (s + 1))
        case measure => rw [hgn.out]; omega
        case rel => exact ⟨s + 1, Lib.hid rfl, by omega, by go_num, Ht, Hb4⟩
      | false =>
        have Hc : RowKit.Hid (s = Vw.Core.cp l c.keep.log) := Lib.hid (Vw.cp_is (by omega) (by omega) ht.out (fun _ _ e => by have h1 := Hq.out; rw [Hx.out.1, Hx.out.2, e] at h1; simp at h1)).symm
        clear y7 e1 e2 hlt hsi hsli hski hmi HE Hx Hq ht hsl hsk
        obtain ⟨wx, hwx⟩ : ∃ x, x = wr.drew := ⟨_, rfl⟩
        go_upto_region 3 with fail
        rw [← hwx] at Hb4 ⊢
        clear hwx
        obtain ⟨Lx, hx⟩ := H.out.below Hb4.out
        have z7 : wx.cell? ⟨g, 7, none⟩ = some (.slice Lx.la kn Lx.lc) := by rw [Hkn.out]; exact hx.c7
        have hTx : VwTo M w wx g c := ⟨M, ⟨Lx, hx⟩, Fr.of_below Hb4.out⟩
        have HTx := Lib.hid hTx
        have hsN2 : s ≤ ln ∧ s ≤ kn := by omega
        have hLt : (decide (s < kn) = true ∧ s < kn) ∨ (decide (s < kn) = false ∧ kn ≤ s) := by
          rcases Nat.lt_or_ge s kn with h | h
          · exact .inl ⟨by simpa using h, h⟩
          · exact .inr ⟨by simpa using h, h⟩
        clear hx hTx
        go_upto_region 3 with fail
        obtain ⟨a5, hsl5, hs5⟩ := slice_texts_from (i := s) Hs.out (by rw [← Hln.out]; omega) (by rw [← Hln.out]; exact hlc.1)
        rw [← Hln.out] at hsl5
        obtain ⟨m5, hm5⟩ : ∃ m, m = ln - s := ⟨_, rfl⟩
        obtain ⟨c5, hc5⟩ : ∃ m, m = lc - s := ⟨_, rfl⟩
        rw [← hm5, ← hc5] at hsl5
        obtain ⟨l5, hl5⟩ : ∃ l5, l5 = l.drop s := ⟨_, rfl⟩
        rw [← hl5] at hs5
        have hml : m5 = l5.length := by rw [hm5, hl5, List.length_drop, Hln.out]
        have hsm5 : ∀ b ∈ l5, b.length ≤ 4000 := fun b hb => Hsm.out.2 b (by rw [hl5] at hb; exact List.mem_of_mem_drop hb)
        have hm5b : s + m5 ≤ 2000 := by omega
        have Hs5 := Lib.hid hs5
        have Hml := Lib.hid hml
        have Hsm5 := Lib.hid hsm5
        have Hl5 := Lib.hid hl5
        clear hs5 hml hsm5 hl5 hm5 hc5
        rcases hLt with ⟨hd, hlt3⟩ | ⟨hd, hlt3⟩
        have hT3 : Calls Try.prog 94 #[.pointer (some ⟨g, 0, none⟩), .agg #[.int .i64 3, .int .i64 s, .int .i64 0, .slice none 0 0]] wx fun e w' => e = .returned (.tuple #[]) ∧ VwTo M w w' g (c.cut1 s) := by
          obtain ⟨M1, h1, f1⟩ := HTx.out
          have hc1 : c.cut1 s = c.rec_ ⟨3, s, 0, []⟩ := by unfold Vw.Core.cut1; rw [if_pos (by rw [← Hkn.out]; exact hlt3)]
          have hlog := (c.cut1_log s (by rw [← Hkn.out]; omega)).1
          rw [hc1] at hlog ⊢
          refine (vw_rec wx h1 ⟨3, s, 0, []⟩ none 0 0 rfl ⟨Nat.le_refl _, Nat.zero_le _⟩ (Sl.nil _ _ _ _) ⟨by show (-9223372036854775808 : Int) ≤ s; omega, by show (s : Int) ≤ 9223372036854775807; omega⟩ ⟨HR.out.n, HR.out.me, HR.out.pat, ?_, ?_, HR.out.commit, HR.out.idle, HR.out.begun, HR.out.dos, HR.out.has⟩ (by have := Hlen.out; omega)).mono ?_
          · rw [hlog]; exact HR.out.view
          · rw [hlog]
            exact ⟨by simp; omega, fun b hb => HR.out.log.2 b (List.mem_of_mem_take hb)⟩
          · rintro e w' ⟨e1, t⟩
            exact ⟨e1, VwTo.trans f1 t⟩
        have HT3 := Lib.hid hT3
        clear hT3
        go_wp2_with fail
        refine HT3.out.mono ?_
        rintro e w5 ⟨rfl, t5⟩
        have T5 : RowKit.Hid (VwTo M w w5 g (c.cut1 s)) := Lib.hid t5
        clear t5 HT3
        go_wp2_with fail
        rotate_left
        have T5 : RowKit.Hid (VwTo M w wx g (c.cut1 s)) := Lib.hid (by unfold Vw.Core.cut1; rw [if_neg (by rw [← Hkn.out]; omega)]; exact HTx.out)
        go_wp2_with fail
        obtain ⟨w5, hw5⟩ : ∃ x, x = wx := ⟨_, rfl⟩
        rw [← hw5] at T5 ⊢
        clear hw5
        rotate_left
        all_goals
          clear z7 hd hlt3 HTx
          clear hsl5
          go_loopg [51] m5 (fun gn i wr => ∃ j : Nat, RowKit.Hid (gn = m5 - j) ∧ j ≤ m5 ∧ i = .int .i64 j ∧ RowKit.Hid (VwTo M w wr g ((c.cut1 s).puts (l5.take j))))
          case atStart => exact ⟨0, Lib.hid rfl, Nat.zero_le _, rfl, Lib.hid T5.out⟩
          case round =>
            clear T5
            obtain ⟨j, hgn5, hjm, rfl, hT⟩ := hrel
            obtain ⟨M6, h6, f6⟩ := hT.out
            obtain ⟨k1, k2, k3, k4, k5, k6, k7, k8, k9, k10, k11, k12, k13⟩ := Vw.Core.puts_log (l5.take j) (c.cut1 s)
            obtain ⟨i1, i2, i3, i4, i5, i6, i7, i8, i9, i10, i11, i12, i13⟩ := c.cut1_log s (by rw [← Hkn.out]; omega)
            by_cases hjlt : j < m5
            · have hji : (j : Int) < (m5 : Int) := by omega
              have hjl : j < l5.length := by rw [← Hml.out]; exact hjlt
              have hadd : IntKind.i64.wrap ((j : Int) + 1) = (j : Int) + 1 := IntWalk.i64_in _ (by omega)
              obtain ⟨b7, o7, a7, c7, rfl, _, e7, q7, t7⟩ := byts_atG (Hs5.out.fr (by decide) f6) j hjl
              have hsm7 := Hsm5.out _ (List.getElem_mem hjl)
              obtain ⟨D, hD⟩ : ∃ D, D = l5[j] := ⟨_, rfl⟩
              rw [← hD] at e7 q7 t7 hsm7
              obtain ⟨nD, hnD⟩ : ∃ n, n = D.length := ⟨_, rfl⟩
              rw [← hnD] at e7 q7 hsm7
              have hCl := vw_cloneB (Im M6) a7 nD c7 D wr hnD t7 (fun k hk => h6.new hk) (by omega)
              have hRec : ∀ (w8 : World) (a8 : Option Addr) (c8 : Nat), Below wr.heap.size wr w8 → (nD ≤ c8 ∧ c8 ≤ maxLen) → Sl EU8 (Im M6) w8 a8 D → Calls Try.prog 94 #[.pointer (some ⟨g, 0, none⟩), .agg #[.int .i64 2, .int .i64 0, .int .i64 0, .slice a8 nD c8]] w8 fun e w' => e = .returned (.tuple #[]) ∧ VwTo M w w' g ((c.cut1 s).puts (l5.take (j + 1))) := by
                intro w8 a8 c8 hb8 hc8 hs8
                rw [Vw.Core.puts_succ _ _ _ hjl, ← hD]
                refine (vw_rec w8 (h6.below hb8) ⟨2, 0, 0, D⟩ a8 nD c8 hnD hc8 hs8 ⟨by show (-9223372036854775808 : Int) ≤ 0; decide, by show (0 : Int) ≤ 9223372036854775807; decide⟩ (Vw.put_right h6.right (by rw [← hnD]; exact hsm7) ?_) ?_).mono ?_
                · rw [k1, i1]
                  simp only [List.length_append, List.length_take]
                  have := Hml.out
                  omega
                · have h1 := Hlen.out
                  rw [k2]
                  simp only [List.length_take]
                  omega
                · rintro e w' ⟨e1, t⟩
                  exact ⟨e1, VwTo.trans (f6.trans (Fr.of_below hb8)) t⟩
              have HCl := Lib.hid hCl
              have HRec := Lib.hid hRec
              clear hCl hRec h6 f6 hD hnD t7 q7 k1 k2 k3 k4 k5 k6 k7 k8 k9 k10 k11 k12 k13 i1 i2 i3 i4 i5 i6 i7 i8 i9 i10 i11 i12 i13 hT
              go_wp2_with fail
              refine HCl.out.mono ?_
              rintro e w8 ⟨a8, c8, rfl, hc8, hs8, hb8⟩
              have HR8 := Lib.hid (HRec.out w8 a8 c8 hb8 hc8 hs8)
              clear hc8 hs8 hb8 HRec HCl e7
              go_wp2_with fail
              refine HR8.out.mono ?_
              rintro e w9 ⟨rfl, t9⟩
              have T9 := Lib.hid t9
              clear t9 HR8
              go_wp2_with fail
              go_roundg (m5 - (j + 1))
              case measure => rw [hgn5.out]; omega
              case rel => exact ⟨j + 1, Lib.hid rfl, by omega, by go_num, T9⟩
            · have hji : ¬ (j : Int) < (m5 : Int) := by omega
              have hj5 : l5.take j = l.drop (Vw.Core.cp l c.keep.log) := by rw [List.take_of_length_le (by have := Hml.out; omega), Hl5.out, Hc.out]
              rw [hj5] at h6 k1 k2 k3 k4 k5 k6 k7 k8 k9 k10 k11 k12 k13
              rw [Hc.out] at h6 k1 k2 k3 k4 k5 k6 k7 k8 k9 k10 k11 k12 k13 i1 i2 i3 i4 i5 i6 i7 i8 i9 i10 i11 i12 i13
              have hA := c.adopt_eq l
              obtain ⟨X, hX⟩ : ∃ X, X = (c.cut1 (Vw.Core.cp l c.keep.log)).puts (l.drop (Vw.Core.cp l c.keep.log)) := ⟨_, rfl⟩
              rw [← hX] at h6 k1 k2 k3 k4 k5 k6 k7 k8 k9 k10 k11 k12 k13 hA
              have hxv : X.keep.view = c.keep.view := by rw [k1, i1]
              have hxr : X.recs.length ≤ 103000 := by rw [k2]; simp only [List.length_drop]; have := Hlen.out; have := Hln.out; omega
              have hR7 : Vw.Right (X.rec_ ⟨1, c.keep.view, c.keep.view, []⟩) := by
                have r6 := h6.right
                exact ⟨r6.n, r6.me, r6.pat, HR.out.view, r6.log, r6.commit, r6.idle, r6.begun, r6.dos, r6.has⟩
              have hT7 := vw_rec wr.drew (h6.below (Below.refl _ _).drew) ⟨1, c.keep.view, c.keep.view, []⟩ none 0 0 rfl ⟨Nat.le_refl _, Nat.zero_le _⟩ (Sl.nil _ _ _ _) ⟨by have := HR.out.view; show (-9223372036854775808 : Int) ≤ c.keep.view; omega, by have := HR.out.view; show c.keep.view ≤ 9223372036854775807; omega⟩ hR7 (by omega)
              have q5 : wr.cell? ⟨g, 5, none⟩ = some (.int .i64 c.keep.view) := by obtain ⟨L6, h6⟩ := h6; rw [← hxv]; exact h6.c5
              have HT7 := Lib.hid hT7
              have HA := Lib.hid hA
              have F6 := Lib.hid f6
              have hmm := @run_makeMap Try.prog
              clear hT h6 f6 k1 k2 k3 k4 k5 k6 k7 k8 k9 k10 k11 k12 k13 i1 i2 i3 i4 i5 i6 i7 i8 i9 i10 i11 i12 i13 hX hxr hR7 hT7 hA hj5 hxv
              go_wp2_with fail
              go_region_held3 (fun W => W.cell? ⟨g, 5, none⟩ = some (.int .i64 c.keep.view))
                (first | exact q5 | exact q7 | go_keep)
                ((go_at_call 94; refine HT7.out.mono ?_; rintro e w7 ⟨rfl, t7⟩; have q7 : w7.cell? ⟨g, 5, none⟩ = some (.int .i64 c.keep.view) := (by obtain ⟨M7, ⟨L7, h7⟩, f7⟩ := t7; exact h7.c5)))
              obtain ⟨M7, ⟨L7, h7⟩, f7⟩ := t7
              have r8 : w7.cell? ⟨g, 8, none⟩ = some (.bool (X.rec_ ⟨1, c.keep.view, c.keep.view, []⟩).ch) := h7.c8
              have r10 : w7.cell? ⟨g, 10, none⟩ = some (.int .i64 (X.rec_ ⟨1, c.keep.view, c.keep.view, []⟩).idle) := h7.c10
              have rf := h7.fz
              obtain ⟨W1, hW1⟩ : ∃ x, x = (w7.setCell ⟨g, 8, none⟩ (.bool false)).setCell ⟨g, 10, none⟩ (.int .i64 0) := ⟨_, rfl⟩
              obtain ⟨W2, hW2⟩ : ∃ x, x = ((W1.alloc (.map #[] 0)).alloc (.map #[] 0)).alloc (.map #[] 0) := ⟨_, rfl⟩
              have hF := fresh_fold h7 false 0 ⟨Int.le_refl 0, by decide⟩ W1 W2 _ hW1 hW2 rfl
              have hfin : VwTo M w (((W2.setCell ⟨g, 11, none⟩ (.map (some W1.heap.size))).setCell ⟨g, 12, none⟩ (.map (some (W1.heap.size + 1)))).setCell ⟨g, 13, none⟩ (.map (some (W1.heap.size + 1 + 1)))) g (c.adopt l) := by
                rw [HA.out]
                exact VwTo.trans (F6.out.trans ((Fr.of_below (Below.refl _ _).drew).trans f7)) hF
              have hW1h := heap_set (heap_set h7.row 8 (.bool false)) 10 (.int .i64 0)
              rw [← hW1] at hW1h
              have u11 : W1.cell? ⟨g, 11, none⟩ = some (.map (some L7.hb)) := by simp [World.cell?, hW1h, coreRow]
              have u12 : W1.cell? ⟨g, 12, none⟩ = some (.map (some L7.bb)) := by simp [World.cell?, hW1h, coreRow]
              have u13 : W1.cell? ⟨g, 13, none⟩ = some (.map (some L7.db)) := by simp [World.cell?, hW1h, coreRow]
              have uf : ∀ o, W1.frozen? ⟨g, o, none⟩ = false := fun o => by simp [World.frozen?, hW1h]
              have ug : g < W1.heap.size := (Array.getElem?_eq_some_iff.1 hW1h).1
              have hb3 : Below W1.heap.size W1 (((W1.alloc (.map #[] 0)).alloc (.map #[] 0)).alloc (.map #[] 0)) := ((Below.refl _ _).alloc (Nat.le_refl _) _ |>.alloc (by simp <;> omega) _).alloc (by simp <;> omega) _
              have v11 := cell_thru u11 hb3
              have v12 := cell_thru u12 hb3
              have v13 := cell_thru u13 hb3
              have vf : ∀ o, (((W1.alloc (.map #[] 0)).alloc (.map #[] 0)).alloc (.map #[] 0)).frozen? ⟨g, o, none⟩ = false := fun o => (hb3.frozen (p := ⟨g, o, none⟩) ug).trans (uf o)
              have Hfin := Lib.hid hfin
              have HW1 := Lib.hid hW1.symm
              have HW2 := Lib.hid hW2.symm
              clear hF hfin hW1 hW2 h7 f7 HT7 HA F6 q5 q7
              go_upto_region 12 with fail
              rw [HW1.out]
              clear r8 r10 rf hW1h hb3
              go_wp2_with fail
              rw [HW2.out]
              refine bodyPost_end (v := .tuple #[]) (by simp [results, Try.results138, go_sem]) rfl ?_
              exact ⟨rfl, Hfin.out⟩
    · have hmi := Hmin.out
      have hsi : ¬ (s : Int) < (N : Int) := by omega
      have Hc : RowKit.Hid (s = Vw.Core.cp l c.keep.log) := Lib.hid (Vw.cp_is (by rw [← Hln.out]; omega) (by rw [← Hkn.out]; omega) ht.out (fun a b e => by have := HN.out; have := Hln.out; have := Hkn.out; omega)).symm
      go_wp2_with fail
      go_quiet (fail)
      have Hb4 := Lib.hid (below_drewN hb.out nq)
      clear y7 h1 hs1
      obtain ⟨wx, hwx⟩ : ∃ x, x = wr.drewN nq := ⟨_, rfl⟩
      go_upto_region 3 with fail
      rw [← hwx] at Hb4 ⊢
      clear hwx
      obtain ⟨Lx, hx⟩ := H.out.below Hb4.out
      have z7 : wx.cell? ⟨g, 7, none⟩ = some (.slice Lx.la kn Lx.lc) := by rw [Hkn.out]; exact hx.c7
      have hTx : VwTo M w wx g c := ⟨M, ⟨Lx, hx⟩, Fr.of_below Hb4.out⟩
      have HTx := Lib.hid hTx
      have hsN2 : s ≤ ln ∧ s ≤ kn := by omega
      have hLt : (decide (s < kn) = true ∧ s < kn) ∨ (decide (s < kn) = false ∧ kn ≤ s) := by
        rcases Nat.lt_or_ge s kn with h | h
        · exact .inl ⟨by simpa using h, h⟩
        · exact .inr ⟨by simpa using h, h⟩
      clear hx hTx
      go_upto_region 3 with fail
      obtain ⟨a5, hsl5, hs5⟩ := slice_texts_from (i := s) Hs.out (by rw [← Hln.out]; omega) (by rw [← Hln.out]; exact hlc.1)
      rw [← Hln.out] at hsl5
      obtain ⟨m5, hm5⟩ : ∃ m, m = ln - s := ⟨_, rfl⟩
      obtain ⟨c5, hc5⟩ : ∃ m, m = lc - s := ⟨_, rfl⟩
      rw [← hm5, ← hc5] at hsl5
      obtain ⟨l5, hl5⟩ : ∃ l5, l5 = l.drop s := ⟨_, rfl⟩
      rw [← hl5] at hs5
      have hml : m5 = l5.length := by rw [hm5, hl5, List.length_drop, Hln.out]
      have hsm5 : ∀ b ∈ l5, b.length ≤ 4000 := fun b hb => Hsm.out.2 b (by rw [hl5] at hb; exact List.mem_of_mem_drop hb)
      have hm5b : s + m5 ≤ 2000 := by omega
      have Hs5 := Lib.hid hs5
      have Hml := Lib.hid hml
      have Hsm5 := Lib.hid hsm5
      have Hl5 := Lib.hid hl5
      clear hs5 hml hsm5 hl5 hm5 hc5
      rcases hLt with ⟨hd, hlt3⟩ | ⟨hd, hlt3⟩
      have hT3 : Calls Try.prog 94 #[.pointer (some ⟨g, 0, none⟩), .agg #[.int .i64 3, .int .i64 s, .int .i64 0, .slice none 0 0]] wx fun e w' => e = .returned (.tuple #[]) ∧ VwTo M w w' g (c.cut1 s) := by
        obtain ⟨M1, h1, f1⟩ := HTx.out
        have hc1 : c.cut1 s = c.rec_ ⟨3, s, 0, []⟩ := by unfold Vw.Core.cut1; rw [if_pos (by rw [← Hkn.out]; exact hlt3)]
        have hlog := (c.cut1_log s (by rw [← Hkn.out]; omega)).1
        rw [hc1] at hlog ⊢
        refine (vw_rec wx h1 ⟨3, s, 0, []⟩ none 0 0 rfl ⟨Nat.le_refl _, Nat.zero_le _⟩ (Sl.nil _ _ _ _) ⟨by show (-9223372036854775808 : Int) ≤ s; omega, by show (s : Int) ≤ 9223372036854775807; omega⟩ ⟨HR.out.n, HR.out.me, HR.out.pat, ?_, ?_, HR.out.commit, HR.out.idle, HR.out.begun, HR.out.dos, HR.out.has⟩ (by have := Hlen.out; omega)).mono ?_
        · rw [hlog]; exact HR.out.view
        · rw [hlog]
          exact ⟨by simp; omega, fun b hb => HR.out.log.2 b (List.mem_of_mem_take hb)⟩
        · rintro e w' ⟨e1, t⟩
          exact ⟨e1, VwTo.trans f1 t⟩
      have HT3 := Lib.hid hT3
      clear hT3
      go_wp2_with fail
      refine HT3.out.mono ?_
      rintro e w5 ⟨rfl, t5⟩
      have T5 : RowKit.Hid (VwTo M w w5 g (c.cut1 s)) := Lib.hid t5
      clear t5 HT3
      go_wp2_with fail
      rotate_left
      have T5 : RowKit.Hid (VwTo M w wx g (c.cut1 s)) := Lib.hid (by unfold Vw.Core.cut1; rw [if_neg (by rw [← Hkn.out]; omega)]; exact HTx.out)
      go_wp2_with fail
      obtain ⟨w5, hw5⟩ : ∃ x, x = wx := ⟨_, rfl⟩
      rw [← hw5] at T5 ⊢
      clear hw5
      rotate_left
      all_goals
        clear z7 hd hlt3 HTx
        clear hsl5
        go_loopg [51] m5 (fun gn i wr => ∃ j : Nat, RowKit.Hid (gn = m5 - j) ∧ j ≤ m5 ∧ i = .int .i64 j ∧ RowKit.Hid (VwTo M w wr g ((c.cut1 s).puts (l5.take j))))
        case atStart => exact ⟨0, Lib.hid rfl, Nat.zero_le _, rfl, Lib.hid T5.out⟩
        case round =>
          clear T5
          obtain ⟨j, hgn5, hjm, rfl, hT⟩ := hrel
          obtain ⟨M6, h6, f6⟩ := hT.out
          obtain ⟨k1, k2, k3, k4, k5, k6, k7, k8, k9, k10, k11, k12, k13⟩ := Vw.Core.puts_log (l5.take j) (c.cut1 s)
          obtain ⟨i1, i2, i3, i4, i5, i6, i7, i8, i9, i10, i11, i12, i13⟩ := c.cut1_log s (by rw [← Hkn.out]; omega)
          by_cases hjlt : j < m5
          · have hji : (j : Int) < (m5 : Int) := by omega
            have hjl : j < l5.length := by rw [← Hml.out]; exact hjlt
            have hadd : IntKind.i64.wrap ((j : Int) + 1) = (j : Int) + 1 := IntWalk.i64_in _ (by omega)
            obtain ⟨b7, o7, a7, c7, rfl, _, e7, q7, t7⟩ := byts_atG (Hs5.out.fr (by decide) f6) j hjl
            have hsm7 := Hsm5.out _ (List.getElem_mem hjl)
            obtain ⟨D, hD⟩ : ∃ D, D = l5[j] := ⟨_, rfl⟩
            rw [← hD] at e7 q7 t7 hsm7
            obtain ⟨nD, hnD⟩ : ∃ n, n = D.length := ⟨_, rfl⟩
            rw [← hnD] at e7 q7 hsm7
            have hCl := vw_cloneB (Im M6) a7 nD c7 D wr hnD t7 (fun k hk => h6.new hk) (by omega)
            have hRec : ∀ (w8 : World) (a8 : Option Addr) (c8 : Nat), Below wr.heap.size wr w8 → (nD ≤ c8 ∧ c8 ≤ maxLen) → Sl EU8 (Im M6) w8 a8 D → Calls Try.prog 94 #[.pointer (some ⟨g, 0, none⟩), .agg #[.int .i64 2, .int .i64 0, .int .i64 0, .slice a8 nD c8]] w8 fun e w' => e = .returned (.tuple #[]) ∧ VwTo M w w' g ((c.cut1 s).puts (l5.take (j + 1))) := by
              intro w8 a8 c8 hb8 hc8 hs8
              rw [Vw.Core.puts_succ _ _ _ hjl, ← hD]
              refine (vw_rec w8 (h6.below hb8) ⟨2, 0, 0, D⟩ a8 nD c8 hnD hc8 hs8 ⟨by show (-9223372036854775808 : Int) ≤ 0; decide, by show (0 : Int) ≤ 9223372036854775807; decide⟩ (Vw.put_right h6.right (by rw [← hnD]; exact hsm7) ?_) ?_).mono ?_
              · rw [k1, i1]
                simp only [List.length_append, List.length_take]
                have := Hml.out
                omega
              · have h1 := Hlen.out
                rw [k2]
                simp only [List.length_take]
                omega
              · rintro e w' ⟨e1, t⟩
                exact ⟨e1, VwTo.trans (f6.trans (Fr.of_below hb8)) t⟩
            have HCl := Lib.hid hCl
            have HRec := Lib.hid hRec
            clear hCl hRec h6 f6 hD hnD t7 q7 k1 k2 k3 k4 k5 k6 k7 k8 k9 k10 k11 k12 k13 i1 i2 i3 i4 i5 i6 i7 i8 i9 i10 i11 i12 i13 hT
            go_wp2_with fail
            refine HCl.out.mono ?_
            rintro e w8 ⟨a8, c8, rfl, hc8, hs8, hb8⟩
            have HR8 := Lib.hid (HRec.out w8 a8 c8 hb8 hc8 hs8)
            clear hc8 hs8 hb8 HRec HCl e7
            go_wp2_with fail
            refine HR8.out.mono ?_
            rintro e w9 ⟨rfl, t9⟩
            have T9 := Lib.hid t9
            clear t9 HR8
            go_wp2_with fail
            go_roundg (m5 - (j + 1))
            case measure => rw [hgn5.out]; omega
            case rel => exact ⟨j + 1, Lib.hid rfl, by omega, by go_num, T9⟩
          · have hji : ¬ (j : Int) < (m5 : Int) := by omega
            have hj5 : l5.take j = l.drop (Vw.Core.cp l c.keep.log) := by rw [List.take_of_length_le (by have := Hml.out; omega), Hl5.out, Hc.out]
            rw [hj5] at h6 k1 k2 k3 k4 k5 k6 k7 k8 k9 k10 k11 k12 k13
            rw [Hc.out] at h6 k1 k2 k3 k4 k5 k6 k7 k8 k9 k10 k11 k12 k13 i1 i2 i3 i4 i5 i6 i7 i8 i9 i10 i11 i12 i13
            have hA := c.adopt_eq l
            obtain ⟨X, hX⟩ : ∃ X, X = (c.cut1 (Vw.Core.cp l c.keep.log)).puts (l.drop (Vw.Core.cp l c.keep.log)) := ⟨_, rfl⟩
            rw [← hX] at h6 k1 k2 k3 k4 k5 k6 k7 k8 k9 k10 k11 k12 k13 hA
            have hxv : X.keep.view = c.keep.view := by rw [k1, i1]
            have hxr : X.recs.length ≤ 103000 := by rw [k2]; simp only [List.length_drop]; have := Hlen.out; have := Hln.out; omega
            have hR7 : Vw.Right (X.rec_ ⟨1, c.keep.view, c.keep.view, []⟩) := by
              have r6 := h6.right
              exact ⟨r6.n, r6.me, r6.pat, HR.out.view, r6.log, r6.commit, r6.idle, r6.begun, r6.dos, r6.has⟩
            have hT7 := vw_rec wr.drew (h6.below (Below.refl _ _).drew) ⟨1, c.keep.view, c.keep.view, []⟩ none 0 0 rfl ⟨Nat.le_refl _, Nat.zero_le _⟩ (Sl.nil _ _ _ _) ⟨by have := HR.out.view; show (-9223372036854775808 : Int) ≤ c.keep.view; omega, by have := HR.out.view; show c.keep.view ≤ 9223372036854775807; omega⟩ hR7 (by omega)
            have q5 : wr.cell? ⟨g, 5, none⟩ = some (.int .i64 c.keep.view) := by obtain ⟨L6, h6⟩ := h6; rw [← hxv]; exact h6.c5
            have HT7 := Lib.hid hT7
            have HA := Lib.hid hA
            have F6 := Lib.hid f6
            have hmm := @run_makeMap Try.prog
            clear hT h6 f6 k1 k2 k3 k4 k5 k6 k7 k8 k9 k10 k11 k12 k13 i1 i2 i3 i4 i5 i6 i7 i8 i9 i10 i11 i12 i13 hX hxr hR7 hT7 hA hj5 hxv
            go_wp2_with fail
            go_region_held3 (fun W => W.cell? ⟨g, 5, none⟩ = some (.int .i64 c.keep.view))
              (first | exact q5 | exact q7 | go_keep)
              ((go_at_call 94; refine HT7.out.mono ?_; rintro e w7 ⟨rfl, t7⟩; have q7 : w7.cell? ⟨g, 5, none⟩ = some (.int .i64 c.keep.view) := (by obtain ⟨M7, ⟨L7, h7⟩, f7⟩ := t7; exact h7.c5)))
            obtain ⟨M7, ⟨L7, h7⟩, f7⟩ := t7
            have r8 : w7.cell? ⟨g, 8, none⟩ = some (.bool (X.rec_ ⟨1, c.keep.view, c.keep.view, []⟩).ch) := h7.c8
            have r10 : w7.cell? ⟨g, 10, none⟩ = some (.int .i64 (X.rec_ ⟨1, c.keep.view, c.keep.view, []⟩).idle) := h7.c10
            have rf := h7.fz
            obtain ⟨W1, hW1⟩ : ∃ x, x = (w7.setCell ⟨g, 8, none⟩ (.bool false)).setCell ⟨g, 10, none⟩ (.int .i64 0) := ⟨_, rfl⟩
            obtain ⟨W2, hW2⟩ : ∃ x, x = ((W1.alloc (.map #[] 0)).alloc (.map #[] 0)).alloc (.map #[] 0) := ⟨_, rfl⟩
            have hF := fresh_fold h7 false 0 ⟨Int.le_refl 0, by decide⟩ W1 W2 _ hW1 hW2 rfl
            have hfin : VwTo M w (((W2.setCell ⟨g, 11, none⟩ (.map (some W1.heap.size))).setCell ⟨g, 12, none⟩ (.map (some (W1.heap.size + 1)))).setCell ⟨g, 13, none⟩ (.map (some (W1.heap.size + 1 + 1)))) g (c.adopt l) := by
              rw [HA.out]
              exact VwTo.trans (F6.out.trans ((Fr.of_below (Below.refl _ _).drew).trans f7)) hF
            have hW1h := heap_set (heap_set h7.row 8 (.bool false)) 10 (.int .i64 0)
            rw [← hW1] at hW1h
            have u11 : W1.cell? ⟨g, 11, none⟩ = some (.map (some L7.hb)) := by simp [World.cell?, hW1h, coreRow]
            have u12 : W1.cell? ⟨g, 12, none⟩ = some (.map (some L7.bb)) := by simp [World.cell?, hW1h, coreRow]
            have u13 : W1.cell? ⟨g, 13, none⟩ = some (.map (some L7.db)) := by simp [World.cell?, hW1h, coreRow]
            have uf : ∀ o, W1.frozen? ⟨g, o, none⟩ = false := fun o => by simp [World.frozen?, hW1h]
            have ug : g < W1.heap.size := (Array.getElem?_eq_some_iff.1 hW1h).1
            have hb3 : Below W1.heap.size W1 (((W1.alloc (.map #[] 0)).alloc (.map #[] 0)).alloc (.map #[] 0)) := ((Below.refl _ _).alloc (Nat.le_refl _) _ |>.alloc (by simp <;> omega) _).alloc (by simp <;> omega) _
            have v11 := cell_thru u11 hb3
            have v12 := cell_thru u12 hb3
            have v13 := cell_thru u13 hb3
            have vf : ∀ o, (((W1.alloc (.map #[] 0)).alloc (.map #[] 0)).alloc (.map #[] 0)).frozen? ⟨g, o, none⟩ = false := fun o => (hb3.frozen (p := ⟨g, o, none⟩) ug).trans (uf o)
            have Hfin := Lib.hid hfin
            have HW1 := Lib.hid hW1.symm
            have HW2 := Lib.hid hW2.symm
            clear hF hfin hW1 hW2 h7 f7 HT7 HA F6 q5 q7
            go_upto_region 12 with fail
            rw [HW1.out]
            clear r8 r10 rf hW1h hb3
            go_wp2_with fail
            rw [HW2.out]
            refine bodyPost_end (v := .tuple #[]) (by simp [results, Try.results138, go_sem]) rfl ?_
            exact ⟨rfl, Hfin.out⟩
end Go.Proofs.Ytmmgnbdngpkfcaa

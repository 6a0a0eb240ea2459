/-
  A member begins its view, walked.
  A member begins its view: the walk.
-/
import Derived.Test.YtmmgnbdngpkfcaaVwBa
import Derived.Test.YtmmgnbdngpkfcaaVwZ
namespace Go.Proofs.Ytmmgnbdngpkfcaa
open Go.RowKit
set_option linter.unusedVariables false

namespace Vw
namespace Core
theorem adopt_log (c : Core) (l : List Bs) : (c.adopt l).keep = ⟨c.keep.view, c.keep.view, l⟩ ∧ (c.adopt l).recs.length ≤ c.recs.length + 2 + l.length ∧ (c.adopt l).n = c.n ∧ (c.adopt l).me = c.me ∧ (c.adopt l).shard = c.shard ∧ (c.adopt l).pat = c.pat ∧ (c.adopt l).commit = c.commit ∧ (c.adopt l).msgs = c.msgs ∧ (c.adopt l).done = c.done := by
  obtain ⟨h1, h2, h3, h4, h5, h6, h7, h8, h9, h10, h11, h12, h13⟩ := puts_log (l.drop (cp l c.keep.log)) (c.cut1 (cp l c.keep.log))
  obtain ⟨i1, i2, i3, i4, i5, i6, i7, i8, i9, i10, i11, i12, i13⟩ := c.cut1_log (cp l c.keep.log) (cp_le l c.keep.log).2
  rw [c.adopt_eq]
  refine ⟨?_, ?_, h3.trans i3, h4.trans i4, h5.trans i5, h6.trans i6, h7.trans i7, h12.trans i12, h13.trans i13⟩
  · show Keep.mk c.keep.view c.keep.view ((c.cut1 (cp l c.keep.log)).puts (l.drop (cp l c.keep.log))).keep.log = _
    rw [h1, i1]
    show Keep.mk _ _ (c.keep.log.take _ ++ l.drop _) = _
    rw [← cp_take, List.take_append_drop]
  · show (((c.cut1 (cp l c.keep.log)).puts (l.drop (cp l c.keep.log))).recs ++ [_]).length ≤ _
    simp only [List.length_append, h2, List.length_drop]
    simp
    omega
def bestTo (c : Core) (j : Nat) : Msg × Int := (List.range j).foldl c.bestS ({ Msg.z with normal := -1 }, 0)
theorem bestTo_succ (c : Core) (j : Nat) : c.bestTo (j + 1) = c.bestS (c.bestTo j) j := by
  unfold bestTo; rw [List.range_succ, List.foldl_append]; rfl
theorem bestTo_n (c : Core) : c.bestTo c.n = c.best := rfl
theorem bestTo_none (c : Core) (j : Nat) (h : c.dos ((j : Int) + 1) = none) : c.bestTo (j + 1) = c.bestTo j := by
  rw [bestTo_succ]; unfold bestS; rw [h]
theorem bestTo_some (c : Core) (j : Nat) {m : Msg} (h : c.dos ((j : Int) + 1) = some m) : c.bestTo (j + 1) = (if m.normal > (c.bestTo j).1.normal ∨ (m.normal = (c.bestTo j).1.normal ∧ m.list.length > (c.bestTo j).1.list.length) then m else (c.bestTo j).1, max (c.bestTo j).2 m.commit) := by
  rw [bestTo_succ]; unfold bestS; rw [h]
theorem best_small (c : Core) (h : ∀ z m, c.dos z = some m → Small m.list) : ∀ j, Small (c.bestTo j).1.list
  | 0 => ⟨by show ([] : List Bs).length ≤ 2000; simp, fun b hb => by cases hb⟩
  | j + 1 => by
    have ih := best_small c h j
    cases hd : c.dos ((j : Int) + 1) with
    | none => rw [c.bestTo_none j hd]; exact ih
    | some m =>
      rw [c.bestTo_some j hd]
      show Small (if _ then m else _).list
      split
      · exact h _ _ hd
      · exact ih
end Core
end Vw
theorem cnt_card {f : Int → Option Value} {p : Int → Bool} {n m : Nat} (h : Card f m) (hf : ∀ z, (f z).isSome = p z) (hp : ∀ z, p z = true → 1 ≤ z ∧ z ≤ (n : Int)) : m = Vw.cnt n p := by
  refine h.unique ⟨((List.range n).filter fun i : Nat => p ((i : Int) + 1)).map fun i : Nat => (i : Int) + 1, ?_, fun z => ?_, ?_⟩
  · refine List.pairwise_map.2 ?_
    refine ((List.nodup_range (n := n)).filter _).imp ?_
    intro a b hab e
    exact hab (by omega)
  · rw [List.mem_map, hf]
    constructor
    · rintro ⟨i, hi, rfl⟩
      exact (List.mem_filter.1 hi).2
    · intro hz
      have := hp z hz
      refine ⟨(z - 1).toNat, List.mem_filter.2 ⟨List.mem_range.2 (by omega), ?_⟩, by omega⟩
      rw [show (((z - 1).toNat : Nat) : Int) + 1 = z by omega]; exact hz
  · rw [List.length_map]; rfl
theorem vzero_msg (w : World) : (zeroValue 89).run Try.prog w = .ok (.agg #[.int .i64 0, .int .i64 0, .int .i64 0, .int .i64 0, .int .i64 0, .int .i64 0, .int .i64 0, .int .i64 0, .int .i64 0, .int .i64 0, .slice none 0 0, .slice none 0 0]) w := by
  have h : (Try.prog.info? 89).map (fun i => i.zero) = some (some (.agg #[.int .i64 0, .int .i64 0, .int .i64 0, .int .i64 0, .int .i64 0, .int .i64 0, .int .i64 0, .int .i64 0, .int .i64 0, .int .i64 0, .slice none 0 0, .slice none 0 0])) := by kernel_rfl
  obtain ⟨i, hi, hz⟩ := Option.map_eq_some_iff.1 h
  simp [zeroValue, typeInfo, hi, hz]
/-- a message in a box -/
def MsgBox (M : Col) (w : World) (q : Nat) (m : Vw.Msg) : Prop := ∃ la lc da dc, w.heap[q]? = some (.cells (msgRow m (.slice la m.list.length lc) (.slice da m.data.length dc)).toArray 89 (0, 0)) ∧ (m.list.length ≤ lc ∧ lc ≤ maxLen) ∧ Sl EBytes (Im M) w la m.list ∧ (m.data.length ≤ dc ∧ dc ≤ maxLen) ∧ Sl EU8 (Im M) w da m.data
theorem size_vmsg : (Try.prog.info? 89).map (·.size) = some 12 := by kernel_rfl
/-- what 'dos' says of one -/
theorem dos_look {M : Col} {w : World} {g : Nat} {c : Vw.Core} {L : Lo} (h : VwL M w g c L) (z : Int) (hz : 1 ≤ z ∧ z ≤ 7) :
    (c.dos z = none ∧ ∀ W : World, W.heap = w.heap → (Instr.lookup 162 (.map (some L.db)) (.int .i64 z) true).run Try.prog W = .ok (.tuple #[.agg #[.int .i64 0, .int .i64 0, .int .i64 0, .int .i64 0, .int .i64 0, .int .i64 0, .int .i64 0, .int .i64 0, .int .i64 0, .int .i64 0, .slice none 0 0, .slice none 0 0], .bool false]) W) ∨
    (∃ m la lc da dc, c.dos z = some m ∧ (∀ W : World, W.heap = w.heap → (Instr.lookup 162 (.map (some L.db)) (.int .i64 z) true).run Try.prog W = .ok (.tuple #[.agg #[.int .i64 m.kind, .int .i64 m.frm, .int .i64 m.to_, .int .i64 m.shard, .int .i64 m.view, .int .i64 m.normal, .int .i64 m.at_, .int .i64 m.commit, .int .i64 m.id, .int .i64 m.err, .slice la m.list.length lc, .slice da m.data.length dc], .bool true]) W) ∧
      (m.list.length ≤ lc ∧ lc ≤ maxLen) ∧ Sl EBytes (Im M) w la m.list ∧ (m.data.length ≤ dc ∧ dc ≤ maxLen) ∧ Sl EU8 (Im M) w da m.data) := by
  obtain ⟨f, h1, h2⟩ := h.p.dos
  have hm := h2 z
  have hlk : ∀ W : World, W.heap = w.heap → _ := fun W hW => (h1.keep (w' := W) (by rw [hW])).look_ok (t := 162) (e := 89) Try.underlying162 (vzero_msg W) (k := z) (by unfold i64ok; omega)
  cases hd : c.dos z with
  | none =>
    rw [hd] at hm
    cases hf : f z with
    | some v => rw [hf] at hm; exact hm.elim
    | none =>
      refine .inl ⟨rfl, fun W hW => ?_⟩
      rw [hlk W hW, hf]; rfl
  | some m =>
    rw [hd] at hm
    cases hf : f z with
    | none => rw [hf] at hm; exact hm.elim
    | some v =>
      rw [hf] at hm
      obtain ⟨cs, rfl, la, lc, da, dc, rfl, r1, r2, r3, r4⟩ := hm
      refine .inr ⟨m, la, lc, da, dc, rfl, fun W hW => ?_, r1, r2, r3, r4⟩
      rw [hlk W hW, hf]; rfl
/-- how many there are -/
theorem dos_len {M : Col} {w : World} {g : Nat} {c : Vw.Core} {L : Lo} (h : VwL M w g c L) (ty : TypeId) :
    ∃ m : Nat, m = Vw.cnt c.n (fun x => (c.dos x).isSome) ∧ m ≤ 8 ∧ ∀ W : World, W.heap = w.heap → (Builtin.len_ #[162] ty #[.map (some L.db)]).run Try.prog W = .ok (.int .i64 m) W := by
  obtain ⟨f, h1, h2⟩ := h.p.dos
  obtain ⟨m, e, hc, hm⟩ := h1.len (t := 162) (e := 89) Try.underlying162 ty
  refine ⟨m, cnt_card hc (fun z => (h2 z).some) (fun z hz => ?_), hm, fun W hW => ?_⟩
  · obtain ⟨mm, hmm⟩ := Option.isSome_iff_exists.1 hz
    exact (h.right.dos z mm hmm).1
  · obtain ⟨m', e', hc', _⟩ := (h1.keep (w' := W) (by rw [hW])).len (t := 162) (e := 89) Try.underlying162 ty
    rw [e', hc'.unique hc]
theorem begun_len {M : Col} {w : World} {g : Nat} {c : Vw.Core} {L : Lo} (h : VwL M w g c L) (ty : TypeId) :
    ∃ m : Nat, m = Vw.cnt c.n c.begun ∧ m ≤ 8 ∧ ∀ W : World, W.heap = w.heap → (Builtin.len_ #[28] ty #[.map (some L.bb)]).run Try.prog W = .ok (.int .i64 m) W := by
  have h1 := h.p.begun
  obtain ⟨m, e, hc, hm⟩ := h1.len (t := 28) (e := 4) Try.underlying28 ty
  refine ⟨m, cnt_card hc (fun z => by cases c.begun z <;> rfl) (fun z hz => h.right.begun z hz), hm, fun W hW => ?_⟩
  obtain ⟨m', e', hc', _⟩ := (h1.keep (w' := W) (by rw [hW])).len (t := 28) (e := 4) Try.underlying28 ty
  rw [e', hc'.unique hc]
end Go.Proofs.Ytmmgnbdngpkfcaa

namespace Go.Proofs.Ytmmgnbdngpkfcaa
open Go.RowKit
set_option linter.unusedVariables false

set_option maxRecDepth 16384 in
set_option maxHeartbeats 12800000 in
theorem vw_begin {M : Col} {g : Nat} {c : Vw.Core} (w : World) (h : VwAt M w g c) (hlr : c.recs.length ≤ 50000) (hlm : c.msgs.length ≤ 50000) (hld : c.done.length ≤ 50000) :
    Calls Try.prog 136 #[.pointer (some ⟨g, 0, none⟩)] w fun e w' => e = .returned (.tuple #[]) ∧ VwTo M w w' g c.begin_ := by
  obtain ⟨L, h⟩ := h
  obtain ⟨dm, hdm, hdm8, hlen⟩ := dos_len h 3
  have hMost := vw_most w ⟨L, h⟩ dm (by omega)
  obtain ⟨mo, hmo⟩ : ∃ mo, mo = c.most dm := ⟨_, rfl⟩
  rw [← hmo] at hMost
  have y11 := h.c13
  have hl0 := hlen w rfl
  have H := Lib.hid h
  have HMost := Lib.hid hMost
  have Hmo := Lib.hid hmo
  have Hdm := Lib.hid hdm
  have Hl := Lib.hid (And.intro hlr (And.intro hlm hld))
  have hR := h.right
  have HR := Lib.hid hR
  have hn := hR.n
  clear h hMost hmo hdm hlr hlm hld hlen hR
  go_enter Try.func136, Try.ntmps136
  go_wp2_with fail
  refine HMost.out.mono ?_
  rintro e w1 ⟨rfl, rfl⟩
  clear y11 hl0 HMost
  cases mo with
  | false =>
    go_wp2_with fail
    refine bodyPost_ret (v := .tuple #[]) (by simp [results, Try.results136, go_sem]) rfl ?_
    refine ⟨rfl, M, ⟨L, ?_⟩, Fr.refl _ _⟩
    unfold Vw.Core.begin_
    rw [← Hdm.out, ← Hmo.out, if_neg (by simp)]
    exact H.out
  | true =>
    have hBeg : c.begin_ = (((c.adopt c.best.1.list).all { Vw.Msg.z with kind := 5, commit := c.best.2, list := (c.adopt c.best.1.list).keep.log }).reach c.best.2).count := by
      unfold Vw.Core.begin_
      rw [← Hdm.out, ← Hmo.out, if_pos rfl]
    obtain ⟨h1, f1⟩ := H.out.box (.cells #[.int .i64 0, .int .i64 0, .int .i64 0, .int .i64 0, .int .i64 0, .int .i64 (-1), .int .i64 0, .int .i64 0, .int .i64 0, .int .i64 0, .slice none 0 0, .slice none 0 0] 89)
    obtain ⟨w1, hw1⟩ : ∃ x, x = w.alloc (.cells #[.int .i64 0, .int .i64 0, .int .i64 0, .int .i64 0, .int .i64 0, .int .i64 (-1), .int .i64 0, .int .i64 0, .int .i64 0, .int .i64 0, .slice none 0 0, .slice none 0 0] 89) := ⟨_, rfl⟩
    have hh1 : w1.heap[w.heap.size]? = some (.cells #[.int .i64 0, .int .i64 0, .int .i64 0, .int .i64 0, .int .i64 0, .int .i64 (-1), .int .i64 0, .int .i64 0, .int .i64 0, .int .i64 0, .slice none 0 0, .slice none 0 0] 89 (0, 0)) := by rw [hw1]; exact heap_alloc_new w _
    obtain ⟨q, hq⟩ : ∃ q, q = w.heap.size := ⟨_, rfl⟩
    have hz1 : w1.heap.size = q + 1 := by rw [hw1, hq]; simp
    obtain ⟨M9, hM9⟩ : ∃ M9, M9 = updC M w.heap.size 9 := ⟨_, rfl⟩
    rw [← hw1, ← hM9] at h1 f1
    rw [← hq] at hh1
    have h9 : M9 q = 9 := by rw [hM9, hq]; exact updC_same _ _ _
    have hB0 : MsgBox M9 w1 q (c.bestTo 0).1 := ⟨none, 0, none, 0, hh1, ⟨Nat.le_refl _, Nat.zero_le _⟩, Sl.nil _ _ _ _, ⟨Nat.le_refl _, Nat.zero_le _⟩, Sl.nil _ _ _ _⟩
    have HB0 : RowKit.Hid (MsgBox M9 w1 q (c.bestTo 0).1 ∧ VwL M9 w1 g c L ∧ Fr M w M9 w1 ∧ q < w1.heap.size) := Lib.hid ⟨hB0, h1, f1, by omega⟩
    have Hw1 := Lib.hid hw1.symm
    have Hq := Lib.hid hq
    have H9 := Lib.hid h9
    have Hz1 := Lib.hid hz1
    have F1 := Lib.hid f1
    have HBeg := Lib.hid hBeg
    clear h1 f1 hw1 hh1 hq hz1 hM9 h9 hB0 hBeg
    go_upto_region 2 with fail
    rw [Hw1.out, ← Hq.out]
    clear Hw1
    go_wp2_with fail
    go_loopg [3, 4] (c.n + 1) (fun gn s3 i wr => ∃ (j : Nat) (bc : Int), RowKit.Hid (gn = c.n + 1 - j) ∧ j ≤ c.n ∧ i = .int .i64 ((j : Int) + 1) ∧ s3 = .int .i64 bc ∧ RowKit.Hid (bc = (c.bestTo j).2) ∧ RowKit.Hid (MsgBox M9 wr q (c.bestTo j).1 ∧ VwL M9 wr g c L ∧ Fr M w M9 wr ∧ q < wr.heap.size))
    case atStart => exact ⟨0, 0, Lib.hid rfl, Nat.zero_le _, rfl, rfl, Lib.hid rfl, HB0⟩
    case round =>
      clear HB0
      obtain ⟨j, bc, hgn, hj, rfl, rfl, hbc, hr⟩ := hrel
      obtain ⟨hbox, hv, hf, hqz⟩ := hr.out
      have y1 : wr.cell? ⟨g, 1, none⟩ = some (.int .i64 c.n) := hv.c1
      by_cases hlt : j < c.n
      · have hji : (j : Int) + 1 ≤ (c.n : Int) := by omega
        have hadd : IntKind.i64.wrap ((j : Int) + 1 + 1) = (j : Int) + 1 + 1 := IntWalk.i64_in _ (by omega)
        have y13 : wr.cell? ⟨g, 13, none⟩ = some (.map (some L.db)) := hv.c13
        rcases dos_look hv ((j : Int) + 1) (by omega) with ⟨hd, hlk⟩ | ⟨m, la, lc, da, dc, hd, hlk, hr1, hr2, hr3, hr4⟩
        · have hlk0 := hlk wr rfl
          have hb2 := alloc_below wr (.cells #[.int .i64 0, .int .i64 0, .int .i64 0, .int .i64 0, .int .i64 0, .int .i64 0, .int .i64 0, .int .i64 0, .int .i64 0, .int .i64 0, .slice none 0 0, .slice none 0 0] 89)
          obtain ⟨w2, hw2⟩ : ∃ x, x = wr.alloc (.cells #[.int .i64 0, .int .i64 0, .int .i64 0, .int .i64 0, .int .i64 0, .int .i64 0, .int .i64 0, .int .i64 0, .int .i64 0, .int .i64 0, .slice none 0 0, .slice none 0 0] 89) := ⟨_, rfl⟩
          rw [← hw2] at hb2
          have HN : RowKit.Hid (MsgBox M9 w2 q (c.bestTo (j + 1)).1 ∧ VwL M9 w2 g c L ∧ Fr M w M9 w2 ∧ q < w2.heap.size) := Lib.hid (by
            rw [c.bestTo_none j hd]
            obtain ⟨la, lc, da, dc, b0, b1, b2, b3, b4⟩ := hbox
            exact ⟨⟨la, lc, da, dc, (hb2.block q hqz).trans b0, b1, b2.below (by decide) hb2, b3, b4.below (by decide) hb2⟩, hv.below hb2, hf.trans (Fr.of_below hb2), Nat.lt_of_lt_of_le hqz hb2.size⟩)
          have Hw2 := Lib.hid hw2.symm
          have Hd := Lib.hid hd
          clear hbox hv hf hlk hb2 hw2 hd hr
          go_upto_region 6 with fail
          rw [Hw2.out]
          clear Hw2 hlk0 y1 y13
          go_wp2_with fail
          go_roundg (c.n + 1 - (j + 1))
          case measure => rw [hgn.out]; omega
          case rel => exact ⟨j + 1, bc, Lib.hid rfl, by omega, by go_num, rfl, Lib.hid (by rw [c.bestTo_none j Hd.out]; exact hbc.out), HN⟩
        · have hlk0 := hlk wr rfl
          obtain ⟨lb, lbc, db, dbc, b0, b1, b2, b3, b4⟩ := hbox
          obtain ⟨bm, hbm⟩ : ∃ bm, bm = (c.bestTo j).1 := ⟨_, rfl⟩
          rw [← hbm] at b0 b1 b2 b3 b4
          obtain ⟨mn, hmn⟩ : ∃ x, x = m.list.length := ⟨_, rfl⟩
          obtain ⟨md, hmd⟩ : ∃ x, x = m.data.length := ⟨_, rfl⟩
          obtain ⟨bn, hbn⟩ : ∃ x, x = bm.list.length := ⟨_, rfl⟩
          obtain ⟨bd, hbd⟩ : ∃ x, x = bm.data.length := ⟨_, rfl⟩
          rw [← hmn, ← hmd] at hlk0
          rw [← hbn, ← hbd] at b0
          obtain ⟨w2, hw2⟩ : ∃ x, x = wr.alloc (.cells #[.int .i64 m.kind, .int .i64 m.frm, .int .i64 m.to_, .int .i64 m.shard, .int .i64 m.view, .int .i64 m.normal, .int .i64 m.at_, .int .i64 m.commit, .int .i64 m.id, .int .i64 m.err, .slice la mn lc, .slice da md dc] 89) := ⟨_, rfl⟩
          have hbw : Below wr.heap.size wr w2 := by rw [hw2]; exact alloc_below _ _
          have hh2 : w2.heap[wr.heap.size]? = some (.cells #[.int .i64 m.kind, .int .i64 m.frm, .int .i64 m.to_, .int .i64 m.shard, .int .i64 m.view, .int .i64 m.normal, .int .i64 m.at_, .int .i64 m.commit, .int .i64 m.id, .int .i64 m.err, .slice la mn lc, .slice da md dc] 89 (0, 0)) := by rw [hw2]; exact heap_alloc_new wr _
          obtain ⟨p5, hp5⟩ : ∃ p5, p5 = wr.heap.size := ⟨_, rfl⟩
          rw [← hp5] at hh2
          have hq2 : w2.heap[q]? = some (.cells #[.int .i64 bm.kind, .int .i64 bm.frm, .int .i64 bm.to_, .int .i64 bm.shard, .int .i64 bm.view, .int .i64 bm.normal, .int .i64 bm.at_, .int .i64 bm.commit, .int .i64 bm.id, .int .i64 bm.err, .slice lb bn lbc, .slice db bd dbc] 89 (0, 0)) := (hbw.block q hqz).trans b0
          have e5 : w2.cell? ⟨p5, 5, none⟩ = some (.int .i64 m.normal) := by simp [World.cell?, hh2]
          have e7 : w2.cell? ⟨p5, 7, none⟩ = some (.int .i64 m.commit) := by simp [World.cell?, hh2]
          have e10 : w2.cell? ⟨p5, 10, none⟩ = some (.slice la mn lc) := by simp [World.cell?, hh2]
          have g5 : w2.cell? ⟨q, 5, none⟩ = some (.int .i64 bm.normal) := by simp [World.cell?, hq2]
          have g10 : w2.cell? ⟨q, 10, none⟩ = some (.slice lb bn lbc) := by simp [World.cell?, hq2]
          obtain ⟨bc2, hbc2⟩ : ∃ x, max bc m.commit = x := ⟨_, rfl⟩
          have hS := c.bestTo_some j hd
          rw [← hbc.out, hbc2, ← hbm] at hS
          have hv2 := hv.below hbw
          have hf2 := hf.trans (Fr.of_below hbw)
          have hqz2 : q < w2.heap.size := Nat.lt_of_lt_of_le hqz hbw.size
          have hBm : MsgBox M9 w2 q bm := ⟨lb, lbc, db, dbc, by rw [← hbn, ← hbd]; exact hq2, b1, b2.below (by decide) hbw, b3, b4.below (by decide) hbw⟩
          have hs12 : (Try.prog.info? 89).map (·.size) = some (#[.int .i64 m.kind, .int .i64 m.frm, .int .i64 m.to_, .int .i64 m.shard, .int .i64 m.view, .int .i64 m.normal, .int .i64 m.at_, .int .i64 m.commit, .int .i64 m.id, .int .i64 m.err, .slice la mn lc, .slice da md dc] : Array Value).size := size_vmsg
          have hall : (#[.int .i64 m.kind, .int .i64 m.frm, .int .i64 m.to_, .int .i64 m.shard, .int .i64 m.view, .int .i64 m.normal, .int .i64 m.at_, .int .i64 m.commit, .int .i64 m.id, .int .i64 m.err, .slice la mn lc, .slice da md dc] : Array Value).all (·.oneCell') = true := by simp [Value.oneCell']
          have hset : ∀ w3, w3 = w2.setRow q #[.int .i64 m.kind, .int .i64 m.frm, .int .i64 m.to_, .int .i64 m.shard, .int .i64 m.view, .int .i64 m.normal, .int .i64 m.at_, .int .i64 m.commit, .int .i64 m.id, .int .i64 m.err, .slice la mn lc, .slice da md dc] → MsgBox M9 w3 q m ∧ VwL M9 w3 g c L ∧ Fr M w M9 w3 ∧ q < w3.heap.size := by
            rintro w3 rfl
            have ho := setRow_only w2 q #[.int .i64 m.kind, .int .i64 m.frm, .int .i64 m.to_, .int .i64 m.shard, .int .i64 m.view, .int .i64 m.normal, .int .i64 m.at_, .int .i64 m.commit, .int .i64 m.id, .int .i64 m.err, .slice la mn lc, .slice da md dc]
            have him : ∀ k, Im M9 k → k < w2.heap.size → (w2.setRow q _).heap[k]? = w2.heap[k]? ∧ Im M9 k := fun k hk hlt => ⟨ho.block k hlt (fun e => by have : M9 k = 0 := hk; rw [e, H9.out] at this; omega), hk⟩
            refine ⟨⟨la, lc, da, dc, by rw [← hmn, ← hmd]; exact setRow_at hq2, hr1, (hr2.below (by decide) hbw).mono (by decide) him, hr3, (hr4.below (by decide) hbw).mono (by decide) him⟩, hv2.poke H9.out ho, ⟨hf2.1.trans ho fun k hk e => by have := Hq.out; omega, hf2.2⟩, Nat.lt_of_lt_of_le hqz2 ho.size⟩
          have Hset := Lib.hid hset
          have HK : RowKit.Hid (MsgBox M9 w2 q bm ∧ VwL M9 w2 g c L ∧ Fr M w M9 w2 ∧ q < w2.heap.size) := Lib.hid ⟨hBm, hv2, hf2, hqz2⟩
          have HS := Lib.hid hS
          have Hw2 := Lib.hid hw2.symm
          have Hp5 := Lib.hid hp5.symm
          have Hh2 := Lib.hid hh2
          have Hq2 := Lib.hid hq2
          have Hmn := Lib.hid (And.intro hmn hbn)
          have Hs12 := Lib.hid hs12
          have Hall := Lib.hid hall
          have hmn2 : mn ≤ 2000 := by rw [hmn]; exact (HR.out.dos _ _ hd).2.1
          have hbn2 : bn ≤ 2000 := by rw [hbn, hbm]; exact (c.best_small (fun z m h => (HR.out.dos z m h).2) j).1
          clear b0 b1 b2 b3 b4 hset hBm hv2 hf2 hqz2 hS hw2 hp5 hh2 hq2 hmn hmd hbn hbd hbm hbw hs12 hall hv hf hlk hr1 hr2 hr3 hr4 hd hr
          go_upto_region 6 with fail
          rw [Hw2.out, Hp5.out]
          clear Hw2 hlk0 y1 y13
          have hcase : (bm.normal < m.normal) ∨ (¬ bm.normal < m.normal ∧ (m.normal == bm.normal) = true ∧ decide (bn < mn) = true) ∨ (¬ bm.normal < m.normal ∧ (m.normal == bm.normal) = true ∧ decide (bn < mn) = false) ∨ (¬ bm.normal < m.normal ∧ (m.normal == bm.normal) = false) := by
            by_cases h1 : bm.normal < m.normal
            · exact .inl h1
            · by_cases h2 : m.normal = bm.normal
              · by_cases h3 : bn < mn
                · exact .inr (.inl ⟨h1, by simpa using h2, by simpa using h3⟩)
                · exact .inr (.inr (.inl ⟨h1, by simpa using h2, by simpa using h3⟩))
              · exact .inr (.inr (.inr ⟨h1, by simpa using h2⟩))
          rcases hcase with hA | ⟨hA, hE, hC⟩ | ⟨hA, hE, hC⟩ | ⟨hA, hE⟩
          · have HT : RowKit.Hid (c.bestTo (j + 1) = (m, bc2)) := Lib.hid (by rw [HS.out, if_pos (.inl hA)])
            clear HK
            go_upto_region 9 with fail
            clear e5 e7 e10 g5 g10 hA
            go_wp2_with (first
              | (refine wpList_loadRow rfl _ _ rfl p5 rfl _ _ _ _ Hh2.out Try.underlying89 rfl Hs12.out ?_)
              | (refine wpList_storeRow rfl _ _ _ rfl q rfl _ _ rfl _ Hq2.out Hs12.out rfl Hall.out ?_))
            go_roundg (c.n + 1 - (j + 1))
            case measure => rw [hgn.out]; omega
            case rel => exact ⟨j + 1, bc2, Lib.hid rfl, by omega, by go_num, rfl, Lib.hid (by rw [HT.out]), Lib.hid (by rw [HT.out]; exact Hset.out _ rfl)⟩
          · have HT : RowKit.Hid (c.bestTo (j + 1) = (m, bc2)) := Lib.hid (by rw [HS.out, if_pos (.inr ⟨by simpa using hE, by rw [← Hmn.out.1, ← Hmn.out.2]; simpa using hC⟩)])
            clear HK
            go_upto_region 9 with fail
            clear e5 e7 e10 g5 g10 hA
            go_wp2_with (first
              | (refine wpList_loadRow rfl _ _ rfl p5 rfl _ _ _ _ Hh2.out Try.underlying89 rfl Hs12.out ?_)
              | (refine wpList_storeRow rfl _ _ _ rfl q rfl _ _ rfl _ Hq2.out Hs12.out rfl Hall.out ?_))
            go_roundg (c.n + 1 - (j + 1))
            case measure => rw [hgn.out]; omega
            case rel => exact ⟨j + 1, bc2, Lib.hid rfl, by omega, by go_num, rfl, Lib.hid (by rw [HT.out]), Lib.hid (by rw [HT.out]; exact Hset.out _ rfl)⟩
          · have HT : RowKit.Hid (c.bestTo (j + 1) = (bm, bc2)) := Lib.hid (by rw [HS.out, if_neg]; rintro (h | ⟨_, h⟩); exact hA h; rw [← Hmn.out.1, ← Hmn.out.2] at h; simp at hC; omega)
            clear Hset
            go_wp2_with fail
            go_roundg (c.n + 1 - (j + 1))
            case measure => rw [hgn.out]; omega
            case rel => exact ⟨j + 1, bc2, Lib.hid rfl, by omega, by go_num, rfl, Lib.hid (by rw [HT.out]), Lib.hid (by rw [HT.out]; exact HK.out)⟩
          · have HT : RowKit.Hid (c.bestTo (j + 1) = (bm, bc2)) := Lib.hid (by rw [HS.out, if_neg]; rintro (h | ⟨h, _⟩); exact hA h; rw [h] at hE; simp at hE)
            clear Hset
            go_wp2_with fail
            go_roundg (c.n + 1 - (j + 1))
            case measure => rw [hgn.out]; omega
            case rel => exact ⟨j + 1, bc2, Lib.hid rfl, by omega, by go_num, rfl, Lib.hid (by rw [HT.out]), Lib.hid (by rw [HT.out]; exact HK.out)⟩
      · have hji : ¬ ((j : Int) + 1 ≤ (c.n : Int)) := by omega
        have hjn : j = c.n := by omega
        rw [hjn, c.bestTo_n] at hbox
        have hbcn : bc = c.best.2 := by rw [hbc.out, hjn]; rfl
        have hbs : Vw.Small c.best.1.list := c.best_small (fun z m h => (HR.out.dos z m h).2) c.n
        obtain ⟨bl, hbl⟩ : ∃ bl, bl = c.best.1.list := ⟨_, rfl⟩
        obtain ⟨lb, lbc, db, dbc, b0, b1, b2, b3, b4⟩ := hbox
        rw [← hbl] at b0 b1 b2 hbs
        obtain ⟨bn, hbn⟩ : ∃ x, x = bl.length := ⟨_, rfl⟩
        rw [← hbn] at b0 b1
        have g10 : wr.cell? ⟨q, 10, none⟩ = some (.slice lb bn lbc) := by simp [World.cell?, b0, msgRow]
        have hA := vw_adopt wr ⟨L, hv⟩ lb bn lbc bl hbn b1 b2 hbs (by have := Hl.out; omega)
        have hbeg := HBeg.out
        rw [← hbl, ← hbcn] at hbeg
        obtain ⟨k1, k2, k3, k4, k5, k6, k7, k8, k9⟩ := c.adopt_log bl
        obtain ⟨c1, hc1⟩ : ∃ c1, c1 = c.adopt bl := ⟨_, rfl⟩
        rw [← hc1] at hbeg hA k1 k2 k3 k4 k5 k6 k7 k8 k9
        have HA := Lib.hid hA
        have Hbeg := Lib.hid hbeg
        have HF := Lib.hid hf
        have Hqz := Lib.hid hqz
        have Hm1 : RowKit.Hid (c1.msgs.length ≤ 50000 ∧ c1.done.length ≤ 50000 ∧ c1.n = c.n) := Lib.hid ⟨by rw [k8]; exact Hl.out.2.1, by rw [k9]; exact Hl.out.2.2, k3⟩
        clear b0 b1 b2 b3 b4 hbs hbl hbn hA hbeg hbcn hjn k1 k2 k3 k4 k5 k6 k7 k8 k9 hc1 hv hf hqz hr hbc HBeg
        go_wp2_with fail
        refine HA.out.mono ?_
        rintro e w2 ⟨rfl, M2, ⟨L2, h2⟩, f2⟩
        have y7 : w2.cell? ⟨g, 7, none⟩ = some (.slice L2.la c1.keep.log.length L2.lc) := h2.c7
        have hAl := vw_all w2 ⟨L2, h2⟩ { Vw.Msg.z with kind := 5, commit := bc, list := c1.keep.log } L2.la c1.keep.log.length L2.lc none 0 0 rfl h2.p.lc h2.p.log rfl ⟨Nat.le_refl _, Nat.zero_le _⟩ (Sl.nil _ _ _ _) (by have := Hm1.out.1; omega)
        obtain ⟨kl, hkl⟩ : ∃ kl, kl = c1.keep.log.length := ⟨_, rfl⟩
        rw [← hkl] at y7 hAl
        obtain ⟨c2, hc2⟩ : ∃ c2, c2 = c1.all { Vw.Msg.z with kind := 5, commit := bc, list := c1.keep.log } := ⟨_, rfl⟩
        have hc2d : c2.done = c1.done := by rw [hc2]; rfl
        have hbeg2 := Hbeg.out
        rw [← hc2] at hAl hbeg2
        have HAl := Lib.hid hAl
        have F2 := Lib.hid f2
        have Hbeg2 := Lib.hid hbeg2
        have Hc2d : RowKit.Hid (c2.done.length ≤ 50000) := Lib.hid (by rw [hc2d]; exact Hm1.out.2.1)
        clear h2 f2 hAl hbeg2 hc2 hc2d hkl HA g10
        go_wp2_with fail
        refine HAl.out.mono ?_
        rintro e w3 ⟨rfl, M3, h3, f3⟩
        have hRe := vw_reach w3 h3 bc (by have := Hc2d.out; omega)
        have HRe := Lib.hid hRe
        have F3 := Lib.hid (F2.out.trans f3)
        have Hr3 : RowKit.Hid ((c2.reach bc).done.length ≤ 60000) := Lib.hid (by
          have hl := h3.right.log.1
          show (c2.done ++ (c2.keep.log.take _).drop _).length ≤ 60000
          simp only [List.length_append, List.length_drop, List.length_take]
          have := Hc2d.out
          omega)
        clear h3 f3 hRe HAl y7
        go_wp2_with fail
        refine HRe.out.mono ?_
        rintro e w4 ⟨rfl, M4, h4, f4⟩
        have hCo := vw_count w4 h4 (by have := Hr3.out; omega)
        have HCo := Lib.hid hCo
        have F4 := Lib.hid (F3.out.trans f4)
        clear h4 f4 hCo HRe
        go_wp2_with fail
        refine HCo.out.mono ?_
        rintro e w5 ⟨rfl, t5⟩
        have T5 : RowKit.Hid (VwTo M w w5 g c.begin_) := Lib.hid (by
          rw [Hbeg2.out]
          have t := VwTo.trans F4.out t5
          exact to_unbox Hq.out HF.out H9.out Hqz.out t (Only.refl _ _))
        clear t5
        go_wp2_with fail
        refine bodyPost_end (v := .tuple #[]) (by simp [results, Try.results136, go_sem]) rfl ?_
        exact ⟨rfl, T5.out⟩
end Go.Proofs.Ytmmgnbdngpkfcaa

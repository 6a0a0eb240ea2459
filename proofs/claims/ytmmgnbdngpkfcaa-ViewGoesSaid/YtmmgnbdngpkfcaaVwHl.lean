/-
  A group's member does what is to be done: the plain law and the walk together.
  A group of members in the making, in memory.
  A group is made, walked.
  A group's step, walked: a unit of time, a member begins again, nothing.
  A group's step keeps what holds of a group: plain law.
  What comes into the laws on groups: steps.
-/
import Derived.Test.YtmmgnbdngpkfcaaVwGv
import Derived.Test.YtmmgnbdngpkfcaaVwPf
import Derived.Test.YtmmgnbdngpkfcaaVwCg
import Derived.Test.YtmmgnbdngpkfcaaVaS
import Derived.Test.YtmmgnbdngpkfcaaVwW
namespace Go.Proofs.Ytmmgnbdngpkfcaa
open Go.RowKit
set_option linter.unusedVariables false

/-- a group as it lies in memory -/
def toGx (x : Vw.Gr) : Gx := ⟨x.n, x.pat, (List.range x.n).map fun i : Nat => (x.core ((i : Int) + 1)).keep, x.core, x.mail, x.sure, (List.range x.n).map fun i : Nat => ((x.core ((i : Int) + 1)).commit : Int)⟩
theorem map_set {α : Type} (f : Vw.Core → α) (core : Int → Vw.Core) (n i : Nat) (hi : i < n) (c : Vw.Core) : (List.range n).map (fun j : Nat => f (updI core ((i : Int) + 1) c ((j : Int) + 1))) = ((List.range n).map fun j : Nat => f (core ((j : Int) + 1))).set i (f c) := by
  apply List.ext_getElem?
  intro j
  by_cases e : j = i
  · subst e
    rw [List.getElem?_set_self (by simpa using hi), List.getElem?_map, List.getElem?_range hi]
    simp [updI_same]
  · rw [List.getElem?_set_ne (Ne.symm e), List.getElem?_map, List.getElem?_map]
    by_cases hj : j < n
    · rw [List.getElem?_range hj]
      simp only [Option.map_some]
      rw [updI_other _ _ (by omega)]
    · rw [List.getElem?_eq_none (by simpa using hj)]
      rfl
theorem updI_updI {α : Type} (f : Int → α) (y : Int) (a b : α) : updI (updI f y a) y b = updI f y b := by funext z; unfold updI; split <;> rfl
theorem toGx_keep (x : Vw.Gr) {i : Nat} (hi : i < x.n) : (toGx x).ks[i]? = some (x.core ((i : Int) + 1)).keep := by
  show ((List.range x.n).map _)[i]? = _
  rw [List.getElem?_map, List.getElem?_range hi]; rfl
theorem toGx_told (x : Vw.Gr) {i : Nat} (hi : i < x.n) : (toGx x).told[i]? = some ((x.core ((i : Int) + 1)).commit : Int) := by
  show ((List.range x.n).map _)[i]? = _
  rw [List.getElem?_map, List.getElem?_range hi]; rfl
namespace Vw
/-- a member's action, and its outcome -/
def grDo (x : Gr) (y : Int) (c : Core) (cut : Int) : Gr :=
  if 0 ≤ cut ∧ cut < (c.recs.length : Int) then { x with core := updI x.core y (Core.new y x.n 2 x.pat (lays (x.core y).keep (c.recs.take cut.toNat))) }
  else { x with core := updI x.core y c.clear, mail := trim (x.mail ++ c.msgs), sure := tells x.sure (x.core y).commit c.done }
/-- what holds of a group behind so many actions -/
def GrI (x : Gr) (K : Nat) : Prop := (∃ G, GrOk G x K) ∧ x.sure.length ≤ 2000 ∧ x.mail.length ≤ 40000 * K ∧ (1 ≤ x.n ∧ x.n ≤ 5) ∧ (1 ≤ x.pat ∧ x.pat ≤ 100)
theorem mem_trim {l : List Msg} {m : Msg} (h : m ∈ trim l) : m ∈ l := by
  unfold trim at h
  split at h
  · exact List.mem_of_mem_drop h
  · exact h
theorem trim_len (l : List Msg) : (trim l).length ≤ l.length := by
  unfold trim; split
  · simp
  · exact Nat.le_refl _
theorem tells_len {sure ds : List Bs} {t : Nat} (ht : t ≤ sure.length) : (tells sure t ds).length = max sure.length (t + ds.length) := by
  unfold tells
  rw [List.length_append, List.length_drop]; omega
theorem grDo_ok {G G1 : Gh} {x : Gr} {K : Nat} (h : GrOk G x K) (hs : x.sure.length ≤ 2000) (hm : x.mail.length ≤ 40000 * K) (hn : 1 ≤ x.n ∧ x.n ≤ 5) (hp : 1 ≤ x.pat ∧ x.pat ≤ 100) {y : Int} (hy : node x.n y) {c : Core} (a : Act G y (x.core y) G1 c) (hf : Few c) (cut : Int) : GrI (grDo x y c cut) (K + 1) := by
  unfold grDo
  split
  · obtain ⟨G', h'⟩ := h.cut hy a cut.toNat
    exact ⟨⟨G', h'.mono (Nat.le_succ _)⟩, hs, by show x.mail.length ≤ _; omega, hn, hp⟩
  · obtain ⟨e1, e2, e3, e4⟩ := h.act hy a
    refine ⟨⟨G1, e4 _ fun m hm => mem_trim hm⟩, ?_, ?_, hn, hp⟩
    · show (tells x.sure (x.core y).commit c.done).length ≤ _
      rw [tells_len (h.com y hy)]
      have := a.log
      omega
    · show (trim (x.mail ++ c.msgs)).length ≤ _
      have := trim_len (x.mail ++ c.msgs)
      rw [List.length_append] at this
      have := hf.msgs
      omega
end Vw
theorem OutV.few {M : Col} {w : World} {rs : List Vw.Rc} {ms : List Vw.Msg} {ds : List Vw.Bs} {v1 v2 v3 : Value} (h : OutV M w rs ms ds (.agg #[v1, v2, v3])) :
    ∃ a1 c1 a2 c2 a3 c3, v1 = .slice a1 rs.length c1 ∧ v2 = .slice a2 ms.length c2 ∧ v3 = .slice a3 ds.length c3 ∧ ((rs.length ≤ c1 ∧ c1 ≤ maxLen) ∧ Sl ERec (Im M) w a1 rs) ∧ ((ms.length ≤ c2 ∧ c2 ≤ maxLen) ∧ Sl EMsg (Im M) w a2 ms) ∧ ((ds.length ≤ c3 ∧ c3 ≤ maxLen) ∧ Sl EBytes (Im M) w a3 ds) := by
  obtain ⟨a1, c1, a2, c2, a3, c3, e, h1, h2, h3⟩ := h
  injection e with e
  simp only [Array.mk.injEq, List.cons.injEq, and_true] at e
  exact ⟨a1, c1, a2, c2, a3, c3, e.1, e.2.1, e.2.2, h1, h2, h3⟩
/-- a member has turned, and gives out -/
theorem GrM.takes {C : Col} {w w' : World} {gg : Nat} {x : Gx} {L : GrL} (h : GrM C w gg x L) {i g : Nat} (hg : L.gs[i]? = some g) {c : Vw.Core} {v : Value} (t : TakeTo (pj (i + 1) C) w w' g c v) :
    ∃ C', GrM C' w' gg { x with core := updI x.core ((i : Int) + 1) c.clear } L ∧ KpA C w C' w' ∧ OutV C' w' c.recs c.msgs c.done v := by
  obtain ⟨M', hv, f, ho⟩ := t
  have hi := (List.getElem?_eq_some_iff.1 hg).1
  have hgl := h.p.gl
  have hnn := h.nn
  obtain ⟨t1, t2, t3⟩ := Kp.member (y := i + 1) h.p.dom f hv ⟨by omega, by omega⟩
  have hn0 : ∀ d, d < 10 → ¬ (d / 10 = i + 1 ∧ d ≠ 0) := fun d hd h => by omega
  refine ⟨_, h.kp t1 (hn0 _ (by decide)) (h.p.member (by omega) t1 hg t2) rfl rfl rfl, t1.any (hn0 _ (by decide)), ?_⟩
  obtain ⟨a1, c1, a2, c2, a3, c3, e, ⟨h1, s1⟩, ⟨h2, s2⟩, ⟨h3, s3⟩⟩ := ho
  exact ⟨a1, c1, a2, c2, a3, c3, e, ⟨h1, s1.mono (by decide) fun k hk hlt => ⟨rfl, t3 k hlt hk⟩⟩, ⟨h2, s2.mono (by decide) fun k hk hlt => ⟨rfl, t3 k hlt hk⟩⟩, ⟨h3, s3.mono (by decide) fun k hk hlt => ⟨rfl, t3 k hlt hk⟩⟩⟩
/-- what is to be done is done -/
theorem vw_gact {G G1 : Vw.Gh} {x : Vw.Gr} {K : Nat} (hG : Vw.GrOk G x K) (hs : x.sure.length ≤ 2000) (hm : x.mail.length ≤ 100000000000) {i : Nat} (hi : i < x.n) {c : Vw.Core} (a : Vw.Act G ((i : Int) + 1) (x.core ((i : Int) + 1)) G1 c) (hf : Vw.Few c) (cut : Int)
    {C : Col} {gg : Nat} {L : GrL} (w : World) (h : GrM C w gg { toGx x with core := updI x.core ((i : Int) + 1) c.clear } L) {v1 v2 v3 : Value} (ho : OutV C w c.recs c.msgs c.done (.agg #[v1, v2, v3])) :
    Calls Try.prog 66 #[.pointer (some ⟨gg, 0, none⟩), .int .i64 i, .agg #[v1, v2, v3], .int .i64 cut] w fun e w' => e = .returned (.tuple #[]) ∧ GrTo C w w' gg (toGx (Vw.grDo x ((i : Int) + 1) c cut)) := by
  obtain ⟨a1, c1, a2, c2, a3, c3, rfl, rfl, rfl, ⟨h1, s1⟩, ⟨h2, s2⟩, ⟨h3, s3⟩⟩ := ho.few
  have hy : Vw.node x.n ((i : Int) + 1) := ⟨by omega, by omega⟩
  obtain ⟨y, hyd⟩ : ∃ y : Int, y = (i : Int) + 1 := ⟨_, rfl⟩
  have hL : ∀ j, (Vw.lays (x.core ((i : Int) + 1)).keep (c.recs.take j)).log.length ≤ 2000 := fun j => by
    obtain ⟨Gk, _, _, hk⟩ := a.cuts j
    exact hk.small.1
  by_cases hc : 0 ≤ cut ∧ cut < (c.recs.length : Int)
  · obtain ⟨Gk, _, _, hk⟩ := a.cuts cut.toNat
    have hw := vw_gdo_b w h i cut a1 a2 a3 c.recs.length c1 c.msgs.length c2 c.done.length c3 (x.core ((i : Int) + 1)).keep _ c.recs ⟨rfl, by have := hf.recs; omega, s1⟩ hi (toGx_keep x hi) rfl hk.view hk.small hL a.ra hc
    refine hw.mono ?_
    rintro e w' ⟨e1, e2⟩
    refine ⟨e1, ?_⟩
    have : toGx (Vw.grDo x ((i : Int) + 1) c cut) = { toGx x with ks := (toGx x).ks.set i (Vw.lays (x.core ((i : Int) + 1)).keep (c.recs.take cut.toNat)), core := updI (updI x.core ((i : Int) + 1) c.clear) ((i : Int) + 1) (Vw.Core.new ((i : Int) + 1) x.n 2 x.pat (Vw.lays (x.core ((i : Int) + 1)).keep (c.recs.take cut.toNat))), told := (toGx x).told.set i 0 } := by
      unfold Vw.grDo
      rw [if_pos hc, updI_updI]
      unfold toGx
      simp only
      rw [map_set (fun c => c.keep) x.core x.n i hi, map_set (fun c => (c.commit : Int)) x.core x.n i hi]
      rfl
    rw [this]; exact e2
  · obtain ⟨e1, e2, e3, e4⟩ := hG.act hy a
    have hlog := a.log
    have hw := vw_gdo_a w h i cut a1 a2 a3 c.recs.length c1 c.msgs.length c2 c.done.length c3 c.clear (x.core ((i : Int) + 1)).commit (x.core ((i : Int) + 1)).keep c.recs c.msgs c.done ⟨rfl, by have := hf.recs; omega, s1⟩ ⟨rfl, by have := hf.msgs; omega, hm, s2⟩ ⟨rfl, h3.1, h3.2, s3⟩ hi (updI_same _ _ _) (toGx_keep x hi)
      (by rw [← a.lays]; rfl) (toGx_told x hi) ⟨hG.com _ hy, hs⟩ ⟨e1, e2, by show c.commit ≤ 2000; omega⟩ e3 (fun m hm => by
        obtain ⟨k1, k2⟩ := a.msgs m hm
        refine ⟨k2, fun e => k1.ne (by rw [k2, e]), k1.to_.1, ?_, k1.shard, ?_⟩
        · have := k1.to_.2; rw [a.ext.n, hG.n] at this; exact this
        · have := k1.vv
          rw [k2, a.st.keep.V] at this; exact this) hL a.ra (by omega)
    refine hw.mono ?_
    rintro e w' ⟨e1, e2⟩
    refine ⟨e1, ?_⟩
    have : toGx (Vw.grDo x ((i : Int) + 1) c cut) = { toGx x with ks := (toGx x).ks.set i c.clear.keep, core := updI x.core ((i : Int) + 1) c.clear, told := (toGx x).told.set i (c.clear.commit : Int), sure := Vw.tells x.sure (x.core ((i : Int) + 1)).commit c.done, mail := trim (x.mail ++ c.msgs) } := by
      unfold Vw.grDo
      rw [if_neg hc]
      unfold toGx
      simp only
      rw [map_set (fun c => c.keep) x.core x.n i hi, map_set (fun c => (c.commit : Int)) x.core x.n i hi]
    rw [this]; exact e2
end Go.Proofs.Ytmmgnbdngpkfcaa

namespace Go.Proofs.Ytmmgnbdngpkfcaa
open Go.RowKit
set_option linter.unusedVariables false
set_option linter.unusedSimpArgs false

/-- a group in the making -/
structure GrF (C : Col) (w : World) (gg n : Nat) (pat : Int) (ks : List Vw.Keep) (gs : List Nat) (told : List Int) (core : Int → Vw.Core) (kv cv tv : Value) : Prop where
  row : w.heap[gg]? = some (.cells #[.int .i64 n, .int .i64 pat, kv, cv, .slice none 0 0, .slice none 0 0, tv, .bool false] 124 (0, 0))
  gc : C gg = 1
  dom : ∀ k, C k ≠ 0 → k < w.heap.size
  keeps : OwnQ C 2 EKeepI 95 w kv ks
  cores : OwnQ C 3 EPtr 103 w cv gs
  tolds : OwnQ C 6 EInt 3 w tv told
  mem : ∀ i g, gs[i]? = some g → VwAt (pj (i + 1) C) w g (core ((i : Int) + 1))
section
variable {C C' : Col} {w w' : World} {gg n : Nat} {pat : Int} {ks : List Vw.Keep} {gs : List Nat} {told : List Int} {core : Int → Vw.Core} {kv cv tv : Value}
theorem GrF.lt (h : GrF C w gg n pat ks gs told core kv cv tv) : gg < w.heap.size := (Array.getElem?_eq_some_iff.1 h.row).1
theorem GrF.below (h : GrF C w gg n pat ks gs told core kv cv tv) (hb : Below w.heap.size w w') : GrF C w' gg n pat ks gs told core kv cv tv := by
  have t : Kp (· = 7) C w C w' := Kp.below h.dom hb
  obtain ⟨e1, e2⟩ := t.blk h.lt (by rw [h.gc]; decide)
  exact ⟨e1.trans h.row, h.gc, t.dom, h.keeps.kp t (by decide) (by decide), h.cores.kp t (by decide) (by decide), h.tolds.kp t (by decide) (by decide), fun i g hg => (h.mem i g hg).kp t (by decide) fun d hd e => by omega⟩
theorem GrF.cells (h : GrF C w gg n pat ks gs told core kv cv tv) : w.cell? ⟨gg, 2, none⟩ = some kv ∧ w.cell? ⟨gg, 3, none⟩ = some cv ∧ w.cell? ⟨gg, 6, none⟩ = some tv ∧ w.cell? ⟨gg, 7, none⟩ = some (.bool false) ∧ ∀ o, w.frozen? ⟨gg, o, none⟩ = false := by
  refine ⟨?_, ?_, ?_, ?_, fun o => ?_⟩ <;> simp [World.cell?, World.frozen?, h.row]
/-- a member is made -/
theorem GrF.new (h : GrF C w gg n pat ks gs told core kv cv tv) {g : Nat} {c : Vw.Core} (hl : gs.length ≤ 6) (hn : NewToO (Im C) w w' g c) :
    ∃ C', GrF C' w' gg n pat ks gs told core kv cv tv ∧ VwAt (pj (gs.length + 1) C') w' g c ∧ KpA C w C' w' := by
  obtain ⟨C', t, hv⟩ := Kp.newMember (y := gs.length + 1) h.dom hn ⟨by omega, by omega⟩
  have hn0 : ∀ d, d < 10 → ¬ (d / 10 = gs.length + 1 ∧ d ≠ 0) := fun d hd h => by omega
  obtain ⟨e1, e2⟩ := t.blk h.lt (by rw [h.gc]; exact hn0 _ (by decide))
  exact ⟨C', ⟨e1.trans h.row, e2.trans h.gc, t.dom, h.keeps.kp t (hn0 _ (by decide)) (hn0 _ (by decide)), h.cores.kp t (hn0 _ (by decide)) (hn0 _ (by decide)), h.tolds.kp t (hn0 _ (by decide)) (hn0 _ (by decide)), fun i g hg => (h.mem i g hg).kp t (hn0 _ (by decide)) fun d hd e => by have := (List.getElem?_eq_some_iff.1 hg).1; omega⟩, hv, t.any (hn0 _ (by decide))⟩
/-- the row is written anew -/
theorem GrF.rowSet (h : GrF C w gg n pat ks gs told core kv cv tv) (k : Nat) (v : Value) {kv' cv' tv' : Value} (hr : ((#[.int .i64 n, .int .i64 pat, kv, cv, .slice none 0 0, .slice none 0 0, tv, .bool false] : Array Value).setIfInBounds k v) = #[.int .i64 n, .int .i64 pat, kv', cv', .slice none 0 0, .slice none 0 0, tv', .bool false])
    {ks' : List Vw.Keep} {gs' : List Nat} {told' : List Int} {core' : Int → Vw.Core} (h2 : OwnQ C 2 EKeepI 95 w kv' ks') (h3 : OwnQ C 3 EPtr 103 w cv' gs') (h6 : OwnQ C 6 EInt 3 w tv' told') (hm : ∀ i g, gs'[i]? = some g → VwAt (pj (i + 1) C) w g (core' ((i : Int) + 1))) :
    GrF C (w.setCell ⟨gg, k, none⟩ v) gg n pat ks' gs' told' core' kv' cv' tv' ∧ Kp (· = 1) C w C (w.setCell ⟨gg, k, none⟩ v) := by
  have ho : Only (· = gg) w (w.setCell ⟨gg, k, none⟩ v) := setg (S := (· = gg)) (Only.refl _ _) rfl k v
  have t : Kp (· = 1) C w C (w.setCell ⟨gg, k, none⟩ v) := Kp.of_only h.dom ho fun k hk => by rw [hk]; exact h.gc
  exact ⟨⟨by rw [heap_set h.row k v, hr], h.gc, t.dom, h2.kp t (by decide) (by decide), h3.kp t (by decide) (by decide), h6.kp t (by decide) (by decide), fun i g hg => (hm i g hg).kp t (by decide) fun d hd e => by omega⟩, t⟩
/-- a list grows -/
theorem GrF.kp {i0 : Nat} (h : GrF C w gg n pat ks gs told core kv cv tv) (t : Kp (· = i0) C w C' w') (hi : 2 ≤ i0 ∧ i0 ≤ 9) : w'.heap[gg]? = some (.cells #[.int .i64 n, .int .i64 pat, kv, cv, .slice none 0 0, .slice none 0 0, tv, .bool false] 124 (0, 0)) ∧ C' gg = 1 ∧ (∀ k, C' k ≠ 0 → k < w'.heap.size) ∧
    (i0 ≠ 2 → OwnQ C' 2 EKeepI 95 w' kv ks) ∧ (i0 ≠ 3 → OwnQ C' 3 EPtr 103 w' cv gs) ∧ (i0 ≠ 6 → OwnQ C' 6 EInt 3 w' tv told) ∧ ∀ i g, gs[i]? = some g → VwAt (pj (i + 1) C') w' g (core ((i : Int) + 1)) := by
  obtain ⟨e1, e2⟩ := t.blk h.lt (by rw [h.gc]; omega)
  exact ⟨e1.trans h.row, e2.trans h.gc, t.dom, fun e => h.keeps.kp t (by omega) (by omega), fun e => h.cores.kp t (by omega) (by omega), fun e => h.tolds.kp t (by omega) (by omega), fun i g hg => (h.mem i g hg).kp t (by omega) fun d hd e => by omega⟩
theorem GrF.setBad (h : GrF C w gg n pat ks gs told core kv cv tv) : GrF C (w.setCell ⟨gg, 7, none⟩ (.bool false)) gg n pat ks gs told core kv cv tv ∧ Kp (· = 1) C w C (w.setCell ⟨gg, 7, none⟩ (.bool false)) :=
  h.rowSet 7 (.bool false) rfl h.keeps h.cores h.tolds h.mem
theorem GrF.setKeeps (h : GrF C w gg n pat ks gs told core kv cv tv) {v : Value} {ks' : List Vw.Keep} (ho : OwnQ C' 2 EKeepI 95 w' v ks') (t : Kp (· = 2) C w C' w') :
    GrF C' (w'.setCell ⟨gg, 2, none⟩ v) gg n pat ks' gs told core v cv tv ∧ KpA C w C' (w'.setCell ⟨gg, 2, none⟩ v) ∧ (∀ y g c, 1 ≤ y → VwAt (pj y C) w g c → VwAt (pj y C') (w'.setCell ⟨gg, 2, none⟩ v) g c) := by
  obtain ⟨a1, a2, a3, a4, a5, a6, a7⟩ := h.kp t (by decide)
  have t2 : Kp (· = 1) C' w' C' (w'.setCell ⟨gg, 2, none⟩ v) := Kp.of_only a3 (setg (S := (· = gg)) (Only.refl _ _) rfl 2 v) fun k hk => by rw [hk]; exact a2
  refine ⟨⟨by rw [heap_set a1 2 v]; rfl, a2, t2.dom, ho.kp t2 (by decide) (by decide), (a5 (by decide)).kp t2 (by decide) (by decide), (a6 (by decide)).kp t2 (by decide) (by decide), fun i g hg => (a7 i g hg).kp t2 (by decide) fun d hd e => by omega⟩, (t.any (by decide)).trans (t2.any (by decide)), fun y g c hy hv => (hv.kp t (by decide) fun d hd e => by omega).kp t2 (by decide) fun d hd e => by omega⟩
theorem GrF.setCores (h : GrF C w gg n pat ks gs told core kv cv tv) {v : Value} {g : Nat} {c : Vw.Core} (hc : core ((gs.length : Int) + 1) = c) (hv : VwAt (pj (gs.length + 1) C) w g c) (ho : OwnQ C' 3 EPtr 103 w' v (gs ++ [g])) (t : Kp (· = 3) C w C' w') :
    GrF C' (w'.setCell ⟨gg, 3, none⟩ v) gg n pat ks (gs ++ [g]) told core kv v tv ∧ KpA C w C' (w'.setCell ⟨gg, 3, none⟩ v) := by
  obtain ⟨a1, a2, a3, a4, a5, a6, a7⟩ := h.kp t (by decide)
  have t2 : Kp (· = 1) C' w' C' (w'.setCell ⟨gg, 3, none⟩ v) := Kp.of_only a3 (setg (S := (· = gg)) (Only.refl _ _) rfl 3 v) fun k hk => by rw [hk]; exact a2
  refine ⟨⟨by rw [heap_set a1 3 v]; rfl, a2, t2.dom, (a4 (by decide)).kp t2 (by decide) (by decide), ho.kp t2 (by decide) (by decide), (a6 (by decide)).kp t2 (by decide) (by decide), fun i g' hg => ?_⟩, (t.any (by decide)).trans (t2.any (by decide))⟩
  by_cases hi : i < gs.length
  · rw [List.getElem?_append_left hi] at hg
    exact (a7 i g' hg).kp t2 (by decide) fun d hd e => by omega
  · rw [List.getElem?_append_right (by omega)] at hg
    have hi0 : i = gs.length := by have := (List.getElem?_eq_some_iff.1 hg).1; simp at this; omega
    subst hi0
    simp at hg; subst hg
    rw [hc]
    exact (hv.kp t (by decide) fun d hd e => by omega).kp t2 (by decide) fun d hd e => by omega
theorem GrF.setTold (h : GrF C w gg n pat ks gs told core kv cv tv) {v : Value} {ts : List Int} (ho : OwnQ C' 6 EInt 3 w' v ts) (t : Kp (· = 6) C w C' w') :
    GrF C' (w'.setCell ⟨gg, 6, none⟩ v) gg n pat ks gs ts core kv cv v ∧ KpA C w C' (w'.setCell ⟨gg, 6, none⟩ v) := by
  obtain ⟨a1, a2, a3, a4, a5, a6, a7⟩ := h.kp t (by decide)
  have t2 : Kp (· = 1) C' w' C' (w'.setCell ⟨gg, 6, none⟩ v) := Kp.of_only a3 (setg (S := (· = gg)) (Only.refl _ _) rfl 6 v) fun k hk => by rw [hk]; exact a2
  exact ⟨⟨by rw [heap_set a1 6 v]; rfl, a2, t2.dom, (a4 (by decide)).kp t2 (by decide) (by decide), (a5 (by decide)).kp t2 (by decide) (by decide), ho.kp t2 (by decide) (by decide), fun i g hg => (a7 i g hg).kp t2 (by decide) fun d hd e => by omega⟩, (t.any (by decide)).trans (t2.any (by decide))⟩
/-- it is made -/
theorem GrF.done (h : GrF C w gg n pat ks gs told core kv cv tv) (hn : 1 ≤ n ∧ n ≤ 5) (hp : 1 ≤ pat ∧ pat ≤ 100) (h1 : ks.length = n) (h2 : gs.length = n) (h3 : told.length = n) :
    GrM C w gg ⟨n, pat, ks, core, [], [], told⟩ ⟨kv, cv, .slice none 0 0, .slice none 0 0, tv, gs⟩ :=
  ⟨h.row, h.gc, hn, hp, ⟨h.dom, h.keeps, h.cores, OwnQ.nil _ _ _ _ _, OwnQ.nil _ _ _ _ _, h.tolds, h1, h2, h3, fun i g _ hg => h.mem i g hg⟩⟩
/-- the row alone -/
theorem GrF.start (hd : ∀ k, C k = 0) : GrF (fun k => if k = w.heap.size then 1 else C k) (w.alloc (.cells #[.int .i64 n, .int .i64 pat, .slice none 0 0, .slice none 0 0, .slice none 0 0, .slice none 0 0, .slice none 0 0, .bool false] 124)) w.heap.size n pat [] [] [] core (.slice none 0 0) (.slice none 0 0) (.slice none 0 0) ∧
    KpA C w (fun k => if k = w.heap.size then 1 else C k) (w.alloc (.cells #[.int .i64 n, .int .i64 pat, .slice none 0 0, .slice none 0 0, .slice none 0 0, .slice none 0 0, .slice none 0 0, .bool false] 124)) := by
  have hdom : ∀ k, (if k = w.heap.size then 1 else C k) ≠ 0 → k < (w.alloc (.cells #[.int .i64 n, .int .i64 pat, .slice none 0 0, .slice none 0 0, .slice none 0 0, .slice none 0 0, .slice none 0 0, .bool false] 124)).heap.size := fun k hk => by
    by_cases e : k = w.heap.size
    · simp [e]
    · rw [if_neg e, hd] at hk; exact absurd rfl hk
  refine ⟨⟨heap_alloc_new w _, by simp, hdom, OwnQ.nil _ _ _ _ _, OwnQ.nil _ _ _ _ _, OwnQ.nil _ _ _ _ _, fun i g hg => by simp at hg⟩, ⟨Go.Proofs.Ytmmgnbdngpkfcaa.Below.only (alloc_below w _), fun k hk _ => if_neg (by omega), hdom⟩⟩
end
end Go.Proofs.Ytmmgnbdngpkfcaa

namespace Go.Proofs.Ytmmgnbdngpkfcaa
open Go.RowKit
set_option linter.unusedVariables false
set_option linter.unusedSimpArgs false

/-- what a group of j members lasts, and has told -/
def stK (j : Nat) : List Vw.Keep := List.replicate j ⟨0, 0, []⟩
def stT (j : Nat) : List Int := List.replicate j 0
theorem stK_succ (j : Nat) : stK j ++ [⟨0, 0, []⟩] = stK (j + 1) := by unfold stK; rw [List.replicate_succ']
theorem st_small : Vw.Small ([] : List Vw.Bs) := ⟨by show ([] : List Vw.Bs).length ≤ 2000; simp, fun b hb => by cases hb⟩
theorem init_gx (n : Nat) (pat : Int) : toGx (Vw.Gr.init n pat) = ⟨n, pat, stK n, fun y => Vw.Core.new y n 2 pat ⟨0, 0, []⟩, [], [], stT n⟩ := by
  have e1 : (List.range n).map (fun _ : Nat => (⟨0, 0, []⟩ : Vw.Keep)) = stK n := List.eq_replicate_iff.2 ⟨by simp, fun b hb => by obtain ⟨_, _, rfl⟩ := List.mem_map.1 hb; rfl⟩
  have e2 : (List.range n).map (fun _ : Nat => (0 : Int)) = stT n := List.eq_replicate_iff.2 ⟨by simp, fun b hb => by obtain ⟨_, _, rfl⟩ := List.mem_map.1 hb; rfl⟩
  rw [← e1, ← e2]
  rfl
/-- a group has been made -/
def StTo (w w' : World) (n : Nat) (pat : Int) (e : Ending) : Prop := ∃ gg C L, e = .returned (.pointer (some ⟨gg, 0, none⟩)) ∧ GrM C w' gg (toGx (Vw.Gr.init n pat)) L ∧ KpA (fun _ => 0) w C w'
theorem stT_succ (j : Nat) : stT j ++ [0] = stT (j + 1) := by unfold stT; rw [List.replicate_succ']
set_option maxRecDepth 100000 in
set_option maxHeartbeats 0 in
theorem vw_gstart (n : Nat) (pat : Int) (w : World) (hn : 1 ≤ n ∧ n ≤ 5) (hp : 1 ≤ pat ∧ pat ≤ 100) :
    Calls Try.prog 64 #[.int .i64 n, .int .i64 pat] w fun e w' => StTo w w' n pat e := by
  obtain ⟨core, hcore⟩ : ∃ core : Int → Vw.Core, core = fun y => Vw.Core.new y n 2 pat ⟨0, 0, []⟩ := ⟨_, rfl⟩
  have hst := GrF.start (C := fun _ => 0) (w := w) (n := n) (pat := pat) (core := core) fun _ => rfl
  obtain ⟨gg, hgg⟩ : ∃ gg, gg = w.heap.size := ⟨_, rfl⟩
  obtain ⟨w1, hw1⟩ : ∃ w1, w1 = w.alloc (.cells #[.int .i64 n, .int .i64 pat, .slice none 0 0, .slice none 0 0, .slice none 0 0, .slice none 0 0, .slice none 0 0, .bool false] 124) := ⟨_, rfl⟩
  rw [← hw1, ← hgg] at hst
  have Hst := Lib.hid hst
  have HW1 := Lib.hid hw1.symm
  have Hgg := Lib.hid hgg.symm
  have hnew : ∀ (j : Nat) (C : Col) (W : World), j < n → Calls Try.prog 56 #[.int .i64 ((j : Int) + 1), .int .i64 n, .int .i64 2, .int .i64 pat, .int .i64 0, .agg #[.int .i64 0, .int .i64 0, .slice none 0 0]] W fun e w' => ∃ g, e = .returned (.tuple #[.pointer (some ⟨g, 0, none⟩), .int .i64 0]) ∧ NewToO (Im C) W w' g (core ((j : Int) + 1)) := fun j C W hj => by
    rw [hcore]
    exact vw_NewO (Im C) _ n 2 pat ⟨0, 0, []⟩ none 0 0 W (by omega) (by omega) (by omega) ⟨Int.le_refl 0, by show (0 : Int) ≤ _; decide⟩ ⟨Int.le_refl 0, Int.le_refl 0⟩ st_small rfl ⟨Nat.le_refl _, Nat.zero_le _⟩ (Sl.nil _ _ _ _)
  have HNew := Lib.hid hnew
  have Hcore := Lib.hid hcore
  clear hst hw1 hgg hnew hcore
  go_enter Try.func64, Try.ntmps64
  go_upto_region 2 with fail
  rw [HW1.out, Hgg.out]
  clear HW1
  go_wp2_with fail
  go_loopg [6] n (fun gn v wr => ∃ (j : Nat) (C : Col) (gs : List Nat) (kv cv tv : Value), RowKit.Hid (gn = n - j) ∧ j ≤ n ∧ v = .int .i64 ((j : Int) + 1) ∧ gs.length = j ∧ RowKit.Hid (GrF C wr gg n pat (stK j) gs (stT j) core kv cv tv) ∧ RowKit.Hid (KpA (fun _ => 0) w C wr))
  case atStart => exact ⟨0, _, [], _, _, _, Lib.hid rfl, Nat.zero_le _, rfl, rfl, Lib.hid Hst.out.1, Lib.hid Hst.out.2⟩
  case round =>
    obtain ⟨j, C, gs, kv, cv, tv, hgn, hj, rfl, hgl, hF, hK⟩ := hrel
    by_cases hlt : j < n
    · have hlti : (j : Int) + 1 ≤ (n : Int) := by omega
      have hltd : decide ((j : Int) + 1 ≤ (n : Int)) = true := by simp; omega
      have hadd : IntKind.i64.wrap ((j : Int) + 1 + 1) = (j : Int) + 1 + 1 := IntWalk.i64_in _ (by omega)
      have HN := Lib.hid (HNew.out j C wr hlt)
      go_wp2_with fail
      refine HN.out.mono ?_
      rintro e w2 ⟨g, rfl, hN⟩
      obtain ⟨C2, f2, v2, k2⟩ := hF.out.new (by omega) hN
      have q7 := f2.cells.2.2.2.1
      have qf := f2.cells.2.2.2.2
      obtain ⟨f3, k3⟩ := f2.setBad
      have v3 := v2.kp k3 (by decide) fun d hd e => by omega
      obtain ⟨w3, hw3⟩ : ∃ w3, w3 = w2.setCell ⟨gg, 7, none⟩ (.bool false) := ⟨_, rfl⟩
      rw [← hw3] at f3 k3 v3
      have HW3 := Lib.hid hw3.symm
      have F3 := Lib.hid f3
      have V3 := Lib.hid v3
      have K3 := Lib.hid ((hK.out.trans k2).trans (k3.any (by decide)))
      clear hN f2 v2 k2 f3 k3 v3 hw3 hF hK HN
      go_upto_region 7 with fail
      rw [HW3.out]
      clear q7 qf HW3
      -- what it lasts
      obtain ⟨ka, kc, hkv, -, -⟩ := F3.out.keeps.shape
      have hkl : (stK j).length = j := by simp [stK]
      rw [hkl] at hkv
      subst hkv
      have q2 := F3.out.cells.1
      have qf := F3.out.cells.2.2.2.2
      obtain ⟨X, hX⟩ : ∃ X, X = w3.alloc (.cells #[.int .i64 0, .int .i64 0, .slice none 0 0] 95) := ⟨_, rfl⟩
      have hbX : Below w3.heap.size w3 X := by rw [hX]; exact alloc_below _ _
      have FX := Lib.hid (F3.out.below hbX)
      have HslX : RowKit.Hid (Sl EKeepI (Im C2) X (some ⟨w3.heap.size, 0, none⟩) [⟨0, 0, []⟩]) := Lib.hid (sl_one (by rw [hX]; exact heap_alloc_new w3 _) ⟨none, 0, rfl, ⟨Nat.le_refl _, Nat.zero_le _⟩, Sl.nil _ _ _ _⟩ (Classical.byContradiction fun h => by have := F3.out.dom _ h; omega))
      have VX := Lib.hid (V3.out.below hbX)
      have KX : RowKit.Hid (KpA (fun _ => 0) w C2 X) := Lib.hid (K3.out.trans (Kp.below F3.out.dom hbX))
      have hX' := hX.symm
      have hl63 : (stK j).length + 1 ≤ 10 := by omega
      clear hX hbX hkl F3 V3 K3
      go_upto_region 8 with (first
        | (refine wpList_appQ (l2 := [(⟨0, 0, []⟩ : Vw.Keep)]) EKeepI rfl rfl (by rfl) (by rfl) ti_keeps FX.out.keeps (by decide) FX.out.dom rfl HslX.out (by simp) (by unfold maxLen; simp; omega) (by simp; omega) ?_
           intro v4 w4 C4 ho4 hk4
           rw [stK_succ] at ho4
           obtain ⟨a4, c4, hv4, -, -⟩ := ho4.shape
           rw [show (stK (j + 1)).length = j + 1 by simp [stK]] at hv4
           subst hv4
           obtain ⟨f5, k5, hv5⟩ := FX.out.setKeeps ho4 hk4
           have r4 := (FX.out.kp hk4 (by decide)).1
           have z2 : w4.cell? ⟨gg, 2, none⟩ = some (.slice ka j kc) := by simp [World.cell?, r4]
           have zf : ∀ o, w4.frozen? ⟨gg, o, none⟩ = false := fun o => by simp [World.frozen?, r4]
           have F5 := Lib.hid f5
           have V5 := Lib.hid (hv5 (gs.length + 1) g _ (by omega) VX.out)
           have K5 := Lib.hid (KX.out.trans k5)
           clear ho4 hk4 f5 k5 hv5 r4))
      obtain ⟨w5, hw5⟩ : ∃ w5, w5 = w4.setCell ⟨gg, 2, none⟩ (.slice a4 (j + 1) c4) := ⟨_, rfl⟩
      rw [← hw5] at F5 V5 K5 ⊢
      clear hw5 z2 zf hX' q2 qf FX VX KX HslX hl63
      -- the member
      obtain ⟨pa, pc, hcv, -, -⟩ := F5.out.cores.shape
      rw [hgl] at hcv
      subst hcv
      have q3 := F5.out.cells.2.1
      have qf := F5.out.cells.2.2.2.2
      obtain ⟨X, hX⟩ : ∃ X, X = w5.alloc (.cells #[.pointer (some ⟨g, 0, none⟩)] 103) := ⟨_, rfl⟩
      have hbX : Below w5.heap.size w5 X := by rw [hX]; exact alloc_below _ _
      have FX := Lib.hid (F5.out.below hbX)
      have HslX : RowKit.Hid (Sl EPtr (Im C4) X (some ⟨w5.heap.size, 0, none⟩) [g]) := Lib.hid (sl_one (by rw [hX]; exact heap_alloc_new w5 _) rfl (Classical.byContradiction fun h => by have := F5.out.dom _ h; omega))
      have VX := Lib.hid (V5.out.below hbX)
      have KX : RowKit.Hid (KpA (fun _ => 0) w C4 X) := Lib.hid (K5.out.trans (Kp.below F5.out.dom hbX))
      have hX' := hX.symm
      clear hX hbX F5 V5 K5
      go_upto_region 9 with (first
        | (refine wpList_appQ (l2 := [g]) EPtr rfl rfl (by rfl) (by rfl) ti_cores FX.out.cores (by decide) FX.out.dom rfl HslX.out (by simp) (by unfold maxLen; simp; omega) (by simp; omega) ?_
           intro v6 w6 C6 ho6 hk6
           obtain ⟨a6, c6, hv6, -, -⟩ := ho6.shape
           rw [show (gs ++ [g]).length = j + 1 by simp [hgl]] at hv6
           subst hv6
           obtain ⟨f7, k7⟩ := FX.out.setCores (by rw [hgl]) VX.out ho6 hk6
           have r6 := (FX.out.kp hk6 (by decide)).1
           have z3 : w6.cell? ⟨gg, 3, none⟩ = some (.slice pa j pc) := by simp [World.cell?, r6]
           have zf : ∀ o, w6.frozen? ⟨gg, o, none⟩ = false := fun o => by simp [World.frozen?, r6]
           have F7 := Lib.hid f7
           have K7 := Lib.hid (KX.out.trans k7)
           clear ho6 hk6 f7 k7 r6))
      obtain ⟨w7, hw7⟩ : ∃ w7, w7 = w6.setCell ⟨gg, 3, none⟩ (.slice a6 (j + 1) c6) := ⟨_, rfl⟩
      rw [← hw7] at F7 K7 ⊢
      clear hw7 z3 zf hX' q3 qf FX VX KX HslX
      -- what it has told
      obtain ⟨ta, tc, htv, -, -⟩ := F7.out.tolds.shape
      have htl : (stT j).length = j := by simp [stT]
      rw [htl] at htv
      subst htv
      have q6 := F7.out.cells.2.2.1
      have qf := F7.out.cells.2.2.2.2
      obtain ⟨X, hX⟩ : ∃ X, X = w7.alloc (.cells #[.int .i64 0] 3) := ⟨_, rfl⟩
      have hbX : Below w7.heap.size w7 X := by rw [hX]; exact alloc_below _ _
      have FX := Lib.hid (F7.out.below hbX)
      have HslX : RowKit.Hid (Sl EInt (Im C6) X (some ⟨w7.heap.size, 0, none⟩) [(0 : Int)]) := Lib.hid (sl_one (by rw [hX]; exact heap_alloc_new w7 _) ⟨rfl, by decide, by decide⟩ (Classical.byContradiction fun h => by have := F7.out.dom _ h; omega))
      have KX : RowKit.Hid (KpA (fun _ => 0) w C6 X) := Lib.hid (K7.out.trans (Kp.below F7.out.dom hbX))
      have hX' := hX.symm
      have hl63 : (stT j).length + 1 ≤ 10 := by omega
      clear hX hbX F7 K7 htl
      go_wp2_with (first
        | (refine wpList_appQ (l2 := [(0 : Int)]) EInt rfl rfl (by rfl) (by rfl) ti_nums FX.out.tolds (by decide) FX.out.dom rfl HslX.out (by simp) (by unfold maxLen; simp; omega) (by simp; omega) ?_
           intro v8 w8 C8 ho8 hk8
           rw [stT_succ] at ho8
           obtain ⟨a8, c8, hv8, -, -⟩ := ho8.shape
           rw [show (stT (j + 1)).length = j + 1 by simp [stT]] at hv8
           subst hv8
           obtain ⟨f9, k9⟩ := FX.out.setTold ho8 hk8
           have r8 := (FX.out.kp hk8 (by decide)).1
           have z6 : w8.cell? ⟨gg, 6, none⟩ = some (.slice ta j tc) := by simp [World.cell?, r8]
           have zf : ∀ o, w8.frozen? ⟨gg, o, none⟩ = false := fun o => by simp [World.frozen?, r8]
           have F9 := Lib.hid f9
           have K9 := Lib.hid (KX.out.trans k9)
           clear ho8 hk8 f9 k9 r8))
      obtain ⟨w9, hw9⟩ : ∃ w9, w9 = w8.setCell ⟨gg, 6, none⟩ (.slice a8 (j + 1) c8) := ⟨_, rfl⟩
      rw [← hw9] at F9 K9 ⊢
      clear hw9 z6 zf hX' q6 qf FX KX HslX hl63
      go_roundg (n - (j + 1))
      case measure => rw [hgn.out]; omega
      case rel => exact ⟨j + 1, C8, gs ++ [g], _, _, _, Lib.hid rfl, by omega, by go_num, by simp [hgl], F9, K9⟩
    · have hlti : ¬ (j : Int) + 1 ≤ (n : Int) := by omega
      have hltd : decide ((j : Int) + 1 ≤ (n : Int)) = false := by simp; omega
      have hjn : n = j := by omega
      have HM : RowKit.Hid (∃ L, GrM C wr gg (toGx (Vw.Gr.init n pat)) L) := Lib.hid (by
        have h := hF.out.done hn hp (by simp [stK]; omega) (by omega) (by simp [stT]; omega)
        rw [init_gx]
        rw [Hcore.out, ← hjn] at h
        exact ⟨_, h⟩)
      have HKe := hK
      clear hF hK hjn
      go_wp2_with fail
      go_ret
      obtain ⟨L, hL⟩ := HM.out
      exact ⟨gg, C, L, rfl, hL, HKe.out⟩
end Go.Proofs.Ytmmgnbdngpkfcaa

namespace Go.Proofs.Ytmmgnbdngpkfcaa
open Go.RowKit
set_option linter.unusedVariables false
set_option linter.unusedSimpArgs false

theorem bits_and65535 (n : Int) : bits .and .i64 n 65535 = n % 65536 := by
  have h : bits .and .i64 n 65535 = IntKind.i64.wrap ((BitVec.ofInt 64 n &&& BitVec.ofInt 64 65535).toNat : Int) := rfl
  rw [h]
  have : (BitVec.ofInt 64 n &&& BitVec.ofInt 64 65535).toNat = (BitVec.ofInt 64 n).toNat % 65536 := by
    rw [BitVec.toNat_and]
    exact Nat.and_two_pow_sub_one_eq_mod _ 16
  rw [this, BitVec.toNat_ofInt]
  rw [IntWalk.i64_in _ (by omega)]
  omega
theorem bits_and3 (n : Int) : bits .and .i64 n 3 = n % 4 := by
  have h : bits .and .i64 n 3 = IntKind.i64.wrap ((BitVec.ofInt 64 n &&& BitVec.ofInt 64 3).toNat : Int) := rfl
  rw [h]
  have : (BitVec.ofInt 64 n &&& BitVec.ofInt 64 3).toNat = (BitVec.ofInt 64 n).toNat % 4 := by
    rw [BitVec.toNat_and]
    exact Nat.and_two_pow_sub_one_eq_mod _ 2
  rw [this, BitVec.toNat_ofInt]
  rw [IntWalk.i64_in _ (by omega)]
  omega
namespace Vw
/-- the two bytes that are handed in -/
def opBytes (I : Int) : Bs := [BitVec.ofInt 8 I, BitVec.ofInt 8 (I / 256)]
/-- a message comes, is lost, or comes twice -/
def grMail (x : Gr) (k N : Int) (cut : Int) : Gr :=
  match x.mail[(N % 65536 % (x.mail.length : Int)).toNat]? with
  | none => x
  | some m =>
    let j := (N % 65536 % (x.mail.length : Int)).toNat
    let x1 : Gr := if k ≠ 3 then { x with mail := x.mail.take j ++ x.mail.drop (j + 1) } else x
    if k ≠ 2 then grDo x1 m.to_ ((x1.core m.to_).in_ m) cut else x1
/-- a step -/
def grStep (x : Gr) (k N I : Int) : Gr :=
  let y := N % 65536 % (x.n : Int) + 1
  let cut : Int := if 6 ≤ k then I % 4 else -1
  if k = 0 ∨ k = 6 then grDo x y (x.core y).tick cut
  else if k = 1 ∨ k = 2 ∨ k = 3 ∨ k = 7 then grMail x k N cut
  else if k = 4 then grDo x y ((x.core y).propose (opBytes I)).1 cut
  else if k = 5 then { x with core := updI x.core y (Core.new y x.n 2 x.pat (x.core y).keep) }
  else x
theorem grDo_n (x : Gr) (y : Int) (c : Core) (cut : Int) : (grDo x y c cut).n = x.n ∧ (grDo x y c cut).pat = x.pat := by unfold grDo; split <;> exact ⟨rfl, rfl⟩
end Vw
noncomputable def spBody : Code := Try.f65.body.getD .skip
noncomputable def spP1 : Code := codeTl spBody
noncomputable def spP2 : Code := codeTl spP1
noncomputable def spP3 : Code := codeTl spP2
noncomputable def spP4 : Code := codeTl spP3
noncomputable def spA0 : Code := codeHd spBody
noncomputable def spA1 : Code := codeHd spP1
noncomputable def spA2 : Code := codeHd spP2
noncomputable def spA3 : Code := codeHd spP3
theorem spBody_is : Try.f65.body = some spBody := by kernel_rfl
theorem spBody_eq : spBody = .seq spA0 (.seq spA1 (.seq spA2 (.seq spA3 spP4))) := by kernel_rfl
/-- a unit of time at any member -/
theorem vw_Tick {M : Col} {g : Nat} {c : Vw.Core} (w : World) (h : VwAt M w g c) (h0 : c.recs = [] ∧ c.msgs = [] ∧ c.done = []) (hid : c.idle < 1000000000000) :
    Calls Try.prog 61 #[.pointer (some ⟨g, 0, none⟩)] w fun e w' => InTo M w w' g c.tick e := by
  by_cases hl : c.leads = true
  · exact vw_Tick_lead w h hl (by rw [h0.1]; decide) (by rw [h0.2.1]; decide) (by rw [h0.2.2]; decide) hid
  · exact vw_Tick_rest w h (by simpa using hl) (by rw [h0.1]; decide) (by rw [h0.2.1]; decide) (by rw [h0.2.2]; decide) hid
/-- a member as it stands in a group -/
theorem GrI_at {x : Vw.Gr} {K : Nat} (h : Vw.GrI x K) {i : Nat} (hi : i < x.n) : ∃ G, Vw.GrOk G x K ∧ Vw.node x.n ((i : Int) + 1) ∧ Vw.St G ((i : Int) + 1) (x.core ((i : Int) + 1)) ∧ ((x.core ((i : Int) + 1)).recs = [] ∧ (x.core ((i : Int) + 1)).msgs = [] ∧ (x.core ((i : Int) + 1)).done = []) ∧ (x.core ((i : Int) + 1)).idle ≤ K := by
  obtain ⟨⟨G, hG⟩, _⟩ := h
  have hy : Vw.node x.n ((i : Int) + 1) := ⟨by omega, by omega⟩
  exact ⟨G, hG, hy, hG.st _ hy, hG.out _ hy, hG.idle _ hy⟩
set_option maxRecDepth 1000000 in
set_option maxHeartbeats 0 in
theorem vw_spT0 (C0 : Col) (w0 : World) (gg q i0 : Nat) (cut : Int) (k N I : Int) (x : Vw.Gr) (K : Nat) (C : Col) (L : GrL) (w : World) (HG : RowKit.Hid (GrM C w gg (toGx x) L)) (HK : RowKit.Hid (KpA C0 w0 C w)) (HI : RowKit.Hid (Vw.GrI x K ∧ K ≤ 1000000))
    (HB : RowKit.Hid (Im C q ∧ w.heap[q]? = some (.cells #[.int .i64 k, .int .i64 N, .int .i64 I] 120 (0, 0)))) (HN : RowKit.Hid ((i0 : Int) = N % 65536 % x.n ∧ i0 < x.n ∧ cut = if 6 ≤ k then I % 4 else -1)) (hk : k = 0 ∨ k = 6) {u1 u2 u6 u7 u8 u9 aA aB aC aD aE aF aG aH aI aJ aK aL aM aN aO aP aQ aR aS aT aU aV aW aX aY aZ bA bB bC bD bE bF bG bH bI bJ bK bL bM bN bO bP bQ bR bS bT bU bV bW bX bY bZ cA cB cC cD cE cF cG cH cI cJ cK cL cM cN cO cP cQ cR cS cT cU cV cW cX cY cZ dA dB dC dD dE dF dG dH dI dJ dK dL dM dN dO dP dQ dR dS dT dU dV dW dX dY dZ eA eB eC eD eE eF eG eH eI eJ eK eL eM eN eO eP eQ eR eS eT eU eV eW eX eY eZ fA fB fC fD fE fF fG fH fI fJ fK fL fM : Value} :
    Code.wp Try.prog spP4 (bodyPost Try.prog Try.f65 fun e w' => e = .returned (.tuple #[]) ∧ GrTo C0 w0 w' gg (toGx (Vw.grStep x k N I))) ⟨#[.pointer (some ⟨gg, 0, none⟩), u1, u2, .pointer (some ⟨q, 0, none⟩), .int .i64 i0, .int .i64 cut, u6, u7, u8, u9, aA, aB, aC, aD, aE, aF, aG, aH, aI, aJ, aK, aL, aM, aN, aO, aP, aQ, aR, aS, aT, aU, aV, aW, aX, aY, aZ, bA, bB, bC, bD, bE, bF, bG, bH, bI, bJ, bK, bL, bM, bN, bO, bP, bQ, bR, bS, bT, bU, bV, bW, bX, bY, bZ, cA, cB, cC, cD, cE, cF, cG, cH, cI, cJ, cK, cL, cM, cN, cO, cP, cQ, cR, cS, cT, cU, cV, cW, cX, cY, cZ, dA, dB, dC, dD, dE, dF, dG, dH, dI, dJ, dK, dL, dM, dN, dO, dP, dQ, dR, dS, dT, dU, dV, dW, dX, dY, dZ, eA, eB, eC, eD, eE, eF, eG, eH, eI, eJ, eK, eL, eM, eN, eO, eP, eQ, eR, eS, eT, eU, eV, eW, eX, eY, eZ, fA, fB, fC, fD, fE, fF, fG, fH, fI, fJ, fK, fL, fM], []⟩ w := by
  obtain ⟨hiN, hi, hcut⟩ := HN.out
  obtain ⟨G, hGo, hy, hst, hout, hid⟩ := GrI_at HI.out.1 hi
  obtain ⟨cb, co, cc, g, hg, hcvE, hcb, hc3, hc4, v0, hvat, hcf⟩ := HG.out.coreAt hi
  change w.cell? ⟨cb, co + i0, none⟩ = _ at v0
  change VwAt (pj (i0 + 1) C) w g (x.core ((i0 : Int) + 1)) at hvat
  have y3 := HG.out.c3
  rw [hcvE] at y3
  change w.cell? ⟨gg, 3, none⟩ = some (.slice (some ⟨cb, co, none⟩) x.n cc) at y3
  obtain ⟨n, hn⟩ : ∃ n, n = x.n := ⟨_, rfl⟩
  rw [← hn] at y3
  have e0 : w.cell? ⟨q, 0, none⟩ = some (.int .i64 k) := by simp [World.cell?, HB.out.2]
  have hile : i0 < n := by omega
  have hKb := HI.out.2
  have hmail := HI.out.1.2.2.1
  have HTick : RowKit.Hid (Calls Try.prog 61 #[.pointer (some ⟨g, 0, none⟩)] w fun e w' => InTo (pj (i0 + 1) C) w w' g (x.core ((i0 : Int) + 1)).tick e) := Lib.hid (vw_Tick w hvat hout (by omega))
  obtain ⟨G1, hact⟩ := Vw.Act.tick hGo.gi hst hout
  have hfew := Vw.tick_few hGo.gi hst hvat.right hout (by omega)
  have HDo : RowKit.Hid (∀ (w2 : World) (v1 v2 v3 : Value), TakeTo (pj (i0 + 1) C) w w2 g (x.core ((i0 : Int) + 1)).tick (.agg #[v1, v2, v3]) →
      Calls Try.prog 66 #[.pointer (some ⟨gg, 0, none⟩), .int .i64 i0, .agg #[v1, v2, v3], .int .i64 cut] w2 fun e w' => e = .returned (.tuple #[]) ∧ GrTo C0 w0 w' gg (toGx (Vw.grStep x k N I))) := Lib.hid fun w2 v1 v2 v3 ht => by
    obtain ⟨C2, m2, k2, o2⟩ := HG.out.takes hg ht
    refine (vw_gact hGo HI.out.1.2.1 (by omega) hi hact hfew cut w2 m2 o2).mono ?_
    rintro e w' ⟨e1, e2⟩
    refine ⟨e1, GrTo.trans (HK.out.trans k2) ?_⟩
    have : Vw.grStep x k N I = Vw.grDo x ((i0 : Int) + 1) (x.core ((i0 : Int) + 1)).tick cut := by
      unfold Vw.grStep
      simp only
      rw [if_pos hk, ← hiN, hcut]
    rw [this]; exact e2
  clear hiN hcut hGo hy hst hout hid hg hcvE hcb hc3 hc4 hvat hcf hact hfew hn hmail
  rcases hk with rfl | rfl
  all_goals
    conv => arg 2; whnf
    go_wp2_with fail
    refine HTick.out.mono ?_
    rintro e w2 ⟨a1, n1, c1, a2, n2, c2, a3, n3, c3, rfl, ht⟩
    have HD := Lib.hid (HDo.out w2 _ _ _ ht)
    clear ht HTick e0 y3 v0
    go_wp2_with fail
    refine HD.out.mono ?_
    rintro e w3 ⟨rfl, hto⟩
    have HTo := Lib.hid hto
    clear hto HD
    go_wp2_with fail
    refine bodyPost_end (v := .tuple #[]) (by simp [results, Try.results65, go_sem]) rfl ?_
    exact ⟨rfl, HTo.out⟩
set_option maxRecDepth 1000000 in
set_option maxHeartbeats 0 in
theorem vw_spT5 (C0 : Col) (w0 : World) (gg q i0 : Nat) (cut : Int) (k N I : Int) (x : Vw.Gr) (K : Nat) (C : Col) (L : GrL) (w : World) (HG : RowKit.Hid (GrM C w gg (toGx x) L)) (HK : RowKit.Hid (KpA C0 w0 C w)) (HI : RowKit.Hid (Vw.GrI x K ∧ K ≤ 1000000))
    (HB : RowKit.Hid (Im C q ∧ w.heap[q]? = some (.cells #[.int .i64 k, .int .i64 N, .int .i64 I] 120 (0, 0)))) (HN : RowKit.Hid ((i0 : Int) = N % 65536 % x.n ∧ i0 < x.n ∧ cut = if 6 ≤ k then I % 4 else -1)) (hk : k = 5) {u1 u2 u6 u7 u8 u9 aA aB aC aD aE aF aG aH aI aJ aK aL aM aN aO aP aQ aR aS aT aU aV aW aX aY aZ bA bB bC bD bE bF bG bH bI bJ bK bL bM bN bO bP bQ bR bS bT bU bV bW bX bY bZ cA cB cC cD cE cF cG cH cI cJ cK cL cM cN cO cP cQ cR cS cT cU cV cW cX cY cZ dA dB dC dD dE dF dG dH dI dJ dK dL dM dN dO dP dQ dR dS dT dU dV dW dX dY dZ eA eB eC eD eE eF eG eH eI eJ eK eL eM eN eO eP eQ eR eS eT eU eV eW eX eY eZ fA fB fC fD fE fF fG fH fI fJ fK fL fM : Value} :
    Code.wp Try.prog spP4 (bodyPost Try.prog Try.f65 fun e w' => e = .returned (.tuple #[]) ∧ GrTo C0 w0 w' gg (toGx (Vw.grStep x k N I))) ⟨#[.pointer (some ⟨gg, 0, none⟩), u1, u2, .pointer (some ⟨q, 0, none⟩), .int .i64 i0, .int .i64 cut, u6, u7, u8, u9, aA, aB, aC, aD, aE, aF, aG, aH, aI, aJ, aK, aL, aM, aN, aO, aP, aQ, aR, aS, aT, aU, aV, aW, aX, aY, aZ, bA, bB, bC, bD, bE, bF, bG, bH, bI, bJ, bK, bL, bM, bN, bO, bP, bQ, bR, bS, bT, bU, bV, bW, bX, bY, bZ, cA, cB, cC, cD, cE, cF, cG, cH, cI, cJ, cK, cL, cM, cN, cO, cP, cQ, cR, cS, cT, cU, cV, cW, cX, cY, cZ, dA, dB, dC, dD, dE, dF, dG, dH, dI, dJ, dK, dL, dM, dN, dO, dP, dQ, dR, dS, dT, dU, dV, dW, dX, dY, dZ, eA, eB, eC, eD, eE, eF, eG, eH, eI, eJ, eK, eL, eM, eN, eO, eP, eQ, eR, eS, eT, eU, eV, eW, eX, eY, eZ, fA, fB, fC, fD, fE, fF, fG, fH, fI, fJ, fK, fL, fM], []⟩ w := by
  obtain ⟨hiN, hi, hcut⟩ := HN.out
  obtain ⟨G, hGo, hy, hst, hout, hid⟩ := GrI_at HI.out.1 hi
  have e0 : w.cell? ⟨q, 0, none⟩ = some (.int .i64 k) := by simp [World.cell?, HB.out.2]
  have hBg : RowKit.Hid (Calls Try.prog 103 #[.pointer (some ⟨gg, 0, none⟩), .int .i64 i0] w fun e w' => e = .returned (.tuple #[]) ∧ GrTo C0 w0 w' gg (toGx (Vw.grStep x k N I))) := Lib.hid (by
    refine (vw_gbegin w HG.out i0 hi _ (toGx_keep x hi) hst.keep.view hst.keep.small).mono ?_
    rintro e w' ⟨e1, e2⟩
    refine ⟨e1, GrTo.trans HK.out ?_⟩
    have : toGx (Vw.grStep x k N I) = { toGx x with core := updI (toGx x).core ((i0 : Int) + 1) (Vw.Core.new ((i0 : Int) + 1) (toGx x).n 2 (toGx x).pat (x.core ((i0 : Int) + 1)).keep), told := (toGx x).told.set i0 0 } := by
      unfold Vw.grStep
      simp only
      rw [if_neg (by omega), if_neg (by omega), if_neg (by omega), if_pos hk, ← hiN]
      unfold toGx
      simp only
      rw [map_set (fun c => c.keep) x.core x.n i0 hi, map_set (fun c => (c.commit : Int)) x.core x.n i0 hi]
      congr 1
      apply List.ext_getElem?
      intro j
      by_cases e : j = i0
      · subst e
        rw [List.getElem?_set_self (by simpa using hi), List.getElem?_map, List.getElem?_range hi]
        rfl
      · rw [List.getElem?_set_ne (Ne.symm e)]
    rw [this]; exact e2)
  clear hiN hcut hGo hy hst hout hid hi
  subst hk
  conv => arg 2; whnf
  go_wp2_with fail
  refine hBg.out.mono ?_
  rintro e w3 ⟨rfl, hto⟩
  have HTo := Lib.hid hto
  clear hto hBg e0
  go_wp2_with fail
  refine bodyPost_end (v := .tuple #[]) (by simp [results, Try.results65, go_sem]) rfl ?_
  exact ⟨rfl, HTo.out⟩
set_option maxRecDepth 1000000 in
set_option maxHeartbeats 0 in
theorem vw_spTx (C0 : Col) (w0 : World) (gg q i0 : Nat) (cut : Int) (k N I : Int) (x : Vw.Gr) (K : Nat) (C : Col) (L : GrL) (w : World) (HG : RowKit.Hid (GrM C w gg (toGx x) L)) (HK : RowKit.Hid (KpA C0 w0 C w)) (HI : RowKit.Hid (Vw.GrI x K ∧ K ≤ 1000000))
    (HB : RowKit.Hid (Im C q ∧ w.heap[q]? = some (.cells #[.int .i64 k, .int .i64 N, .int .i64 I] 120 (0, 0)))) (HN : RowKit.Hid ((i0 : Int) = N % 65536 % x.n ∧ i0 < x.n ∧ cut = if 6 ≤ k then I % 4 else -1)) (hk : ¬ (k = 0 ∨ k = 6) ∧ ¬ (k = 1 ∨ k = 2 ∨ k = 3 ∨ k = 7) ∧ k ≠ 4 ∧ k ≠ 5) {u1 u2 u6 u7 u8 u9 aA aB aC aD aE aF aG aH aI aJ aK aL aM aN aO aP aQ aR aS aT aU aV aW aX aY aZ bA bB bC bD bE bF bG bH bI bJ bK bL bM bN bO bP bQ bR bS bT bU bV bW bX bY bZ cA cB cC cD cE cF cG cH cI cJ cK cL cM cN cO cP cQ cR cS cT cU cV cW cX cY cZ dA dB dC dD dE dF dG dH dI dJ dK dL dM dN dO dP dQ dR dS dT dU dV dW dX dY dZ eA eB eC eD eE eF eG eH eI eJ eK eL eM eN eO eP eQ eR eS eT eU eV eW eX eY eZ fA fB fC fD fE fF fG fH fI fJ fK fL fM : Value} :
    Code.wp Try.prog spP4 (bodyPost Try.prog Try.f65 fun e w' => e = .returned (.tuple #[]) ∧ GrTo C0 w0 w' gg (toGx (Vw.grStep x k N I))) ⟨#[.pointer (some ⟨gg, 0, none⟩), u1, u2, .pointer (some ⟨q, 0, none⟩), .int .i64 i0, .int .i64 cut, u6, u7, u8, u9, aA, aB, aC, aD, aE, aF, aG, aH, aI, aJ, aK, aL, aM, aN, aO, aP, aQ, aR, aS, aT, aU, aV, aW, aX, aY, aZ, bA, bB, bC, bD, bE, bF, bG, bH, bI, bJ, bK, bL, bM, bN, bO, bP, bQ, bR, bS, bT, bU, bV, bW, bX, bY, bZ, cA, cB, cC, cD, cE, cF, cG, cH, cI, cJ, cK, cL, cM, cN, cO, cP, cQ, cR, cS, cT, cU, cV, cW, cX, cY, cZ, dA, dB, dC, dD, dE, dF, dG, dH, dI, dJ, dK, dL, dM, dN, dO, dP, dQ, dR, dS, dT, dU, dV, dW, dX, dY, dZ, eA, eB, eC, eD, eE, eF, eG, eH, eI, eJ, eK, eL, eM, eN, eO, eP, eQ, eR, eS, eT, eU, eV, eW, eX, eY, eZ, fA, fB, fC, fD, fE, fF, fG, fH, fI, fJ, fK, fL, fM], []⟩ w := by
  have e0 : w.cell? ⟨q, 0, none⟩ = some (.int .i64 k) := by simp [World.cell?, HB.out.2]
  have HTo : RowKit.Hid (GrTo C0 w0 w gg (toGx (Vw.grStep x k N I))) := Lib.hid (by
    have : Vw.grStep x k N I = x := by
      unfold Vw.grStep
      simp only
      rw [if_neg hk.1, if_neg hk.2.1, if_neg hk.2.2.1, if_neg hk.2.2.2]
    rw [this]; exact GrTo.trans HK.out (GrTo.of HG.out))
  have b0 : (k == 0) = false := by simp; omega
  have b6 : (k == 6) = false := by simp; omega
  have b1 : (k == 1) = false := by simp; omega
  have b2 : (k == 2) = false := by simp; omega
  have b3 : (k == 3) = false := by simp; omega
  have b7 : (k == 7) = false := by simp; omega
  have b4 : (k == 4) = false := by simp; omega
  have b5 : (k == 5) = false := by simp; omega
  clear hk
  conv => arg 2; whnf
  go_wp2_with fail
  refine bodyPost_end (v := .tuple #[]) (by simp [results, Try.results65, go_sem]) rfl ?_
  exact ⟨rfl, HTo.out⟩
end Go.Proofs.Ytmmgnbdngpkfcaa

namespace Go.Proofs.Ytmmgnbdngpkfcaa
open Go.RowKit
set_option linter.unusedVariables false
namespace Vw
theorem GrI.mono {x : Gr} {K K' : Nat} (h : GrI x K) (hk : K ≤ K') : GrI x K' := by
  obtain ⟨⟨G, hG⟩, h1, h2, h3, h4⟩ := h
  exact ⟨⟨G, hG.mono hk⟩, h1, by have := Nat.mul_le_mul_left 40000 hk; omega, h3, h4⟩
theorem idx_ok {x : Gr} {K : Nat} (h : GrI x K) (N : Int) : ∃ i : Nat, i < x.n ∧ N % 65536 % (x.n : Int) = i := by
  have hn := h.2.2.2.1
  have h1 := Int.emod_nonneg (N % 65536) (show (x.n : Int) ≠ 0 by omega)
  have h2 := Int.emod_lt_of_pos (N % 65536) (show 0 < (x.n : Int) by omega)
  exact ⟨(N % 65536 % (x.n : Int)).toNat, by omega, by omega⟩
/-- what is known of a member by the walk: its bounds -/
def Rights (x : Gr) : Prop := ∀ i : Nat, i < x.n → Right (x.core ((i : Int) + 1))
theorem grMail_ok {x : Gr} {K : Nat} (h : GrI x K) (hK : K ≤ 1000000) (hR : Rights x) (k N cut : Int) : GrI (grMail x k N cut) (K + 1) := by
  obtain ⟨⟨G, hG⟩, h1, h2, h3, h4⟩ := id h
  unfold grMail
  split
  · exact h.mono (Nat.le_succ _)
  · rename_i m hm
    have hmem := List.mem_of_getElem? hm
    have hmo := hG.mail m hmem
    obtain ⟨x1, hx1⟩ : ∃ x1 : Gr, x1 = if k ≠ 3 then { x with mail := x.mail.take (N % 65536 % (x.mail.length : Int)).toNat ++ x.mail.drop ((N % 65536 % (x.mail.length : Int)).toNat + 1) } else x := ⟨_, rfl⟩
    show GrI (if k ≠ 2 then grDo (if k ≠ 3 then _ else _) m.to_ ((Gr.core (if k ≠ 3 then _ else _) m.to_).in_ m) cut else (if k ≠ 3 then _ else _)) (K + 1)
    rw [← hx1]
    have hG1 : GrOk G x1 K ∧ x1.sure.length ≤ 2000 ∧ x1.mail.length ≤ 40000 * K ∧ x1.n = x.n ∧ x1.pat = x.pat ∧ x1.core = x.core := by
      rw [hx1]
      split
      · refine ⟨hG.lose fun m' h' => (List.mem_append.1 h').elim List.mem_of_mem_take List.mem_of_mem_drop, h1, ?_, rfl, rfl, rfl⟩
        show (x.mail.take _ ++ x.mail.drop _).length ≤ _
        rw [List.length_append, List.length_take, List.length_drop]; omega
      · exact ⟨hG, h1, h2, rfl, rfl, rfl⟩
    obtain ⟨g1, g2, g3, g4, g5, g6⟩ := hG1
    split
    · have hto := hmo.to_
      rw [hG.n] at hto
      have hy : node x1.n m.to_ := by rw [g4]; exact hto
      obtain ⟨ito, hito⟩ : ∃ ito : Nat, m.to_ = (ito : Int) + 1 := ⟨(m.to_ - 1).toNat, by have := hto.1; omega⟩
      have hst := g1.st m.to_ hy
      have hout := g1.out m.to_ hy
      have hRm : Right (x1.core m.to_) := by rw [g6, hito]; exact hR ito (by have := hto.2; omega)
      obtain ⟨G1, hact⟩ := Act.in_ g1.gi hst hout m hmo rfl
      exact grDo_ok g1 g2 g3 (by rw [g4]; exact h3) (by rw [g5]; exact h4) hy hact (in_few g1.gi hst hRm hout m hmo rfl) cut
    · exact ⟨⟨G, g1.mono (Nat.le_succ _)⟩, g2, by omega, by rw [g4]; exact h3, by rw [g5]; exact h4⟩
theorem grStep_ok {x : Gr} {K : Nat} (h : GrI x K) (hK : K ≤ 1000000) (hR : Rights x) (k N I : Int) : GrI (grStep x k N I) (K + 1) := by
  obtain ⟨⟨G, hG⟩, h1, h2, h3, h4⟩ := id h
  obtain ⟨i, hi, hN⟩ := idx_ok h N
  have hy : node x.n ((i : Int) + 1) := ⟨by omega, by omega⟩
  have hst := hG.st _ hy
  have hout := hG.out _ hy
  have hid := hG.idle _ hy
  have hRi := hR i hi
  unfold grStep
  simp only
  rw [hN]
  split
  · obtain ⟨G1, hact⟩ := Act.tick hG.gi hst hout
    exact grDo_ok hG h1 h2 h3 h4 hy hact (tick_few hG.gi hst hRi hout (by omega)) _
  split
  · exact grMail_ok h hK hR k N _
  split
  · obtain ⟨G1, hact⟩ := Act.propose (Act.start hG.gi hst hout) (opBytes I)
    exact grDo_ok hG h1 h2 h3 h4 hy hact (propose_few hRi hout _) _
  split
  · obtain ⟨G', h'⟩ := hG.cut hy (Act.start hG.gi hst hout) 0
    refine ⟨⟨G', ?_⟩, h1, by show x.mail.length ≤ _; omega, h3, h4⟩
    exact h'.mono (Nat.le_succ _)
  · exact h.mono (Nat.le_succ _)
theorem GrI.start (n : Nat) (pat : Int) (hn : 1 ≤ n ∧ n ≤ 5) (hp : 1 ≤ pat ∧ pat ≤ 100) : GrI (Gr.init n pat) 0 :=
  ⟨⟨_, Gr.init_ok n pat⟩, Nat.zero_le _, Nat.zero_le _, hn, hp⟩
theorem grMail_n (x : Gr) (k N cut : Int) : (grMail x k N cut).n = x.n ∧ (grMail x k N cut).pat = x.pat := by
  unfold grMail
  split
  · exact ⟨rfl, rfl⟩
  · rename_i m hm
    have key : ∀ x1 : Gr, x1.n = x.n → x1.pat = x.pat → (if k ≠ 2 then grDo x1 m.to_ ((x1.core m.to_).in_ m) cut else x1).n = x.n ∧ (if k ≠ 2 then grDo x1 m.to_ ((x1.core m.to_).in_ m) cut else x1).pat = x.pat := fun x1 h1 h2 => by
      split
      · obtain ⟨e1, e2⟩ := grDo_n x1 m.to_ ((x1.core m.to_).in_ m) cut
        exact ⟨e1.trans h1, e2.trans h2⟩
      · exact ⟨h1, h2⟩
    refine key _ ?_ ?_
    · split <;> rfl
    · split <;> rfl
theorem grStep_n (x : Gr) (k N I : Int) : (grStep x k N I).n = x.n ∧ (grStep x k N I).pat = x.pat := by
  unfold grStep
  simp only
  split
  · exact grDo_n _ _ _ _
  split
  · exact grMail_n _ _ _ _
  split
  · exact grDo_n _ _ _ _
  split
  · exact ⟨rfl, rfl⟩
  · exact ⟨rfl, rfl⟩
end Vw
/-- what the walk knows of members -/
theorem GrM.rights {C : Col} {w : World} {gg : Nat} {x : Vw.Gr} {L : GrL} (h : GrM C w gg (toGx x) L) : Vw.Rights x := fun i hi => by
  obtain ⟨cb, co, cc, g, hg, hcvE, hcb, hc3, hc4, v0, hvat, hcf⟩ := h.coreAt (i := i) hi
  exact hvat.right
end Go.Proofs.Ytmmgnbdngpkfcaa

namespace Go.Proofs.Ytmmgnbdngpkfcaa
open Go.RowKit
set_option linter.unusedVariables false

/-- a step, as it comes in -/
abbrev EOp3 : Enc (Int × Int × Int) := EPair EInt (EPair EInt EInt)
theorem reads_op3 : Reads Try.prog 120 EOp3 (fun _ => 1) := by
  have hC : ∃ m : _ → Nat, Reads Try.prog 120 EOp3 m := by
    refine rreadsE_struct Try.underlying120 (by kernel_rfl) ?_
    refine rfieldsE_cons rreadsE_int (by rfl) (by kernel_rfl) ?_
    refine rfieldsE_cons rreadsE_int (by rfl) (by kernel_rfl) ?_
    exact rfieldsE_one rreadsE_int (by rfl) (by kernel_rfl)
  obtain ⟨m, h⟩ := hC
  intro H enc w fuel cs d ps hd
  obtain ⟨x, hx, _⟩ := h hd
  exact ⟨x, hx, bulk_pos _⟩
theorem reads_ops3 : Reads Try.prog 115 (ESlice EOp3 (by decide)) (bulkL (fun _ => 1)) := reads_slice (by decide) Try.underlying115 (by kernel_rfl) reads_op3
theorem op3_at {ok : Nat → Prop} {w : World} {a : Option Addr} {l : List (Int × Int × Int)} (h : Sl EOp3 ok w a l) {j : Nat} {x : Int × Int × Int} (hx : l[j]? = some x) :
    ∃ b o, a = some ⟨b, o, none⟩ ∧ ok b ∧ w.cell? ⟨b, o + j * 3, none⟩ = some (.int .i64 x.1) ∧ w.cell? ⟨b, o + j * 3 + 1, none⟩ = some (.int .i64 x.2.1) ∧ w.cell? ⟨b, o + j * 3 + 2, none⟩ = some (.int .i64 x.2.2) := by
  obtain ⟨b, o, rfl, hb, cs, hr, hc⟩ := h j x hx
  obtain ⟨c0, r0, rfl, h0, c1, r1, rfl, h1, h2⟩ := hr
  obtain rfl : c0 = [.int .i64 x.1] := h0.1
  obtain rfl : c1 = [.int .i64 x.2.1] := h1.1
  obtain rfl : r1 = [.int .i64 x.2.2] := h2.1
  have e : EOp3.sz = 3 := rfl
  rw [e] at hc
  refine ⟨b, o, rfl, hb, ?_, ?_, ?_⟩
  · simpa using hc 0 _ rfl
  · rw [Nat.add_assoc]; exact hc 1 _ rfl
  · rw [Nat.add_assoc]; exact hc 2 _ rfl
theorem bits_and1023 (n : Int) : bits .and .i64 n 1023 = n % 1024 := by
  have h : bits .and .i64 n 1023 = IntKind.i64.wrap ((BitVec.ofInt 64 n &&& BitVec.ofInt 64 1023).toNat : Int) := rfl
  rw [h]
  have : (BitVec.ofInt 64 n &&& BitVec.ofInt 64 1023).toNat = (BitVec.ofInt 64 n).toNat % 1024 := by
    rw [BitVec.toNat_and]
    exact Nat.and_two_pow_sub_one_eq_mod _ 10
  rw [this, BitVec.toNat_ofInt]
  rw [IntWalk.i64_in _ (by omega)]
  omega
theorem bits_and15 (n : Int) : bits .and .i64 n 15 = n % 16 := by
  have h : bits .and .i64 n 15 = IntKind.i64.wrap ((BitVec.ofInt 64 n &&& BitVec.ofInt 64 15).toNat : Int) := rfl
  rw [h]
  have : (BitVec.ofInt 64 n &&& BitVec.ofInt 64 15).toNat = (BitVec.ofInt 64 n).toNat % 16 := by
    rw [BitVec.toNat_and]
    exact Nat.and_two_pow_sub_one_eq_mod _ 4
  rw [this, BitVec.toNat_ofInt]
  rw [IntWalk.i64_in _ (by omega)]
  omega
/-- what was there before a group was made is left alone -/
theorem KpA.belowAll {w w' : World} {C : Col} (h : KpA (fun _ => 0) w C w') : Below w.heap.size w w' :=
  h.only.below (Nat.le_refl _) fun k hk => absurd rfl hk
end Go.Proofs.Ytmmgnbdngpkfcaa

/-
  A member hands over what it has, and wants another view: walked.
  A member wants another view: walked.
-/
import Derived.Test.YtmmgnbdngpkfcaaVwBc
namespace Go.Proofs.Ytmmgnbdngpkfcaa
open Go.RowKit
set_option linter.unusedVariables false

theorem updM_range {f : Int → Option Value} {z : Int} {v : Value} (hf : ∀ x, (f x).isSome = true → 0 ≤ x ∧ x < 8) (hz : 0 ≤ z ∧ z < 8) : ∀ x, (updM f z (some v) x).isSome = true → 0 ≤ x ∧ x < (8 : Nat) := fun x hx => by
  unfold updM at hx
  split at hx
  · rename_i e; subst e; exact hz
  · exact hf x hx
theorem VwL.turn {M : Col} {w w1 : World} {g i : Nat} {c c' : Vw.Core} {L : Lo} (h : VwL M w g c L) (hi : i ≠ 1) (t : Turn i M w M w1) (hp : VwP M w1 c' L) (hR : Vw.Right c') (e : coreRow c' L = coreRow c L) : VwL M w1 g c' L :=
  ⟨(t.block h.lt (by rw [h.gc]; exact fun e => hi e.symm)).trans (by rw [e]; exact h.row), h.gc, hp, hR⟩
theorem dos_put {M : Col} {w : World} {g : Nat} {c : Vw.Core} {L : Lo} (h : VwL M w g c L) (z : Int) (hz : 1 ≤ z ∧ z ≤ c.n) (m : Vw.Msg) (cs : List Value) (hm : EMsg.rep (Im M) w cs m) (hsm : Vw.Small m.list) :
    ∃ w', (Instr.mapUpdate 162 (.map (some L.db)) (.int .i64 z) (.agg cs.toArray)).run Try.prog w = .ok () w' ∧ VwL M w' g { c with dos := fun x => if x = z then some m else c.dos x } L ∧ Fr M w M w' ∧ Only (· = L.db) w w' := by
  have hR := h.right
  have hn := hR.n
  obtain ⟨f, h1, h2⟩ := h.p.dos
  have hfr : ∀ x, (f x).isSome = true → 0 ≤ x ∧ x < 8 := fun x hx => by
    rw [(h2 x).some] at hx
    obtain ⟨mm, hmm⟩ := Option.isSome_iff_exists.1 hx
    have := (hR.dos x mm hmm).1
    omega
  obtain ⟨w', hr, hm', ho⟩ := h1.store (t := 162) (e := 89) Try.underlying162 (by unfold maxLen; omega) (k := z) (by unfold i64ok; omega) (.agg cs.toArray)
  have t : Turn 4 M w M w' := Turn.of_only h.p.dom ho fun k hk => by rw [hk]; exact h.p.dc
  have him : ∀ k, Im M k → k < w.heap.size → w'.heap[k]? = w.heap[k]? ∧ Im M k := fun k hk hlt => ⟨(t.fr (by decide)).block hlt hk, hk⟩
  have hp := h.p.turn4 (df := fun x => if x = z then some m else c.dos x) t ⟨_, hm'.fit (updM_range hfr ⟨by omega, by omega⟩), fun x => by
    unfold updM
    by_cases e : x = z
    · simp only [if_pos e]
      exact ⟨cs, rfl, EMsg.mono hm him⟩
    · simp only [if_neg e]
      exact (h2 x).mono him⟩
  refine ⟨w', hr, h.turn (by decide) t hp ⟨hR.n, hR.me, hR.pat, hR.view, hR.log, hR.commit, hR.idle, hR.begun, fun x mm hmm => ?_, hR.has⟩ rfl, t.fr (by decide), ho⟩
  simp only at hmm
  split at hmm
  · rename_i e; injection hmm with hmm; subst hmm; subst e; exact ⟨hz, hsm⟩
  · exact hR.dos x mm hmm
theorem begun_put {M : Col} {w : World} {g : Nat} {c : Vw.Core} {L : Lo} (h : VwL M w g c L) (z : Int) (hz : 1 ≤ z ∧ z ≤ c.n) :
    ∃ w', (Instr.mapUpdate 28 (.map (some L.bb)) (.int .i64 z) (.bool true)).run Try.prog w = .ok () w' ∧ VwL M w' g { c with begun := fun x => decide (x = z) || c.begun x } L ∧ Fr M w M w' ∧ Only (· = L.bb) w w' := by
  have hR := h.right
  have hn := hR.n
  have h1 := h.p.begun
  obtain ⟨f, hf⟩ : ∃ f : Int → Option Value, f = fun z => if c.begun z = true then some (.bool true) else none := ⟨_, rfl⟩
  rw [← hf] at h1
  have hfr : ∀ x, (f x).isSome = true → 0 ≤ x ∧ x < 8 := fun x hx => by
    rw [hf] at hx
    simp only at hx
    split at hx
    · rename_i e; have := hR.begun x e; omega
    · cases hx
  obtain ⟨w', hr, hm', ho⟩ := h1.store (t := 28) (e := 4) Try.underlying28 (by unfold maxLen; omega) (k := z) (by unfold i64ok; omega) (.bool true)
  have t : Turn 3 M w M w' := Turn.of_only h.p.dom ho fun k hk => by rw [hk]; exact h.p.bc
  have hm8 := hm'.fit (updM_range hfr ⟨by omega, by omega⟩)
  have he : updM f z (some (.bool true)) = fun x => if (decide (x = z) || c.begun x) = true then some (.bool true) else none := by
    funext x
    unfold updM
    rw [hf]
    by_cases e : x = z
    · simp [e]
    · simp [e]
  rw [he] at hm8
  refine ⟨w', hr, h.turn (by decide) t (h.p.turn3 (bf := fun x => decide (x = z) || c.begun x) t hm8) ⟨hR.n, hR.me, hR.pat, hR.view, hR.log, hR.commit, hR.idle, fun x hx => ?_, hR.dos, hR.has⟩ rfl, t.fr (by decide), ho⟩
  simp only [Bool.or_eq_true, decide_eq_true_eq] at hx
  rcases hx with rfl | hx
  · exact hz
  · exact hR.begun x hx
theorem has_put {M : Col} {w : World} {g : Nat} {c : Vw.Core} {L : Lo} (h : VwL M w g c L) (z v : Int) (hz : 1 ≤ z ∧ z ≤ c.n) (hv : 0 ≤ v ∧ v ≤ 2000) :
    ∃ w', (Instr.mapUpdate 129 (.map (some L.hb)) (.int .i64 z) (.int .i64 v)).run Try.prog w = .ok () w' ∧ VwL M w' g { c with has := fun x => if x = z then v else c.has x } L ∧ Fr M w M w' ∧ Only (· = L.hb) w w' := by
  have hR := h.right
  have hn := hR.n
  obtain ⟨f, h1, h2, h3⟩ := h.p.has
  obtain ⟨w', hr, hm', ho⟩ := h1.store (t := 129) (e := 3) Try.underlying129 (by unfold maxLen; omega) (k := z) (by unfold i64ok; omega) (.int .i64 v)
  have t : Turn 2 M w M w' := Turn.of_only h.p.dom ho fun k hk => by rw [hk]; exact h.p.hc
  have hm8 := hm'.fit (updM_range h3 ⟨by omega, by omega⟩)
  refine ⟨w', hr, h.turn (by decide) t (h.p.turn2 (hf := fun x => if x = z then v else c.has x) t ⟨_, hm8, fun x => ?_, updM_range h3 ⟨by omega, by omega⟩⟩) ⟨hR.n, hR.me, hR.pat, hR.view, hR.log, hR.commit, hR.idle, hR.begun, hR.dos, fun x => ?_⟩ rfl, t.fr (by decide), ho⟩
  · unfold updM
    by_cases e : x = z
    · simp [e]
    · simp only [if_neg e]; exact h2 x
  · show 0 ≤ (if x = z then v else c.has x) ∧ (if x = z then v else c.has x) ≤ 2000
    split
    · exact hv
    · exact hR.has x
set_option maxRecDepth 16384 in
set_option maxHeartbeats 12800000 in
theorem vw_wanted {M : Col} {g : Nat} {c : Vw.Core} (w : World) (h : VwAt M w g c) (hlr : c.recs.length ≤ 50000) (hlm : c.msgs.length ≤ 50000) (hld : c.done.length ≤ 50000) :
    Calls Try.prog 100 #[.pointer (some ⟨g, 0, none⟩)] w fun e w' => e = .returned (.tuple #[]) ∧ VwTo M w w' g c.wanted := by
  obtain ⟨L, h⟩ := h
  obtain ⟨dm, hdm, hdm8, hlen⟩ := begun_len h 3
  have hMost := vw_most w ⟨L, h⟩ dm (by omega)
  obtain ⟨mo, hmo⟩ : ∃ mo, mo = c.most dm := ⟨_, rfl⟩
  rw [← hmo] at hMost
  have y12 := h.c12
  have hl0 := hlen w rfl
  have y0 := h.c0
  have y1 := h.c1
  have y5 := h.c5
  have y6 := h.c6
  have y7 := h.c7
  have y9 := h.c9
  obtain ⟨kn, hkn⟩ : ∃ kn, kn = c.keep.log.length := ⟨_, rfl⟩
  rw [← hkn] at y7
  have H := Lib.hid h
  have HMost := Lib.hid hMost
  have Hmo := Lib.hid hmo
  have Hdm := Lib.hid hdm
  have Hkn := Lib.hid hkn
  have Hl := Lib.hid (And.intro hlr (And.intro hlm hld))
  have hR := h.right
  have HR := Lib.hid hR
  have hn := hR.n
  have hview := hR.view
  clear h hMost hmo hdm hlr hlm hld hlen hR hkn
  go_enter Try.func100, Try.ntmps100
  go_wp2_with fail
  refine HMost.out.mono ?_
  rintro e w1 ⟨rfl, rfl⟩
  clear y12 hl0 HMost
  cases mo with
  | false =>
    go_wp2_with fail
    refine bodyPost_ret (v := .tuple #[]) (by simp [results, Try.results100, go_sem]) rfl ?_
    refine ⟨rfl, M, ⟨L, ?_⟩, Fr.refl _ _⟩
    unfold Vw.Core.wanted
    rw [← Hdm.out, ← Hmo.out, if_neg (by simp)]
    exact H.out
  | true =>
    obtain ⟨ld, hld⟩ : ∃ ld, ld = Vw.lead c.keep.view c.n := ⟨_, rfl⟩
    have hLd : ∀ W : World, Calls Try.prog 63 #[.int .i64 c.keep.view, .int .i64 c.n] W fun e w' => e = .returned (.int .i64 ld) ∧ W = w' := fun W => by rw [hld]; exact vw_Leader c.keep.view c.n W hview.1 ⟨hn.1, by omega⟩
    have HLd := Lib.hid hLd
    have Hld := Lib.hid hld
    clear hLd hld
    go_wp2_with fail
    go_region_held3 (fun W => W.cell? ⟨g, 5, none⟩ = some (.int .i64 c.keep.view) ∧ W.cell? ⟨g, 1, none⟩ = some (.int .i64 c.n) ∧ W.cell? ⟨g, 6, none⟩ = some (.int .i64 c.keep.normal) ∧ W.cell? ⟨g, 9, none⟩ = some (.int .i64 c.commit) ∧ W.cell? ⟨g, 7, none⟩ = some (.slice L.la kn L.lc))
      (first | exact ⟨y5, y1, y6, y9, y7⟩ | go_keep)
      ((go_at_call 63; refine (HLd.out _).mono ?_; rintro e w4 ⟨rfl, rfl⟩))
    all_goals
      obtain ⟨h1, f1⟩ := H.out.box (.cells #[.int .i64 4, .int .i64 0, .int .i64 ld, .int .i64 0, .int .i64 0, .int .i64 c.keep.normal, .int .i64 0, .int .i64 c.commit, .int .i64 0, .int .i64 0, .slice L.la kn L.lc, .slice none 0 0] 89)
      obtain ⟨w1, hw1⟩ : ∃ x, x = (w.alloc (.cells #[.int .i64 4, .int .i64 0, .int .i64 ld, .int .i64 0, .int .i64 0, .int .i64 c.keep.normal, .int .i64 0, .int .i64 c.commit, .int .i64 0, .int .i64 0, .slice L.la kn L.lc, .slice none 0 0] 89)).drew := ⟨_, rfl⟩
      have hh1 : w1.heap[w.heap.size]? = some (.cells #[.int .i64 4, .int .i64 0, .int .i64 ld, .int .i64 0, .int .i64 0, .int .i64 c.keep.normal, .int .i64 0, .int .i64 c.commit, .int .i64 0, .int .i64 0, .slice L.la kn L.lc, .slice none 0 0] 89 (0, 0)) := by rw [hw1]; exact heap_alloc_new w _
      obtain ⟨q, hq⟩ : ∃ q, q = w.heap.size := ⟨_, rfl⟩
      have hz1 : w1.heap.size = q + 1 := by rw [hw1, hq]; simp
      obtain ⟨M9, hM9⟩ : ∃ M9, M9 = updC M w.heap.size 9 := ⟨_, rfl⟩
      rw [← hM9] at h1 f1
      have h2 := h1.drew
      have f2 := f1.drew
      rw [← hw1] at h2 f2
      rw [← hq] at hh1
      have h9 : M9 q = 9 := by rw [hM9, hq]; exact updC_same _ _ _
      have m2 : w1.cell? ⟨q, 2, none⟩ = some (.int .i64 ld) := by simp [World.cell?, hh1]
      have z0 : w1.cell? ⟨g, 0, none⟩ = some (.int .i64 c.me) := h2.c0
      have HW := Lib.hid hw1.symm
      have Hq := Lib.hid hq
      have H9 := Lib.hid h9
      have Hz1 := Lib.hid hz1
      have H2 := Lib.hid h2
      have F2 := Lib.hid f2
      have Hh1 := Lib.hid hh1
      clear hw1 hq h9 hz1 h1 f1 h2 f2 hh1 hM9 y0 y1 y5 y6 y7 y9
      obtain ⟨ne, hne⟩ : ∃ b, (ld != c.me) = b := ⟨_, rfl⟩
      go_upto_region 2 with fail
      rw [HW.out, ← Hq.out]
      go_wp2_with fail
      go_region_held3 (fun W => W.cell? ⟨q, 2, none⟩ = some (.int .i64 ld) ∧ W.cell? ⟨g, 0, none⟩ = some (.int .i64 c.me)) (first | exact ⟨m2, z0⟩ | go_keep) (fail)
      obtain ⟨w3, hw3⟩ : ∃ x, x = w1.drew := ⟨_, rfl⟩
      have h3 : VwL M9 w3 g c L := by rw [hw3]; exact H2.out.drew
      have f3 : Fr M w M9 w3 := by rw [hw3]; exact F2.out.drew
      have hh3 : w3.heap[q]? = some (.cells #[.int .i64 4, .int .i64 0, .int .i64 ld, .int .i64 0, .int .i64 0, .int .i64 c.keep.normal, .int .i64 0, .int .i64 c.commit, .int .i64 0, .int .i64 0, .slice L.la kn L.lc, .slice none 0 0] 89 (0, 0)) := by rw [hw3]; exact Hh1.out
      have hz3 : w3.heap.size = q + 1 := by rw [hw3]; exact Hz1.out
      rw [← hw3]
      have hms : EMsg.rep (Im M9) w3 [.int .i64 4, .int .i64 0, .int .i64 ld, .int .i64 0, .int .i64 0, .int .i64 c.keep.normal, .int .i64 0, .int .i64 c.commit, .int .i64 0, .int .i64 0, .slice L.la kn L.lc, .slice none 0 0] c.doMsg :=
        ⟨L.la, L.lc, none, 0, by rw [Hld.out, Hkn.out]; rfl, h3.p.lc, h3.p.log, ⟨Nat.le_refl _, Nat.zero_le _⟩, Sl.nil _ _ _ _⟩
      have H3 := Lib.hid h3
      have F3 := Lib.hid f3
      have Hh3 := Lib.hid hh3
      have Hz3 := Lib.hid hz3
      have Hms := Lib.hid hms
      have Hne := Lib.hid hne
      clear h3 f3 hh3 hz3 hms hw3 HW H2 F2 Hh1 Hz1 m2 z0
      cases ne with
      | true =>
        have hw : c.wanted = c.send c.doMsg := by
          unfold Vw.Core.wanted
          rw [← Hdm.out, ← Hmo.out, if_pos rfl, if_pos (by rw [← Hld.out]; have := Hne.out; simpa using this)]
        have hS := vw_send w3 ⟨L, H3.out⟩ c.doMsg _ Hms.out (by have := Hl.out; omega)
        have hS2 : Calls Try.prog 132 #[.pointer (some ⟨g, 0, none⟩), .agg #[.int .i64 4, .int .i64 0, .int .i64 ld, .int .i64 0, .int .i64 0, .int .i64 c.keep.normal, .int .i64 0, .int .i64 c.commit, .int .i64 0, .int .i64 0, .slice L.la kn L.lc, .slice none 0 0]] w3 fun e w' => e = .returned (.tuple #[]) ∧ VwTo M9 w3 w' g c.wanted := by rw [hw]; exact hS
        have HS := Lib.hid hS2
        have hs12 : (Try.prog.info? 89).map (·.size) = some (#[.int .i64 4, .int .i64 0, .int .i64 ld, .int .i64 0, .int .i64 0, .int .i64 c.keep.normal, .int .i64 0, .int .i64 c.commit, .int .i64 0, .int .i64 0, .slice L.la kn L.lc, .slice none 0 0] : Array Value).size := size_vmsg
        have Hs12 := Lib.hid hs12
        have hne2 := Hne.out
        clear hS hS2 hw hs12
        go_upto_region 3 with fail
        go_wp2_with (refine wpList_loadRow rfl _ _ rfl q rfl _ _ _ _ Hh3.out Try.underlying89 rfl Hs12.out ?_)
        refine HS.out.mono ?_
        rintro e w5 ⟨rfl, t5⟩
        have T5 : RowKit.Hid (VwTo M w w5 g c.wanted) := Lib.hid (to_unbox Hq.out F3.out H9.out (by have := Hz3.out; omega) t5 (Only.refl _ _))
        clear t5
        go_wp2_with fail
        refine bodyPost_ret (v := .tuple #[]) (by simp [results, Try.results100, go_sem]) rfl ?_
        exact ⟨rfl, T5.out⟩
      | false =>
        have hw : c.wanted = ({ c with dos := fun x => if x = c.me then some c.doMsg else c.dos x } : Vw.Core).begin_ := by
          unfold Vw.Core.wanted
          rw [← Hdm.out, ← Hmo.out, if_pos rfl, if_neg (by rw [← Hld.out]; have := Hne.out; simpa using this)]
        have hms' := EMsg.mono Hms.out (ok' := Im M9) (w' := w3.drew) fun k hk _ => ⟨rfl, hk⟩
        obtain ⟨w6, hup, h6, f6, _⟩ := dos_put H3.out.drew c.me HR.out.me c.doMsg _ hms' HR.out.log
        simp only [List.toArray] at hup
        have k13 : w3.cell? ⟨g, 13, none⟩ = some (.map (some L.db)) := H3.out.c13
        have k0 : w3.cell? ⟨g, 0, none⟩ = some (.int .i64 c.me) := H3.out.c0
        have hhd := Hh3.out
        have m0 : w3.cell? ⟨q, 0, none⟩ = some (.int .i64 4) := by simp [World.cell?, hhd]
        have m1 : w3.cell? ⟨q, 1, none⟩ = some (.int .i64 0) := by simp [World.cell?, hhd]
        have m2 : w3.cell? ⟨q, 2, none⟩ = some (.int .i64 ld) := by simp [World.cell?, hhd]
        have m3 : w3.cell? ⟨q, 3, none⟩ = some (.int .i64 0) := by simp [World.cell?, hhd]
        have m4 : w3.cell? ⟨q, 4, none⟩ = some (.int .i64 0) := by simp [World.cell?, hhd]
        have m5 : w3.cell? ⟨q, 5, none⟩ = some (.int .i64 c.keep.normal) := by simp [World.cell?, hhd]
        have m6 : w3.cell? ⟨q, 6, none⟩ = some (.int .i64 0) := by simp [World.cell?, hhd]
        have m7 : w3.cell? ⟨q, 7, none⟩ = some (.int .i64 c.commit) := by simp [World.cell?, hhd]
        have m8 : w3.cell? ⟨q, 8, none⟩ = some (.int .i64 0) := by simp [World.cell?, hhd]
        have m9 : w3.cell? ⟨q, 9, none⟩ = some (.int .i64 0) := by simp [World.cell?, hhd]
        have m10 : w3.cell? ⟨q, 10, none⟩ = some (.slice L.la kn L.lc) := by simp [World.cell?, hhd]
        have m11 : w3.cell? ⟨q, 11, none⟩ = some (.slice none 0 0) := by simp [World.cell?, hhd]
        have hhd6 : w6.heap[q]? = _ := ((f6.other (k := q) (by have h1 : w3.drew.heap.size = q + 1 := Hz3.out; omega) (by have := H9.out; omega)).1).trans Hh3.out
        have n0 : w6.cell? ⟨q, 0, none⟩ = some (.int .i64 4) := by simp [World.cell?, hhd6]
        have n1 : w6.cell? ⟨q, 1, none⟩ = some (.int .i64 0) := by simp [World.cell?, hhd6]
        have n2 : w6.cell? ⟨q, 2, none⟩ = some (.int .i64 ld) := by simp [World.cell?, hhd6]
        have n3 : w6.cell? ⟨q, 3, none⟩ = some (.int .i64 0) := by simp [World.cell?, hhd6]
        have n4 : w6.cell? ⟨q, 4, none⟩ = some (.int .i64 0) := by simp [World.cell?, hhd6]
        have n5 : w6.cell? ⟨q, 5, none⟩ = some (.int .i64 c.keep.normal) := by simp [World.cell?, hhd6]
        have n6 : w6.cell? ⟨q, 6, none⟩ = some (.int .i64 0) := by simp [World.cell?, hhd6]
        have n7 : w6.cell? ⟨q, 7, none⟩ = some (.int .i64 c.commit) := by simp [World.cell?, hhd6]
        have n8 : w6.cell? ⟨q, 8, none⟩ = some (.int .i64 0) := by simp [World.cell?, hhd6]
        have n9 : w6.cell? ⟨q, 9, none⟩ = some (.int .i64 0) := by simp [World.cell?, hhd6]
        have n10 : w6.cell? ⟨q, 10, none⟩ = some (.slice L.la kn L.lc) := by simp [World.cell?, hhd6]
        have n11 : w6.cell? ⟨q, 11, none⟩ = some (.slice none 0 0) := by simp [World.cell?, hhd6]
        have j13 : w6.cell? ⟨g, 13, none⟩ = some (.map (some L.db)) := h6.c13
        have j0 : w6.cell? ⟨g, 0, none⟩ = some (.int .i64 c.me) := h6.c0
        have H6 := Lib.hid h6
        have F6 := Lib.hid ((F3.out.drew).trans f6)
        have hBg := vw_begin w6 ⟨L, h6⟩ (by show c.recs.length ≤ 50000; exact Hl.out.1) (by show c.msgs.length ≤ 50000; exact Hl.out.2.1) (by show c.done.length ≤ 50000; exact Hl.out.2.2)
        rw [← hw] at hBg
        have HBg := Lib.hid hBg
        have Hz6 : RowKit.Hid (q < w6.heap.size) := Lib.hid (by have := f6.size; have h1 : w3.drew.heap.size = q + 1 := Hz3.out; omega)
        have hne2 := Hne.out
        clear h6 f6 hw hms' hhd hBg hhd6
        go_wp2_with fail
        go_region_held3 (fun W => W.cell? ⟨g, 13, none⟩ = some (.map (some L.db)) ∧ W.cell? ⟨g, 0, none⟩ = some (.int .i64 c.me) ∧ W.cell? ⟨q, 0, none⟩ = some (.int .i64 4) ∧ W.cell? ⟨q, 1, none⟩ = some (.int .i64 0) ∧ W.cell? ⟨q, 2, none⟩ = some (.int .i64 ld) ∧ W.cell? ⟨q, 3, none⟩ = some (.int .i64 0) ∧ W.cell? ⟨q, 4, none⟩ = some (.int .i64 0) ∧ W.cell? ⟨q, 5, none⟩ = some (.int .i64 c.keep.normal) ∧ W.cell? ⟨q, 6, none⟩ = some (.int .i64 0) ∧ W.cell? ⟨q, 7, none⟩ = some (.int .i64 c.commit) ∧ W.cell? ⟨q, 8, none⟩ = some (.int .i64 0) ∧ W.cell? ⟨q, 9, none⟩ = some (.int .i64 0) ∧ W.cell? ⟨q, 10, none⟩ = some (.slice L.la kn L.lc) ∧ W.cell? ⟨q, 11, none⟩ = some (.slice none 0 0))
          (first | exact ⟨k13, k0, m0, m1, m2, m3, m4, m5, m6, m7, m8, m9, m10, m11⟩ | exact ⟨j13, j0, n0, n1, n2, n3, n4, n5, n6, n7, n8, n9, n10, n11⟩ | go_keep) (fail)
        all_goals
          clear k13 k0 m0 m1 m2 m3 m4 m5 m6 m7 m8 m9 m10 m11 n0 n1 n2 n3 n4 n5 n6 n7 n8 n9 n10 n11 j13 j0 hup
          go_wp2_with fail
          refine HBg.out.mono ?_
          rintro e w7 ⟨rfl, t7⟩
          have T7 : RowKit.Hid (VwTo M w w7 g c.wanted) := Lib.hid (to_unbox Hq.out F6.out H9.out Hz6.out t7 (Only.refl _ _))
          clear t7
          go_wp2_with fail
          refine bodyPost_end (v := .tuple #[]) (by simp [results, Try.results100, go_sem]) rfl ?_
          exact ⟨rfl, T7.out⟩
end Go.Proofs.Ytmmgnbdngpkfcaa

namespace Go.Proofs.Ytmmgnbdngpkfcaa
open Go.RowKit
set_option linter.unusedVariables false

theorem change_fold {M : Col} {W1 : World} {g : Nat} {c : Vw.Core} {L : Lo} (h : VwL M W1 g c L) (w6 W2 W3 : World) (hm6 : IMap w6 W1.heap.size 1 (updM (fun _ => none) c.me (some (.bool true)))) (ho6 : Only (· = W1.heap.size) (W1.alloc (.map #[] 0)) w6)
    (e2 : W2 = (w6.alloc (.map #[] 0)).alloc (.map #[] 0)) (e3 : W3 = ((W2.setCell ⟨g, 12, none⟩ (.map (some W1.heap.size))).setCell ⟨g, 13, none⟩ (.map (some w6.heap.size))).setCell ⟨g, 11, none⟩ (.map (some (w6.heap.size + 1)))) :
    VwTo M W1 W3 g { c with has := fun _ => 0, begun := fun x => decide (x = c.me), dos := fun _ => none } := by
  have hr := h.right
  have b1 := alloc_below W1 (.map #[] 0)
  have z1 := alloc_size W1 (.map #[] 0)
  have b6 : Below W1.heap.size W1 w6 := b1.trans (ho6.below (by omega) fun k hk => by omega)
  have hz6 : W1.heap.size + 1 ≤ w6.heap.size := by have := ho6.size; omega
  have b2 := alloc_below w6 (.map #[] 0)
  have b3 := alloc_below (w6.alloc (.map #[] 0)) (.map #[] 0)
  have z2 := alloc_size w6 (.map #[] 0)
  have z3 := alloc_size (w6.alloc (.map #[] 0)) (.map #[] 0)
  have b62 : Below w6.heap.size w6 W2 := by rw [e2]; exact b2.trans (b3.mono (by omega))
  have hb : Below W1.heap.size W1 W2 := b6.trans (b62.mono b6.size)
  have hz : W2.heap.size = w6.heap.size + 2 := by rw [e2]; omega
  have n2 : W2.heap[w6.heap.size]? = some (.map #[] 0) := by rw [e2, b3.block _ (by omega)]; exact heap_alloc_new w6 _
  have n3 : W2.heap[w6.heap.size + 1]? = some (.map #[] 0) := by rw [e2, ← z2]; exact heap_alloc_new _ _
  have hmap : ∀ x, W2.heap[x]? = some (.map #[] 0) → IMap W2 x 8 fun _ => none := fun x hh => by
    obtain ⟨D, ⟨es, clock, hb, r⟩, h2⟩ := IMap.made W1
    rw [heap_alloc_new W1 _] at hb
    exact IMap.mono (f := fun _ => none) ⟨D, ⟨es, clock, hh.trans hb, r⟩, h2⟩ (Nat.zero_le _)
  have hm3 : IMap W2 W1.heap.size 8 (fun z => if decide (z = c.me) = true then some (.bool true) else none) := by
    have e : updM (fun _ => none) c.me (some (.bool true)) = fun z => if decide (z = c.me) = true then some (Value.bool true) else none := by
      funext z; unfold updM; simp
    rw [e] at hm6
    exact (hm6.keep (b62.block _ (by omega))).mono (by omega)
  obtain ⟨M1, p1, f2, hold⟩ := h.p.maps (hf := fun _ => 0) (bf := fun z => decide (z = c.me)) hb (p := w6.heap.size + 1) (q := W1.heap.size) (r := w6.heap.size) ⟨by omega, by omega⟩ ⟨by omega, by omega⟩ ⟨by omega, by omega⟩ (by omega) (by omega) (by omega) (hmap _ n3) hm3 (hmap _ n2)
  have h2 := h.keep (M1 := M1) (w1 := W2) (fun k hk _ => ⟨hb.block k hk, hold k hk⟩) p1.dom
  obtain ⟨h3, f3⟩ := h2.put (w1 := W3) (by rw [e3]; exact setg (S := (· = g)) (setg (S := (· = g)) (setg (S := (· = g)) (Only.refl _ W2) rfl 12 _) rfl 13 _) rfl 11 _) (by rw [e3, heap_set (heap_set (heap_set h2.row 12 _) 13 _) 11 _]; rfl) p1
    ⟨hr.n, hr.me, hr.pat, hr.view, hr.log, hr.commit, hr.idle, (fun z h => by simp at h; rw [h]; exact hr.me), (fun z m h => by cases h), fun z => ⟨Int.le_refl 0, by show (0 : Int) ≤ 2000; decide⟩⟩
  exact ⟨M1, ⟨_, h3⟩, f2.trans f3⟩
theorem chid_fold {M : Col} {w : World} {g : Nat} {c : Vw.Core} {L : Lo} (b : Bool) (k : Int) (h : VwL M w g c L) (hk : 0 ≤ k ∧ k ≤ 1000000000000) :
    VwL M ((w.setCell ⟨g, 8, none⟩ (.bool b)).setCell ⟨g, 10, none⟩ (.int .i64 k)) g { c with ch := b, idle := k } L ∧ Fr M w M ((w.setCell ⟨g, 8, none⟩ (.bool b)).setCell ⟨g, 10, none⟩ (.int .i64 k)) :=
  h.put (setg (S := (· = g)) (setg (S := (· = g)) (Only.refl _ w) rfl 8 _) rfl 10 _) (by rw [heap_set (heap_set h.row 8 _) 10 _]; rfl) ⟨h.p.dom, h.p.lc, h.p.log, h.p.hc, h.p.has, h.p.bc, h.p.begun, h.p.dc, h.p.dos, h.p.recs, h.p.msgs, h.p.done⟩ ⟨h.right.n, h.right.me, h.right.pat, h.right.view, h.right.log, h.right.commit, hk, h.right.begun, h.right.dos, h.right.has⟩
set_option maxRecDepth 16384 in
set_option maxHeartbeats 12800000 in
theorem vw_change {M : Col} {g : Nat} {c : Vw.Core} (w : World) (h : VwAt M w g c) (v : Int) (hv : 0 ≤ v ∧ v ≤ 1099511627776) (hlr : c.recs.length ≤ 40000) (hlm : c.msgs.length ≤ 40000) (hld : c.done.length ≤ 40000) :
    Calls Try.prog 101 #[.pointer (some ⟨g, 0, none⟩), .int .i64 v] w fun e w' => e = .returned (.tuple #[]) ∧ VwTo M w w' g (c.change v) := by
  have hR := h.right
  have hT := vw_rec w h ⟨1, v, c.keep.normal, []⟩ none 0 0 rfl ⟨Nat.le_refl _, Nat.zero_le _⟩ (Sl.nil _ _ _ _) ⟨by show (-9223372036854775808 : Int) ≤ v; omega, by show v ≤ 9223372036854775807; omega⟩ ⟨hR.n, hR.me, hR.pat, hv, hR.log, hR.commit, hR.idle, hR.begun, hR.dos, hR.has⟩ (by omega)
  obtain ⟨c1, hc1⟩ : ∃ c1, c1 = c.rec_ ⟨1, v, c.keep.normal, []⟩ := ⟨_, rfl⟩
  have k1 : c1.me = c.me ∧ c1.recs.length ≤ 40001 ∧ c1.msgs.length ≤ 40000 ∧ c1.done.length ≤ 40000 ∧ c1.n = c.n := by
    rw [hc1]
    exact ⟨rfl, by show (c.recs ++ [_]).length ≤ _; simp; omega, hlm, hld, rfl⟩
  have hCh : c.change v = (({ c1 with ch := true, idle := 0, begun := fun x => decide (x = c1.me), dos := fun _ => none, has := fun _ => 0 } : Vw.Core).all { Vw.Msg.z with kind := 3 }).wanted := by rw [hc1]; rfl
  rw [← hc1] at hT
  obtain ⟨L, h⟩ := h
  have y6 := h.c6
  have y0 := h.c0
  have hmm := @run_makeMap Try.prog
  have HT := Lib.hid hT
  have HCh := Lib.hid hCh
  have K1 := Lib.hid k1
  have HR := Lib.hid hR
  clear hT hCh k1 hc1 h hR hlr hlm hld
  go_enter Try.func101, Try.ntmps101
  go_wp2_with fail
  refine HT.out.mono ?_
  rintro e w2 ⟨rfl, M2, ⟨L2, h2⟩, f2⟩
  have r8 : w2.cell? ⟨g, 8, none⟩ = some (.bool c1.ch) := h2.c8
  have r10 : w2.cell? ⟨g, 10, none⟩ = some (.int .i64 c1.idle) := h2.c10
  have rf := h2.fz
  obtain ⟨h3, f3⟩ := chid_fold true 0 h2 ⟨Int.le_refl 0, by decide⟩
  obtain ⟨W1, hW1⟩ : ∃ x, x = (w2.setCell ⟨g, 8, none⟩ (.bool true)).setCell ⟨g, 10, none⟩ (.int .i64 0) := ⟨_, rfl⟩
  rw [← hW1] at h3 f3
  obtain ⟨p, hp⟩ : ∃ p, p = W1.heap.size := ⟨_, rfl⟩
  have hgz : g < W1.heap.size := h3.lt
  -- the map of those that want it
  obtain ⟨w6, hup, hm6, ho6⟩ := (IMap.made W1).store (t := 28) (e := 4) Try.underlying28 (by unfold maxLen; decide) (k := c.me) (by have := HR.out.me; have := HR.out.n; unfold i64ok; omega) (.bool true)
  have hF := change_fold h3 w6 _ _ (by show IMap w6 _ 1 (updM _ c1.me _); rw [K1.out.1]; exact hm6) ho6 rfl rfl
  have v0 : (W1.alloc (.map #[] 0)).cell? ⟨g, 0, none⟩ = some (.int .i64 c.me) := by rw [← K1.out.1]; exact cell_thru h3.c0 (alloc_below W1 _)
  have u0 : W1.cell? ⟨g, 0, none⟩ = some (.int .i64 c.me) := by rw [← K1.out.1]; exact h3.c0
  have b16 : Below W1.heap.size W1 w6 := (alloc_below W1 _).trans (ho6.below (by simp) fun k hk => by omega)
  have b2 : Below W1.heap.size W1 ((w6.alloc (.map #[] 0)).alloc (.map #[] 0)) := b16.trans (((Below.refl _ w6).alloc (Nat.le_refl _) _ |>.alloc (by simp) _).mono b16.size)
  have v11 := cell_thru (show W1.cell? ⟨g, 11, none⟩ = some (.map (some L2.hb)) from h3.c11) b2
  have v12 := cell_thru (show W1.cell? ⟨g, 12, none⟩ = some (.map (some L2.bb)) from h3.c12) b2
  have v13 := cell_thru (show W1.cell? ⟨g, 13, none⟩ = some (.map (some L2.db)) from h3.c13) b2
  have vf : ∀ o, ((w6.alloc (.map #[] 0)).alloc (.map #[] 0)).frozen? ⟨g, o, none⟩ = false := fun o => (b2.frozen (p := ⟨g, o, none⟩) hgz).trans (h3.fz o)
  have HF := Lib.hid hF
  have F3 := Lib.hid (f2.trans f3)
  have HW1 := Lib.hid hW1.symm
  clear hF h3 f3 h2 f2 hW1 HT hm6 ho6 b16 b2 y6 y0
  go_upto_region 2 with fail
  rw [HW1.out]
  clear r8 r10 rf
  go_upto_region 3 with fail
  obtain ⟨W3, hW3⟩ : ∃ x, x = ((((w6.alloc (.map #[] 0)).alloc (.map #[] 0)).setCell ⟨g, 12, none⟩ (.map (some W1.heap.size))).setCell ⟨g, 13, none⟩ (.map (some w6.heap.size))).setCell ⟨g, 11, none⟩ (.map (some (w6.heap.size + 1))) := ⟨_, rfl⟩
  have hF2 := HF.out
  rw [← hW3] at hF2 ⊢
  clear HF hW3 v0 u0 v11 v12 v13 vf hup hmm
  obtain ⟨c2, hc2⟩ : ∃ c2 : Vw.Core, c2 = { c1 with ch := true, idle := 0, begun := fun x => decide (x = c1.me), dos := fun _ => none, has := fun _ => 0 } := ⟨_, rfl⟩
  have k2 : c2.recs = c1.recs ∧ c2.msgs = c1.msgs ∧ c2.done = c1.done ∧ c2.n = c1.n := by rw [hc2]; exact ⟨rfl, rfl, rfl, rfl⟩
  have hF3 : VwTo M2 W1 W3 g c2 := by rw [hc2]; exact hF2
  have hCh := HCh.out
  rw [← hc2] at hCh
  obtain ⟨M3, h3, f3⟩ := hF3
  have hn7 := h3.right.n
  have hAl := vw_all W3 h3 { Vw.Msg.z with kind := 3 } none 0 0 none 0 0 rfl ⟨Nat.le_refl _, Nat.zero_le _⟩ (Sl.nil _ _ _ _) rfl ⟨Nat.le_refl _, Nat.zero_le _⟩ (Sl.nil _ _ _ _) (by rw [k2.2.1]; have := K1.out.2.2.1; omega)
  have HAl := Lib.hid hAl
  have HCh2 := Lib.hid hCh
  have F4 := Lib.hid (F3.out.trans f3)
  have K2 : RowKit.Hid ((c2.all { Vw.Msg.z with kind := 3 }).recs.length ≤ 50000 ∧ (c2.all { Vw.Msg.z with kind := 3 }).msgs.length ≤ 50000 ∧ (c2.all { Vw.Msg.z with kind := 3 }).done.length ≤ 50000) := Lib.hid (by
    have h1 := c2.allTo_len { Vw.Msg.z with kind := 3 } c2.n
    rw [c2.allTo_n, k2.2.1] at h1
    obtain ⟨a1, a2, a3, a4, a5⟩ := K1.out
    refine ⟨?_, by omega, ?_⟩
    · show c2.recs.length ≤ 50000
      rw [k2.1]; omega
    · show c2.done.length ≤ 50000
      rw [k2.2.2.1]; omega)
  clear hF2 hc2 k2 hCh h3 f3 hAl HCh F3 K1 hn7
  go_wp2_with fail
  refine HAl.out.mono ?_
  rintro e w7 ⟨rfl, M7, h7, f7⟩
  have hWa := vw_wanted w7 h7 K2.out.1 K2.out.2.1 K2.out.2.2
  rw [← HCh2.out] at hWa
  have HWa := Lib.hid hWa
  have F7 := Lib.hid (F4.out.trans f7)
  clear hWa h7 f7 HAl
  go_wp2_with fail
  refine HWa.out.mono ?_
  rintro e w8 ⟨rfl, t8⟩
  have T8 := Lib.hid (VwTo.trans F7.out t8)
  clear t8
  go_wp2_with fail
  refine bodyPost_end (v := .tuple #[]) (by simp [results, Try.results101, go_sem]) rfl ?_
  exact ⟨rfl, T8.out⟩
end Go.Proofs.Ytmmgnbdngpkfcaa

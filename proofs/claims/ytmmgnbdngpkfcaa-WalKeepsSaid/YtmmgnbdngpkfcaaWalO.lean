
/-
  A log that is opened.
  Does a log tell just that? (law 17: is)
  The document's example of a log, in plain Lean.
  The statements' own disk and log: all blocks from B on; law 17: head.
-/
import Derived.Test.YtmmgnbdngpkfcaaWalE
import Derived.Test.YtmmgnbdngpkfcaaWalP
namespace Go.Proofs.Ytmmgnbdngpkfcaa
open Go.RowKit
set_option linter.unusedVariables false

def OpenIs (w : World) (F : Nat → Prop) (gd : Nat) (R : Dk.Dsk × Option Wl.Lg × Int) (e : Ending) (w' : World) : Prop :=
  ∃ F', DkAt F' w' gd R.1 ∧ Dk.Ok R.1 ∧ (∀ k, F' k → F k ∨ w.heap.size ≤ k) ∧ Only F w w' ∧ match R.2.1 with
    | none => e = .returned (.tuple #[.pointer none, .int .i64 R.2.2])
    | some L => ∃ gl G vs vn, e = .returned (.tuple #[.pointer (some ⟨gl, 0, none⟩), .int .i64 R.2.2]) ∧ LgM G w' gl gd L vs vn ∧ (∀ k, F' k → ¬ G k) ∧ (∀ k, G k → w.heap.size ≤ k)
namespace Wl
def pickK (D : Dk.Dsk) : Nat → Lg × Bool
  | 0 => (⟨0, [], [], false⟩, false)
  | 1 => pick 0 (D.t 0).b (⟨0, [], [], false⟩, false)
  | _ => picks D
theorem pickK_succ (D : Dk.Dsk) (k : Nat) (h : k < 2) : pickK D (k + 1) = pick k (D.t k).b (pickK D k) := by
  match k, h with
  | 0, _ => rfl
  | 1, _ => rfl
theorem pick_out {t : Nat} {b : Byt} {c : Lg × Bool} {x : Ld} (h : load b = some x) (hn : ¬ (c.1.turn < x.turn ∧ x.turn % 2 = t)) : pick t b c = c := by unfold pick; rw [h]; simp only; rw [if_neg hn]
theorem pick_in {t : Nat} {b : Byt} {c : Lg × Bool} {x : Ld} (h : load b = some x) (hn : c.1.turn < x.turn ∧ x.turn % 2 = t) : pick t b c = (⟨x.turn, x.state, x.notes, false⟩, decide (x.upto < b.length)) := by unfold pick; rw [h]; simp only; rw [if_pos hn]
theorem load_turn {b : Byt} {x : Ld} (h : load b = some x) : x.turn ≤ 1099511627776 ∧ x.upto ≤ b.length := by
  unfold load loadS at h
  cases hF : loadF (Frm.scan b).fs with
  | none => rw [hF] at h; cases h
  | some p =>
    obtain ⟨t, s⟩ := p
    rw [hF] at h
    simp only [Option.some.injEq] at h
    subst h
    refine ⟨?_, (Frm.scan_tells b.length b (Nat.le_refl _)).2.1⟩
    simp only
    unfold loadF at hF
    split at hF
    · cases hF
    · split at hF
      · cases hF
      · split at hF
        · cases hF
        · unfold loadH at hF
          split at hF
          · cases hF
          · split at hF
            · cases hF
            · rename_i hc
              simp only [Option.some.injEq, Prod.mk.injEq] at hF
              omega
end Wl

theorem LgM.loaded {B : Nat} {G : Nat → Prop} {w w3 : World} {gl gd : Nat} {L : Wl.Lg} {vs vn vs' vn' : Value} {x : Wl.Ld} (h : LgM G w gl gd L vs vn) (hgl : B ≤ gl) (hb : Below w.heap.size w w3) (hs : Byt (fun k => w.heap.size ≤ k ∧ vn'.ownBlock ≠ some k) w3 vs' x.state) (hn : Own (EOk (fun k => w.heap.size ≤ k) EBytes) 49 w.heap.size w3 vn' x.notes) (hd : L.dead = false) (hBw : B ≤ w.heap.size) :
    LgM (fun k => B ≤ k ∧ k < w3.heap.size) (((w3.setCell ⟨gl, 1, none⟩ (.int .i64 x.turn)).setCell ⟨gl, 2, none⟩ vs').setCell ⟨gl, 3, none⟩ vn') gl gd ⟨x.turn, x.state, x.notes, false⟩ vs' vn' ∧ Only (· = gl) w3 (((w3.setCell ⟨gl, 1, none⟩ (.int .i64 x.turn)).setCell ⟨gl, 2, none⟩ vs').setCell ⟨gl, 3, none⟩ vn') := by
  have hg := h.lt gl h.gg
  have hset : Only (· = gl) w3 (((w3.setCell ⟨gl, 1, none⟩ (.int .i64 x.turn)).setCell ⟨gl, 2, none⟩ vs').setCell ⟨gl, 3, none⟩ vn') := ((Only.setCell (S := (· = gl)) (Only.refl _ _) (p := ⟨gl, 1, none⟩) (.inl rfl) _).setCell (p := ⟨gl, 2, none⟩) (.inl rfl) _).setCell (p := ⟨gl, 3, none⟩) (.inl rfl) _
  have hsz : (((w3.setCell ⟨gl, 1, none⟩ (.int .i64 x.turn)).setCell ⟨gl, 2, none⟩ vs').setCell ⟨gl, 3, none⟩ vn').heap.size = w3.heap.size := by simp [World.setCell]
  have hs3 := hb.size
  refine ⟨⟨?_, ?_, ?_, ⟨hgl, by omega⟩, fun k hk => ?_, fun k hk => by rw [hsz]; exact hk.2⟩, hset⟩
  · have h1 : w3.heap[gl]? = some (.cells (lgCells gd L vs vn) 145 (0, 0)) := by rw [hb.block gl hg]; exact h.heap
    have h2 := heap_set (heap_set (heap_set h1 1 (.int .i64 x.turn)) 2 vs') 3 vn'
    rw [lg_set_turn, lg_set_state _ _ _ _ _ x.state, lg_set_notes _ _ _ _ _ x.notes, hd] at h2
    exact h2
  · exact hs.mono fun k hk hlt => ⟨hset.block k hlt (by omega), ⟨by omega, hlt⟩, by omega, hk.2⟩
  · refine (hn.base (Nat.zero_le _)).ok_only hset (fun k hk hlt => ⟨by omega, ⟨by omega, hlt⟩, by omega⟩) fun k hk => ?_
    have := (hn.lt k hk).1
    omega
  · have := hn.lt k hk
    exact ⟨⟨by omega, this.2⟩, by omega⟩

set_option maxRecDepth 100000 in
set_option maxHeartbeats 6400000 in
theorem wal_Open {F : Nat → Prop} {gd : Nat} {D : Dk.Dsk} (B : Nat) (w : World) (hB : w.heap.size = B) (hd : DkAt F w gd D) (hok : Dk.Ok D) (ha : 0 ≤ D.acts ∧ D.acts ≤ 8000000000000000000) (hL : Wl.Ok (Wl.picks D).1) :
    Calls Try.prog 32 #[.pointer (some ⟨gd, 0, none⟩)] w fun e w' => OpenIs w F gd (Wl.openL D) e w' := by
  obtain ⟨R, hR⟩ : ∃ R, R = Wl.openL D := ⟨_, rfl⟩
  rw [← hR]
  have hr1 := hok.room1
  have hlen : ∀ i, (D.t i).b.length ≤ 4194304 := fun i => by have := hok.len i; omega
  obtain ⟨w1, hw1⟩ : ∃ x, x = w.alloc (.cells #[.pointer (some ⟨gd, 0, none⟩), .int .i64 0, .slice none 0 0, .slice none 0 0, .bool false] 145) := ⟨_, rfl⟩
  have hb1 : Below w.heap.size w w1 := by rw [hw1]; exact alloc_below _ _
  have hm1 : LgM (fun k => B ≤ k ∧ k < w1.heap.size) w1 B gd ⟨0, [], [], false⟩ (.slice none 0 0) (.slice none 0 0) := by
    refine ⟨by rw [hw1, ← hB]; exact heap_alloc_new w _, Byt.nil _ _, Own.nil _ _ _ _, ⟨Nat.le_refl _, by rw [hw1]; simp [hB]⟩, fun x hx => by simp [Value.ownBlock] at hx, fun k hk => hk.2⟩
  have HB := Lib.hid hB
  have Hd := Lib.hid hd
  have Hok := Lib.hid hok
  have Ha := Lib.hid ha
  have HL := Lib.hid hL
  have Hlen := Lib.hid hlen
  have Hm1 := Lib.hid hm1
  have hFB : ∀ k, F k → k < B := fun k hk => by have := hd.flt k hk; omega
  have HFB := Lib.hid hFB
  cases hdown : D.down
  · have hread : ∀ k : Nat, k < 2 → Dk.read D (k : Int) = ((D.t k).b, 0) := fun k hk => by
      have he : Dk.err D (k : Int) = 0 := by unfold Dk.err; rw [if_neg (by omega), hdown]; rfl
      unfold Dk.read
      rw [he, if_neg (by decide), Int.toNat_natCast]
    have hR1 : R = if (Wl.picks D).1.turn = 0 ∨ (Wl.picks D).2 = true then (if (Wl.lay D (Wl.picks D).1).2.2 ≠ 0 then ((Wl.lay D (Wl.picks D).1).1, none, (Wl.lay D (Wl.picks D).1).2.2) else ((Wl.lay D (Wl.picks D).1).1, some (Wl.lay D (Wl.picks D).1).2.1, 0)) else (D, some (Wl.picks D).1, 0) := by
      rw [hR]; unfold Wl.openL; rw [if_neg (by rw [hdown]; decide)]
    have HR := Lib.hid hR1
    have Hread := Lib.hid hread
    clear hR hR1 hdown hread hd hok ha hL hlen hm1 hFB hr1
    go_enter Try.func32, Try.ntmps32
    go_upto_region 2 with fail
    rw [← hw1]
    clear hw1 hB
    go_wp2_with fail
    go_loopw [5, 18] (fun s i wr => ∃ (k : Nat) (vs vn : Value), k ≤ 2 ∧ i = .int .i64 k ∧ s = .bool (Wl.pickK D k).2 ∧ LgM (fun x => B ≤ x ∧ x < wr.heap.size) wr B gd (Wl.pickK D k).1 vs vn ∧ (Wl.pickK D k).1.dead = false ∧ (Wl.pickK D k).1.turn ≤ 1099511627776 ∧ Below w.heap.size w wr) (fun _ i _ => 2 - (intOf i).toNat)
    case atStart => exact ⟨0, _, _, by decide, rfl, rfl, Hm1.out, rfl, (by show (0 : Nat) ≤ 1099511627776; decide), hb1⟩
    case round =>
      obtain ⟨k, vs, vn, hk, rfl, rfl, hm, hdead, htl, hbr⟩ := hrel
      have hsr : B ≤ wr.heap.size := by rw [← HB.out]; exact hbr.size
      obtain ⟨c, hc⟩ : ∃ c, c = Wl.pickK D k := ⟨_, rfl⟩
      rw [← hc] at hm hdead htl
      have Hc := Lib.hid hc
      by_cases hlt : k < 2
      · have hki : (k : Int) < 2 := by omega
        have hdr := Hd.out.keep hbr
        have hrd := disk_Read gd D (k : Int) wr.heap.size wr rfl hdr Hok.out
        rw [Hread.out k hlt] at hrd
        obtain ⟨tb, htb⟩ : ∃ x, x = (D.t k).b := ⟨_, rfl⟩
        rw [← htb] at hrd
        have htbl : tb.length ≤ 4194304 := by rw [htb]; exact Hlen.out k
        have hsucc := Wl.pickK_succ D k hlt
        rw [← hc, ← htb] at hsucc
        have Hsucc := Lib.hid hsucc
        have Hdead := Lib.hid hdead
        have Htb := Lib.hid htb
        have Hbr := Lib.hid hbr
        have Htbl := Lib.hid htbl
        rw [← hc]
        clear hc hdr hsucc hdead htb hbr htbl
        go_wp2_with fail
        refine hrd.mono ?_
        clear hrd
        rintro e w2 ⟨v2, rfl, ho2, hb2⟩
        obtain ⟨nb, hnb⟩ : ∃ n, n = tb.length := ⟨_, rfl⟩
        obtain ⟨a2, c2, rfl, hc2, hm2, hr2, ho2'⟩ := ho2.shape nb hnb
        have hmk := hm.keep hb2
        have Hhm := Lib.hid hm
        have Hnb := Lib.hid hnb
        clear ho2 ho2' hm hnb
        go_wp2_with fail
        refine (wal_load w2.heap.size _ _ _ tb _ rfl hr2 hc2 hm2 (by have := Hnb.out; have := Htbl.out; omega)).mono ?_
        clear hr2
        rintro e w3 ⟨hb3, hld⟩
        have hs2 := hb2.size
        have hb23 : Below wr.heap.size wr w3 := hb2.trans (hb3.mono hs2)
        have hbw3 : Below w.heap.size w w3 := Hbr.out.trans (hb23.mono (by rw [HB.out]; exact hsr))
        have hmw : ∀ {G' : Nat → Prop} {W : World} {L' : Wl.Lg} {v v' : Value}, True → True := fun _ => trivial
        have hm3 : LgM (fun x => B ≤ x ∧ x < w3.heap.size) w3 B gd c.1 vs vn := by
          have h3 := Hhm.out.keep hb23
          have h3s := hb23.size
          exact ⟨h3.heap, h3.st.mono fun q hq hlt => ⟨rfl, ⟨hq.1.1, by omega⟩, hq.2⟩, h3.ns.ok_only (S := fun _ => False) (Only.refl _ _) (fun q hq hlt => ⟨fun h => h, ⟨hq.1.1, by omega⟩, hq.2⟩) (fun _ _ h => h), ⟨h3.gg.1, by have := h3.gg.2; omega⟩, fun q hq => ⟨⟨(h3.gn q hq).1.1, by have := (h3.gn q hq).1.2; omega⟩, (h3.gn q hq).2⟩, fun q hq => hq.2⟩
        have k1 := hm3.c1
        have k2 := hm3.c2
        have k3 := hm3.c3
        have kf := hm3.cf
        obtain ⟨ct, hct⟩ : ∃ n, n = c.1.turn := ⟨_, rfl⟩
        rw [← hct] at k1 htl
        have Hct := Lib.hid hct
        have Hm3 := Lib.hid hm3
        have Hbw3 := Lib.hid hbw3
        have Hb3 := Lib.hid hb3
        have Hmk := Lib.hid hmk
        have Hb23 := Lib.hid hb23
        clear hct hm3 hmw hbw3 hb3 hmk hb23
        have hnext : (Wl.pickK D (k + 1) = c) → (∃ (k' : Nat) (vs vn : Value), k' ≤ 2 ∧ Value.int .i64 ((k : Int) + 1) = .int .i64 k' ∧ Value.bool c.2 = .bool (Wl.pickK D k').2 ∧ LgM (fun x => B ≤ x ∧ x < w3.heap.size) w3 B gd (Wl.pickK D k').1 vs vn ∧ (Wl.pickK D k').1.dead = false ∧ (Wl.pickK D k').1.turn ≤ 1099511627776 ∧ Below w.heap.size w w3) := fun e =>
          ⟨k + 1, vs, vn, by omega, by go_num, by rw [e], by rw [e]; exact Hm3.out, by rw [e]; exact Hdead.out, by rw [e, ← Hct.out]; exact htl, Hbw3.out⟩
        have Hnext := Lib.hid hnext
        clear hnext
        obtain ⟨r, hr⟩ : ∃ r, r = Wl.load tb := ⟨_, rfl⟩
        rw [← hr] at hld
        have Hr := Lib.hid hr
        clear hr
        cases r with
        | none =>
          obtain rfl := hld
          go_wp2_with fail
          exact ⟨Hnext.out (by rw [Hsucc.out]; exact Wl.pick_none Hr.out.symm), by simp [intOf]; omega⟩
        | some x =>
          obtain ⟨vs', vn', rfl, hst, hns⟩ := hld
          obtain ⟨as', cs', rfl, hcs', hms', hss'⟩ := hst
          obtain ⟨an', cn', rfl, hcn', hmn', hrn', hns'⟩ := hns.shape x.notes.length rfl
          obtain ⟨xt, hxt⟩ : ∃ n, n = x.turn := ⟨_, rfl⟩
          obtain ⟨xu, hxu⟩ : ∃ n, n = x.upto := ⟨_, rfl⟩
          have hx1 := Wl.load_turn Hr.out.symm
          rw [← hxt, ← hxu] at hx1
          obtain ⟨hx1, hx2⟩ := hx1
          rw [← hxt, ← hxu]
          have hx3 : xu ≤ 4194304 := by have := Htbl.out; omega
          have Hxt := Lib.hid hxt
          have Hxu := Lib.hid hxu
          have Hns' := Lib.hid hns'
          have Hss' := Lib.hid hss'
          clear hxt hxu hns' hrn' hss' hx2 hns
          by_cases hgt : ct < xt
          · have hgt' : (ct : Int) < (xt : Int) := by omega
            by_cases hpar : xt % 2 = k
            · have htp : Wl.tp xt = (k : Int) := by unfold Wl.tp; omega
              have Htp := Lib.hid htp
              have hload := Hhm.out
              have Hpar := Lib.hid hpar
              have Hgt := Lib.hid hgt
              have Hload := Lib.hid hload
              clear hload htp hpar hgt
              go_wp2_with fail
              refine (wal_tape xt _ (by omega)).mono ?_
              rw [Htp.out]
              rintro e wt ⟨rfl, rfl⟩
              go_wp2_with fail
              have hmid : w2.heap.size ≤ w3.heap.size := Hb3.out.size
              have hL2 := Hmk.out.loaded (B := B) (w3 := w3) (vs' := .slice as' x.state.length cs') (vn' := .slice an' x.notes.length cn') (x := x) (Nat.le_refl _) Hb3.out ⟨as', cs', rfl, hcs', hms', Hss'.out⟩ Hns'.out Hdead.out (Nat.le_trans hsr hs2)
              obtain ⟨hl4, ho4⟩ := hL2
              have ep : Wl.pickK D (k + 1) = (⟨x.turn, x.state, x.notes, false⟩, decide (x.upto < tb.length)) := by rw [Hsucc.out]; exact Wl.pick_in Hr.out.symm ⟨by rw [← Hct.out, ← Hxt.out]; exact Hgt.out, by rw [← Hxt.out]; exact Hpar.out⟩
              have hbz : Below w.heap.size w3 (((w3.setCell ⟨B, 1, none⟩ (.int .i64 x.turn)).setCell ⟨B, 2, none⟩ (.slice as' x.state.length cs')).setCell ⟨B, 3, none⟩ (.slice an' x.notes.length cn')) := ho4.below Hbw3.out.size fun q hq => by subst hq; rw [HB.out]; exact Nat.le_refl _
              have hsz : (((w3.setCell ⟨B, 1, none⟩ (.int .i64 x.turn)).setCell ⟨B, 2, none⟩ (.slice as' x.state.length cs')).setCell ⟨B, 3, none⟩ (.slice an' x.notes.length cn')).heap.size = w3.heap.size := by simp [World.setCell]
              refine ⟨⟨k + 1, .slice as' x.state.length cs', .slice an' x.notes.length cn', by omega, by go_num, ?_, ?_, by rw [ep], by rw [ep, ← Hxt.out]; exact hx1, ?_⟩, by simp [intOf]; omega⟩
              · rw [ep, Hnb.out, Hxu.out]
              · rw [ep, Hxt.out, hsz]
                exact hl4
              · rw [Hxt.out]
                exact Hbw3.out.trans hbz
            · have htp : (Wl.tp xt == (k : Int)) = false := by rw [beq_eq_false_iff_ne]; unfold Wl.tp; omega
              have hpn : ¬ (c.1.turn < x.turn ∧ x.turn % 2 = k) := by rw [← Hxt.out]; omega
              have Hpn := Lib.hid hpn
              clear hpn hpar hgt
              go_wp2_with fail
              refine (wal_tape xt _ (by omega)).mono ?_
              rintro e wt ⟨rfl, rfl⟩
              go_wp2_with fail
              exact ⟨Hnext.out (by rw [Hsucc.out]; exact Wl.pick_out Hr.out.symm Hpn.out), by simp [intOf]; omega⟩
          · have hgt' : (xt : Int) ≤ (ct : Int) := by omega
            have hpn : ¬ (c.1.turn < x.turn ∧ x.turn % 2 = k) := by rw [← Hxt.out, ← Hct.out]; omega
            have Hpn := Lib.hid hpn
            clear hpn hgt
            go_wp2_with fail
            exact ⟨Hnext.out (by rw [Hsucc.out]; exact Wl.pick_out Hr.out.symm Hpn.out), by simp [intOf]; omega⟩
      · obtain rfl : k = 2 := by omega
        have hdis : ∀ q, F q → ¬ (B ≤ q ∧ q < wr.heap.size) := fun q hq h => by have := HFB.out q hq; omega
        have k1 := hm.c1
        rw [← hc]
        obtain ⟨ct, hct⟩ : ∃ n, n = c.1.turn := ⟨_, rfl⟩
        obtain ⟨tr, htr⟩ : ∃ b, b = c.2 := ⟨_, rfl⟩
        rw [← hct] at k1
        rw [← htr]
        have Hct := Lib.hid hct
        have Htr := Lib.hid htr
        have Hm := Lib.hid hm
        have Hdis := Lib.hid hdis
        have Hbr := Lib.hid hbr
        have Hdead := Lib.hid hdead
        clear hc hct htr hm hdis hbr hlt hdead
        by_cases h0 : ct = 0
        · have h0b : ((ct : Int) == 0) = true := by rw [h0]; rfl
          have H0 := Lib.hid h0
          clear h0
          have hLc : Wl.Ok c.1 := by rw [Hc.out]; exact HL.out
          obtain ⟨Q, hQ⟩ : ∃ q, q = Wl.lay D c.1 := ⟨_, rfl⟩
          have hRq : R = if Q.2.2 ≠ 0 then (Q.1, none, Q.2.2) else (Q.1, some Q.2.1, 0) := by
            rw [HR.out, ← (show c = Wl.picks D from Hc.out), if_pos (.inl (by rw [← Hct.out]; exact H0.out)), hQ]
          have HRq := Lib.hid hRq
          have HLc := Lib.hid hLc
          have HQ := Lib.hid hQ
          clear hRq hLc hQ
          go_wp2_with fail
          refine (wal_lay wr.heap.size wr rfl (Hd.out.keep Hbr.out) Hok.out Ha.out Hm.out Hdis.out HLc.out).mono ?_
          rw [← HQ.out]
          rintro e w7 ⟨rfl, F7, g1, g2, g3, g4, g5, g6⟩
          have Hg3 := Lib.hid g3
          clear g3
          have hft : ∀ k, F7 k → F k ∨ w.heap.size ≤ k := fun k hk => by
            rcases g5 k hk with h4 | h4
            · exact .inl h4
            · exact .inr (Nat.le_trans Hbr.out.size h4)
          have hO : Only F w w7 := (Below.only Hbr.out).trans g6 fun q hq hk => by
            rcases hk with hk | rfl
            · exact hk
            · rw [HB.out] at hq; exact absurd hq (Nat.lt_irrefl _)
          by_cases he : Q.2.2 = 0
          · obtain ⟨er, her⟩ : ∃ e, e = Q.2.2 := ⟨_, rfl⟩
            rw [← her] at he ⊢
            subst he
            have HRz : R = (Q.1, some Q.2.1, 0) := by rw [HRq.out, ← her]; simp
            have HRz := Lib.hid HRz
            clear her
            go_wp2_with fail
            refine bodyPost_ret (v := .tuple #[.pointer (some ⟨B, 0, none⟩), .int .i64 0]) (by simp [results, Try.results32, go_sem]) rfl ?_
            rw [HRz.out]
            exact ⟨F7, g1, g2, hft, hO, B, _, _, _, rfl, Hg3.out, g4, fun k hk => by rw [HB.out]; exact hk.1⟩
          · obtain ⟨er, her⟩ : ∃ e, e = Q.2.2 := ⟨_, rfl⟩
            rw [← her] at he ⊢
            have HRz : R = (Q.1, none, er) := by rw [HRq.out, ← her]; simp [he]
            have HRz := Lib.hid HRz
            have he2 : (er != 0) = true := by simpa using he
            clear her he
            go_wp2_with fail
            refine bodyPost_ret (v := .tuple #[.pointer none, .int .i64 er]) (by simp [results, Try.results32, go_sem]) rfl ?_
            rw [HRz.out]
            exact ⟨F7, g1, g2, hft, hO, rfl⟩
        · have h0b : ((ct : Int) == 0) = false := by rw [beq_eq_false_iff_ne]; omega
          have H0 := Lib.hid h0
          clear h0
          cases tr
          · have hRq : R = (D, some c.1, 0) := by
              rw [HR.out, ← (show c = Wl.picks D from Hc.out), if_neg]
              rintro (h | h)
              · exact H0.out (by rw [Hct.out]; exact h)
              · rw [← Htr.out] at h; cases h
            have HRq := Lib.hid hRq
            clear hRq
            go_wp2_with fail
            refine bodyPost_ret (v := .tuple #[.pointer (some ⟨B, 0, none⟩), .int .i64 0]) (by simp [results, Try.results32, go_sem]) rfl ?_
            rw [HRq.out]
            exact ⟨F, Hd.out.keep Hbr.out, Hok.out, fun k hk => .inl hk, Below.only Hbr.out, B, _, _, _, rfl, Hm.out, Hdis.out, fun k hk => by rw [HB.out]; exact hk.1⟩
          · have hLc : Wl.Ok c.1 := by rw [Hc.out]; exact HL.out
            obtain ⟨Q, hQ⟩ : ∃ q, q = Wl.lay D c.1 := ⟨_, rfl⟩
            have hRq : R = if Q.2.2 ≠ 0 then (Q.1, none, Q.2.2) else (Q.1, some Q.2.1, 0) := by
              rw [HR.out, ← (show c = Wl.picks D from Hc.out), if_pos (.inr (by rw [← Htr.out])), hQ]
            have HRq := Lib.hid hRq
            have HLc := Lib.hid hLc
            have HQ := Lib.hid hQ
            clear hRq hLc hQ
            go_wp2_with fail
            refine (wal_lay wr.heap.size wr rfl (Hd.out.keep Hbr.out) Hok.out Ha.out Hm.out Hdis.out HLc.out).mono ?_
            rw [← HQ.out]
            rintro e w7 ⟨rfl, F7, g1, g2, g3, g4, g5, g6⟩
            have Hg3 := Lib.hid g3
            clear g3
            have hft : ∀ k, F7 k → F k ∨ w.heap.size ≤ k := fun k hk => by
              rcases g5 k hk with h4 | h4
              · exact .inl h4
              · exact .inr (Nat.le_trans Hbr.out.size h4)
            have hO : Only F w w7 := (Below.only Hbr.out).trans g6 fun q hq hk => by
              rcases hk with hk | rfl
              · exact hk
              · rw [HB.out] at hq; exact absurd hq (Nat.lt_irrefl _)
            by_cases he : Q.2.2 = 0
            · obtain ⟨er, her⟩ : ∃ e, e = Q.2.2 := ⟨_, rfl⟩
              rw [← her] at he ⊢
              subst he
              have HRz : R = (Q.1, some Q.2.1, 0) := by rw [HRq.out, ← her]; simp
              have HRz := Lib.hid HRz
              clear her
              go_wp2_with fail
              refine bodyPost_ret (v := .tuple #[.pointer (some ⟨B, 0, none⟩), .int .i64 0]) (by simp [results, Try.results32, go_sem]) rfl ?_
              rw [HRz.out]
              exact ⟨F7, g1, g2, hft, hO, B, _, _, _, rfl, Hg3.out, g4, fun k hk => by rw [HB.out]; exact hk.1⟩
            · obtain ⟨er, her⟩ : ∃ e, e = Q.2.2 := ⟨_, rfl⟩
              rw [← her] at he ⊢
              have HRz : R = (Q.1, none, er) := by rw [HRq.out, ← her]; simp [he]
              have HRz := Lib.hid HRz
              have he2 : (er != 0) = true := by simpa using he
              clear her he
              go_wp2_with fail
              refine bodyPost_ret (v := .tuple #[.pointer none, .int .i64 er]) (by simp [results, Try.results32, go_sem]) rfl ?_
              rw [HRz.out]
              exact ⟨F7, g1, g2, hft, hO, rfl⟩
  · have hread : Dk.read D (0 : Int) = ([], 2) := by
      have he : Dk.err D (0 : Int) = 2 := by unfold Dk.err; rw [if_neg (by omega), hdown]; rfl
      unfold Dk.read
      rw [he, if_pos (by decide)]
    have hR1 : R = (D, none, 2) := by rw [hR]; unfold Wl.openL; rw [if_pos hdown]
    have HR := Lib.hid hR1
    have Hread := Lib.hid hread
    have hb1' := hb1
    have hrd := disk_Read gd D (0 : Int) w1.heap.size w1 rfl (hd.keep hb1) hok
    rw [hread] at hrd
    clear hR hR1 hdown hread hd hok ha hL hlen hm1 hFB hr1
    go_enter Try.func32, Try.ntmps32
    go_upto_region 2 with fail
    rw [← hw1]
    clear hw1 hB
    go_wp2_with fail
    go_loopw [5, 18] (fun s i wr => i = .int .i64 0 ∧ wr = w1) (fun _ i _ => 0)
    case atStart => exact ⟨rfl, rfl⟩
    case round =>
      obtain ⟨rfl, rfl⟩ := hrel
      go_wp2_with fail
      refine hrd.mono ?_
      clear hrd
      rintro e w2 ⟨v2, rfl, ho2, hb2⟩
      obtain ⟨a2, c2, rfl, hc2, hm2, hr2, ho2'⟩ := ho2.shape 0 rfl
      clear ho2 ho2' hr2
      go_wp2_with fail
      refine bodyPost_ret (v := .tuple #[.pointer none, .int .i64 2]) (by simp [results, Try.results32, go_sem]) rfl ?_
      have hb : Below w.heap.size w w2 := hb1'.trans (hb2.mono hb1'.size)
      rw [HR.out]
      exact ⟨F, Hd.out.keep hb, Hok.out, fun k hk => .inl hk, Below.only hb, rfl⟩
end Go.Proofs.Ytmmgnbdngpkfcaa

namespace Go.Proofs.Ytmmgnbdngpkfcaa
open Go.RowKit
set_option linter.unusedVariables false

/-- a block of bytes, whatever they are -/
def Bx (w : World) (g n : Nat) : Prop := ∃ (cs : Array Value) (te : Nat), w.heap[g]? = some (.cells cs te (0, 0)) ∧ ∀ i, i < n → ∃ x : BitVec 8, cs[i]? = some (.int .u8 (bv x))
theorem Bx.cell {w : World} {g n : Nat} (h : Bx w g n) {i : Nat} (hi : i < n) : ∃ x : BitVec 8, w.cell? ⟨g, i, none⟩ = some (.int .u8 (bv x)) := by
  obtain ⟨cs, te, hh, hc⟩ := h
  obtain ⟨x, hx⟩ := hc i hi
  exact ⟨x, by simp [World.cell?, hh, hx]⟩
theorem Bx.free {w : World} {g n : Nat} (h : Bx w g n) (i : Nat) : w.frozen? ⟨g, i, none⟩ = false := by
  obtain ⟨cs, te, hh, hc⟩ := h
  simp [World.frozen?, hh]
theorem Bx.set {w : World} {g n : Nat} (h : Bx w g n) (i : Nat) (x : BitVec 8) : Bx (w.setCell ⟨g, i, none⟩ (.int .u8 (bv x))) g n := by
  obtain ⟨cs, te, hh, hc⟩ := h
  refine ⟨_, te, heap_set hh i _, fun j hj => ?_⟩
  rw [Array.getElem?_setIfInBounds]
  split
  · rename_i e
    subst e
    obtain ⟨y, hy⟩ := hc _ hj
    rw [if_pos (Array.getElem?_eq_some_iff.1 hy).1]
    exact ⟨x, rfl⟩
  · exact hc j hj
theorem Own.bx {te : TypeId} {base : Nat} {w : World} {v : Value} {l : List (BitVec 8)} (h : Own EU8 te base w v l) :
    (l = [] ∧ ∃ a c, v = .slice a 0 c) ∨ ∃ g c, v = .slice (some ⟨g, 0, none⟩) l.length c ∧ base ≤ g ∧ Bx w g l.length := by
  rcases h with h | ⟨g, cap, cur, hv, hg, hh, h1, h2, h3, h4⟩
  · exact .inl ⟨h.2, none, 0, h.1⟩
  · refine .inr ⟨g, cap, hv, hg, cur, te, hh, fun i hi => ?_⟩
    obtain ⟨cs, hr, hc⟩ := h4 i l[i] (List.getElem?_eq_getElem hi)
    obtain rfl : cs = [.int .u8 (bv l[i])] := hr
    have := hc 0 _ rfl
    exact ⟨l[i], by simpa [EU8] using this⟩
/-- what a row of one's own bytes has at k -/
theorem Own.valAt {te : TypeId} {base : Nat} {w : World} {a : Option Addr} {n c : Nat} {ps : List (Value × List (BitVec 8))} (h : Own EVal te base w (.slice a n c) ps) (k : Nat) (hk : k < ps.length) :
    ∃ g, a = some ⟨g, 0, none⟩ ∧ w.cell? ⟨g, k, none⟩ = some ps[k].1 ∧ Own EU8 5 0 w ps[k].1 ps[k].2 := by
  rcases h with ⟨_, rfl⟩ | ⟨g, cap, cur, hv, hg, hh, h1, h2, h3, h4⟩
  · simp at hk
  · obtain ⟨cs, hr, hc⟩ := h4 k ps[k] (List.getElem?_eq_getElem hk)
    injection hv with e1 e2 e3
    refine ⟨g, e1, ?_, hr.2.1⟩
    have := hc 0 ps[k].1 (by rw [hr.1]; rfl)
    have e : k * EVal.sz + 0 = k := by show k * 1 + 0 = k; omega
    rw [e] at this
    simp [World.cell?, hh, this]
theorem eq_of_get {ns ms : List (List (BitVec 8))} (hl : ns.length = ms.length) (h : ∀ j (h1 : j < ns.length) (h2 : j < ms.length), ns[j] = ms[j]) : ns = ms :=
  List.ext_getElem hl fun j h1 h2 => h j h1 h2

set_option maxRecDepth 100000 in
set_option maxHeartbeats 6400000 in
theorem law17_is {G : Nat → Prop} {gl gd : Nat} {L : Wl.Lg} {vs vn : Value} (B : Nat) (a1 : Option Addr) (n1 c1 : Nat) (s : List (BitVec 8)) (a2 : Option Addr) (n2 c2 : Nat) (ms : List (List (BitVec 8))) (w : World) (hB : w.heap.size = B) (h : LgM G w gl gd L vs vn) (hL : Wl.Ok L) (hs : RB w a1 n1 s) (hm : RS EBytes w a2 n2 ms) (hn1 : n1 ≤ 140737488355328) (hn2 : n2 ≤ 140737488355328) :
    Calls Try.prog 33 #[.pointer (some ⟨gl, 0, none⟩), .slice a1 n1 c1, .slice a2 n2 c2] w fun e w' => e = .returned (.bool (L.state == s && L.notes == ms)) ∧ Below B w w' := by
  obtain ⟨r, hr⟩ : ∃ r, r = (L.state == s && L.notes == ms) := ⟨_, rfl⟩
  rw [← hr]
  have Hr := Lib.hid hr
  have HB := Lib.hid hB
  have Hm := Lib.hid hm
  have hmany := hL.many
  have HL := Lib.hid hL
  clear hr hB hm hL
  go_enter Try.func33, Try.ntmps33
  go_wp2_with fail
  refine (wal_State B w HB.out h HL.out).mono ?_
  rintro e w1 ⟨v1, v2, ps, rfl, ho1, ho2, hps, hap, hb1⟩
  obtain ⟨nS, hnS⟩ : ∃ n, n = L.state.length := ⟨_, rfl⟩
  obtain ⟨aS, cS, rfl, hcS, hmS, hrS, hoS⟩ := ho1.shape nS hnS
  have hpl : ps.length = L.notes.length := by rw [← hps, List.length_map]
  obtain ⟨nN, hnN⟩ : ∃ n, n = ps.length := ⟨_, rfl⟩
  obtain ⟨aN, cN, rfl, hcN, hmN, hrN, hoN⟩ := ho2.shape nN hnN
  have hnN1 : nN ≤ 89478486 := by rw [hnN, hpl]; exact hmany
  have hs1 : RB w1 a1 n1 s := hs.below (by rw [HB.out]; exact hb1)
  have Hps := Lib.hid hps
  have Hap := Lib.hid hap
  have Hpl := Lib.hid hpl
  have HnN := Lib.hid hnN
  have HnS := Lib.hid hnS
  have HoN := Lib.hid hoN
  clear ho1 ho2 hps hap hpl hnN hnS hoN hoS hrN hs h hmany
  go_wp2_with fail
  refine (ref_Same _ _ _ _ _ _ L.state s _ hrS hs1).mono ?_
  rintro e wt ⟨rfl, rfl⟩
  obtain ⟨q, hq⟩ : ∃ b, b = (L.state == s) := ⟨_, rfl⟩
  rw [← hq]
  have Hq := Lib.hid hq
  clear hq hrS hs1
  cases q
  · go_wp2_with fail
    go_ret
    exact ⟨by rw [Hr.out, ← Hq.out]; rfl, hb1⟩
  · by_cases hne : nN = n2
    · subst hne
      have hneb : ((nN : Int) != (nN : Int)) = false := by simp
      have hml : nN = ms.length := Hm.out.1
      have Hml := Lib.hid hml
      clear hml
      go_wp2_with fail
      go_loopw [29] (fun i wr => ∃ k : Nat, k ≤ nN ∧ i = .int .i64 k ∧ (∀ j, j < k → ∃ (h1 : j < L.notes.length) (h2 : j < ms.length), L.notes[j] = ms[j]) ∧ Only (fun x => ∃ p ∈ ps.take k, p.1.ownBlock = some x) w1 wr) (fun i _ => nN - (intOf i).toNat)
      case atStart => exact ⟨0, Nat.zero_le _, rfl, fun j hj => absurd hj (Nat.not_lt_zero j), Only.refl _ _⟩
      case round =>
        obtain ⟨k, hk, rfl, hall, hor⟩ := hrel
        have Hall := Lib.hid hall
        clear hall
        by_cases hlt : k < nN
        · as_aux_lemma =>
            have hki : (k : Int) < (nN : Int) := by omega
            have hkp : k < ps.length := by rw [← HnN.out]; exact hlt
            have hkm : k < ms.length := by rw [← Hml.out]; exact hlt
            have hkL : k < L.notes.length := by rw [← Hpl.out]; exact hkp
            obtain ⟨g, rfl, hgc, hown⟩ := HoN.out.valAt k hkp
            obtain ⟨p, hp⟩ : ∃ p, p = ps[k] := ⟨_, rfl⟩
            rw [← hp] at hgc hown
            have hpn : p.2 = L.notes[k] := by
              have : (ps.map (·.2))[k]'(by rw [List.length_map]; exact hkp) = L.notes[k] := List.getElem_of_eq Hps.out _
              rw [List.getElem_map] at this
              rw [hp]; exact this
            obtain ⟨vp, dp⟩ := p
            dsimp only at hgc hown hpn
            have hpk : ∀ x, vp.ownBlock = some x → B ≤ x ∧ x < w1.heap.size ∧ x ≠ g ∧ ∀ q ∈ ps.take k, q.1.ownBlock ≠ some x := fun x hx => by
              have hmem : (vp, dp) ∈ ps := by rw [hp]; exact List.getElem_mem hkp
              have h1 := HoN.out.vlt _ hmem x hx
              refine ⟨Hap.out.1 _ hmem x hx, h1.1, fun e => h1.2 (by rw [e]; rfl), fun q hq e => ?_⟩
              obtain ⟨j, hj, hje⟩ := List.getElem_of_mem hq
              rw [List.length_take] at hj
              have hjk : j < k := by omega
              have hpw := List.pairwise_iff_getElem.1 Hap.out.2 j k (by omega) hkp hjk
              rw [List.getElem_take] at hje
              rw [hje, ← hp] at hpw
              exact hpw x e hx
            have hgn : ¬ ∃ q ∈ ps.take k, q.1.ownBlock = some g := fun ⟨q, hq, e⟩ => (HoN.out.vlt q (List.mem_of_mem_take hq) g e).2 rfl
            have hg1 : g < w1.heap.size := cell_lt hgc
            have cg : wr.cell? ⟨g, k, none⟩ = some vp := by rw [cell_keep (hor.block g hg1 hgn)]; exact hgc
            have hownr : Own EU8 5 0 wr vp dp := hown.u8_block fun x hx => hor.block x (hpk x hx).2.1 fun ⟨q, hq, e⟩ => (hpk x hx).2.2.2 q hq e
            obtain ⟨b6, o6, rfl, -, cs, hr6, hc6⟩ := Hm.out.2 k ms[k] (List.getElem?_eq_getElem hkm)
            obtain ⟨d, hx⟩ : ∃ x, x = ms[k] := ⟨_, rfl⟩
            rw [← hx] at hr6
            obtain ⟨a7, c7, rfl, h71, h72, h73⟩ := hr6
            have hbelow : Below B w wr := hb1.trans (hor.below (by rw [← HB.out]; exact hb1.size) fun x ⟨q, hq, e⟩ => Hap.out.1 q (List.mem_of_mem_take hq) x e)
            have p1 : w.cell? ⟨b6, o6 + k, none⟩ = some (.slice a7 d.length c7) := by simpa [EBytes, ESlice] using hc6 0 _ rfl
            have s1 : wr.cell? ⟨b6, o6 + k, none⟩ = some (.slice a7 d.length c7) := by rw [hbelow.cell (p := ⟨b6, o6 + k, none⟩) (by have := cell_lt p1; rw [HB.out] at this; exact this)]; exact p1
            have h74 : Sl EU8 (fun _ => True) wr a7 d := h73.mono (by decide) fun q hq hlt => ⟨hbelow.block q (by rw [HB.out] at hlt; exact hlt), trivial⟩
            obtain ⟨dl, hdl⟩ : ∃ n, n = d.length := ⟨_, rfl⟩
            obtain ⟨pl, hpl2⟩ : ∃ n, n = dp.length := ⟨_, rfl⟩
            have hplb : pl ≤ 65536 := by rw [hpl2, hpn]; exact HL.out.note _ (List.getElem_mem hkL)
            obtain ⟨aP, cP, rfl, hcP, hmP, hrP, hownr'⟩ := hownr.shape pl hpl2
            rw [← hdl] at s1
            have hrD : RB wr a7 dl d := ⟨hdl, h74⟩
            have hcase : (dp == d) = (L.notes[k] == ms[k]) := by rw [hpn, hx]
            have Hcase := Lib.hid hcase
            have Hor := Lib.hid hor
            have Hpk := Lib.hid hpk
            have Hgn := Lib.hid hgn
            have Hbelow := Lib.hid hbelow
            have Hown := Lib.hid hownr'
            have Hpl2 := Lib.hid hpl2
            have HrP := Lib.hid hrP
            have HrD := Lib.hid hrD
            have Hp := Lib.hid hp
            clear hgc hc6 p1 h71 h72 h73 h74 hx hp hpn hdl hpl2 hcase hor hpk hgn hbelow hown hownr hownr' hrP hrD
            obtain ⟨q, hq⟩ : ∃ b, b = (dp == d) := ⟨_, rfl⟩
            have Hqq := Lib.hid hq
            clear hq
            go_wp2_with fail
            have hsame : ∀ m, Calls Try.prog 58 #[.slice aP pl cP, .slice a7 dl c7] (wr.drewN m) fun e w' => e = .returned (.bool q) ∧ wr.drewN m = w' := fun m => by
              have := ref_Same _ _ _ _ cP c7 dp d _ (RB.drewN HrP.out m) (RB.drewN HrD.out m)
              rw [← Hqq.out] at this
              exact this
            have Hsame := Lib.hid hsame
            clear hsame
            go_quiet ((first
              | (go_at_call 58; exact quiet_eq (Hsame.out _))))
            have hbq : Below wr.heap.size wr (wr.drewN nq) := below_drewN (Below.refl _ _) nq
            cases q
            · go_wp2_with fail
              go_ret
              refine ⟨?_, Hbelow.out.trans (hbq.mono (by have := Hbelow.out.size; rw [HB.out] at this; exact this))⟩
              rw [Hr.out]
              have hf : (L.notes == ms) = false := by
                rw [beq_eq_false_iff_ne]
                intro e
                have h1 := Hcase.out
                rw [← Hqq.out] at h1
                have h2 : L.notes[k]'hkL = ms[k]'hkm := by congr 1
                rw [h2] at h1
                simp at h1
              rw [hf, Bool.and_false]
              rfl
            · as_aux_lemma =>
                obtain ⟨w2, hw2⟩ : ∃ x, x = wr.drewN nq := ⟨_, rfl⟩
                rw [← hw2] at hbq ⊢
                have Hown2 := Lib.hid (Hown.out.below hbq)
                have cg2 : w2.cell? ⟨g, k, none⟩ = some (.slice aP pl cP) := cell_thru cg hbq
                have hgo : ∀ x, (Value.slice aP pl cP).ownBlock = some x → ¬ x = g := fun x hx => (Hpk.out x hx).2.2.1
                have Hgo := Lib.hid hgo
                have Hbq := Lib.hid hbq
                clear hw2 hbq hgo cg s1
                go_wp2_with fail
                go_loopw [47] (fun i wj => ∃ j : Nat, j ≤ pl ∧ i = .int .i64 j ∧ Only (fun x => (Value.slice aP pl cP).ownBlock = some x) w2 wj ∧ ∀ gk, aP = some ⟨gk, 0, none⟩ → Bx wj gk pl) (fun i _ => pl - (intOf i).toNat)
                case atStart =>
                  refine ⟨0, Nat.zero_le _, rfl, Only.refl _ _, fun gk e => ?_⟩
                  rcases Hown2.out.bx with ⟨h1, a', c', h2⟩ | ⟨g', c', h2, _, h3⟩
                  · injection h2 with _ h2 _
                    rw [h2]
                    rcases Hown2.out with ⟨h4, _⟩ | ⟨g', cap', cur', h4, _, h5, _⟩
                    · injection h4 with h4 _ _; rw [e] at h4; cases h4
                    · injection h4 with h4 _ _
                      rw [e] at h4
                      simp only [Option.some.injEq, Addr.mk.injEq, and_true] at h4
                      subst h4
                      exact ⟨_, _, h5, fun i hi => absurd hi (Nat.not_lt_zero i)⟩
                  · injection h2 with h2 h2' _
                    rw [e] at h2
                    simp only [Option.some.injEq, Addr.mk.injEq, and_true] at h2
                    subst h2
                    rw [h2']; exact h3
                case round =>
                  obtain ⟨j, hj, rfl, hoj, hbx⟩ := hrel
                  have cgj : wr.cell? ⟨g, k, none⟩ = some (.slice aP pl cP) := by rw [cell_keep (hoj.block g (cell_lt cg2) fun e => Hgo.out g e rfl)]; exact cg2
                  by_cases hjl : j < pl
                  · as_aux_lemma =>
                      have hji : (j : Int) < (pl : Int) := by omega
                      rcases Hown2.out.bx with ⟨h1, a', c', h2⟩ | ⟨gk, c', h2, _, h3⟩
                      · injection h2 with _ h2 _
                        omega
                      · injection h2 with h2 h2b h2c
                        clear h2b h2c h3
                        subst h2
                        have hb := hbx gk rfl
                        obtain ⟨x, hx⟩ := hb.cell hjl
                        have hf := hb.free j
                        have Hb := Lib.hid hb
                        have Hoj := Lib.hid hoj
                        clear hb hbx hoj cg2
                        go_wp2_with fail
                        refine ⟨⟨j + 1, by omega, by go_num, Hoj.out.setCell (p := ⟨gk, j, none⟩) (.inl rfl) _, fun gk' e => ?_⟩, by simp [intOf]; omega⟩
                        simp only [Option.some.injEq, Addr.mk.injEq, and_true] at e
                        subst e
                        exact Hb.out.set j _
                  · as_aux_lemma =>
                      obtain rfl : j = pl := by omega
                      have Hoj := Lib.hid hoj
                      clear hoj hbx cg2 hjl
                      go_wp2_with fail
                      refine ⟨⟨k + 1, by omega, by go_num, fun j hj => ?_, ?_⟩, by simp [intOf]; omega⟩
                      · by_cases hjk : j < k
                        · exact Hall.out j hjk
                        · obtain rfl : j = k := by omega
                          refine ⟨hkL, hkm, ?_⟩
                          have h1 := Hcase.out
                          rw [← Hqq.out] at h1
                          exact (beq_iff_eq.1 h1.symm)
                      · have hmem : ps[k]'hkp ∈ ps.take (k + 1) := by
                          rw [List.take_add_one, List.getElem?_eq_getElem hkp, Option.toList_some]
                          exact List.mem_append_right _ (List.mem_singleton.2 rfl)
                        refine ((Hor.out.mono fun x ⟨q, hq, e⟩ => ⟨q, by rw [List.take_add_one]; exact List.mem_append_left _ hq, e⟩).trans (Below.only Hbq.out) fun _ _ h => h).trans (Hoj.out.mono fun x hx => ⟨ps[k]'hkp, hmem, by rw [← Hp.out]; exact hx⟩) fun _ _ h => h
        · as_aux_lemma =>
            obtain rfl : k = nN := by omega
            go_wp2_with fail
            go_ret
            refine ⟨?_, hb1.trans (hor.below (by rw [← HB.out]; exact hb1.size) fun x ⟨q, hq, e⟩ => Hap.out.1 q (List.mem_of_mem_take hq) x e)⟩
            rw [Hr.out, ← Hq.out]
            have he : L.notes = ms := eq_of_get (by rw [← Hpl.out, ← HnN.out, ← Hml.out]) fun j h1 h2 => by
              obtain ⟨_, _, e⟩ := Hall.out j (by rw [HnN.out, Hpl.out]; exact h1)
              exact e
            rw [he]
            simp
    · have hneb : ((nN : Int) != (n2 : Int)) = true := by rw [bne_iff_ne]; omega
      have Hne := Lib.hid hne
      clear hne
      go_wp2_with fail
      go_ret
      refine ⟨?_, hb1⟩
      rw [Hr.out]
      have hf : (L.notes == ms) = false := by
        rw [beq_eq_false_iff_ne]
        intro e
        exact Hne.out (by rw [HnN.out, Hpl.out, e]; exact Hm.out.1.symm)
      rw [hf, Bool.and_false]
      rfl
end Go.Proofs.Ytmmgnbdngpkfcaa

namespace Go.Proofs.Ytmmgnbdngpkfcaa.Wl
open Go.Proofs.Ytmmgnbdngpkfcaa Go.Proofs.Ytmmgnbdngpkfcaa.Bts Go.Proofs.Ytmmgnbdngpkfcaa.Frm
set_option linter.unusedVariables false

def hL : Lg := ⟨0, [], [], true⟩
def ld (o : Option Lg) : Lg := match o with | some L => L | none => hL
def hD1 : Dk.Dsk := (openL (Dk.new 1000)).1
def hL1 : Lg := ld (openL (Dk.new 1000)).2.1
def hD2 : Dk.Dsk := (check hD1 hL1 [115#8]).1
def hL2 : Lg := (check hD1 hL1 [115#8]).2.1
def hD3 : Dk.Dsk := (append hD2 hL2 [97#8]).1
def hL3 : Lg := (append hD2 hL2 [97#8]).2.1
def hD4 : Dk.Dsk := (sync hD3 hL3).1
def hL4 : Lg := (sync hD3 hL3).2.1
def hD5 : Dk.Dsk := (append hD4 hL4 [98#8]).1
def hL5 : Lg := (append hD4 hL4 [98#8]).2.1
def hD6 : Dk.Dsk := Dk.crash hD5 [3, 3]
def hD7 : Dk.Dsk := (openL hD6).1
def hL7 : Lg := ld (openL hD6).2.1
theorem h_one : (openL (Dk.new 1000)).2.1.isSome = true ∧ (openL (Dk.new 1000)).2.2 = 0 ∧ hL1.turn = 1 ∧ hL1.state = [] ∧ hL1.notes = [] ∧ hL1.dead = false := by decide +kernel
theorem h_two : (check hD1 hL1 [115#8]).2.2 = 0 ∧ hL2.turn = 2 ∧ hL2.state = [115#8] ∧ hL2.notes = [] := by decide +kernel
theorem h_three : (append hD2 hL2 [97#8]).2.2 = 0 ∧ hL3.turn = 2 ∧ hL3.state = [115#8] ∧ hL3.notes = [[97#8]] := by decide +kernel
theorem h_four : (sync hD3 hL3).2.2 = 0 ∧ hL4.turn = 2 ∧ hL4.state = [115#8] ∧ hL4.notes = [[97#8]] := by decide +kernel
theorem h_five : (append hD4 hL4 [98#8]).2.2 = 0 := by decide +kernel
theorem h_six : (openL hD6).2.1.isSome = true ∧ (openL hD6).2.2 = 0 ∧ hL7.state = [115#8] ∧ hL7.notes = [[97#8]] := by decide +kernel
theorem h_acts : hD1.acts = 3 ∧ hD2.acts = 6 ∧ hD3.acts = 7 ∧ hD4.acts = 8 ∧ hD5.acts = 9 ∧ hD6.acts = 9 := by decide +kernel
theorem h_pick0 : (picks (Dk.new 1000)).1.turn = 0 ∧ (picks (Dk.new 1000)).1.state = [] ∧ (picks (Dk.new 1000)).1.notes = [] := by decide +kernel
theorem h_pick : (picks hD6).1.turn = 2 ∧ (picks hD6).1.state = [115#8] ∧ (picks hD6).1.notes = [[97#8]] := by decide +kernel
end Go.Proofs.Ytmmgnbdngpkfcaa.Wl

namespace Go.Proofs.Ytmmgnbdngpkfcaa
open Go.RowKit
set_option linter.unusedVariables false

def DkB (B : Nat) (w : World) (gd : Nat) (D : Dk.Dsk) : Prop := ∃ F, DkAt F w gd D ∧ Dk.Ok D ∧ ∀ k, F k → B ≤ k
def LgB (B : Nat) (w : World) (gl gd : Nat) (D : Dk.Dsk) (L : Wl.Lg) : Prop := ∃ F G vs vn, LgD F G w gl gd D L vs vn ∧ ∀ k, F k ∨ G k → B ≤ k
theorem LgB.dk {B : Nat} {w : World} {gl gd : Nat} {D : Dk.Dsk} {L : Wl.Lg} (h : LgB B w gl gd D L) : DkB B w gd D := by
  obtain ⟨F, G, vs, vn, h1, h2⟩ := h
  exact ⟨F, h1.dk, h1.ok, fun k hk => h2 k (.inl hk)⟩
theorem DkB.keep {B : Nat} {w w' : World} {gd : Nat} {D : Dk.Dsk} (h : DkB B w gd D) (hb : Below w.heap.size w w') : DkB B w' gd D := by
  obtain ⟨F, h1, h2, h3⟩ := h
  exact ⟨F, h1.keep hb, h2, h3⟩
theorem LgB.keep {B : Nat} {w w' : World} {gl gd : Nat} {D : Dk.Dsk} {L : Wl.Lg} (h : LgB B w gl gd D L) (hb : Below w.heap.size w w') : LgB B w' gl gd D L := by
  obtain ⟨F, G, vs, vn, h1, h2⟩ := h
  exact ⟨F, G, vs, vn, h1.keep hb, h2⟩
theorem DkB.size {B : Nat} {w : World} {gd : Nat} {D : Dk.Dsk} (h : DkB B w gd D) : B ≤ w.heap.size := by
  obtain ⟨F, ⟨vs, os, hm⟩, h2, h3⟩ := h
  have := hm.flt gd hm.fg
  have := h3 gd hm.fg
  omega
theorem LgB.size {B : Nat} {w : World} {gl gd : Nat} {D : Dk.Dsk} {L : Wl.Lg} (h : LgB B w gl gd D L) : B ≤ w.heap.size := h.dk.size
theorem LgB.ptr {B : Nat} {w : World} {gl gd : Nat} {D : Dk.Dsk} {L : Wl.Lg} (h : LgB B w gl gd D L) : Dk.Ok D := by
  obtain ⟨F, G, vs, vn, h1, h2⟩ := h
  exact h1.ok
theorem LogIs.b {B : Nat} {w w' : World} {F G : Nat → Prop} {gl gd : Nat} {D' : Dk.Dsk} {L' : Wl.Lg} {er : Int} {e : Ending} (h : LogIs w F G gl gd (D', L', er) e w') (hB : B ≤ w.heap.size) (hFG : ∀ k, F k ∨ G k → B ≤ k) :
    e = .returned (.int .i64 er) ∧ LgB B w' gl gd D' L' ∧ Below B w w' := by
  obtain ⟨h1, F', G', vs, vn, h2, h3, h4⟩ := h
  refine ⟨h1, ⟨F', G', vs, vn, h2, fun k hk => ?_⟩, h4.below hB hFG⟩
  rcases h3 k hk with h5 | h5
  · exact hFG k h5
  · omega

theorem b_New (r : Int) (B : Nat) (w : World) (hB : w.heap.size = B) (hr : -9223372036854775808 ≤ r ∧ r ≤ 9223372036854775807) :
    Calls Try.prog 25 #[.int .i64 r] w fun e w' => e = .returned (.pointer (some ⟨B, 0, none⟩)) ∧ DkB B w' B (Dk.new r) ∧ Below B w w' :=
  (disk_New r B w hB hr).mono fun e w' ⟨h1, h2, h3, h4⟩ => ⟨h1, ⟨_, h2, Dk.ok_new r, fun k hk => Nat.le_of_eq hk.symm⟩, h3⟩
theorem b_Open {B : Nat} {gd : Nat} {D D' : Dk.Dsk} {L : Wl.Lg} (w : World) (h : DkB B w gd D) (ha : 0 ≤ D.acts ∧ D.acts ≤ 8000000000000000000) (hL : Wl.Ok (Wl.picks D).1) (hR : Wl.openL D = (D', some L, 0)) :
    Calls Try.prog 32 #[.pointer (some ⟨gd, 0, none⟩)] w fun e w' => ∃ gl, e = .returned (.tuple #[.pointer (some ⟨gl, 0, none⟩), .int .i64 0]) ∧ LgB B w' gl gd D' L ∧ Below B w w' := by
  have hs := h.size
  obtain ⟨F, h1, h2, h3⟩ := h
  refine (wal_Open w.heap.size w rfl h1 h2 ha hL).mono ?_
  rw [hR]
  rintro e w' ⟨F', g1, g2, g3, g4, gl, G, vs, vn, rfl, g5, g6, g7⟩
  refine ⟨gl, rfl, ⟨F', G, vs, vn, ⟨g1, g2, g5, g6⟩, fun k hk => ?_⟩, g4.below hs h3⟩
  rcases hk with hk | hk
  · rcases g3 k hk with h4 | h4
    · exact h3 k h4
    · omega
  · have := g7 k hk; omega
theorem b_Turn {B : Nat} {gl gd : Nat} {D : Dk.Dsk} {L : Wl.Lg} (w : World) (h : LgB B w gl gd D L) :
    Calls Try.prog 34 #[.pointer (some ⟨gl, 0, none⟩)] w fun e w' => e = .returned (.int .i64 L.turn) ∧ w = w' := by
  obtain ⟨F, G, vs, vn, h1, h2⟩ := h
  exact wal_Turn w h1.lg
theorem b_Dead {B : Nat} {gl gd : Nat} {D : Dk.Dsk} {L : Wl.Lg} (w : World) (h : LgB B w gl gd D L) :
    Calls Try.prog 40 #[.pointer (some ⟨gl, 0, none⟩)] w fun e w' => e = .returned (.bool L.dead) ∧ w = w' := by
  obtain ⟨F, G, vs, vn, h1, h2⟩ := h
  exact wal_Dead w h1.lg
theorem b_Append {B : Nat} {gl gd : Nat} {D D' : Dk.Dsk} {L L' : Wl.Lg} {er : Int} (a : Option Addr) (n c : Nat) (b : List (BitVec 8)) (w0 w : World) (h : LgB B w0 gl gd D L) (hb : Below w0.heap.size w0 w) (ha : 0 ≤ D.acts ∧ D.acts ≤ 8000000000000000000) (hL : Wl.Ok L) (hn : n = b.length) (hnl : n ≤ 140737488355328) (hs : Sl EU8 (fun k => k < B ∨ w0.heap.size ≤ k) w a b) (hR : Wl.append D L b = (D', L', er)) :
    Calls Try.prog 35 #[.pointer (some ⟨gl, 0, none⟩), .slice a n c] w fun e w' => e = .returned (.int .i64 er) ∧ LgB B w' gl gd D' L' ∧ Below B w w' := by
  have hsz := h.size
  obtain ⟨F, G, vs, vn, h1, h2⟩ := h
  refine (wal_Append a n c b w (h1.keep hb) ha hL hn hnl (hs.mono (by decide) fun k hk _ => ⟨rfl, ?_, ?_⟩)).mono ?_
  · intro hf
    have := h2 k (.inl hf)
    have := h1.dk.flt k hf
    omega
  · intro hg
    have := h2 k (.inr hg)
    have := h1.lg.lt k hg
    omega
  · rw [hR]
    intro e w' hh
    exact hh.b (Nat.le_trans hsz hb.size) h2
theorem b_Check {B : Nat} {gl gd : Nat} {D D' : Dk.Dsk} {L L' : Wl.Lg} {er : Int} (a : Option Addr) (n c : Nat) (st : List (BitVec 8)) (w : World) (h : LgB B w gl gd D L) (ha : 0 ≤ D.acts ∧ D.acts ≤ 8000000000000000000) (hL : Wl.Ok L) (hn : n = st.length) (hnl : n ≤ 65500 ∨ 65516 < n) (hs : Sl EU8 (fun k => True) w a st) (hR : Wl.check D L st = (D', L', er)) :
    Calls Try.prog 37 #[.pointer (some ⟨gl, 0, none⟩), .slice a n c] w fun e w' => e = .returned (.int .i64 er) ∧ LgB B w' gl gd D' L' ∧ Below B w w' := by
  have hsz := h.size
  obtain ⟨F, G, vs, vn, h1, h2⟩ := h
  refine (wal_Check a n c st w h1 ha hL hn hnl hs).mono ?_
  rw [hR]
  intro e w' hh
  exact hh.b hsz h2
theorem b_Sync {B : Nat} {gl gd : Nat} {D D' : Dk.Dsk} {L L' : Wl.Lg} {er : Int} (w : World) (h : LgB B w gl gd D L) (ha : 0 ≤ D.acts ∧ D.acts ≤ 8000000000000000000) (ht : L.turn ≤ 1099511627777) (hR : Wl.sync D L = (D', L', er)) :
    Calls Try.prog 36 #[.pointer (some ⟨gl, 0, none⟩)] w fun e w' => e = .returned (.int .i64 er) ∧ LgB B w' gl gd D' L' ∧ Below B w w' := by
  have hsz := h.size
  obtain ⟨F, G, vs, vn, h1, h2⟩ := h
  refine (wal_Sync w h1 ha ht).mono ?_
  rw [hR]
  intro e w' hh
  exact hh.b hsz h2
theorem b_State {B : Nat} {gl gd : Nat} {D : Dk.Dsk} {L : Wl.Lg} (w : World) (h : LgB B w gl gd D L) (hL : Wl.Ok L) :
    Calls Try.prog 39 #[.pointer (some ⟨gl, 0, none⟩)] w fun e w' => StateIs w.heap.size w L e w' := by
  obtain ⟨F, G, vs, vn, h1, h2⟩ := h
  exact wal_State w.heap.size w rfl h1.lg hL
theorem b_is {B : Nat} {gl gd : Nat} {D : Dk.Dsk} {L : Wl.Lg} (a1 : Option Addr) (n1 c1 : Nat) (s : List (BitVec 8)) (a2 : Option Addr) (n2 c2 : Nat) (ms : List (List (BitVec 8))) (w : World) (h : LgB B w gl gd D L) (hL : Wl.Ok L) (hs : RB w a1 n1 s) (hm : RS EBytes w a2 n2 ms) (hn1 : n1 ≤ 140737488355328) (hn2 : n2 ≤ 140737488355328) :
    Calls Try.prog 33 #[.pointer (some ⟨gl, 0, none⟩), .slice a1 n1 c1, .slice a2 n2 c2] w fun e w' => e = .returned (.bool (L.state == s && L.notes == ms)) ∧ LgB B w' gl gd D L ∧ Below w.heap.size w w' := by
  obtain ⟨F, G, vs, vn, h1, h2⟩ := h
  refine (law17_is w.heap.size a1 n1 c1 s a2 n2 c2 ms w rfl h1.lg hL hs hm hn1 hn2).mono ?_
  rintro e w' ⟨rfl, hb⟩
  exact ⟨rfl, ⟨F, G, vs, vn, h1.keep hb, h2⟩, hb⟩
theorem b_Crash {B : Nat} {gd : Nat} {D : Dk.Dsk} (a : Option Addr) (n c : Nat) (ks : List Int) (w0 w : World) (h : DkB B w0 gd D) (hb : Below w0.heap.size w0 w) (hn : n = ks.length) (hs : Sl EInt (fun k => k < B ∨ w0.heap.size ≤ k) w a ks) :
    Calls Try.prog 43 #[.pointer (some ⟨gd, 0, none⟩), .slice a n c] w fun e w' => e = .returned (.tuple #[]) ∧ DkB B w' gd (Dk.crash D ks) ∧ Below B w w' := by
  have hsz := h.size
  obtain ⟨F, h1, h2, h3⟩ := h
  refine (disk_Crash gd D a n c ks w (h1.keep hb) h2 hn (hs.mono (by decide) fun k hk _ => ⟨rfl, fun hf => ?_⟩)).mono ?_
  · have := h3 k hf
    have := h1.flt k hf
    omega
  · rintro e w' ⟨rfl, F', g1, g2⟩
    refine ⟨rfl, ⟨F', g1, Dk.ok_crash h2 ks, fun k hk => ?_⟩, g2.only.below (Nat.le_trans hsz hb.size) h3⟩
    rcases g2.foot k hk with h4 | h4
    · exact h3 k h4
    · have := hb.size; omega

namespace Wl
theorem open_eq {R : Dk.Dsk × Option Lg × Int} (h1 : R.2.1.isSome = true) (h2 : R.2.2 = 0) : R = (R.1, some (ld R.2.1), 0) := by
  obtain ⟨D, o, e⟩ := R
  cases o with
  | none => cases h1
  | some L =>
    simp only at h2
    subst h2
    rfl
theorem call_eq {R : Dk.Dsk × Lg × Int} (h2 : R.2.2 = 0) : R = (R.1, R.2.1, 0) := by
  obtain ⟨D, o, e⟩ := R
  simp only at h2
  subst h2
  rfl
theorem ok_small {L : Lg} {t : Nat} {s : Byt} {ns : List Byt} (h1 : L.turn = t) (h2 : L.state = s) (h3 : L.notes = ns) (ht : t ≤ 1000000) (hs : s.length ≤ 1000) (hn : ns = [] ∨ ns = [[97#8]]) : Ok L := by
  refine ⟨by omega, by rw [h2]; omega, fun n hn' => ?_, ?_⟩
  · rw [h3] at hn'
    rcases hn with rfl | rfl
    · cases hn'
    · rw [List.mem_singleton] at hn'; subst hn'; decide
  · rw [h3]
    rcases hn with rfl | rfl
    · simp [nfs, Frm.encs]
    · simp [nfs, Frm.encs, Frm.enc_len]
theorem ok1 : Ok hL1 := ok_small h_one.2.2.1 h_one.2.2.2.1 h_one.2.2.2.2.1 (by decide) (by decide) (.inl rfl)
theorem ok2 : Ok hL2 := ok_small h_two.2.1 h_two.2.2.1 h_two.2.2.2 (by decide) (by decide) (.inl rfl)
theorem ok3 : Ok hL3 := ok_small h_three.2.1 h_three.2.2.1 h_three.2.2.2 (by decide) (by decide) (.inr rfl)
theorem ok4 : Ok hL4 := ok_small h_four.2.1 h_four.2.2.1 h_four.2.2.2 (by decide) (by decide) (.inr rfl)
theorem okp0 : Ok (picks (Dk.new 1000)).1 := ok_small h_pick0.1 h_pick0.2.1 h_pick0.2.2 (by decide) (by decide) (.inl rfl)
theorem okp6 : Ok (picks hD6).1 := ok_small h_pick.1 h_pick.2.1 h_pick.2.2 (by decide) (by decide) (.inr rfl)
theorem e1 : openL (Dk.new 1000) = (hD1, some hL1, 0) := open_eq h_one.1 h_one.2.1
theorem e2 : check hD1 hL1 [115#8] = (hD2, hL2, 0) := call_eq h_two.1
theorem e3 : append hD2 hL2 [97#8] = (hD3, hL3, 0) := call_eq h_three.1
theorem e4 : sync hD3 hL3 = (hD4, hL4, 0) := call_eq h_four.1
theorem e5 : append hD4 hL4 [98#8] = (hD5, hL5, 0) := call_eq h_five
theorem e6 : openL hD6 = (hD7, some hL7, 0) := open_eq h_six.1 h_six.2.1
theorem ok7 : Ok hL7 := by
  refine ⟨?_, by rw [h_six.2.2.1]; decide, fun n hn => ?_, ?_⟩
  · have : hL7.turn = 3 := by decide +kernel
    omega
  · rw [h_six.2.2.2, List.mem_singleton] at hn; subst hn; decide
  · rw [h_six.2.2.2]; simp [nfs, Frm.encs, Frm.enc_len]
end Wl

theorem lit1 {B : Nat} {w0 w : World} {te : Nat} {fr : Nat × Nat} {x : BitVec 8} (hw : w = w0.alloc (.cells #[.int .u8 (bv x)] te fr)) (hB : B ≤ w0.heap.size) : Sl EU8 (fun k => k < B ∨ w0.heap.size ≤ k) w (some ⟨w0.heap.size, 0, none⟩) [x] := by
  rw [hw]
  exact sl_cells (heap_alloc_new w0 _) rfl (.inr (Nat.le_refl _))

set_option maxRecDepth 100000 in
set_option maxHeartbeats 3200000 in
theorem law17_head (w : World) :
    Calls Try.prog 24 #[] w fun e w' => e = .returned (.bool true) ∧ Below w.heap.size w w' := by
  obtain ⟨B, hB⟩ : ∃ B, B = w.heap.size := ⟨_, rfl⟩
  rw [← hB]
  have HB := Lib.hid hB.symm
  clear hB
  have kc := fun (w : World) (C : Array Value) (n c : Nat) => Lib.run_convert_bytes_const (P := Try.prog) w 49 5 C n c Try.underlying49 Try.underlying5
  have hac := Wl.h_acts
  have Hac := Lib.hid hac
  clear hac
  go_enter Try.func24, Try.ntmps24
  go_wp2_with fail
  refine (b_New 1000 B w HB.out (by decide)).mono ?_
  rintro e w1 ⟨rfl, h1, hb1⟩
  go_wp2_with fail
  refine (b_Open w1 h1 (by decide) Wl.okp0 Wl.e1).mono ?_
  rintro e w2 ⟨gl, rfl, h2, hb2⟩
  have hb2 := hb1.trans hb2
  go_wp2_with fail
  refine (b_Turn w2 h2).mono ?_
  rw [Wl.h_one.2.2.1]
  rintro e wt ⟨rfl, rfl⟩
  obtain ⟨w3, hw3⟩ : ∃ x, x = w2.alloc (.cells #[.int .u8 115] 5 (1, 2)) := ⟨_, rfl⟩
  have hs3 : Sl EU8 (fun k => k < B ∨ w2.heap.size ≤ k) w3 (some ⟨w2.heap.size, 0, none⟩) [115#8] := lit1 (x := 115#8) hw3 h2.size
  have hb23 : Below w2.heap.size w2 w3 := by rw [hw3]; exact alloc_below _ _
  go_wp2_with fail
  rw [← hw3]
  clear hw3
  refine (b_Check _ _ _ [115#8] w3 (h2.keep hb23) (by rw [Hac.out.1]; decide) Wl.ok1 rfl (by decide) (hs3.any (by decide)) Wl.e2).mono ?_
  rintro e w4 ⟨rfl, h4, hb4⟩
  have hb4 := (hb2.trans (hb23.mono h2.size)).trans hb4
  clear h1 hs3 hb23 hb1 hb2 h2
  go_wp2_with fail
  refine (b_Turn w4 h4).mono ?_
  rw [Wl.h_two.2.1]
  rintro e wt ⟨rfl, rfl⟩
  obtain ⟨w5, hw5⟩ : ∃ x, x = w4.alloc (.cells #[.int .u8 97] 5 (1, 2)) := ⟨_, rfl⟩
  have hs5 : Sl EU8 (fun k => k < B ∨ w4.heap.size ≤ k) w5 (some ⟨w4.heap.size, 0, none⟩) [97#8] := lit1 (x := 97#8) hw5 h4.size
  have hb45 : Below w4.heap.size w4 w5 := by rw [hw5]; exact alloc_below _ _
  go_wp2_with fail
  rw [← hw5]
  clear hw5
  refine (b_Append _ _ _ [97#8] w4 w5 h4 hb45 (by rw [Hac.out.2.1]; decide) Wl.ok2 rfl (by decide) hs5 Wl.e3).mono ?_
  rintro e w6 ⟨rfl, h6, hb6⟩
  have hb6 := (hb4.trans (hb45.mono h4.size)).trans hb6
  clear hs5 hb45 hb4 h4
  go_wp2_with fail
  refine (b_Sync w6 h6 (by rw [Hac.out.2.2.1]; decide) (by rw [Wl.h_three.2.1]; decide) Wl.e4).mono ?_
  rintro e w7 ⟨rfl, h7, hb7⟩
  have hb7 := hb6.trans hb7
  clear hb6 h6
  obtain ⟨w8, hw8⟩ : ∃ x, x = w7.alloc (.cells #[.int .u8 98] 5 (1, 2)) := ⟨_, rfl⟩
  have hs8 : Sl EU8 (fun k => k < B ∨ w7.heap.size ≤ k) w8 (some ⟨w7.heap.size, 0, none⟩) [98#8] := lit1 (x := 98#8) hw8 h7.size
  have hb78 : Below w7.heap.size w7 w8 := by rw [hw8]; exact alloc_below _ _
  go_wp2_with fail
  rw [← hw8]
  clear hw8
  refine (b_Append _ _ _ [98#8] w7 w8 h7 hb78 (by rw [Hac.out.2.2.2.1]; decide) Wl.ok4 rfl (by decide) hs8 Wl.e5).mono ?_
  rintro e w9 ⟨rfl, h9, hb9⟩
  have hb9 := (hb7.trans (hb78.mono h7.size)).trans hb9
  clear hs8 hb78 hb7 h7
  obtain ⟨wa, hwa⟩ : ∃ x, x = w9.alloc (.cells #[.int .i64 3, .int .i64 3] 3) := ⟨_, rfl⟩
  have hsa : Sl EInt (fun k => k < B ∨ w9.heap.size ≤ k) wa (some ⟨w9.heap.size, 0, none⟩) [3, 3] := by
    have hh : wa.heap[w9.heap.size]? = some (.cells #[.int .i64 3, .int .i64 3] 3 (0, 0)) := by rw [hwa]; exact heap_alloc_new w9 _
    intro k x hx
    refine ⟨w9.heap.size, 0, rfl, .inr (Nat.le_refl _), [.int .i64 x], ⟨rfl, ?_⟩, fun j v hj => ?_⟩
    · have : x = 3 := by
        match k, hx with
        | 0, hx => simpa using hx.symm
        | 1, hx => simpa using hx.symm
        | k + 2, hx => simp at hx
      subst this; decide
    · have hj0 : j = 0 := by have := (List.getElem?_eq_some_iff.1 hj).1; simp at this; exact this
      subst hj0
      simp only [List.getElem?_cons_zero, Option.some.injEq] at hj
      subst hj
      have hk : k < 2 := by have := (List.getElem?_eq_some_iff.1 hx).1; simpa using this
      match k, hk, hx with
      | 0, _, hx => simp at hx; subst hx; simp [EInt, World.cell?, hh]
      | 1, _, hx => simp at hx; subst hx; simp [EInt, World.cell?, hh]
  have hb9a : Below w9.heap.size w9 wa := by rw [hwa]; exact alloc_below _ _
  go_wp2_with fail
  rw [← hwa]
  clear hwa
  refine (b_Crash _ _ _ [3, 3] w9 wa h9.dk hb9a rfl hsa).mono ?_
  rintro e wb ⟨rfl, hB2, hbb⟩
  have hbb := (hb9.trans (hb9a.mono h9.size)).trans hbb
  clear hsa hb9a hb9 h9
  go_wp2_with fail
  refine (b_Open wb hB2 (by rw [show (Dk.crash Wl.hD5 [3, 3]).acts = 9 from Hac.out.2.2.2.2.2]; decide) Wl.okp6 Wl.e6).mono ?_
  rintro e wc ⟨gk, rfl, hc, hbc⟩
  have hbc := hbb.trans hbc
  have hsc := hc.size
  go_wp2_with fail
  refine (b_State wc hc Wl.ok7).mono ?_
  rintro e wd ⟨v1, v2, ps, rfl, ho1, ho2, hps, hap, hbd⟩
  have hbd := hbc.trans (hbd.mono hsc)
  rw [Wl.h_six.2.2.1] at ho1
  rw [Wl.h_six.2.2.2] at hps
  have hpl : ps.length = 1 := by
    have := congrArg List.length hps
    simpa using this
  obtain ⟨p, rfl⟩ := List.length_eq_one_iff.1 hpl
  obtain ⟨vp, dp⟩ := p
  have hdp : dp = [97#8] := by simpa using hps
  subst hdp
  obtain ⟨a1, c1, rfl, hc1, hm1, hr1, ho1'⟩ := ho1.shape 1 rfl
  obtain ⟨a2, c2, rfl, hc2, hm2, hr2, ho2'⟩ := ho2.shape 1 rfl
  obtain ⟨g, rfl, hgc, hown⟩ := ho2'.valAt 0 (by simp)
  obtain ⟨a3, c3, e3, hc3, hm3, hr3, ho3⟩ := Own.shape (v := vp) hown 1 rfl
  subst e3
  have hq1 := hr1.2
  have hq3 := hr3.2
  have hts1 : (convert 49 9 (.slice a1 1 c1)).run Try.prog wd = .ok (.string (strOf [115#8])) wd := run_tostr (P := Try.prog) (w := wd) (c := c1) Try.underlying49 Try.underlying5 Try.underlying9 hq1
  have hts2 : (convert 49 9 (.slice a3 1 c3)).run Try.prog wd = .ok (.string (strOf [97#8])) wd := run_tostr (P := Try.prog) (w := wd) (c := c3) Try.underlying49 Try.underlying5 Try.underlying9 hq3
  have hst1 : strOf [115#8] = ⟨#[115]⟩ := rfl
  have hst2 : strOf [97#8] = ⟨#[97]⟩ := rfl
  rw [hst1] at hts1
  rw [hst2] at hts2
  clear hst1 hst2 hpl ho1 ho2 hps hap hr1 hr2 hr3 ho1' ho2' hown ho3 hB2 hc hbb hbc hq1 hq3
  go_wp2_with fail
  go_ret
  exact ⟨by simp, hbd⟩
end Go.Proofs.Ytmmgnbdngpkfcaa

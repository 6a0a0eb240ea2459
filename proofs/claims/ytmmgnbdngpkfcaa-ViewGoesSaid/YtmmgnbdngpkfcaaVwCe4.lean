/-
  A member takes a message: another one has entries.
  A member takes a message: what another one has.
-/
import Derived.Test.YtmmgnbdngpkfcaaVwCc
namespace Go.Proofs.Ytmmgnbdngpkfcaa
open Go.RowKit
set_option linter.unusedVariables false

set_option maxRecDepth 1000000 in
set_option maxHeartbeats 0 in
theorem vw_In_t2 (w : World) (M M99 : Col) (w2 : World) (g q p : Nat) (c : Vw.Core) (m : Vw.Msg) (ld : Int) (la : Option Addr) (mn lc : Nat) (da : Option Addr) (md dc : Nat)
    (HBox : RowKit.Hid (∀ (M' : Col) (W : World), Fr M99 w2 M' W → (W.heap[q]? = some (.cells #[.int .i64 m.kind, .int .i64 m.frm, .int .i64 m.to_, .int .i64 m.shard, .int .i64 m.view, .int .i64 m.normal, .int .i64 m.at_, .int .i64 m.commit, .int .i64 m.id, .int .i64 m.err, .slice la mn lc, .slice da md dc] 89 (0, 0))) ∧ (W.heap[p]? = some (.cells #[.slice none 0 0, .slice none 0 0, .slice none 0 0] 107 (0, 0))) ∧ Sl EBytes (Im M') W la m.list ∧ EMsg.rep (Im M') W (msgRow m (.slice la mn lc) (.slice da md dc)) m))
    (Hfin : RowKit.Hid (∀ (w7 W : World) (c' : Vw.Core) (v : Value), TakeTo M99 w2 w7 g c' v → Only (· = p) w7 W → TakeTo M w W g c' v))
    (Hh : RowKit.Hid (Vw.InOk c m)) (Hk : RowKit.Hid (1 ≤ m.kind ∧ m.kind ≤ 5)) (Hl : RowKit.Hid (c.recs.length ≤ 30000 ∧ c.msgs.length ≤ 30000 ∧ c.done.length ≤ 30000)) (Hld : RowKit.Hid (ld = Vw.lead m.view c.n)) (Hmn : RowKit.Hid (mn = m.list.length ∧ mn ≤ lc ∧ lc ≤ maxLen))
    (hk : m.kind = 2) (c1 : Vw.Core) (w6 : World) (T6 : RowKit.Hid (VwTo M99 w2 w6 g c1)) (HE0 : RowKit.Hid (c.in_ m = c1.inD m ld)) (HR : RowKit.Hid (Vw.Rest c c1 6020)) {u1 u2 u6 u7 u8 u9 aA aB aC aD aE aF aG aH aI aJ aK aL aM aN aO aP aQ aR aS aT aU aV aW aX aY aZ bA bB bC bD bE bF bG bH bI bJ bK bL bM bN bO bP bQ bR bS bT bU bV bW bX bY bZ cA cB cC cD cE cF cG cH cI cJ cK cL cM cN cO cP cQ cR cS cT cU cV cW cY cZ dA dB dC dD dE dF dG dH dI dJ dK dL dM dN dO dP dQ dR dS dT dU dV dW dX dY dZ eA eB eC eD eE eF eG eH eI eJ eK eL eM eN eO eP eQ eR eS eT eU eV eW eX eY eZ fA fB fC fD fE fF fG fH fI fJ fK fL fM fN fO fP fQ fR fS fT fU fV fW fY fZ gA gB gC gD gE gF gG gH gI gJ gK gL gM gN gO gP gQ gR gS gT gU gV gW gX gY gZ hA hB hC hD hE hF hG hH hI hJ hK hL hM hN hO hP hQ hR hS hT hU hV hW hY hZ iA iB iC iD iE iF iG iH iI iJ iK iL iM iN iO iP iQ iR iS iT iU iV iW iX iY iZ jA jB jC jD jE jF jG jH jI jJ jK jL jM jN jO jP jQ jR jS jT jU jV jW jX jY jZ kA kB kC kD kE kF kG kH kI kJ kK kL kM kN kO kP kQ kR kS kT kU kV kW kX kY kZ lA lB lC lD lE lF lG lH lI lJ lK lL lM lN lO lP lQ lR : Value} :
    Code.wp Try.prog inTail (bodyPost Try.prog Try.f102 fun e w' => InTo M w w' g (c.in_ m) e) ⟨#[.pointer (some ⟨g, 0, none⟩), u1, u2, .pointer (some ⟨q, 0, none⟩), .pointer (some ⟨p, 0, none⟩), .int .i64 ld, u6, u7, u8, u9, aA, aB, aC, aD, aE, aF, aG, aH, aI, aJ, aK, aL, aM, aN, aO, aP, aQ, aR, aS, aT, aU, aV, aW, aX, aY, aZ, bA, bB, bC, bD, bE, bF, bG, bH, bI, bJ, bK, bL, bM, bN, bO, bP, bQ, bR, bS, bT, bU, bV, bW, bX, bY, bZ, cA, cB, cC, cD, cE, cF, cG, cH, cI, cJ, cK, cL, cM, cN, cO, cP, cQ, cR, cS, cT, cU, cV, cW, cY, cZ, dA, dB, dC, dD, dE, dF, dG, dH, dI, dJ, dK, dL, dM, dN, dO, dP, dQ, dR, dS, dT, dU, dV, dW, dX, dY, dZ, eA, eB, eC, eD, eE, eF, eG, eH, eI, eJ, eK, eL, eM, eN, eO, eP, eQ, eR, eS, eT, eU, eV, eW, eX, eY, eZ, fA, fB, fC, fD, fE, fF, fG, fH, fI, fJ, fK, fL, fM, fN, fO, fP, fQ, fR, fS, fT, fU, fV, fW, fY, fZ, gA, gB, gC, gD, gE, gF, gG, gH, gI, gJ, gK, gL, gM, gN, gO, gP, gQ, gR, gS, gT, gU, gV, gW, gX, gY, gZ, hA, hB, hC, hD, hE, hF, hG, hH, hI, hJ, hK, hL, hM, hN, hO, hP, hQ, hR, hS, hT, hU, hV, hW, hY, hZ, iA, iB, iC, iD, iE, iF, iG, iH, iI, iJ, iK, iL, iM, iN, iO, iP, iQ, iR, iS, iT, iU, iV, iW, iX, iY, iZ, jA, jB, jC, jD, jE, jF, jG, jH, jI, jJ, jK, jL, jM, jN, jO, jP, jQ, jR, jS, jT, jU, jV, jW, jX, jY, jZ, kA, kB, kC, kD, kE, kF, kG, kH, kI, kJ, kK, kL, kM, kN, kO, kP, kQ, kR, kS, kT, kU, kV, kW, kX, kY, kZ, lA, lB, lC, lD, lE, lF, lG, lH, lI, lJ, lK, lL, lM, lN, lO, lP, lQ, lR], []⟩ w6 := by
  have Hkk := Lib.hid hk
  obtain ⟨M6, ⟨L, h6⟩, f6⟩ := T6.out
  obtain ⟨bq, _, _, _⟩ := HBox.out _ _ f6
  rw [hk] at bq
  have e0 : w6.cell? ⟨q, 0, none⟩ = some (.int .i64 2) := by simp [World.cell?, bq]
  clear hk
  conv => arg 2; whnf
  have e6 := e0
  obtain ⟨b1, hb1⟩ : ∃ b, (m.view == c1.keep.view) = b := ⟨_, rfl⟩
  obtain ⟨b2, hb2⟩ : ∃ b, c1.leads = b := ⟨_, rfl⟩
  have Hb1 := Lib.hid hb1
  have Hb2 := Lib.hid hb2
  have hat := Hh.out.at_
  have hfr := Hh.out.frm
  clear bq h6 f6 e0 hb2
  go_wp2_with fail
  go_quiet (fail)
  obtain ⟨w7, hw7⟩ : ∃ x, x = w6.drewN nq := ⟨_, rfl⟩
  have T7 : RowKit.Hid (VwTo M99 w2 w7 g c1) := Lib.hid (by rw [hw7]; exact T6.out.drewN nq)
  rw [← hw7]
  clear hw7 e6
  have e7 : w7.cell? ⟨q, 0, none⟩ = some (.int .i64 2) := by
    obtain ⟨_, _, fx⟩ := T7.out
    have bx := (HBox.out _ _ fx).1
    rw [Hkk.out] at bx
    simp [World.cell?, bx]
  go_wp2_with fail
  go_quiet (fail)
  obtain ⟨w8, hw8⟩ : ∃ x, x = w7.drewN nq := ⟨_, rfl⟩
  have T8 : RowKit.Hid (VwTo M99 w2 w8 g c1) := Lib.hid (by rw [hw8]; exact T7.out.drewN nq)
  rw [← hw8]
  clear hw8 e7
  have e8 : w8.cell? ⟨q, 0, none⟩ = some (.int .i64 2) := by
    obtain ⟨_, _, fx⟩ := T8.out
    have bx := (HBox.out _ _ fx).1
    rw [Hkk.out] at bx
    simp [World.cell?, bx]
  go_wp2_with fail
  go_quiet (fail)
  obtain ⟨w9, hw9⟩ : ∃ x, x = w8.drewN nq := ⟨_, rfl⟩
  have T9 : RowKit.Hid (VwTo M99 w2 w9 g c1) := Lib.hid (by rw [hw9]; exact T8.out.drewN nq)
  rw [← hw9]
  clear hw9 e8
  have e9 : w9.cell? ⟨q, 0, none⟩ = some (.int .i64 2) := by
    obtain ⟨_, _, fx⟩ := T9.out
    have bx := (HBox.out _ _ fx).1
    rw [Hkk.out] at bx
    simp [World.cell?, bx]
  go_wp2_with fail
  obtain ⟨M9, ⟨L9, h9⟩, f9⟩ := T9.out
  obtain ⟨bq, _, _, _⟩ := HBox.out _ _ f9
  rw [Hkk.out] at bq
  have y5 : w9.cell? ⟨g, 5, none⟩ = some (.int .i64 c1.keep.view) := h9.c5
  have d4 : w9.cell? ⟨q, 4, none⟩ = some (.int .i64 m.view) := by simp [World.cell?, bq]
  have HN : RowKit.Hid (¬ (b1 = true ∧ b2 = true) → c1.inD m ld = c1) := Lib.hid (fun hno => by
    unfold Vw.Core.inD
    rw [if_neg (by rw [Hkk.out]; decide), if_neg (by rw [Hkk.out]; rintro ⟨h, _⟩; cases h), if_neg (by rw [Hkk.out]; rintro ⟨h, _⟩; cases h), if_neg (by rw [Hkk.out]; rintro ⟨h, _⟩; cases h), if_neg]
    rintro ⟨_, h1, h2⟩
    apply hno
    rw [← Hb1.out, ← Hb2.out]
    exact ⟨by simpa using h1, h2⟩)
  cases b1 with
  | false =>
    clear h9 f9 bq
    go_quiet (fail)
    obtain ⟨w10, hw10⟩ : ∃ x, x = w9.drewN nq := ⟨_, rfl⟩
    have T10 : RowKit.Hid (VwTo M99 w2 w10 g c1) := Lib.hid (by rw [hw10]; exact T9.out.drewN nq)
    rw [← hw10]
    clear hw10 e9
    have e10 : w10.cell? ⟨q, 0, none⟩ = some (.int .i64 2) := by
      obtain ⟨_, _, fx⟩ := T10.out
      have bx := (HBox.out _ _ fx).1
      rw [Hkk.out] at bx
      simp [World.cell?, bx]
    obtain ⟨wX, hwX⟩ : ∃ x, x = w10 := ⟨_, rfl⟩
    obtain ⟨cX, hcX⟩ : ∃ x, x = c1 := ⟨_, rfl⟩
    have TX : RowKit.Hid (VwTo M99 w2 wX g cX) := Lib.hid (by rw [hwX, hcX]; exact T10.out)
    have HEq : RowKit.Hid (c.in_ m = cX) := Lib.hid (by rw [hcX, HE0.out]; exact HN.out (by simp))
    rw [← hwX]
    clear hwX hcX e10
    obtain ⟨MX, hX, fX⟩ := TX.out
    have hT7 := vw_take (M := MX) wX hX
    have FX := Lib.hid fX
    have HT7 := Lib.hid hT7
    clear hX fX hT7
    go_wp2_with fail
    refine HT7.out.mono ?_
    rintro e w7 ⟨v1, v2, v3, rfl, t7⟩
    obtain ⟨s1, n1, p1, s2, n2, p2, s3, n3, p3, rfl, rfl, rfl⟩ := t7.slices
    have hp7 : w7.heap[p]? = some (.cells #[.slice none 0 0, .slice none 0 0, .slice none 0 0] 107 (0, 0)) := by obtain ⟨M7, _, f7, _⟩ := t7; exact (HBox.out _ _ (FX.out.trans f7)).2.1
    have qq0 : w7.cell? ⟨p, 0, none⟩ = some (.slice none 0 0) := by simp [World.cell?, hp7]
    have qq1 : w7.cell? ⟨p, 1, none⟩ = some (.slice none 0 0) := by simp [World.cell?, hp7]
    have qq2 : w7.cell? ⟨p, 2, none⟩ = some (.slice none 0 0) := by simp [World.cell?, hp7]
    have qf : ∀ o, w7.frozen? ⟨p, o, none⟩ = false := fun o => by simp [World.frozen?, hp7]
    have HW7 : RowKit.Hid (∀ W, W = (((w7.setCell ⟨p, 0, none⟩ (.slice s1 n1 p1)).setCell ⟨p, 1, none⟩ (.slice s2 n2 p2)).setCell ⟨p, 2, none⟩ (.slice s3 n3 p3)) → W.heap[p]? = some (.cells #[.slice s1 n1 p1, .slice s2 n2 p2, .slice s3 n3 p3] 107 (0, 0)) ∧ InTo M w W g (c.in_ m) (.returned (.agg #[.slice s1 n1 p1, .slice s2 n2 p2, .slice s3 n3 p3]))) := Lib.hid (by
      rintro W rfl
      refine ⟨by rw [heap_set (heap_set (heap_set hp7 0 _) 1 _) 2 _]; rfl, _, _, _, _, _, _, _, _, _, rfl, ?_⟩
      rw [HEq.out]
      exact Hfin.out _ _ _ _ (TakeTo.trans FX.out t7) (setg (S := (· = p)) (setg (S := (· = p)) (setg (S := (· = p)) (Only.refl _ w7) rfl 0 (.slice s1 n1 p1)) rfl 1 (.slice s2 n2 p2)) rfl 2 (.slice s3 n3 p3)))
    clear t7 hp7
    go_wp2_with fail
    obtain ⟨g1, g2⟩ := HW7.out _ rfl
    refine bodyPost_ret (v := .agg #[.slice s1 n1 p1, .slice s2 n2 p2, .slice s3 n3 p3]) (results_cell_row Try.results102 _ _ p 107 _ (0, 0) _ rfl g1 Try.underlying107 rfl (by kernel_rfl)) rfl ?_
    exact g2
  | true =>
    have hLd := vw_Leads w9.drew ⟨L9, h9.drew⟩
    rw [Hb2.out] at hLd
    have HLd := Lib.hid hLd
    have F9 := Lib.hid f9
    have H9 := Lib.hid h9
    clear hLd h9 f9 bq
    go_region_held3 (fun W => W.cell? ⟨q, 0, none⟩ = some (.int .i64 2) ∧ W.cell? ⟨q, 4, none⟩ = some (.int .i64 m.view) ∧ W.cell? ⟨g, 5, none⟩ = some (.int .i64 c1.keep.view)) (first | exact ⟨e9, d4, y5⟩ | exact ⟨k0, k4, k5⟩ | go_keep)
      ((go_at_call 60; refine HLd.out.mono ?_; rintro e wL ⟨rfl, hbL⟩; have k0 := cell_thru e9 ((Below.refl _ _).drew.trans hbL); have k4 := cell_thru d4 ((Below.refl _ _).drew.trans hbL); have k5 := cell_thru y5 ((Below.refl _ _).drew.trans hbL)))
    have h10 := H9.out.below ((Below.refl _ _).drew.trans hbL)
    have f10 := F9.out.trans (Fr.of_below ((Below.refl _ _).drew.trans hbL))
    obtain ⟨w10, hw10⟩ : ∃ x, x = wL := ⟨_, rfl⟩
    rw [← hw10] at h10 f10 ⊢
    clear hw10 hbL k0 k4 k5 e9 d4 y5 HLd F9 H9
    cases b2 with
    | false =>
      have T10 : RowKit.Hid (VwTo M99 w2 w10 g c1) := Lib.hid ⟨M9, ⟨L9, h10⟩, f10⟩
      have e10 : True := trivial
      clear h10 f10
      obtain ⟨wX, hwX⟩ : ∃ x, x = w10 := ⟨_, rfl⟩
      obtain ⟨cX, hcX⟩ : ∃ x, x = c1 := ⟨_, rfl⟩
      have TX : RowKit.Hid (VwTo M99 w2 wX g cX) := Lib.hid (by rw [hwX, hcX]; exact T10.out)
      have HEq : RowKit.Hid (c.in_ m = cX) := Lib.hid (by rw [hcX, HE0.out]; exact HN.out (by simp))
      rw [← hwX]
      clear hwX hcX e10
      obtain ⟨MX, hX, fX⟩ := TX.out
      have hT7 := vw_take (M := MX) wX hX
      have FX := Lib.hid fX
      have HT7 := Lib.hid hT7
      clear hX fX hT7
      go_wp2_with fail
      refine HT7.out.mono ?_
      rintro e w7 ⟨v1, v2, v3, rfl, t7⟩
      obtain ⟨s1, n1, p1, s2, n2, p2, s3, n3, p3, rfl, rfl, rfl⟩ := t7.slices
      have hp7 : w7.heap[p]? = some (.cells #[.slice none 0 0, .slice none 0 0, .slice none 0 0] 107 (0, 0)) := by obtain ⟨M7, _, f7, _⟩ := t7; exact (HBox.out _ _ (FX.out.trans f7)).2.1
      have qq0 : w7.cell? ⟨p, 0, none⟩ = some (.slice none 0 0) := by simp [World.cell?, hp7]
      have qq1 : w7.cell? ⟨p, 1, none⟩ = some (.slice none 0 0) := by simp [World.cell?, hp7]
      have qq2 : w7.cell? ⟨p, 2, none⟩ = some (.slice none 0 0) := by simp [World.cell?, hp7]
      have qf : ∀ o, w7.frozen? ⟨p, o, none⟩ = false := fun o => by simp [World.frozen?, hp7]
      have HW7 : RowKit.Hid (∀ W, W = (((w7.setCell ⟨p, 0, none⟩ (.slice s1 n1 p1)).setCell ⟨p, 1, none⟩ (.slice s2 n2 p2)).setCell ⟨p, 2, none⟩ (.slice s3 n3 p3)) → W.heap[p]? = some (.cells #[.slice s1 n1 p1, .slice s2 n2 p2, .slice s3 n3 p3] 107 (0, 0)) ∧ InTo M w W g (c.in_ m) (.returned (.agg #[.slice s1 n1 p1, .slice s2 n2 p2, .slice s3 n3 p3]))) := Lib.hid (by
        rintro W rfl
        refine ⟨by rw [heap_set (heap_set (heap_set hp7 0 _) 1 _) 2 _]; rfl, _, _, _, _, _, _, _, _, _, rfl, ?_⟩
        rw [HEq.out]
        exact Hfin.out _ _ _ _ (TakeTo.trans FX.out t7) (setg (S := (· = p)) (setg (S := (· = p)) (setg (S := (· = p)) (Only.refl _ w7) rfl 0 (.slice s1 n1 p1)) rfl 1 (.slice s2 n2 p2)) rfl 2 (.slice s3 n3 p3)))
      clear t7 hp7
      go_wp2_with fail
      obtain ⟨g1, g2⟩ := HW7.out _ rfl
      refine bodyPost_ret (v := .agg #[.slice s1 n1 p1, .slice s2 n2 p2, .slice s3 n3 p3]) (results_cell_row Try.results102 _ _ p 107 _ (0, 0) _ rfl g1 Try.underlying107 rfl (by kernel_rfl)) rfl ?_
      exact g2
    | true =>
      have hr := h10.right
      obtain ⟨bq, _, _, _⟩ := HBox.out _ _ f10
      obtain ⟨kn, hkn⟩ : ∃ kn, kn = c1.keep.log.length := ⟨_, rfl⟩
      have d1 : w10.cell? ⟨q, 1, none⟩ = some (.int .i64 m.frm) := by simp [World.cell?, bq]
      have d6 : w10.cell? ⟨q, 6, none⟩ = some (.int .i64 m.at_) := by simp [World.cell?, bq]
      have y7 : w10.cell? ⟨g, 7, none⟩ = some (.slice L9.la kn L9.lc) := by rw [hkn]; exact h10.c7
      have y11 : w10.cell? ⟨g, 11, none⟩ = some (.map (some L9.hb)) := h10.c11
      have hn1 : 1 ≤ m.frm ∧ m.frm ≤ c1.n := ⟨hfr.1, by rw [HR.out.n]; exact hfr.2⟩
      have hn7 := hr.n.2
      have hlk := has_look h10 m.frm ⟨hn1.1, by omega⟩ w10.drew rfl
      obtain ⟨x, hx⟩ : ∃ x, min m.at_ (kn : Int) = x := ⟨_, rfl⟩
      obtain ⟨v, hv⟩ : ∃ v, max (c1.has m.frm) x = v := ⟨_, rfl⟩
      have hkn2 : kn ≤ 2000 := by rw [hkn]; exact hr.log.1
      have hhv := hr.has m.frm
      have hv2 : 0 ≤ v ∧ v ≤ 2000 := by omega
      obtain ⟨w12, hup, h12, f12, _⟩ := has_put h10.drew m.frm v hn1 hv2
      have hw : c1.inD m ld = ({ c1 with has := fun z => if z = m.frm then v else c1.has z } : Vw.Core).count := by
        unfold Vw.Core.inD
        rw [if_neg (by rw [Hkk.out]; decide), if_neg (by rw [Hkk.out]; rintro ⟨h, _⟩; cases h), if_neg (by rw [Hkk.out]; rintro ⟨h, _⟩; cases h), if_neg (by rw [Hkk.out]; rintro ⟨h, _⟩; cases h), if_pos ⟨Hkk.out, by simpa using Hb1.out, Hb2.out⟩]
        congr 2
        funext z
        by_cases hz : z = m.frm
        · simp only [if_pos hz]; rw [hz, ← hkn, hx, hv]
        · simp only [if_neg hz]
      have f13 := f10.drew.trans f12
      obtain ⟨bq2, _, _, _⟩ := HBox.out _ _ f13
      have j1 : w12.cell? ⟨q, 1, none⟩ = some (.int .i64 m.frm) := by simp [World.cell?, bq2]
      have j6 : w12.cell? ⟨q, 6, none⟩ = some (.int .i64 m.at_) := by simp [World.cell?, bq2]
      have j7 : w12.cell? ⟨g, 7, none⟩ = some (.slice L9.la kn L9.lc) := by rw [hkn]; exact h12.c7
      have j11 : w12.cell? ⟨g, 11, none⟩ = some (.map (some L9.hb)) := h12.c11
      have hCo := vw_count w12 ⟨L9, h12⟩ (by show c1.done.length ≤ 1000000; have := HR.out.done; have := Hl.out; omega)
      obtain ⟨cX, hcX⟩ : ∃ cX, cX = ({ c1 with has := fun z => if z = m.frm then v else c1.has z } : Vw.Core).count := ⟨_, rfl⟩
      rw [← hcX] at hw hCo
      have HEq : RowKit.Hid (c.in_ m = cX) := Lib.hid (by rw [HE0.out]; exact hw)
      have HCo := Lib.hid hCo
      have F13 := Lib.hid f13
      clear hw hCo hcX f13 f12 h12 h10 f10 bq bq2 hkn hr hhv hv2 hn1 hn7
      go_wp2_with fail
      go_region_held3 (fun W => W.cell? ⟨g, 11, none⟩ = some (.map (some L9.hb)) ∧ W.cell? ⟨q, 1, none⟩ = some (.int .i64 m.frm) ∧ W.cell? ⟨q, 6, none⟩ = some (.int .i64 m.at_) ∧ W.cell? ⟨g, 7, none⟩ = some (.slice L9.la kn L9.lc)) (first | exact ⟨y11, d1, d6, y7⟩ | exact ⟨j11, j1, j6, j7⟩ | go_keep) (fail)
      all_goals
        clear y11 d1 d6 y7 j11 j1 j6 j7 hup hlk hx hv
        go_wp2_with fail
        refine HCo.out.mono ?_
        rintro e wX ⟨rfl, tX⟩
        have TX := Lib.hid (VwTo.trans F13.out tX)
        clear tX HCo
        obtain ⟨MX, hX, fX⟩ := TX.out
        have hT7 := vw_take (M := MX) wX hX
        have FX := Lib.hid fX
        have HT7 := Lib.hid hT7
        clear hX fX hT7
        go_wp2_with fail
        refine HT7.out.mono ?_
        rintro e w7 ⟨v1, v2, v3, rfl, t7⟩
        obtain ⟨s1, n1, p1, s2, n2, p2, s3, n3, p3, rfl, rfl, rfl⟩ := t7.slices
        have hp7 : w7.heap[p]? = some (.cells #[.slice none 0 0, .slice none 0 0, .slice none 0 0] 107 (0, 0)) := by obtain ⟨M7, _, f7, _⟩ := t7; exact (HBox.out _ _ (FX.out.trans f7)).2.1
        have qq0 : w7.cell? ⟨p, 0, none⟩ = some (.slice none 0 0) := by simp [World.cell?, hp7]
        have qq1 : w7.cell? ⟨p, 1, none⟩ = some (.slice none 0 0) := by simp [World.cell?, hp7]
        have qq2 : w7.cell? ⟨p, 2, none⟩ = some (.slice none 0 0) := by simp [World.cell?, hp7]
        have qf : ∀ o, w7.frozen? ⟨p, o, none⟩ = false := fun o => by simp [World.frozen?, hp7]
        have HW7 : RowKit.Hid (∀ W, W = (((w7.setCell ⟨p, 0, none⟩ (.slice s1 n1 p1)).setCell ⟨p, 1, none⟩ (.slice s2 n2 p2)).setCell ⟨p, 2, none⟩ (.slice s3 n3 p3)) → W.heap[p]? = some (.cells #[.slice s1 n1 p1, .slice s2 n2 p2, .slice s3 n3 p3] 107 (0, 0)) ∧ InTo M w W g (c.in_ m) (.returned (.agg #[.slice s1 n1 p1, .slice s2 n2 p2, .slice s3 n3 p3]))) := Lib.hid (by
          rintro W rfl
          refine ⟨by rw [heap_set (heap_set (heap_set hp7 0 _) 1 _) 2 _]; rfl, _, _, _, _, _, _, _, _, _, rfl, ?_⟩
          rw [HEq.out]
          exact Hfin.out _ _ _ _ (TakeTo.trans FX.out t7) (setg (S := (· = p)) (setg (S := (· = p)) (setg (S := (· = p)) (Only.refl _ w7) rfl 0 (.slice s1 n1 p1)) rfl 1 (.slice s2 n2 p2)) rfl 2 (.slice s3 n3 p3)))
        clear t7 hp7
        go_wp2_with fail
        obtain ⟨g1, g2⟩ := HW7.out _ rfl
        refine bodyPost_ret (v := .agg #[.slice s1 n1 p1, .slice s2 n2 p2, .slice s3 n3 p3]) (results_cell_row Try.results102 _ _ p 107 _ (0, 0) _ rfl g1 Try.underlying107 rfl (by kernel_rfl)) rfl ?_
        exact g2
end Go.Proofs.Ytmmgnbdngpkfcaa

namespace Go.Proofs.Ytmmgnbdngpkfcaa
open Go.RowKit
set_option linter.unusedVariables false

set_option maxRecDepth 1000000 in
set_option maxHeartbeats 0 in
theorem vw_In_t4 (w : World) (M M99 : Col) (w2 : World) (g q p : Nat) (c : Vw.Core) (m : Vw.Msg) (ld : Int) (la : Option Addr) (mn lc : Nat) (da : Option Addr) (md dc : Nat)
    (HBox : RowKit.Hid (∀ (M' : Col) (W : World), Fr M99 w2 M' W → (W.heap[q]? = some (.cells #[.int .i64 m.kind, .int .i64 m.frm, .int .i64 m.to_, .int .i64 m.shard, .int .i64 m.view, .int .i64 m.normal, .int .i64 m.at_, .int .i64 m.commit, .int .i64 m.id, .int .i64 m.err, .slice la mn lc, .slice da md dc] 89 (0, 0))) ∧ (W.heap[p]? = some (.cells #[.slice none 0 0, .slice none 0 0, .slice none 0 0] 107 (0, 0))) ∧ Sl EBytes (Im M') W la m.list ∧ EMsg.rep (Im M') W (msgRow m (.slice la mn lc) (.slice da md dc)) m))
    (Hfin : RowKit.Hid (∀ (w7 W : World) (c' : Vw.Core) (v : Value), TakeTo M99 w2 w7 g c' v → Only (· = p) w7 W → TakeTo M w W g c' v))
    (Hh : RowKit.Hid (Vw.InOk c m)) (Hk : RowKit.Hid (1 ≤ m.kind ∧ m.kind ≤ 5)) (Hl : RowKit.Hid (c.recs.length ≤ 30000 ∧ c.msgs.length ≤ 30000 ∧ c.done.length ≤ 30000)) (Hld : RowKit.Hid (ld = Vw.lead m.view c.n)) (Hmn : RowKit.Hid (mn = m.list.length ∧ mn ≤ lc ∧ lc ≤ maxLen))
    (hk : m.kind = 4) (c1 : Vw.Core) (w6 : World) (T6 : RowKit.Hid (VwTo M99 w2 w6 g c1)) (HE0 : RowKit.Hid (c.in_ m = c1.inD m ld)) (HR : RowKit.Hid (Vw.Rest c c1 6020)) {u1 u2 u6 u7 u8 u9 aA aB aC aD aE aF aG aH aI aJ aK aL aM aN aO aP aQ aR aS aT aU aV aW aX aY aZ bA bB bC bD bE bF bG bH bI bJ bK bL bM bN bO bP bQ bR bS bT bU bV bW bX bY bZ cA cB cC cD cE cF cG cH cI cJ cK cL cM cN cO cP cQ cR cS cT cU cV cW cY cZ dA dB dC dD dE dF dG dH dI dJ dK dL dM dN dO dP dQ dR dS dT dU dV dW dX dY dZ eA eB eC eD eE eF eG eH eI eJ eK eL eM eN eO eP eQ eR eS eT eU eV eW eX eY eZ fA fB fC fD fE fF fG fH fI fJ fK fL fM fN fO fP fQ fR fS fT fU fV fW fY fZ gA gB gC gD gE gF gG gH gI gJ gK gL gM gN gO gP gQ gR gS gT gU gV gW gX gY gZ hA hB hC hD hE hF hG hH hI hJ hK hL hM hN hO hP hQ hR hS hT hU hV hW hY hZ iA iB iC iD iE iF iG iH iI iJ iK iL iM iN iO iP iQ iR iS iT iU iV iW iX iY iZ jA jB jC jD jE jF jG jH jI jJ jK jL jM jN jO jP jQ jR jS jT jU jV jW jX jY jZ kA kB kC kD kE kF kG kH kI kJ kK kL kM kN kO kP kQ kR kS kT kU kV kW kX kY kZ lA lB lC lD lE lF lG lH lI lJ lK lL lM lN lO lP lQ lR : Value} :
    Code.wp Try.prog inTail (bodyPost Try.prog Try.f102 fun e w' => InTo M w w' g (c.in_ m) e) ⟨#[.pointer (some ⟨g, 0, none⟩), u1, u2, .pointer (some ⟨q, 0, none⟩), .pointer (some ⟨p, 0, none⟩), .int .i64 ld, u6, u7, u8, u9, aA, aB, aC, aD, aE, aF, aG, aH, aI, aJ, aK, aL, aM, aN, aO, aP, aQ, aR, aS, aT, aU, aV, aW, aX, aY, aZ, bA, bB, bC, bD, bE, bF, bG, bH, bI, bJ, bK, bL, bM, bN, bO, bP, bQ, bR, bS, bT, bU, bV, bW, bX, bY, bZ, cA, cB, cC, cD, cE, cF, cG, cH, cI, cJ, cK, cL, cM, cN, cO, cP, cQ, cR, cS, cT, cU, cV, cW, cY, cZ, dA, dB, dC, dD, dE, dF, dG, dH, dI, dJ, dK, dL, dM, dN, dO, dP, dQ, dR, dS, dT, dU, dV, dW, dX, dY, dZ, eA, eB, eC, eD, eE, eF, eG, eH, eI, eJ, eK, eL, eM, eN, eO, eP, eQ, eR, eS, eT, eU, eV, eW, eX, eY, eZ, fA, fB, fC, fD, fE, fF, fG, fH, fI, fJ, fK, fL, fM, fN, fO, fP, fQ, fR, fS, fT, fU, fV, fW, fY, fZ, gA, gB, gC, gD, gE, gF, gG, gH, gI, gJ, gK, gL, gM, gN, gO, gP, gQ, gR, gS, gT, gU, gV, gW, gX, gY, gZ, hA, hB, hC, hD, hE, hF, hG, hH, hI, hJ, hK, hL, hM, hN, hO, hP, hQ, hR, hS, hT, hU, hV, hW, hY, hZ, iA, iB, iC, iD, iE, iF, iG, iH, iI, iJ, iK, iL, iM, iN, iO, iP, iQ, iR, iS, iT, iU, iV, iW, iX, iY, iZ, jA, jB, jC, jD, jE, jF, jG, jH, jI, jJ, jK, jL, jM, jN, jO, jP, jQ, jR, jS, jT, jU, jV, jW, jX, jY, jZ, kA, kB, kC, kD, kE, kF, kG, kH, kI, kJ, kK, kL, kM, kN, kO, kP, kQ, kR, kS, kT, kU, kV, kW, kX, kY, kZ, lA, lB, lC, lD, lE, lF, lG, lH, lI, lJ, lK, lL, lM, lN, lO, lP, lQ, lR], []⟩ w6 := by
  have Hkk := Lib.hid hk
  obtain ⟨M6, ⟨L, h6⟩, f6⟩ := T6.out
  obtain ⟨bq, _, _, _⟩ := HBox.out _ _ f6
  rw [hk] at bq
  have e0 : w6.cell? ⟨q, 0, none⟩ = some (.int .i64 4) := by simp [World.cell?, bq]
  clear hk
  conv => arg 2; whnf
  have y5 : w6.cell? ⟨g, 5, none⟩ = some (.int .i64 c1.keep.view) := h6.c5
  have e4 : w6.cell? ⟨q, 4, none⟩ = some (.int .i64 m.view) := by simp [World.cell?, bq]
  have y8 : w6.cell? ⟨g, 8, none⟩ = some (.bool c1.ch) := h6.c8
  have y0 : w6.cell? ⟨g, 0, none⟩ = some (.int .i64 c1.me) := h6.c0
  have e6 := e0
  obtain ⟨b1, hb1⟩ : ∃ b, (m.view == c1.keep.view) = b := ⟨_, rfl⟩
  obtain ⟨b2, hb2⟩ : ∃ b, c1.ch = b := ⟨_, rfl⟩
  obtain ⟨b3, hb3⟩ : ∃ b, (ld == c1.me) = b := ⟨_, rfl⟩
  have Hb1 := Lib.hid hb1
  have Hb2 := Lib.hid hb2
  have Hb3 := Lib.hid hb3
  rw [hb2] at y8
  have e31 : ((4 : Int) == 3) = false := by decide
  by_cases hall : b1 = true ∧ b2 = true ∧ b3 = true
  · obtain ⟨rfl, rfl, rfl⟩ := hall
    obtain ⟨_, _, _, hm6⟩ := HBox.out _ _ f6
    have hms' := EMsg.mono hm6 (ok' := Im M6) (w' := w6.drew.drew) fun k hk _ => ⟨rfl, hk⟩
    obtain ⟨w9, hup, h9, f9, _⟩ := dos_put h6.drew.drew m.frm ⟨Hh.out.frm.1, by rw [HR.out.n]; exact Hh.out.frm.2⟩ m _ hms' Hh.out.small
    simp only [msgRow, List.toArray] at hup
    rw [Hkk.out] at hup
    have hw : c1.inD m ld = ({ c1 with dos := fun x => if x = m.frm then some m else c1.dos x } : Vw.Core).begin_ := by
      unfold Vw.Core.inD
      rw [if_neg (by rw [Hkk.out]; decide), if_pos ⟨Hkk.out, by simpa using Hb1.out, Hb2.out, by simpa using Hb3.out⟩]
    have hz6 : q < w6.heap.size := (Array.getElem?_eq_some_iff.1 bq).1
    have hhd6 : w9.heap[q]? = _ := ((HBox.out _ _ (f6.drew.drew.trans f9)).1)
    rw [Hkk.out] at hhd6
    have m0 : w6.cell? ⟨q, 0, none⟩ = some (.int .i64 4) := by simp [World.cell?, bq]
    have m1 : w6.cell? ⟨q, 1, none⟩ = some (.int .i64 m.frm) := by simp [World.cell?, bq]
    have m2 : w6.cell? ⟨q, 2, none⟩ = some (.int .i64 m.to_) := by simp [World.cell?, bq]
    have m3 : w6.cell? ⟨q, 3, none⟩ = some (.int .i64 m.shard) := by simp [World.cell?, bq]
    have m4 : w6.cell? ⟨q, 4, none⟩ = some (.int .i64 m.view) := by simp [World.cell?, bq]
    have m5 : w6.cell? ⟨q, 5, none⟩ = some (.int .i64 m.normal) := by simp [World.cell?, bq]
    have m6 : w6.cell? ⟨q, 6, none⟩ = some (.int .i64 m.at_) := by simp [World.cell?, bq]
    have m7 : w6.cell? ⟨q, 7, none⟩ = some (.int .i64 m.commit) := by simp [World.cell?, bq]
    have m8 : w6.cell? ⟨q, 8, none⟩ = some (.int .i64 m.id) := by simp [World.cell?, bq]
    have m9 : w6.cell? ⟨q, 9, none⟩ = some (.int .i64 m.err) := by simp [World.cell?, bq]
    have m10 : w6.cell? ⟨q, 10, none⟩ = some (.slice la mn lc) := by simp [World.cell?, bq]
    have m11 : w6.cell? ⟨q, 11, none⟩ = some (.slice da md dc) := by simp [World.cell?, bq]
    have n0 : w9.cell? ⟨q, 0, none⟩ = some (.int .i64 4) := by simp [World.cell?, hhd6]
    have n1 : w9.cell? ⟨q, 1, none⟩ = some (.int .i64 m.frm) := by simp [World.cell?, hhd6]
    have n2 : w9.cell? ⟨q, 2, none⟩ = some (.int .i64 m.to_) := by simp [World.cell?, hhd6]
    have n3 : w9.cell? ⟨q, 3, none⟩ = some (.int .i64 m.shard) := by simp [World.cell?, hhd6]
    have n4 : w9.cell? ⟨q, 4, none⟩ = some (.int .i64 m.view) := by simp [World.cell?, hhd6]
    have n5 : w9.cell? ⟨q, 5, none⟩ = some (.int .i64 m.normal) := by simp [World.cell?, hhd6]
    have n6 : w9.cell? ⟨q, 6, none⟩ = some (.int .i64 m.at_) := by simp [World.cell?, hhd6]
    have n7 : w9.cell? ⟨q, 7, none⟩ = some (.int .i64 m.commit) := by simp [World.cell?, hhd6]
    have n8 : w9.cell? ⟨q, 8, none⟩ = some (.int .i64 m.id) := by simp [World.cell?, hhd6]
    have n9 : w9.cell? ⟨q, 9, none⟩ = some (.int .i64 m.err) := by simp [World.cell?, hhd6]
    have n10 : w9.cell? ⟨q, 10, none⟩ = some (.slice la mn lc) := by simp [World.cell?, hhd6]
    have n11 : w9.cell? ⟨q, 11, none⟩ = some (.slice da md dc) := by simp [World.cell?, hhd6]
    have i13 : w6.cell? ⟨g, 13, none⟩ = some (.map (some L.db)) := h6.c13
    have j13 : w9.cell? ⟨g, 13, none⟩ = some (.map (some L.db)) := h9.c13
    have hBg := vw_begin w9 ⟨L, h9⟩ (by show c1.recs.length ≤ 50000; have := HR.out.recs; have := Hl.out; omega) (by show c1.msgs.length ≤ 50000; have := HR.out.msgs; have := Hl.out; omega) (by show c1.done.length ≤ 50000; have := HR.out.done; have := Hl.out; omega)
    obtain ⟨cX, hcX⟩ : ∃ cX, cX = ({ c1 with dos := fun x => if x = m.frm then some m else c1.dos x } : Vw.Core).begin_ := ⟨_, rfl⟩
    rw [← hcX] at hw hBg
    have HEq : RowKit.Hid (c.in_ m = cX) := Lib.hid (by rw [HE0.out]; exact hw)
    have HBg := Lib.hid hBg
    have F9 := Lib.hid (f6.drew.drew.trans f9)
    clear hw hz6 hhd6 hBg hcX h9 f9 h6 f6 hms' hm6 bq
    go_wp2_with fail
    go_region_held3 (fun W => W.cell? ⟨q, 0, none⟩ = some (.int .i64 4) ∧ W.cell? ⟨q, 4, none⟩ = some (.int .i64 m.view) ∧ W.cell? ⟨g, 5, none⟩ = some (.int .i64 c1.keep.view) ∧ W.cell? ⟨g, 8, none⟩ = some (.bool true) ∧ W.cell? ⟨g, 0, none⟩ = some (.int .i64 c1.me)) (first | exact ⟨e0, e4, y5, y8, y0⟩ | go_keep) (fail)
    go_wp2_with fail
    go_region_held3 (fun W => W.cell? ⟨g, 13, none⟩ = some (.map (some L.db)) ∧ W.cell? ⟨q, 0, none⟩ = some (.int .i64 4) ∧ W.cell? ⟨q, 1, none⟩ = some (.int .i64 m.frm) ∧ W.cell? ⟨q, 2, none⟩ = some (.int .i64 m.to_) ∧ W.cell? ⟨q, 3, none⟩ = some (.int .i64 m.shard) ∧ W.cell? ⟨q, 4, none⟩ = some (.int .i64 m.view) ∧ W.cell? ⟨q, 5, none⟩ = some (.int .i64 m.normal) ∧ W.cell? ⟨q, 6, none⟩ = some (.int .i64 m.at_) ∧ W.cell? ⟨q, 7, none⟩ = some (.int .i64 m.commit) ∧ W.cell? ⟨q, 8, none⟩ = some (.int .i64 m.id) ∧ W.cell? ⟨q, 9, none⟩ = some (.int .i64 m.err) ∧ W.cell? ⟨q, 10, none⟩ = some (.slice la mn lc) ∧ W.cell? ⟨q, 11, none⟩ = some (.slice da md dc))
      (first | exact ⟨i13, m0, m1, m2, m3, m4, m5, m6, m7, m8, m9, m10, m11⟩ | exact ⟨j13, n0, n1, n2, n3, n4, n5, n6, n7, n8, n9, n10, n11⟩ | go_keep) (fail)
    all_goals
      clear i13 m0 m1 m2 m3 m4 m5 m6 m7 m8 m9 m10 m11 n0 n1 n2 n3 n4 n5 n6 n7 n8 n9 n10 n11 j13 hup e0 e4 e6 y5 y8 y0
      go_wp2_with fail
      refine HBg.out.mono ?_
      rintro e wX ⟨rfl, tX⟩
      have TX := Lib.hid (VwTo.trans F9.out tX)
      clear tX HBg
      obtain ⟨MX, hX, fX⟩ := TX.out
      have hT7 := vw_take (M := MX) wX hX
      have FX := Lib.hid fX
      have HT7 := Lib.hid hT7
      clear hX fX hT7
      go_wp2_with fail
      refine HT7.out.mono ?_
      rintro e w7 ⟨v1, v2, v3, rfl, t7⟩
      obtain ⟨s1, n1, p1, s2, n2, p2, s3, n3, p3, rfl, rfl, rfl⟩ := t7.slices
      have hp7 : w7.heap[p]? = some (.cells #[.slice none 0 0, .slice none 0 0, .slice none 0 0] 107 (0, 0)) := by obtain ⟨M7, _, f7, _⟩ := t7; exact (HBox.out _ _ (FX.out.trans f7)).2.1
      have qq0 : w7.cell? ⟨p, 0, none⟩ = some (.slice none 0 0) := by simp [World.cell?, hp7]
      have qq1 : w7.cell? ⟨p, 1, none⟩ = some (.slice none 0 0) := by simp [World.cell?, hp7]
      have qq2 : w7.cell? ⟨p, 2, none⟩ = some (.slice none 0 0) := by simp [World.cell?, hp7]
      have qf : ∀ o, w7.frozen? ⟨p, o, none⟩ = false := fun o => by simp [World.frozen?, hp7]
      have HW7 : RowKit.Hid (∀ W, W = (((w7.setCell ⟨p, 0, none⟩ (.slice s1 n1 p1)).setCell ⟨p, 1, none⟩ (.slice s2 n2 p2)).setCell ⟨p, 2, none⟩ (.slice s3 n3 p3)) → W.heap[p]? = some (.cells #[.slice s1 n1 p1, .slice s2 n2 p2, .slice s3 n3 p3] 107 (0, 0)) ∧ InTo M w W g (c.in_ m) (.returned (.agg #[.slice s1 n1 p1, .slice s2 n2 p2, .slice s3 n3 p3]))) := Lib.hid (by
        rintro W rfl
        refine ⟨by rw [heap_set (heap_set (heap_set hp7 0 _) 1 _) 2 _]; rfl, _, _, _, _, _, _, _, _, _, rfl, ?_⟩
        rw [HEq.out]
        exact Hfin.out _ _ _ _ (TakeTo.trans FX.out t7) (setg (S := (· = p)) (setg (S := (· = p)) (setg (S := (· = p)) (Only.refl _ w7) rfl 0 (.slice s1 n1 p1)) rfl 1 (.slice s2 n2 p2)) rfl 2 (.slice s3 n3 p3)))
      clear t7 hp7
      go_wp2_with fail
      obtain ⟨g1, g2⟩ := HW7.out _ rfl
      refine bodyPost_ret (v := .agg #[.slice s1 n1 p1, .slice s2 n2 p2, .slice s3 n3 p3]) (results_cell_row Try.results102 _ _ p 107 _ (0, 0) _ rfl g1 Try.underlying107 rfl (by kernel_rfl)) rfl ?_
      exact g2
  · have hno : b1 = false ∨ (b1 = true ∧ b2 = false) ∨ (b1 = true ∧ b2 = true ∧ b3 = false) := by
      cases b1 <;> cases b2 <;> cases b3 <;> simp_all
    have HN : RowKit.Hid (c1.inD m ld = c1) := Lib.hid (by
      unfold Vw.Core.inD
      rw [if_neg (by rw [Hkk.out]; decide), if_neg, if_neg (by rw [Hkk.out]; rintro ⟨h, _⟩; cases h), if_neg (by rw [Hkk.out]; rintro ⟨h, _⟩; cases h), if_neg (by rw [Hkk.out]; rintro ⟨h, _⟩; cases h)]
      rintro ⟨_, h1, h2, h3⟩
      apply hall
      rw [← Hb1.out, ← Hb2.out, ← Hb3.out]
      exact ⟨by simpa using h1, h2, by simpa using h3⟩)
    clear hall h6 f6 bq
    rcases hno with rfl | ⟨rfl, rfl⟩ | ⟨rfl, rfl, rfl⟩
    all_goals
      go_wp2_with fail
      go_quiet (fail)
      obtain ⟨w7, hw7⟩ : ∃ x, x = w6.drewN nq := ⟨_, rfl⟩
      have T7 : RowKit.Hid (VwTo M99 w2 w7 g c1) := Lib.hid (by rw [hw7]; exact T6.out.drewN nq)
      rw [← hw7]
      clear hw7 e6
      have e7 : w7.cell? ⟨q, 0, none⟩ = some (.int .i64 4) := by
        obtain ⟨_, _, fx⟩ := T7.out
        have bx := (HBox.out _ _ fx).1
        rw [Hkk.out] at bx
        simp [World.cell?, bx]
      go_wp2_with fail
      go_quiet (fail)
      obtain ⟨w8, hw8⟩ : ∃ x, x = w7.drewN nq := ⟨_, rfl⟩
      have T8 : RowKit.Hid (VwTo M99 w2 w8 g c1) := Lib.hid (by rw [hw8]; exact T7.out.drewN nq)
      rw [← hw8]
      clear hw8 e7
      have e8 : w8.cell? ⟨q, 0, none⟩ = some (.int .i64 4) := by
        obtain ⟨_, _, fx⟩ := T8.out
        have bx := (HBox.out _ _ fx).1
        rw [Hkk.out] at bx
        simp [World.cell?, bx]
      go_wp2_with fail
      go_quiet (fail)
      obtain ⟨w9, hw9⟩ : ∃ x, x = w8.drewN nq := ⟨_, rfl⟩
      have T9 : RowKit.Hid (VwTo M99 w2 w9 g c1) := Lib.hid (by rw [hw9]; exact T8.out.drewN nq)
      rw [← hw9]
      clear hw9 e8
      have e9 : w9.cell? ⟨q, 0, none⟩ = some (.int .i64 4) := by
        obtain ⟨_, _, fx⟩ := T9.out
        have bx := (HBox.out _ _ fx).1
        rw [Hkk.out] at bx
        simp [World.cell?, bx]
      go_wp2_with fail
      go_quiet (fail)
      obtain ⟨w10, hw10⟩ : ∃ x, x = w9.drewN nq := ⟨_, rfl⟩
      have T10 : RowKit.Hid (VwTo M99 w2 w10 g c1) := Lib.hid (by rw [hw10]; exact T9.out.drewN nq)
      rw [← hw10]
      clear hw10 e9
      have e10 : w10.cell? ⟨q, 0, none⟩ = some (.int .i64 4) := by
        obtain ⟨_, _, fx⟩ := T10.out
        have bx := (HBox.out _ _ fx).1
        rw [Hkk.out] at bx
        simp [World.cell?, bx]
      obtain ⟨wX, hwX⟩ : ∃ x, x = w10 := ⟨_, rfl⟩
      obtain ⟨cX, hcX⟩ : ∃ x, x = c1 := ⟨_, rfl⟩
      have TX : RowKit.Hid (VwTo M99 w2 wX g cX) := Lib.hid (by rw [hwX, hcX]; exact T10.out)
      have HEq : RowKit.Hid (c.in_ m = cX) := Lib.hid (by rw [hcX, HE0.out]; exact HN.out)
      rw [← hwX]
      clear hwX hcX e10
      obtain ⟨MX, hX, fX⟩ := TX.out
      have hT7 := vw_take (M := MX) wX hX
      have FX := Lib.hid fX
      have HT7 := Lib.hid hT7
      clear hX fX hT7
      go_wp2_with fail
      refine HT7.out.mono ?_
      rintro e w7 ⟨v1, v2, v3, rfl, t7⟩
      obtain ⟨s1, n1, p1, s2, n2, p2, s3, n3, p3, rfl, rfl, rfl⟩ := t7.slices
      have hp7 : w7.heap[p]? = some (.cells #[.slice none 0 0, .slice none 0 0, .slice none 0 0] 107 (0, 0)) := by obtain ⟨M7, _, f7, _⟩ := t7; exact (HBox.out _ _ (FX.out.trans f7)).2.1
      have qq0 : w7.cell? ⟨p, 0, none⟩ = some (.slice none 0 0) := by simp [World.cell?, hp7]
      have qq1 : w7.cell? ⟨p, 1, none⟩ = some (.slice none 0 0) := by simp [World.cell?, hp7]
      have qq2 : w7.cell? ⟨p, 2, none⟩ = some (.slice none 0 0) := by simp [World.cell?, hp7]
      have qf : ∀ o, w7.frozen? ⟨p, o, none⟩ = false := fun o => by simp [World.frozen?, hp7]
      have HW7 : RowKit.Hid (∀ W, W = (((w7.setCell ⟨p, 0, none⟩ (.slice s1 n1 p1)).setCell ⟨p, 1, none⟩ (.slice s2 n2 p2)).setCell ⟨p, 2, none⟩ (.slice s3 n3 p3)) → W.heap[p]? = some (.cells #[.slice s1 n1 p1, .slice s2 n2 p2, .slice s3 n3 p3] 107 (0, 0)) ∧ InTo M w W g (c.in_ m) (.returned (.agg #[.slice s1 n1 p1, .slice s2 n2 p2, .slice s3 n3 p3]))) := Lib.hid (by
        rintro W rfl
        refine ⟨by rw [heap_set (heap_set (heap_set hp7 0 _) 1 _) 2 _]; rfl, _, _, _, _, _, _, _, _, _, rfl, ?_⟩
        rw [HEq.out]
        exact Hfin.out _ _ _ _ (TakeTo.trans FX.out t7) (setg (S := (· = p)) (setg (S := (· = p)) (setg (S := (· = p)) (Only.refl _ w7) rfl 0 (.slice s1 n1 p1)) rfl 1 (.slice s2 n2 p2)) rfl 2 (.slice s3 n3 p3)))
      clear t7 hp7
      go_wp2_with fail
      obtain ⟨g1, g2⟩ := HW7.out _ rfl
      refine bodyPost_ret (v := .agg #[.slice s1 n1 p1, .slice s2 n2 p2, .slice s3 n3 p3]) (results_cell_row Try.results102 _ _ p 107 _ (0, 0) _ rfl g1 Try.underlying107 rfl (by kernel_rfl)) rfl ?_
      exact g2
end Go.Proofs.Ytmmgnbdngpkfcaa

/-
  A member takes a message: entries.
  A member takes a message: a view is wanted.
  A member takes a message: another one leads.
-/
import Derived.Test.YtmmgnbdngpkfcaaVwCc
namespace Go.Proofs.Ytmmgnbdngpkfcaa
open Go.RowKit
set_option linter.unusedVariables false

set_option maxRecDepth 1000000 in
set_option maxHeartbeats 0 in
theorem vw_In_t1 (w : World) (M M99 : Col) (w2 : World) (g q p : Nat) (c : Vw.Core) (m : Vw.Msg) (ld : Int) (la : Option Addr) (mn lc : Nat) (da : Option Addr) (md dc : Nat)
    (HBox : RowKit.Hid (∀ (M' : Col) (W : World), Fr M99 w2 M' W → (W.heap[q]? = some (.cells #[.int .i64 m.kind, .int .i64 m.frm, .int .i64 m.to_, .int .i64 m.shard, .int .i64 m.view, .int .i64 m.normal, .int .i64 m.at_, .int .i64 m.commit, .int .i64 m.id, .int .i64 m.err, .slice la mn lc, .slice da md dc] 89 (0, 0))) ∧ (W.heap[p]? = some (.cells #[.slice none 0 0, .slice none 0 0, .slice none 0 0] 107 (0, 0))) ∧ Sl EBytes (Im M') W la m.list ∧ EMsg.rep (Im M') W (msgRow m (.slice la mn lc) (.slice da md dc)) m))
    (Hfin : RowKit.Hid (∀ (w7 W : World) (c' : Vw.Core) (v : Value), TakeTo M99 w2 w7 g c' v → Only (· = p) w7 W → TakeTo M w W g c' v))
    (Hh : RowKit.Hid (Vw.InOk c m)) (Hk : RowKit.Hid (1 ≤ m.kind ∧ m.kind ≤ 5)) (Hl : RowKit.Hid (c.recs.length ≤ 30000 ∧ c.msgs.length ≤ 30000 ∧ c.done.length ≤ 30000)) (Hld : RowKit.Hid (ld = Vw.lead m.view c.n)) (Hmn : RowKit.Hid (mn = m.list.length ∧ mn ≤ lc ∧ lc ≤ maxLen))
    (hk : m.kind = 1) (c1 : Vw.Core) (w6 : World) (T6 : RowKit.Hid (VwTo M99 w2 w6 g c1)) (HE0 : RowKit.Hid (c.in_ m = c1.inD m ld)) (HR : RowKit.Hid (Vw.Rest c c1 6020)) {u1 u2 u6 u7 u8 u9 aA aB aC aD aE aF aG aH aI aJ aK aL aM aN aO aP aQ aR aS aT aU aV aW aX aY aZ bA bB bC bD bE bF bG bH bI bJ bK bL bM bN bO bP bQ bR bS bT bU bV bW bX bY bZ cC cD cE cF cG cH cI cJ cK cL cM cN cO cP cQ cR cS cT cU cW cY cZ dA dB dC dD dE dF dG dH dI dJ dK dL dM dN dO dP dQ dR dS dT dU dV dW dX dY dZ eA eB eC eD eE eF eG eH eI eJ eK eL eM eN eO eP eQ eR eS eT eU eV eW eX eY eZ fC fD fE fF fG fH fI fJ fK fL fM fN fO fP fQ fR fS fT fU fV fW fY fZ gA gB gC gD gE gF gG gH gI gJ gK gL gM gN gO gP gQ gR gS gT gU gV gW gX gY gZ hE hF hG hH hI hJ hK hL hM hN hO hP hQ hR hT hU hV hW hY hZ iA iB iC iD iE iF iG iH iI iJ iK iL iM iN iO iP iQ iR iS iT iU iV iW iX iY iZ jA jB jC jD jE jF jG jH jI jJ jK jL jM jN jO jP jQ jR jS jT jU jV jW jX jY jZ kA kC kD kE kF kG kH kI kJ kK kL kM kN kO kP kQ kR kS kT kU kW kX kY kZ lA lB lC lD lE lF lG lH lI lJ lK lL lM lN lO lP lQ lR lS lT lU lV lW lX lY lZ mA mB mC mD : Value} :
    Code.wp Try.prog inTail (bodyPost Try.prog Try.f102 fun e w' => InTo M w w' g (c.in_ m) e) ⟨#[.pointer (some ⟨g, 0, none⟩), u1, u2, .pointer (some ⟨q, 0, none⟩), .pointer (some ⟨p, 0, none⟩), .int .i64 ld, u6, u7, u8, u9, aA, aB, aC, aD, aE, aF, aG, aH, aI, aJ, aK, aL, aM, aN, aO, aP, aQ, aR, aS, aT, aU, aV, aW, aX, aY, aZ, bA, bB, bC, bD, bE, bF, bG, bH, bI, bJ, bK, bL, bM, bN, bO, bP, bQ, bR, bS, bT, bU, bV, bW, bX, bY, bZ, cC, cD, cE, cF, cG, cH, cI, cJ, cK, cL, cM, cN, cO, cP, cQ, cR, cS, cT, cU, cW, cY, cZ, dA, dB, dC, dD, dE, dF, dG, dH, dI, dJ, dK, dL, dM, dN, dO, dP, dQ, dR, dS, dT, dU, dV, dW, dX, dY, dZ, eA, eB, eC, eD, eE, eF, eG, eH, eI, eJ, eK, eL, eM, eN, eO, eP, eQ, eR, eS, eT, eU, eV, eW, eX, eY, eZ, fC, fD, fE, fF, fG, fH, fI, fJ, fK, fL, fM, fN, fO, fP, fQ, fR, fS, fT, fU, fV, fW, fY, fZ, gA, gB, gC, gD, gE, gF, gG, gH, gI, gJ, gK, gL, gM, gN, gO, gP, gQ, gR, gS, gT, gU, gV, gW, gX, gY, gZ, hE, hF, hG, hH, hI, hJ, hK, hL, hM, hN, hO, hP, hQ, hR, hT, hU, hV, hW, hY, hZ, iA, iB, iC, iD, iE, iF, iG, iH, iI, iJ, iK, iL, iM, iN, iO, iP, iQ, iR, iS, iT, iU, iV, iW, iX, iY, iZ, jA, jB, jC, jD, jE, jF, jG, jH, jI, jJ, jK, jL, jM, jN, jO, jP, jQ, jR, jS, jT, jU, jV, jW, jX, jY, jZ, kA, kC, kD, kE, kF, kG, kH, kI, kJ, kK, kL, kM, kN, kO, kP, kQ, kR, kS, kT, kU, kW, kX, kY, kZ, lA, lB, lC, lD, lE, lF, lG, lH, lI, lJ, lK, lL, lM, lN, lO, lP, lQ, lR, lS, lT, lU, lV, lW, lX, lY, lZ, mA, mB, mC, mD], []⟩ w6 := by
  have Hkk := Lib.hid hk
  obtain ⟨M6, ⟨L, h6⟩, f6⟩ := T6.out
  obtain ⟨bq, _, _, _⟩ := HBox.out _ _ f6
  rw [hk] at bq
  have e0 : w6.cell? ⟨q, 0, none⟩ = some (.int .i64 1) := by simp [World.cell?, bq]
  clear hk
  conv => arg 2; whnf
  have e6 := e0
  obtain ⟨b1, hb1⟩ : ∃ b, (m.view == c1.keep.view) = b := ⟨_, rfl⟩
  obtain ⟨b2, hb2⟩ : ∃ b, c1.ch = b := ⟨_, rfl⟩
  obtain ⟨b3, hb3⟩ : ∃ b, (m.frm == ld) = b := ⟨_, rfl⟩
  have Hb1 := Lib.hid hb1
  have Hb2 := Lib.hid hb2
  have Hb3 := Lib.hid hb3
  have hat := Hh.out.at_
  clear bq h6 f6 e0
  go_wp2_with fail
  go_quiet (fail)
  obtain ⟨w7, hw7⟩ : ∃ x, x = w6.drewN nq := ⟨_, rfl⟩
  have T7 : RowKit.Hid (VwTo M99 w2 w7 g c1) := Lib.hid (by rw [hw7]; exact T6.out.drewN nq)
  rw [← hw7]
  clear hw7 e6
  have e7 : w7.cell? ⟨q, 0, none⟩ = some (.int .i64 1) := by
    obtain ⟨_, _, fx⟩ := T7.out
    have bx := (HBox.out _ _ fx).1
    rw [Hkk.out] at bx
    simp [World.cell?, bx]
  go_wp2_with fail
  go_quiet (fail)
  obtain ⟨w8, hw8⟩ : ∃ x, x = w7.drewN nq := ⟨_, rfl⟩
  have T8 : RowKit.Hid (VwTo M99 w2 w8 g c1) := Lib.hid (by rw [hw8]; exact T7.out.drewN nq)
  rw [← hw8]
  clear hw8 e7
  have e8 : w8.cell? ⟨q, 0, none⟩ = some (.int .i64 1) := by
    obtain ⟨_, _, fx⟩ := T8.out
    have bx := (HBox.out _ _ fx).1
    rw [Hkk.out] at bx
    simp [World.cell?, bx]
  go_wp2_with fail
  obtain ⟨M8, ⟨L8, h8⟩, f8⟩ := T8.out
  obtain ⟨bq, _, _, hm8⟩ := HBox.out _ _ f8
  rw [Hkk.out] at bq
  have y5 : w8.cell? ⟨g, 5, none⟩ = some (.int .i64 c1.keep.view) := h8.c5
  have d1 : w8.cell? ⟨q, 1, none⟩ = some (.int .i64 m.frm) := by simp [World.cell?, bq]
  have d4 : w8.cell? ⟨q, 4, none⟩ = some (.int .i64 m.view) := by simp [World.cell?, bq]
  have y8 : w8.cell? ⟨g, 8, none⟩ = some (.bool c1.ch) := h8.c8
  rw [hb2] at y8
  by_cases hall : b1 = true ∧ b2 = false ∧ b3 = true
  · obtain ⟨rfl, rfl, rfl⟩ := hall
    have hS := vw_prep w8.drew ⟨L8, h8.drew⟩ m _ (EMsg.mono hm8 (ok' := Im M8) (w' := w8.drew) fun k hk _ => ⟨rfl, hk⟩) hat.1 hat.2 Hh.out.small (by have := HR.out.recs; have := Hl.out; omega) (by have := HR.out.msgs; have := Hl.out; omega) (by have := HR.out.done; have := Hl.out; omega)
    simp only [msgRow, List.toArray] at hS
    rw [Hkk.out] at hS
    have HEq : RowKit.Hid (c.in_ m = c1.prep m) := Lib.hid (by rw [HE0.out]; unfold Vw.Core.inD; rw [if_neg (by rw [Hkk.out]; decide), if_neg (by rw [Hkk.out]; rintro ⟨h, _⟩; cases h), if_neg (by rw [Hkk.out]; rintro ⟨h, _⟩; cases h), if_pos ⟨Hkk.out, by simpa using Hb1.out, Hb2.out, by simpa using Hb3.out⟩])
    obtain ⟨cX, hcX⟩ : ∃ cX, cX = c1.prep m := ⟨_, rfl⟩
    rw [← hcX] at HEq hS
    have HS := Lib.hid hS
    have Hbq : RowKit.Hid (w8.drew.heap[q]? = some (.cells #[.int .i64 1, .int .i64 m.frm, .int .i64 m.to_, .int .i64 m.shard, .int .i64 m.view, .int .i64 m.normal, .int .i64 m.at_, .int .i64 m.commit, .int .i64 m.id, .int .i64 m.err, .slice la mn lc, .slice da md dc] 89 (0, 0))) := Lib.hid bq
    have F8 := Lib.hid f8.drew
    have hs12 : (Try.prog.info? 89).map (·.size) = some (#[.int .i64 1, .int .i64 m.frm, .int .i64 m.to_, .int .i64 m.shard, .int .i64 m.view, .int .i64 m.normal, .int .i64 m.at_, .int .i64 m.commit, .int .i64 m.id, .int .i64 m.err, .slice la mn lc, .slice da md dc] : Array Value).size := size_vmsg
    have Hs12 := Lib.hid hs12
    clear hS bq f8 h8 hm8 hcX hs12
    go_region_held3 (fun W => W.cell? ⟨q, 0, none⟩ = some (.int .i64 1) ∧ W.cell? ⟨q, 4, none⟩ = some (.int .i64 m.view) ∧ W.cell? ⟨g, 5, none⟩ = some (.int .i64 c1.keep.view) ∧ W.cell? ⟨g, 8, none⟩ = some (.bool false) ∧ W.cell? ⟨q, 1, none⟩ = some (.int .i64 m.frm)) (first | exact ⟨e8, d4, y5, y8, d1⟩ | go_keep) (fail)
    go_upto_region 23 with fail
    clear e8 d4 y5 y8 d1
    go_wp2_with (refine wpList_loadRow rfl _ _ rfl q rfl _ _ _ _ Hbq.out Try.underlying89 rfl Hs12.out ?_)
    refine HS.out.mono ?_
    rintro e wX ⟨rfl, tX⟩
    have TX := Lib.hid (VwTo.trans F8.out tX)
    clear tX HS
    obtain ⟨MX, hX, fX⟩ := TX.out
    have hT7 := vw_take (M := MX) wX hX
    have FX := Lib.hid fX
    have HT7 := Lib.hid hT7
    clear hX fX hT7
    go_wp2_with fail
    refine HT7.out.mono ?_
    rintro e w7 ⟨v1, v2, v3, rfl, t7⟩
    obtain ⟨s1, n1, p1, s2, n2, p2, s3, n3, p3, rfl, rfl, rfl⟩ := t7.slices
    have hp7 : w7.heap[p]? = some (.cells #[.slice none 0 0, .slice none 0 0, .slice none 0 0] 107 (0, 0)) := by obtain ⟨M7, _, f7, _⟩ := t7; exact (HBox.out _ _ (FX.out.trans f7)).2.1
    have qq0 : w7.cell? ⟨p, 0, none⟩ = some (.slice none 0 0) := by simp [World.cell?, hp7]
    have qq1 : w7.cell? ⟨p, 1, none⟩ = some (.slice none 0 0) := by simp [World.cell?, hp7]
    have qq2 : w7.cell? ⟨p, 2, none⟩ = some (.slice none 0 0) := by simp [World.cell?, hp7]
    have qf : ∀ o, w7.frozen? ⟨p, o, none⟩ = false := fun o => by simp [World.frozen?, hp7]
    have HW7 : RowKit.Hid (∀ W, W = (((w7.setCell ⟨p, 0, none⟩ (.slice s1 n1 p1)).setCell ⟨p, 1, none⟩ (.slice s2 n2 p2)).setCell ⟨p, 2, none⟩ (.slice s3 n3 p3)) → W.heap[p]? = some (.cells #[.slice s1 n1 p1, .slice s2 n2 p2, .slice s3 n3 p3] 107 (0, 0)) ∧ InTo M w W g (c.in_ m) (.returned (.agg #[.slice s1 n1 p1, .slice s2 n2 p2, .slice s3 n3 p3]))) := Lib.hid (by
      rintro W rfl
      refine ⟨by rw [heap_set (heap_set (heap_set hp7 0 _) 1 _) 2 _]; rfl, _, _, _, _, _, _, _, _, _, rfl, ?_⟩
      rw [HEq.out]
      exact Hfin.out _ _ _ _ (TakeTo.trans FX.out t7) (setg (S := (· = p)) (setg (S := (· = p)) (setg (S := (· = p)) (Only.refl _ w7) rfl 0 (.slice s1 n1 p1)) rfl 1 (.slice s2 n2 p2)) rfl 2 (.slice s3 n3 p3)))
    clear t7 hp7
    go_wp2_with fail
    obtain ⟨g1, g2⟩ := HW7.out _ rfl
    refine bodyPost_ret (v := .agg #[.slice s1 n1 p1, .slice s2 n2 p2, .slice s3 n3 p3]) (results_cell_row Try.results102 _ _ p 107 _ (0, 0) _ rfl g1 Try.underlying107 rfl (by kernel_rfl)) rfl ?_
    exact g2
  · have hno : b1 = false ∨ (b1 = true ∧ b2 = true) ∨ (b1 = true ∧ b2 = false ∧ b3 = false) := by
      cases b1 <;> cases b2 <;> cases b3 <;> simp_all
    have HN : RowKit.Hid (c1.inD m ld = c1) := Lib.hid (by
      unfold Vw.Core.inD
      rw [if_neg (by rw [Hkk.out]; decide), if_neg (by rw [Hkk.out]; rintro ⟨h, _⟩; cases h), if_neg (by rw [Hkk.out]; rintro ⟨h, _⟩; cases h), if_neg, if_neg (by rw [Hkk.out]; rintro ⟨h, _⟩; cases h)]
      rintro ⟨_, h1, h2, h3⟩
      apply hall
      rw [← Hb1.out, ← Hb2.out, ← Hb3.out]
      exact ⟨by simpa using h1, h2, by simpa using h3⟩)
    clear hall h8 f8 bq hm8
    rcases hno with rfl | ⟨rfl, rfl⟩ | ⟨rfl, rfl, rfl⟩
    all_goals
      go_quiet (fail)
      obtain ⟨w9, hw9⟩ : ∃ x, x = w8.drewN nq := ⟨_, rfl⟩
      have T9 : RowKit.Hid (VwTo M99 w2 w9 g c1) := Lib.hid (by rw [hw9]; exact T8.out.drewN nq)
      rw [← hw9]
      clear hw9 e8
      have e9 : w9.cell? ⟨q, 0, none⟩ = some (.int .i64 1) := by
        obtain ⟨_, _, fx⟩ := T9.out
        have bx := (HBox.out _ _ fx).1
        rw [Hkk.out] at bx
        simp [World.cell?, bx]
      go_wp2_with fail
      go_quiet (fail)
      obtain ⟨w10, hw10⟩ : ∃ x, x = w9.drewN nq := ⟨_, rfl⟩
      have T10 : RowKit.Hid (VwTo M99 w2 w10 g c1) := Lib.hid (by rw [hw10]; exact T9.out.drewN nq)
      rw [← hw10]
      clear hw10 e9
      have e10 : w10.cell? ⟨q, 0, none⟩ = some (.int .i64 1) := by
        obtain ⟨_, _, fx⟩ := T10.out
        have bx := (HBox.out _ _ fx).1
        rw [Hkk.out] at bx
        simp [World.cell?, bx]
      obtain ⟨wX, hwX⟩ : ∃ x, x = w10 := ⟨_, rfl⟩
      obtain ⟨cX, hcX⟩ : ∃ x, x = c1 := ⟨_, rfl⟩
      have TX : RowKit.Hid (VwTo M99 w2 wX g cX) := Lib.hid (by rw [hwX, hcX]; exact T10.out)
      have HEq : RowKit.Hid (c.in_ m = cX) := Lib.hid (by rw [hcX, HE0.out]; exact HN.out)
      rw [← hwX]
      clear hwX hcX e10
      obtain ⟨MX, hX, fX⟩ := TX.out
      have hT7 := vw_take (M := MX) wX hX
      have FX := Lib.hid fX
      have HT7 := Lib.hid hT7
      clear hX fX hT7
      go_wp2_with fail
      refine HT7.out.mono ?_
      rintro e w7 ⟨v1, v2, v3, rfl, t7⟩
      obtain ⟨s1, n1, p1, s2, n2, p2, s3, n3, p3, rfl, rfl, rfl⟩ := t7.slices
      have hp7 : w7.heap[p]? = some (.cells #[.slice none 0 0, .slice none 0 0, .slice none 0 0] 107 (0, 0)) := by obtain ⟨M7, _, f7, _⟩ := t7; exact (HBox.out _ _ (FX.out.trans f7)).2.1
      have qq0 : w7.cell? ⟨p, 0, none⟩ = some (.slice none 0 0) := by simp [World.cell?, hp7]
      have qq1 : w7.cell? ⟨p, 1, none⟩ = some (.slice none 0 0) := by simp [World.cell?, hp7]
      have qq2 : w7.cell? ⟨p, 2, none⟩ = some (.slice none 0 0) := by simp [World.cell?, hp7]
      have qf : ∀ o, w7.frozen? ⟨p, o, none⟩ = false := fun o => by simp [World.frozen?, hp7]
      have HW7 : RowKit.Hid (∀ W, W = (((w7.setCell ⟨p, 0, none⟩ (.slice s1 n1 p1)).setCell ⟨p, 1, none⟩ (.slice s2 n2 p2)).setCell ⟨p, 2, none⟩ (.slice s3 n3 p3)) → W.heap[p]? = some (.cells #[.slice s1 n1 p1, .slice s2 n2 p2, .slice s3 n3 p3] 107 (0, 0)) ∧ InTo M w W g (c.in_ m) (.returned (.agg #[.slice s1 n1 p1, .slice s2 n2 p2, .slice s3 n3 p3]))) := Lib.hid (by
        rintro W rfl
        refine ⟨by rw [heap_set (heap_set (heap_set hp7 0 _) 1 _) 2 _]; rfl, _, _, _, _, _, _, _, _, _, rfl, ?_⟩
        rw [HEq.out]
        exact Hfin.out _ _ _ _ (TakeTo.trans FX.out t7) (setg (S := (· = p)) (setg (S := (· = p)) (setg (S := (· = p)) (Only.refl _ w7) rfl 0 (.slice s1 n1 p1)) rfl 1 (.slice s2 n2 p2)) rfl 2 (.slice s3 n3 p3)))
      clear t7 hp7
      go_wp2_with fail
      obtain ⟨g1, g2⟩ := HW7.out _ rfl
      refine bodyPost_ret (v := .agg #[.slice s1 n1 p1, .slice s2 n2 p2, .slice s3 n3 p3]) (results_cell_row Try.results102 _ _ p 107 _ (0, 0) _ rfl g1 Try.underlying107 rfl (by kernel_rfl)) rfl ?_
      exact g2
end Go.Proofs.Ytmmgnbdngpkfcaa

namespace Go.Proofs.Ytmmgnbdngpkfcaa
open Go.RowKit
set_option linter.unusedVariables false

set_option maxRecDepth 1000000 in
set_option maxHeartbeats 0 in
theorem vw_In_t3 (w : World) (M M99 : Col) (w2 : World) (g q p : Nat) (c : Vw.Core) (m : Vw.Msg) (ld : Int) (la : Option Addr) (mn lc : Nat) (da : Option Addr) (md dc : Nat)
    (HBox : RowKit.Hid (∀ (M' : Col) (W : World), Fr M99 w2 M' W → (W.heap[q]? = some (.cells #[.int .i64 m.kind, .int .i64 m.frm, .int .i64 m.to_, .int .i64 m.shard, .int .i64 m.view, .int .i64 m.normal, .int .i64 m.at_, .int .i64 m.commit, .int .i64 m.id, .int .i64 m.err, .slice la mn lc, .slice da md dc] 89 (0, 0))) ∧ (W.heap[p]? = some (.cells #[.slice none 0 0, .slice none 0 0, .slice none 0 0] 107 (0, 0))) ∧ Sl EBytes (Im M') W la m.list ∧ EMsg.rep (Im M') W (msgRow m (.slice la mn lc) (.slice da md dc)) m))
    (Hfin : RowKit.Hid (∀ (w7 W : World) (c' : Vw.Core) (v : Value), TakeTo M99 w2 w7 g c' v → Only (· = p) w7 W → TakeTo M w W g c' v))
    (Hh : RowKit.Hid (Vw.InOk c m)) (Hk : RowKit.Hid (1 ≤ m.kind ∧ m.kind ≤ 5)) (Hl : RowKit.Hid (c.recs.length ≤ 30000 ∧ c.msgs.length ≤ 30000 ∧ c.done.length ≤ 30000)) (Hld : RowKit.Hid (ld = Vw.lead m.view c.n)) (Hmn : RowKit.Hid (mn = m.list.length ∧ mn ≤ lc ∧ lc ≤ maxLen))
    (hk : m.kind = 3) (c1 : Vw.Core) (w6 : World) (T6 : RowKit.Hid (VwTo M99 w2 w6 g c1)) (HE0 : RowKit.Hid (c.in_ m = c1.inD m ld)) (HR : RowKit.Hid (Vw.Rest c c1 6020)) {u1 u2 u6 u7 u8 u9 aA aB aC aD aE aF aG aH aI aJ aK aL aM aN aO aP aQ aR aS aT aU aV aW aX aY aZ bA bB bC bD bE bF bG bH bI bJ bK bL bM bN bO bP bQ bR bS bT bU bV bW bX bY bZ cC cD cE cF cG cH cI cJ cK cL cM cN cO cP cQ cR cS cT cU cW cY cZ dA dB dC dD dE dF dG dH dI dJ dK dL dM dN dO dP dQ dR dS dT dU dV dW dX dY dZ eA eB eC eD eE eF eG eH eI eJ eK eL eM eN eO eP eQ eR eS eT eU eV eW eX eY eZ fC fD fE fF fG fH fI fJ fK fL fM fN fO fP fQ fR fS fT fU fV fW fY fZ gA gB gC gD gE gF gG gH gI gJ gK gL gM gN gO gP gQ gR gS gT gU gV gW gX gY gZ hE hF hG hH hI hJ hK hL hM hN hO hP hQ hR hT hU hV hW hY hZ iA iB iC iD iE iF iG iH iI iJ iK iL iM iN iO iP iQ iR iS iT iU iV iW iX iY iZ jA jB jC jD jE jF jG jH jI jJ jK jL jM jN jO jP jQ jR jS jT jU jV jW jX jY jZ kA kC kD kE kF kG kH kI kJ kK kL kM kN kO kP kQ kR kS kT kU kW kX kY kZ lA lB lC lD lE lF lG lH lI lJ lK lL lM lN lO lP lQ lR lS lT lU lV lW lX lY lZ mA mB mC mD : Value} :
    Code.wp Try.prog inTail (bodyPost Try.prog Try.f102 fun e w' => InTo M w w' g (c.in_ m) e) ⟨#[.pointer (some ⟨g, 0, none⟩), u1, u2, .pointer (some ⟨q, 0, none⟩), .pointer (some ⟨p, 0, none⟩), .int .i64 ld, u6, u7, u8, u9, aA, aB, aC, aD, aE, aF, aG, aH, aI, aJ, aK, aL, aM, aN, aO, aP, aQ, aR, aS, aT, aU, aV, aW, aX, aY, aZ, bA, bB, bC, bD, bE, bF, bG, bH, bI, bJ, bK, bL, bM, bN, bO, bP, bQ, bR, bS, bT, bU, bV, bW, bX, bY, bZ, cC, cD, cE, cF, cG, cH, cI, cJ, cK, cL, cM, cN, cO, cP, cQ, cR, cS, cT, cU, cW, cY, cZ, dA, dB, dC, dD, dE, dF, dG, dH, dI, dJ, dK, dL, dM, dN, dO, dP, dQ, dR, dS, dT, dU, dV, dW, dX, dY, dZ, eA, eB, eC, eD, eE, eF, eG, eH, eI, eJ, eK, eL, eM, eN, eO, eP, eQ, eR, eS, eT, eU, eV, eW, eX, eY, eZ, fC, fD, fE, fF, fG, fH, fI, fJ, fK, fL, fM, fN, fO, fP, fQ, fR, fS, fT, fU, fV, fW, fY, fZ, gA, gB, gC, gD, gE, gF, gG, gH, gI, gJ, gK, gL, gM, gN, gO, gP, gQ, gR, gS, gT, gU, gV, gW, gX, gY, gZ, hE, hF, hG, hH, hI, hJ, hK, hL, hM, hN, hO, hP, hQ, hR, hT, hU, hV, hW, hY, hZ, iA, iB, iC, iD, iE, iF, iG, iH, iI, iJ, iK, iL, iM, iN, iO, iP, iQ, iR, iS, iT, iU, iV, iW, iX, iY, iZ, jA, jB, jC, jD, jE, jF, jG, jH, jI, jJ, jK, jL, jM, jN, jO, jP, jQ, jR, jS, jT, jU, jV, jW, jX, jY, jZ, kA, kC, kD, kE, kF, kG, kH, kI, kJ, kK, kL, kM, kN, kO, kP, kQ, kR, kS, kT, kU, kW, kX, kY, kZ, lA, lB, lC, lD, lE, lF, lG, lH, lI, lJ, lK, lL, lM, lN, lO, lP, lQ, lR, lS, lT, lU, lV, lW, lX, lY, lZ, mA, mB, mC, mD], []⟩ w6 := by
  have Hkk := Lib.hid hk
  obtain ⟨M6, ⟨L, h6⟩, f6⟩ := T6.out
  obtain ⟨bq, _, _, _⟩ := HBox.out _ _ f6
  rw [hk] at bq
  have e0 : w6.cell? ⟨q, 0, none⟩ = some (.int .i64 3) := by simp [World.cell?, bq]
  clear hk
  conv => arg 2; whnf
  obtain ⟨_, _, _, hm6⟩ := HBox.out _ _ f6
  have hS := vw_started w6 ⟨L, h6⟩ m _ hm6 ⟨Hh.out.frm.1, by rw [HR.out.n]; exact Hh.out.frm.2⟩ (by have := HR.out.recs; have := Hl.out; omega) (by have := HR.out.msgs; have := Hl.out; omega) (by have := HR.out.done; have := Hl.out; omega)
  simp only [msgRow, List.toArray] at hS
  rw [Hkk.out] at hS
  have HEq : RowKit.Hid (c.in_ m = c1.started m) := Lib.hid (by rw [HE0.out]; unfold Vw.Core.inD; rw [if_pos Hkk.out])
  obtain ⟨cX, hcX⟩ : ∃ cX, cX = c1.started m := ⟨_, rfl⟩
  rw [← hcX] at HEq hS
  have HS := Lib.hid hS
  have Hbq := Lib.hid bq
  have F6 := Lib.hid f6
  have hs12 : (Try.prog.info? 89).map (·.size) = some (#[.int .i64 3, .int .i64 m.frm, .int .i64 m.to_, .int .i64 m.shard, .int .i64 m.view, .int .i64 m.normal, .int .i64 m.at_, .int .i64 m.commit, .int .i64 m.id, .int .i64 m.err, .slice la mn lc, .slice da md dc] : Array Value).size := size_vmsg
  have Hs12 := Lib.hid hs12
  clear hS bq f6 h6 hm6 hcX hs12
  go_upto_region 13 with fail
  clear e0
  go_wp2_with (refine wpList_loadRow rfl _ _ rfl q rfl _ _ _ _ Hbq.out Try.underlying89 rfl Hs12.out ?_)
  refine HS.out.mono ?_
  rintro e wX ⟨rfl, tX⟩
  have TX := Lib.hid (VwTo.trans F6.out tX)
  clear tX HS
  obtain ⟨MX, hX, fX⟩ := TX.out
  have hT7 := vw_take (M := MX) wX hX
  have FX := Lib.hid fX
  have HT7 := Lib.hid hT7
  clear hX fX hT7
  go_wp2_with fail
  refine HT7.out.mono ?_
  rintro e w7 ⟨v1, v2, v3, rfl, t7⟩
  obtain ⟨s1, n1, p1, s2, n2, p2, s3, n3, p3, rfl, rfl, rfl⟩ := t7.slices
  have hp7 : w7.heap[p]? = some (.cells #[.slice none 0 0, .slice none 0 0, .slice none 0 0] 107 (0, 0)) := by obtain ⟨M7, _, f7, _⟩ := t7; exact (HBox.out _ _ (FX.out.trans f7)).2.1
  have qq0 : w7.cell? ⟨p, 0, none⟩ = some (.slice none 0 0) := by simp [World.cell?, hp7]
  have qq1 : w7.cell? ⟨p, 1, none⟩ = some (.slice none 0 0) := by simp [World.cell?, hp7]
  have qq2 : w7.cell? ⟨p, 2, none⟩ = some (.slice none 0 0) := by simp [World.cell?, hp7]
  have qf : ∀ o, w7.frozen? ⟨p, o, none⟩ = false := fun o => by simp [World.frozen?, hp7]
  have HW7 : RowKit.Hid (∀ W, W = (((w7.setCell ⟨p, 0, none⟩ (.slice s1 n1 p1)).setCell ⟨p, 1, none⟩ (.slice s2 n2 p2)).setCell ⟨p, 2, none⟩ (.slice s3 n3 p3)) → W.heap[p]? = some (.cells #[.slice s1 n1 p1, .slice s2 n2 p2, .slice s3 n3 p3] 107 (0, 0)) ∧ InTo M w W g (c.in_ m) (.returned (.agg #[.slice s1 n1 p1, .slice s2 n2 p2, .slice s3 n3 p3]))) := Lib.hid (by
    rintro W rfl
    refine ⟨by rw [heap_set (heap_set (heap_set hp7 0 _) 1 _) 2 _]; rfl, _, _, _, _, _, _, _, _, _, rfl, ?_⟩
    rw [HEq.out]
    exact Hfin.out _ _ _ _ (TakeTo.trans FX.out t7) (setg (S := (· = p)) (setg (S := (· = p)) (setg (S := (· = p)) (Only.refl _ w7) rfl 0 (.slice s1 n1 p1)) rfl 1 (.slice s2 n2 p2)) rfl 2 (.slice s3 n3 p3)))
  clear t7 hp7
  go_wp2_with fail
  obtain ⟨g1, g2⟩ := HW7.out _ rfl
  refine bodyPost_ret (v := .agg #[.slice s1 n1 p1, .slice s2 n2 p2, .slice s3 n3 p3]) (results_cell_row Try.results102 _ _ p 107 _ (0, 0) _ rfl g1 Try.underlying107 rfl (by kernel_rfl)) rfl ?_
  exact g2
end Go.Proofs.Ytmmgnbdngpkfcaa

namespace Go.Proofs.Ytmmgnbdngpkfcaa
open Go.RowKit
set_option linter.unusedVariables false

set_option maxRecDepth 1000000 in
set_option maxHeartbeats 0 in
theorem vw_In_t5 (w : World) (M M99 : Col) (w2 : World) (g q p : Nat) (c : Vw.Core) (m : Vw.Msg) (ld : Int) (la : Option Addr) (mn lc : Nat) (da : Option Addr) (md dc : Nat)
    (HBox : RowKit.Hid (∀ (M' : Col) (W : World), Fr M99 w2 M' W → (W.heap[q]? = some (.cells #[.int .i64 m.kind, .int .i64 m.frm, .int .i64 m.to_, .int .i64 m.shard, .int .i64 m.view, .int .i64 m.normal, .int .i64 m.at_, .int .i64 m.commit, .int .i64 m.id, .int .i64 m.err, .slice la mn lc, .slice da md dc] 89 (0, 0))) ∧ (W.heap[p]? = some (.cells #[.slice none 0 0, .slice none 0 0, .slice none 0 0] 107 (0, 0))) ∧ Sl EBytes (Im M') W la m.list ∧ EMsg.rep (Im M') W (msgRow m (.slice la mn lc) (.slice da md dc)) m))
    (Hfin : RowKit.Hid (∀ (w7 W : World) (c' : Vw.Core) (v : Value), TakeTo M99 w2 w7 g c' v → Only (· = p) w7 W → TakeTo M w W g c' v))
    (Hh : RowKit.Hid (Vw.InOk c m)) (Hk : RowKit.Hid (1 ≤ m.kind ∧ m.kind ≤ 5)) (Hl : RowKit.Hid (c.recs.length ≤ 30000 ∧ c.msgs.length ≤ 30000 ∧ c.done.length ≤ 30000)) (Hld : RowKit.Hid (ld = Vw.lead m.view c.n)) (Hmn : RowKit.Hid (mn = m.list.length ∧ mn ≤ lc ∧ lc ≤ maxLen))
    (hk : m.kind = 5) (c1 : Vw.Core) (w6 : World) (T6 : RowKit.Hid (VwTo M99 w2 w6 g c1)) (HE0 : RowKit.Hid (c.in_ m = c1.inD m ld)) (HR : RowKit.Hid (Vw.Rest c c1 6020)) {u1 u2 u6 u7 u8 u9 aA aB aC aD aE aF aG aH aI aJ aK aL aM aN aO aP aQ aR aS aT aU aV aW aX aY aZ bA bB bC bD bE bF bG bH bI bJ bK bL bM bN bO bP bQ bR bS bT bU bV bW bX bY bZ cC cD cE cF cG cH cI cJ cK cL cM cN cO cP cQ cR cS cT cU cW cY cZ dA dB dC dD dE dF dG dH dI dJ dK dL dM dN dO dP dQ dR dS dT dU dV dW dX dY dZ eA eB eC eD eE eF eG eH eI eJ eK eL eM eN eO eP eQ eR eS eT eU eV eW eX eY eZ fC fD fE fF fG fH fI fJ fK fL fM fN fO fP fQ fR fS fT fU fV fW fY fZ gA gB gC gD gE gF gG gH gI gJ gK gL gM gN gO gP gQ gR gS gT gU gV gW gX gY gZ hE hF hG hH hI hJ hK hL hM hN hO hP hQ hR hT hU hV hW hY hZ iA iB iC iD iE iF iG iH iI iJ iK iL iM iN iO iP iQ iR iS iT iU iV iW iX iY iZ jA jB jC jD jE jF jG jH jI jJ jK jL jM jN jO jP jQ jR jS jT jU jV jW jX jY jZ kA kC kD kE kF kG kH kI kJ kK kL kM kN kO kP kQ kR kS kT kU kW kX kY kZ lA lB lC lD lE lF lG lH lI lJ lK lL lM lN lO lP lQ lR lS lT lU lV lW lX lY lZ mA mB mC mD : Value} :
    Code.wp Try.prog inTail (bodyPost Try.prog Try.f102 fun e w' => InTo M w w' g (c.in_ m) e) ⟨#[.pointer (some ⟨g, 0, none⟩), u1, u2, .pointer (some ⟨q, 0, none⟩), .pointer (some ⟨p, 0, none⟩), .int .i64 ld, u6, u7, u8, u9, aA, aB, aC, aD, aE, aF, aG, aH, aI, aJ, aK, aL, aM, aN, aO, aP, aQ, aR, aS, aT, aU, aV, aW, aX, aY, aZ, bA, bB, bC, bD, bE, bF, bG, bH, bI, bJ, bK, bL, bM, bN, bO, bP, bQ, bR, bS, bT, bU, bV, bW, bX, bY, bZ, cC, cD, cE, cF, cG, cH, cI, cJ, cK, cL, cM, cN, cO, cP, cQ, cR, cS, cT, cU, cW, cY, cZ, dA, dB, dC, dD, dE, dF, dG, dH, dI, dJ, dK, dL, dM, dN, dO, dP, dQ, dR, dS, dT, dU, dV, dW, dX, dY, dZ, eA, eB, eC, eD, eE, eF, eG, eH, eI, eJ, eK, eL, eM, eN, eO, eP, eQ, eR, eS, eT, eU, eV, eW, eX, eY, eZ, fC, fD, fE, fF, fG, fH, fI, fJ, fK, fL, fM, fN, fO, fP, fQ, fR, fS, fT, fU, fV, fW, fY, fZ, gA, gB, gC, gD, gE, gF, gG, gH, gI, gJ, gK, gL, gM, gN, gO, gP, gQ, gR, gS, gT, gU, gV, gW, gX, gY, gZ, hE, hF, hG, hH, hI, hJ, hK, hL, hM, hN, hO, hP, hQ, hR, hT, hU, hV, hW, hY, hZ, iA, iB, iC, iD, iE, iF, iG, iH, iI, iJ, iK, iL, iM, iN, iO, iP, iQ, iR, iS, iT, iU, iV, iW, iX, iY, iZ, jA, jB, jC, jD, jE, jF, jG, jH, jI, jJ, jK, jL, jM, jN, jO, jP, jQ, jR, jS, jT, jU, jV, jW, jX, jY, jZ, kA, kC, kD, kE, kF, kG, kH, kI, kJ, kK, kL, kM, kN, kO, kP, kQ, kR, kS, kT, kU, kW, kX, kY, kZ, lA, lB, lC, lD, lE, lF, lG, lH, lI, lJ, lK, lL, lM, lN, lO, lP, lQ, lR, lS, lT, lU, lV, lW, lX, lY, lZ, mA, mB, mC, mD], []⟩ w6 := by
  have Hkk := Lib.hid hk
  obtain ⟨M6, ⟨L, h6⟩, f6⟩ := T6.out
  obtain ⟨bq, _, _, _⟩ := HBox.out _ _ f6
  rw [hk] at bq
  have e0 : w6.cell? ⟨q, 0, none⟩ = some (.int .i64 5) := by simp [World.cell?, bq]
  clear hk
  conv => arg 2; whnf
  have e6 := e0
  obtain ⟨b1, hb1⟩ : ∃ b, (m.frm == ld) = b := ⟨_, rfl⟩
  obtain ⟨b2, hb2⟩ : ∃ b, decide (c1.keep.view < m.view) = b := ⟨_, rfl⟩
  obtain ⟨b3, hb3⟩ : ∃ b, c1.ch = b := ⟨_, rfl⟩
  have Hb1 := Lib.hid hb1
  have Hb2 := Lib.hid hb2
  have Hb3 := Lib.hid hb3
  have hvw := Hh.out.view
  clear bq h6 f6 e0
  go_wp2_with fail
  go_quiet (fail)
  obtain ⟨w7, hw7⟩ : ∃ x, x = w6.drewN nq := ⟨_, rfl⟩
  have T7 : RowKit.Hid (VwTo M99 w2 w7 g c1) := Lib.hid (by rw [hw7]; exact T6.out.drewN nq)
  rw [← hw7]
  clear hw7 e6
  have e7 : w7.cell? ⟨q, 0, none⟩ = some (.int .i64 5) := by
    obtain ⟨_, _, fx⟩ := T7.out
    have bx := (HBox.out _ _ fx).1
    rw [Hkk.out] at bx
    simp [World.cell?, bx]
  go_wp2_with fail
  obtain ⟨M7, ⟨L7, h7⟩, f7⟩ := T7.out
  obtain ⟨bq, _, _, _⟩ := HBox.out _ _ f7
  rw [Hkk.out] at bq
  have y5 : w7.cell? ⟨g, 5, none⟩ = some (.int .i64 c1.keep.view) := h7.c5
  have d1 : w7.cell? ⟨q, 1, none⟩ = some (.int .i64 m.frm) := by simp [World.cell?, bq]
  have d4 : w7.cell? ⟨q, 4, none⟩ = some (.int .i64 m.view) := by simp [World.cell?, bq]
  have y8 : w7.cell? ⟨g, 8, none⟩ = some (.bool c1.ch) := h7.c8
  rw [hb3] at y8
  by_cases hall : b1 = true ∧ (b2 = true ∨ b3 = true)
  · have HD : RowKit.Hid (c1.inD m ld = (({ c1 with keep := { c1.keep with view := m.view } } : Vw.Core).adopt m.list |>.reach m.commit).send { Vw.Msg.z with kind := 2, to_ := ld, at_ := ((({ c1 with keep := { c1.keep with view := m.view } } : Vw.Core).adopt m.list).reach m.commit).keep.log.length }) := Lib.hid (by
      unfold Vw.Core.inD
      rw [if_neg (by rw [Hkk.out]; decide), if_neg (by rw [Hkk.out]; rintro ⟨h, _⟩; cases h), if_pos]
      refine ⟨Hkk.out, ?_, ?_⟩
      · have h1 := hall.1; rw [← Hb1.out] at h1; simpa using h1
      · rcases hall.2 with h | h
        · rw [← Hb2.out] at h; exact .inl (by simpa using h)
        · rw [← Hb3.out] at h; exact .inr h)
    have h3 : (b1 = true ∧ b2 = true) ∨ (b1 = true ∧ b2 = false ∧ b3 = true) := by
      cases b1 <;> cases b2 <;> cases b3 <;> simp_all
    clear hall
    rcases h3 with ⟨rfl, rfl⟩ | ⟨rfl, rfl, rfl⟩
    all_goals
      go_quiet (fail)
      obtain ⟨w8, hw8⟩ : ∃ x, x = w7.drewN nq := ⟨_, rfl⟩
      have h8 : VwL M7 w8 g c1 L7 := by rw [hw8]; exact h7.below (below_drewN (Below.refl _ _) nq)
      have f8 : Fr M99 w2 M7 w8 := by rw [hw8]; exact f7.trans (Fr.of_below (below_drewN (Below.refl _ _) nq))
      rw [← hw8]
      clear hw8 e7 d1 d4 y5 y8 h7 f7 bq hb1 hb2 hb3
      obtain ⟨bq, _, _, _⟩ := HBox.out _ _ f8
      have d4 : w8.cell? ⟨q, 4, none⟩ = some (.int .i64 m.view) := by simp [World.cell?, bq]
      have y5 : w8.cell? ⟨g, 5, none⟩ = some (.int .i64 c1.keep.view) := h8.c5
      have yf := h8.fz
      have hr8 := h8.right
      obtain ⟨h9, f9⟩ := h8.put (w1 := w8.setCell ⟨g, 5, none⟩ (.int .i64 m.view)) (c' := { c1 with keep := { c1.keep with view := m.view } }) (L' := L7) (setg (S := (· = g)) (Only.refl _ w8) rfl 5 _) (by rw [heap_set h8.row 5 _]; rfl)
        ⟨h8.p.dom, h8.p.lc, h8.p.log, h8.p.hc, h8.p.has, h8.p.bc, h8.p.begun, h8.p.dc, h8.p.dos, h8.p.recs, h8.p.msgs, h8.p.done⟩ ⟨hr8.n, hr8.me, hr8.pat, hvw, hr8.log, hr8.commit, hr8.idle, hr8.begun, hr8.dos, hr8.has⟩
      obtain ⟨w9, hw9⟩ : ∃ x, x = w8.setCell ⟨g, 5, none⟩ (.int .i64 m.view) := ⟨_, rfl⟩
      rw [← hw9] at h9 f9
      obtain ⟨cV, hcV⟩ : ∃ cV : Vw.Core, cV = { c1 with keep := { c1.keep with view := m.view } } := ⟨_, rfl⟩
      have kV : cV.recs = c1.recs ∧ cV.msgs = c1.msgs ∧ cV.done = c1.done ∧ cV.n = c1.n := by rw [hcV]; exact ⟨rfl, rfl, rfl, rfl⟩
      have hD := HD.out
      rw [← hcV] at h9 hD
      have f29 := f8.trans f9
      obtain ⟨bq9, _, bs9, _⟩ := HBox.out _ _ f29
      have d10 : w9.cell? ⟨q, 10, none⟩ = some (.slice la mn lc) := by simp [World.cell?, bq9]
      have hA := vw_adopt w9 ⟨L7, h9⟩ la mn lc m.list Hmn.out.1 Hmn.out.2 bs9 Hh.out.small (by rw [kV.1]; have := HR.out.recs; have := Hl.out; omega)
      obtain ⟨k1, k2, k3, k4, k5, k6, k7, k8, k9⟩ := cV.adopt_log m.list
      obtain ⟨cA, hcA⟩ : ∃ cA, cA = cV.adopt m.list := ⟨_, rfl⟩
      rw [← hcA] at hA k1 k2 k3 k4 k5 k6 k7 k8 k9 hD
      have HA := Lib.hid hA
      have HD2 := Lib.hid hD
      have F29 := Lib.hid f29
      have Hw9 := Lib.hid hw9.symm
      have Kd : RowKit.Hid (cA.done.length ≤ 100000 ∧ cA.msgs.length ≤ 100000) := Lib.hid (by rw [k9, k8, kV.2.2.1, kV.2.1]; have := HR.out.done; have := HR.out.msgs; have := Hl.out; omega)
      clear h8 f8 h9 f9 hw9 hcV hcA hA hD bq bq9 bs9 kV k1 k2 k3 k4 k5 k6 k7 k8 k9 hr8 f29 HD
      go_upto_region 19 with fail
      rw [Hw9.out]
      clear Hw9 d4 y5 yf
      go_wp2_with fail
      refine HA.out.mono ?_
      rintro e wA ⟨rfl, MA, hA, fA⟩
      have fA2 := F29.out.trans fA
      obtain ⟨bqA, _, _, _⟩ := HBox.out _ _ fA2
      have d7 : wA.cell? ⟨q, 7, none⟩ = some (.int .i64 m.commit) := by simp [World.cell?, bqA]
      have hRe := vw_reach wA hA m.commit (by have := Kd.out; omega)
      obtain ⟨cB, hcB⟩ : ∃ cB, cB = cA.reach m.commit := ⟨_, rfl⟩
      have hD := HD2.out
      have hmB : cB.msgs = cA.msgs := by rw [hcB]; rfl
      rw [← hcB] at hRe hD
      have HRe := Lib.hid hRe
      have FA := Lib.hid fA2
      have HD3 := Lib.hid hD
      have HmB := Lib.hid hmB
      clear hA fA fA2 bqA hRe hcB hD hmB HA d10
      go_wp2_with fail
      refine HRe.out.mono ?_
      rintro e wB ⟨rfl, MB, ⟨LB, hB⟩, fB⟩
      obtain ⟨kB, hkB⟩ : ∃ kB, kB = cB.keep.log.length := ⟨_, rfl⟩
      have y7 : wB.cell? ⟨g, 7, none⟩ = some (.slice LB.la kB LB.lc) := by rw [hkB]; exact hB.c7
      have hC : Calls Try.prog 132 #[.pointer (some ⟨g, 0, none⟩), .agg #[.int .i64 2, .int .i64 0, .int .i64 ld, .int .i64 0, .int .i64 0, .int .i64 0, .int .i64 kB, .int .i64 0, .int .i64 0, .int .i64 0, .slice none 0 0, .slice none 0 0]] wB fun e w' => e = .returned (.tuple #[]) ∧ VwTo MB wB w' g (c1.inD m ld) := by
        rw [HD3.out]
        refine vw_send wB ⟨LB, hB⟩ _ _ ⟨none, 0, none, 0, ?_, ⟨Nat.le_refl _, Nat.zero_le _⟩, Sl.nil _ _ _ _, ⟨Nat.le_refl _, Nat.zero_le _⟩, Sl.nil _ _ _ _⟩ (by rw [HmB.out]; have := Kd.out; omega)
        rw [hkB]; rfl
      have HC := Lib.hid hC
      have FB := Lib.hid (FA.out.trans fB)
      obtain ⟨cX, hcX⟩ : ∃ cX, cX = c1.inD m ld := ⟨_, rfl⟩
      have HEq : RowKit.Hid (c.in_ m = cX) := Lib.hid (by rw [HE0.out, hcX])
      have HcX := Lib.hid hcX
      clear hB fB hkB hC hcX d7 HRe
      go_wp2_with fail
      refine HC.out.mono ?_
      rintro e wX ⟨rfl, tX⟩
      have TX : RowKit.Hid (VwTo M99 w2 wX g cX) := Lib.hid (by rw [HcX.out]; exact VwTo.trans FB.out tX)
      clear tX HC y7
      obtain ⟨MX, hX, fX⟩ := TX.out
      have hT7 := vw_take (M := MX) wX hX
      have FX := Lib.hid fX
      have HT7 := Lib.hid hT7
      clear hX fX hT7
      go_wp2_with fail
      refine HT7.out.mono ?_
      rintro e w7 ⟨v1, v2, v3, rfl, t7⟩
      obtain ⟨s1, n1, p1, s2, n2, p2, s3, n3, p3, rfl, rfl, rfl⟩ := t7.slices
      have hp7 : w7.heap[p]? = some (.cells #[.slice none 0 0, .slice none 0 0, .slice none 0 0] 107 (0, 0)) := by obtain ⟨M7, _, f7, _⟩ := t7; exact (HBox.out _ _ (FX.out.trans f7)).2.1
      have qq0 : w7.cell? ⟨p, 0, none⟩ = some (.slice none 0 0) := by simp [World.cell?, hp7]
      have qq1 : w7.cell? ⟨p, 1, none⟩ = some (.slice none 0 0) := by simp [World.cell?, hp7]
      have qq2 : w7.cell? ⟨p, 2, none⟩ = some (.slice none 0 0) := by simp [World.cell?, hp7]
      have qf : ∀ o, w7.frozen? ⟨p, o, none⟩ = false := fun o => by simp [World.frozen?, hp7]
      have HW7 : RowKit.Hid (∀ W, W = (((w7.setCell ⟨p, 0, none⟩ (.slice s1 n1 p1)).setCell ⟨p, 1, none⟩ (.slice s2 n2 p2)).setCell ⟨p, 2, none⟩ (.slice s3 n3 p3)) → W.heap[p]? = some (.cells #[.slice s1 n1 p1, .slice s2 n2 p2, .slice s3 n3 p3] 107 (0, 0)) ∧ InTo M w W g (c.in_ m) (.returned (.agg #[.slice s1 n1 p1, .slice s2 n2 p2, .slice s3 n3 p3]))) := Lib.hid (by
        rintro W rfl
        refine ⟨by rw [heap_set (heap_set (heap_set hp7 0 _) 1 _) 2 _]; rfl, _, _, _, _, _, _, _, _, _, rfl, ?_⟩
        rw [HEq.out]
        exact Hfin.out _ _ _ _ (TakeTo.trans FX.out t7) (setg (S := (· = p)) (setg (S := (· = p)) (setg (S := (· = p)) (Only.refl _ w7) rfl 0 (.slice s1 n1 p1)) rfl 1 (.slice s2 n2 p2)) rfl 2 (.slice s3 n3 p3)))
      clear t7 hp7
      go_wp2_with fail
      obtain ⟨g1, g2⟩ := HW7.out _ rfl
      refine bodyPost_ret (v := .agg #[.slice s1 n1 p1, .slice s2 n2 p2, .slice s3 n3 p3]) (results_cell_row Try.results102 _ _ p 107 _ (0, 0) _ rfl g1 Try.underlying107 rfl (by kernel_rfl)) rfl ?_
      exact g2
  · have hno : b1 = false ∨ (b1 = true ∧ b2 = false ∧ b3 = false) := by
      cases b1 <;> cases b2 <;> cases b3 <;> simp_all
    have HN : RowKit.Hid (c1.inD m ld = c1) := Lib.hid (by
      unfold Vw.Core.inD
      rw [if_neg (by rw [Hkk.out]; decide), if_neg (by rw [Hkk.out]; rintro ⟨h, _⟩; cases h), if_neg, if_neg (by rw [Hkk.out]; rintro ⟨h, _⟩; cases h), if_neg (by rw [Hkk.out]; rintro ⟨h, _⟩; cases h)]
      rintro ⟨_, h1, h2⟩
      apply hall
      rw [← Hb1.out, ← Hb2.out, ← Hb3.out]
      refine ⟨by simpa using h1, ?_⟩
      rcases h2 with h2 | h2
      · exact .inl (by simpa using h2)
      · exact .inr h2)
    clear hall h7 f7 bq
    rcases hno with rfl | ⟨rfl, rfl, rfl⟩
    all_goals
      go_quiet (fail)
      obtain ⟨w8, hw8⟩ : ∃ x, x = w7.drewN nq := ⟨_, rfl⟩
      have T8 : RowKit.Hid (VwTo M99 w2 w8 g c1) := Lib.hid (by rw [hw8]; exact T7.out.drewN nq)
      rw [← hw8]
      clear hw8 e7
      have e8 : w8.cell? ⟨q, 0, none⟩ = some (.int .i64 5) := by
        obtain ⟨_, _, fx⟩ := T8.out
        have bx := (HBox.out _ _ fx).1
        rw [Hkk.out] at bx
        simp [World.cell?, bx]
      go_wp2_with fail
      go_quiet (fail)
      obtain ⟨w9, hw9⟩ : ∃ x, x = w8.drewN nq := ⟨_, rfl⟩
      have T9 : RowKit.Hid (VwTo M99 w2 w9 g c1) := Lib.hid (by rw [hw9]; exact T8.out.drewN nq)
      rw [← hw9]
      clear hw9 e8
      have e9 : w9.cell? ⟨q, 0, none⟩ = some (.int .i64 5) := by
        obtain ⟨_, _, fx⟩ := T9.out
        have bx := (HBox.out _ _ fx).1
        rw [Hkk.out] at bx
        simp [World.cell?, bx]
      go_wp2_with fail
      go_quiet (fail)
      obtain ⟨w10, hw10⟩ : ∃ x, x = w9.drewN nq := ⟨_, rfl⟩
      have T10 : RowKit.Hid (VwTo M99 w2 w10 g c1) := Lib.hid (by rw [hw10]; exact T9.out.drewN nq)
      rw [← hw10]
      clear hw10 e9
      have e10 : w10.cell? ⟨q, 0, none⟩ = some (.int .i64 5) := by
        obtain ⟨_, _, fx⟩ := T10.out
        have bx := (HBox.out _ _ fx).1
        rw [Hkk.out] at bx
        simp [World.cell?, bx]
      obtain ⟨wX, hwX⟩ : ∃ x, x = w10 := ⟨_, rfl⟩
      obtain ⟨cX, hcX⟩ : ∃ x, x = c1 := ⟨_, rfl⟩
      have TX : RowKit.Hid (VwTo M99 w2 wX g cX) := Lib.hid (by rw [hwX, hcX]; exact T10.out)
      have HEq : RowKit.Hid (c.in_ m = cX) := Lib.hid (by rw [hcX, HE0.out]; exact HN.out)
      rw [← hwX]
      clear hwX hcX e10
      obtain ⟨MX, hX, fX⟩ := TX.out
      have hT7 := vw_take (M := MX) wX hX
      have FX := Lib.hid fX
      have HT7 := Lib.hid hT7
      clear hX fX hT7
      go_wp2_with fail
      refine HT7.out.mono ?_
      rintro e w7 ⟨v1, v2, v3, rfl, t7⟩
      obtain ⟨s1, n1, p1, s2, n2, p2, s3, n3, p3, rfl, rfl, rfl⟩ := t7.slices
      have hp7 : w7.heap[p]? = some (.cells #[.slice none 0 0, .slice none 0 0, .slice none 0 0] 107 (0, 0)) := by obtain ⟨M7, _, f7, _⟩ := t7; exact (HBox.out _ _ (FX.out.trans f7)).2.1
      have qq0 : w7.cell? ⟨p, 0, none⟩ = some (.slice none 0 0) := by simp [World.cell?, hp7]
      have qq1 : w7.cell? ⟨p, 1, none⟩ = some (.slice none 0 0) := by simp [World.cell?, hp7]
      have qq2 : w7.cell? ⟨p, 2, none⟩ = some (.slice none 0 0) := by simp [World.cell?, hp7]
      have qf : ∀ o, w7.frozen? ⟨p, o, none⟩ = false := fun o => by simp [World.frozen?, hp7]
      have HW7 : RowKit.Hid (∀ W, W = (((w7.setCell ⟨p, 0, none⟩ (.slice s1 n1 p1)).setCell ⟨p, 1, none⟩ (.slice s2 n2 p2)).setCell ⟨p, 2, none⟩ (.slice s3 n3 p3)) → W.heap[p]? = some (.cells #[.slice s1 n1 p1, .slice s2 n2 p2, .slice s3 n3 p3] 107 (0, 0)) ∧ InTo M w W g (c.in_ m) (.returned (.agg #[.slice s1 n1 p1, .slice s2 n2 p2, .slice s3 n3 p3]))) := Lib.hid (by
        rintro W rfl
        refine ⟨by rw [heap_set (heap_set (heap_set hp7 0 _) 1 _) 2 _]; rfl, _, _, _, _, _, _, _, _, _, rfl, ?_⟩
        rw [HEq.out]
        exact Hfin.out _ _ _ _ (TakeTo.trans FX.out t7) (setg (S := (· = p)) (setg (S := (· = p)) (setg (S := (· = p)) (Only.refl _ w7) rfl 0 (.slice s1 n1 p1)) rfl 1 (.slice s2 n2 p2)) rfl 2 (.slice s3 n3 p3)))
      clear t7 hp7
      go_wp2_with fail
      obtain ⟨g1, g2⟩ := HW7.out _ rfl
      refine bodyPost_ret (v := .agg #[.slice s1 n1 p1, .slice s2 n2 p2, .slice s3 n3 p3]) (results_cell_row Try.results102 _ _ p 107 _ (0, 0) _ rfl g1 Try.underlying107 rfl (by kernel_rfl)) rfl ?_
      exact g2
end Go.Proofs.Ytmmgnbdngpkfcaa

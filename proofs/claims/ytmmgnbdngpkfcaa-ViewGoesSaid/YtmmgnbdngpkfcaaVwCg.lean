/-
  A member takes a message: of an older view.
  A member takes a message: of its view.
  A member takes a message: of a newer view.
  A member takes a message: from the first switch on.
  A member takes a message.
-/
import Derived.Test.YtmmgnbdngpkfcaaVwCe5
import Derived.Test.YtmmgnbdngpkfcaaVwCe4
namespace Go.Proofs.Ytmmgnbdngpkfcaa
open Go.RowKit
set_option linter.unusedVariables false

/-- a message of a kind, of an older view, the same one, or a newer one -/
def InCase (k : Int) (R : Vw.Msg → Vw.Core → Prop) : Prop := ∀ (w : World) (M M99 : Col) (w2 : World) (g q p : Nat) (c : Vw.Core) (m : Vw.Msg) (ld : Int) (la : Option Addr) (mn lc : Nat) (da : Option Addr) (md dc : Nat)
  (HBox : RowKit.Hid (∀ (M' : Col) (W : World), Fr M99 w2 M' W → (W.heap[q]? = some (.cells #[.int .i64 m.kind, .int .i64 m.frm, .int .i64 m.to_, .int .i64 m.shard, .int .i64 m.view, .int .i64 m.normal, .int .i64 m.at_, .int .i64 m.commit, .int .i64 m.id, .int .i64 m.err, .slice la mn lc, .slice da md dc] 89 (0, 0))) ∧ (W.heap[p]? = some (.cells #[.slice none 0 0, .slice none 0 0, .slice none 0 0] 107 (0, 0))) ∧ Sl EBytes (Im M') W la m.list ∧ EMsg.rep (Im M') W (msgRow m (.slice la mn lc) (.slice da md dc)) m))
  (Hfin : RowKit.Hid (∀ (w7 W : World) (c' : Vw.Core) (v : Value), TakeTo M99 w2 w7 g c' v → Only (· = p) w7 W → TakeTo M w W g c' v))
  (Hh : RowKit.Hid (Vw.InOk c m)) (Hk : RowKit.Hid (1 ≤ m.kind ∧ m.kind ≤ 5)) (Hl : RowKit.Hid (c.recs.length ≤ 30000 ∧ c.msgs.length ≤ 30000 ∧ c.done.length ≤ 30000)) (Hld : RowKit.Hid (ld = Vw.lead m.view c.n)) (Hmn : RowKit.Hid (mn = m.list.length ∧ mn ≤ lc ∧ lc ≤ maxLen))
  (hk : m.kind = k) (hvw : R m c) (w4 : World) (T4 : RowKit.Hid (VwTo M99 w2 w4 g c)) {u1 u2 u6 u7 u8 u9 aA aB aC aD aE aF aG aH aI aJ aK aL aM aN aO aP aQ aR aS aT aU aV aW aX aY aZ bA bB bC bD bE bF bG bH bI bJ bK bL bM bN bO bP bQ bR bS bT bU bV bW bX bY bZ cA cB cC cD cE cF cG cH cI cJ cK cL cM cN cO cP cQ cR cS cT cU cV cW cY cZ dA dB dC dD dE dF dG dH dI dJ dK dL dM dN dO dP dQ dR dS dT dU dV dW dX dY dZ eA eB eC eD eE eF eG eH eI eJ eK eL eM eN eO eP eQ eR eS eT eU eV eW eX eY eZ fA fB fC fD fE fF fG fH fI fJ fK fL fM fN fO fP fQ fR fS fT fU fV fW fY fZ gA gB gC gD gE gF gG gH gI gJ gK gL gM gN gO gP gQ gR gS gT gU gV gW gX gY gZ hA hB hC hD hE hF hG hH hI hJ hK hL hM hN hO hP hQ hT hU hV hW hY hZ iA iB iC iD iE iF iG iH iI iJ iK iL iM iN iO iP iQ iR iS iT iU iV iW iX iY iZ jA jB jC jD jE jF jG jH jI jJ jK jL jM jN jO jP jQ jR jS jT jU jV jW jX jY jZ kA kB kC kD kE kF kG kH kI kJ kK kL kM kN kO kP kQ kR kS kT kU kV kW kX kY kZ lA lB lC lD lE lF lG lH lI lJ lK lL lM lN lO lP lQ lR lS lT : Value},
  Code.wp Try.prog inMid (bodyPost Try.prog Try.f102 fun e w' => InTo M w w' g (c.in_ m) e) ⟨#[.pointer (some ⟨g, 0, none⟩), u1, u2, .pointer (some ⟨q, 0, none⟩), .pointer (some ⟨p, 0, none⟩), .int .i64 ld, u6, u7, u8, u9, aA, aB, aC, aD, aE, aF, aG, aH, aI, aJ, aK, aL, aM, aN, aO, aP, aQ, aR, aS, aT, aU, aV, aW, aX, aY, aZ, bA, bB, bC, bD, bE, bF, bG, bH, bI, bJ, bK, bL, bM, bN, bO, bP, bQ, bR, bS, bT, bU, bV, bW, bX, bY, bZ, cA, cB, cC, cD, cE, cF, cG, cH, cI, cJ, cK, cL, cM, cN, cO, cP, cQ, cR, cS, cT, cU, cV, cW, cY, cZ, dA, dB, dC, dD, dE, dF, dG, dH, dI, dJ, dK, dL, dM, dN, dO, dP, dQ, dR, dS, dT, dU, dV, dW, dX, dY, dZ, eA, eB, eC, eD, eE, eF, eG, eH, eI, eJ, eK, eL, eM, eN, eO, eP, eQ, eR, eS, eT, eU, eV, eW, eX, eY, eZ, fA, fB, fC, fD, fE, fF, fG, fH, fI, fJ, fK, fL, fM, fN, fO, fP, fQ, fR, fS, fT, fU, fV, fW, fY, fZ, gA, gB, gC, gD, gE, gF, gG, gH, gI, gJ, gK, gL, gM, gN, gO, gP, gQ, gR, gS, gT, gU, gV, gW, gX, gY, gZ, hA, hB, hC, hD, hE, hF, hG, hH, hI, hJ, hK, hL, hM, hN, hO, hP, hQ, hT, hU, hV, hW, hY, hZ, iA, iB, iC, iD, iE, iF, iG, iH, iI, iJ, iK, iL, iM, iN, iO, iP, iQ, iR, iS, iT, iU, iV, iW, iX, iY, iZ, jA, jB, jC, jD, jE, jF, jG, jH, jI, jJ, jK, jL, jM, jN, jO, jP, jQ, jR, jS, jT, jU, jV, jW, jX, jY, jZ, kA, kB, kC, kD, kE, kF, kG, kH, kI, kJ, kK, kL, kM, kN, kO, kP, kQ, kR, kS, kT, kU, kV, kW, kX, kY, kZ, lA, lB, lC, lD, lE, lF, lG, lH, lI, lJ, lK, lL, lM, lN, lO, lP, lQ, lR, lS, lT], []⟩ w4
set_option maxRecDepth 1000000 in
set_option maxHeartbeats 0 in
theorem vw_In_m1lt : InCase 1 (fun m c => m.view < c.keep.view) := by
  intro w M M99 w2 g q p c m ld la mn lc da md dc HBox Hfin Hh Hk Hl Hld Hmn hk hvw w4 T4
  intros
  replace hvw : m.view < c.keep.view := hvw
  have Hkk := Lib.hid hk
  have Hvw := Lib.hid hvw
  have hmv := Hh.out.view
  obtain ⟨M4, ⟨L, h4⟩, f4⟩ := T4.out
  have hR4 := h4.right
  obtain ⟨bq, _, _, _⟩ := HBox.out _ _ f4
  rw [hk] at bq
  have e0 : w4.cell? ⟨q, 0, none⟩ = some (.int .i64 1) := by simp [World.cell?, bq]
  have e4 : w4.cell? ⟨q, 4, none⟩ = some (.int .i64 m.view) := by simp [World.cell?, bq]
  have y5 : w4.cell? ⟨g, 5, none⟩ = some (.int .i64 c.keep.view) := h4.c5
  have hvl : decide (m.view < c.keep.view) = true := by simp; omega
  have hvg : decide (c.keep.view < m.view) = false := by simp; omega
  clear bq h4 f4 hk hvw
  
  conv => arg 2; whnf
  go_wp2_with fail
  go_region_held3 (fun W => W.cell? ⟨q, 4, none⟩ = some (.int .i64 m.view) ∧ W.cell? ⟨g, 5, none⟩ = some (.int .i64 c.keep.view)) (first | exact ⟨e4, y5⟩ | go_keep) (fail)
  obtain ⟨w5, hw5⟩ : ∃ x, x = w4.drew := ⟨_, rfl⟩
  have T5 : RowKit.Hid (VwTo M99 w2 w5 g c) := Lib.hid (by rw [hw5]; exact T4.out.drew1)
  rw [← hw5]
  clear hw5 e0 e4 y5
  obtain ⟨M5, ⟨L5, h5⟩, f5⟩ := T5.out
  obtain ⟨bq, _, _, _⟩ := HBox.out _ _ f5
  rw [Hkk.out] at bq
  have e0 : w5.cell? ⟨q, 0, none⟩ = some (.int .i64 1) := by simp [World.cell?, bq]
  have e1 : w5.cell? ⟨q, 1, none⟩ = some (.int .i64 m.frm) := by simp [World.cell?, bq]
  have e4 : w5.cell? ⟨q, 4, none⟩ = some (.int .i64 m.view) := by simp [World.cell?, bq]
  have y5 : w5.cell? ⟨g, 5, none⟩ = some (.int .i64 c.keep.view) := h5.c5
  have hS := vw_send w5 ⟨L5, h5⟩ { Vw.Msg.z with kind := 3, to_ := m.frm } _ ⟨none, 0, none, 0, rfl, ⟨Nat.le_refl _, Nat.zero_le _⟩, Sl.nil _ _ _ _, ⟨Nat.le_refl _, Nat.zero_le _⟩, Sl.nil _ _ _ _⟩ (by have := Hl.out; omega)
  obtain ⟨cX, hcX⟩ : ∃ cX, cX = c.send { Vw.Msg.z with kind := 3, to_ := m.frm } := ⟨_, rfl⟩
  have HEq : RowKit.Hid (c.in_ m = cX) := Lib.hid (by rw [c.in_low m Hh.out Hk.out Hvw.out, if_pos (by rw [Hkk.out]; decide), hcX])
  rw [← hcX] at hS
  have hS2 : Calls Try.prog 132 #[.pointer (some ⟨g, 0, none⟩), .agg #[.int .i64 3, .int .i64 0, .int .i64 m.frm, .int .i64 0, .int .i64 0, .int .i64 0, .int .i64 0, .int .i64 0, .int .i64 0, .int .i64 0, .slice none 0 0, .slice none 0 0]] w5 fun e w' => e = .returned (.tuple #[]) ∧ VwTo M5 w5 w' g cX := hS
  have HS := Lib.hid hS2
  have F5 := Lib.hid f5
  clear hS hS2 hcX h5 f5 bq
  go_wp2_with fail
  refine HS.out.mono ?_
  rintro e wX ⟨rfl, tX⟩
  have TX := Lib.hid (VwTo.trans F5.out tX)
  clear tX HS e0 e1 e4 y5
  obtain ⟨MX, hX, fX⟩ := TX.out
  have hT7 := vw_take (M := MX) wX hX
  have FX := Lib.hid fX
  have HT7 := Lib.hid hT7
  clear hX fX hT7
  go_wp2_with fail
  refine HT7.out.mono ?_
  rintro e w7 ⟨v1, v2, v3, rfl, t7⟩
  obtain ⟨s1, n1, p1, s2, n2, p2, s3, n3, p3, rfl, rfl, rfl⟩ := t7.slices
  have hp7 : w7.heap[p]? = some (.cells #[.slice none 0 0, .slice none 0 0, .slice none 0 0] 107 (0, 0)) := by obtain ⟨M7, _, f7, _⟩ := t7; exact (HBox.out _ _ (FX.out.trans f7)).2.1
  have qq0 : w7.cell? ⟨p, 0, none⟩ = some (.slice none 0 0) := by simp [World.cell?, hp7]
  have qq1 : w7.cell? ⟨p, 1, none⟩ = some (.slice none 0 0) := by simp [World.cell?, hp7]
  have qq2 : w7.cell? ⟨p, 2, none⟩ = some (.slice none 0 0) := by simp [World.cell?, hp7]
  have qf : ∀ o, w7.frozen? ⟨p, o, none⟩ = false := fun o => by simp [World.frozen?, hp7]
  have HW7 : RowKit.Hid (∀ W, W = (((w7.setCell ⟨p, 0, none⟩ (.slice s1 n1 p1)).setCell ⟨p, 1, none⟩ (.slice s2 n2 p2)).setCell ⟨p, 2, none⟩ (.slice s3 n3 p3)) → W.heap[p]? = some (.cells #[.slice s1 n1 p1, .slice s2 n2 p2, .slice s3 n3 p3] 107 (0, 0)) ∧ InTo M w W g (c.in_ m) (.returned (.agg #[.slice s1 n1 p1, .slice s2 n2 p2, .slice s3 n3 p3]))) := Lib.hid (by
    rintro W rfl
    refine ⟨by rw [heap_set (heap_set (heap_set hp7 0 _) 1 _) 2 _]; rfl, _, _, _, _, _, _, _, _, _, rfl, ?_⟩
    rw [HEq.out]
    exact Hfin.out _ _ _ _ (TakeTo.trans FX.out t7) (setg (S := (· = p)) (setg (S := (· = p)) (setg (S := (· = p)) (Only.refl _ w7) rfl 0 (.slice s1 n1 p1)) rfl 1 (.slice s2 n2 p2)) rfl 2 (.slice s3 n3 p3)))
  clear t7 hp7
  go_wp2_with fail
  obtain ⟨g1, g2⟩ := HW7.out _ rfl
  refine bodyPost_ret (v := .agg #[.slice s1 n1 p1, .slice s2 n2 p2, .slice s3 n3 p3]) (results_cell_row Try.results102 _ _ p 107 _ (0, 0) _ rfl g1 Try.underlying107 rfl (by kernel_rfl)) rfl ?_
  exact g2
set_option maxRecDepth 1000000 in
set_option maxHeartbeats 0 in
theorem vw_In_m2lt : InCase 2 (fun m c => m.view < c.keep.view) := by
  intro w M M99 w2 g q p c m ld la mn lc da md dc HBox Hfin Hh Hk Hl Hld Hmn hk hvw w4 T4
  intros
  replace hvw : m.view < c.keep.view := hvw
  have Hkk := Lib.hid hk
  have Hvw := Lib.hid hvw
  have hmv := Hh.out.view
  obtain ⟨M4, ⟨L, h4⟩, f4⟩ := T4.out
  have hR4 := h4.right
  obtain ⟨bq, _, _, _⟩ := HBox.out _ _ f4
  rw [hk] at bq
  have e0 : w4.cell? ⟨q, 0, none⟩ = some (.int .i64 2) := by simp [World.cell?, bq]
  have e4 : w4.cell? ⟨q, 4, none⟩ = some (.int .i64 m.view) := by simp [World.cell?, bq]
  have y5 : w4.cell? ⟨g, 5, none⟩ = some (.int .i64 c.keep.view) := h4.c5
  have hvl : decide (m.view < c.keep.view) = true := by simp; omega
  have hvg : decide (c.keep.view < m.view) = false := by simp; omega
  clear bq h4 f4 hk hvw
  
  conv => arg 2; whnf
  go_wp2_with fail
  go_region_held3 (fun W => W.cell? ⟨q, 4, none⟩ = some (.int .i64 m.view) ∧ W.cell? ⟨g, 5, none⟩ = some (.int .i64 c.keep.view)) (first | exact ⟨e4, y5⟩ | go_keep) (fail)
  obtain ⟨w5, hw5⟩ : ∃ x, x = w4.drew := ⟨_, rfl⟩
  have T5 : RowKit.Hid (VwTo M99 w2 w5 g c) := Lib.hid (by rw [hw5]; exact T4.out.drew1)
  rw [← hw5]
  clear hw5 e0 e4 y5
  obtain ⟨M5, ⟨L5, h5⟩, f5⟩ := T5.out
  obtain ⟨bq, _, _, _⟩ := HBox.out _ _ f5
  rw [Hkk.out] at bq
  have e0 : w5.cell? ⟨q, 0, none⟩ = some (.int .i64 2) := by simp [World.cell?, bq]
  have e1 : w5.cell? ⟨q, 1, none⟩ = some (.int .i64 m.frm) := by simp [World.cell?, bq]
  have e4 : w5.cell? ⟨q, 4, none⟩ = some (.int .i64 m.view) := by simp [World.cell?, bq]
  have y5 : w5.cell? ⟨g, 5, none⟩ = some (.int .i64 c.keep.view) := h5.c5
  clear h5 f5 bq
  obtain ⟨wX, hwX⟩ : ∃ x, x = w5 := ⟨_, rfl⟩
  obtain ⟨cX, hcX⟩ : ∃ x, x = c := ⟨_, rfl⟩
  have TX : RowKit.Hid (VwTo M99 w2 wX g cX) := Lib.hid (by rw [hwX, hcX]; exact T5.out)
  have HEq : RowKit.Hid (c.in_ m = cX) := Lib.hid (by rw [c.in_low m Hh.out Hk.out Hvw.out, if_neg (by rw [Hkk.out]; decide), hcX])
  go_upto_region 9 with fail
  rw [← hwX]
  clear hwX hcX e0 e1 e4 y5
  obtain ⟨MX, hX, fX⟩ := TX.out
  have hT7 := vw_take (M := MX) wX hX
  have FX := Lib.hid fX
  have HT7 := Lib.hid hT7
  clear hX fX hT7
  go_wp2_with fail
  refine HT7.out.mono ?_
  rintro e w7 ⟨v1, v2, v3, rfl, t7⟩
  obtain ⟨s1, n1, p1, s2, n2, p2, s3, n3, p3, rfl, rfl, rfl⟩ := t7.slices
  have hp7 : w7.heap[p]? = some (.cells #[.slice none 0 0, .slice none 0 0, .slice none 0 0] 107 (0, 0)) := by obtain ⟨M7, _, f7, _⟩ := t7; exact (HBox.out _ _ (FX.out.trans f7)).2.1
  have qq0 : w7.cell? ⟨p, 0, none⟩ = some (.slice none 0 0) := by simp [World.cell?, hp7]
  have qq1 : w7.cell? ⟨p, 1, none⟩ = some (.slice none 0 0) := by simp [World.cell?, hp7]
  have qq2 : w7.cell? ⟨p, 2, none⟩ = some (.slice none 0 0) := by simp [World.cell?, hp7]
  have qf : ∀ o, w7.frozen? ⟨p, o, none⟩ = false := fun o => by simp [World.frozen?, hp7]
  have HW7 : RowKit.Hid (∀ W, W = (((w7.setCell ⟨p, 0, none⟩ (.slice s1 n1 p1)).setCell ⟨p, 1, none⟩ (.slice s2 n2 p2)).setCell ⟨p, 2, none⟩ (.slice s3 n3 p3)) → W.heap[p]? = some (.cells #[.slice s1 n1 p1, .slice s2 n2 p2, .slice s3 n3 p3] 107 (0, 0)) ∧ InTo M w W g (c.in_ m) (.returned (.agg #[.slice s1 n1 p1, .slice s2 n2 p2, .slice s3 n3 p3]))) := Lib.hid (by
    rintro W rfl
    refine ⟨by rw [heap_set (heap_set (heap_set hp7 0 _) 1 _) 2 _]; rfl, _, _, _, _, _, _, _, _, _, rfl, ?_⟩
    rw [HEq.out]
    exact Hfin.out _ _ _ _ (TakeTo.trans FX.out t7) (setg (S := (· = p)) (setg (S := (· = p)) (setg (S := (· = p)) (Only.refl _ w7) rfl 0 (.slice s1 n1 p1)) rfl 1 (.slice s2 n2 p2)) rfl 2 (.slice s3 n3 p3)))
  clear t7 hp7
  go_wp2_with fail
  obtain ⟨g1, g2⟩ := HW7.out _ rfl
  refine bodyPost_ret (v := .agg #[.slice s1 n1 p1, .slice s2 n2 p2, .slice s3 n3 p3]) (results_cell_row Try.results102 _ _ p 107 _ (0, 0) _ rfl g1 Try.underlying107 rfl (by kernel_rfl)) rfl ?_
  exact g2
set_option maxRecDepth 1000000 in
set_option maxHeartbeats 0 in
theorem vw_In_m3lt : InCase 3 (fun m c => m.view < c.keep.view) := by
  intro w M M99 w2 g q p c m ld la mn lc da md dc HBox Hfin Hh Hk Hl Hld Hmn hk hvw w4 T4
  intros
  replace hvw : m.view < c.keep.view := hvw
  have Hkk := Lib.hid hk
  have Hvw := Lib.hid hvw
  have hmv := Hh.out.view
  obtain ⟨M4, ⟨L, h4⟩, f4⟩ := T4.out
  have hR4 := h4.right
  obtain ⟨bq, _, _, _⟩ := HBox.out _ _ f4
  rw [hk] at bq
  have e0 : w4.cell? ⟨q, 0, none⟩ = some (.int .i64 3) := by simp [World.cell?, bq]
  have e4 : w4.cell? ⟨q, 4, none⟩ = some (.int .i64 m.view) := by simp [World.cell?, bq]
  have y5 : w4.cell? ⟨g, 5, none⟩ = some (.int .i64 c.keep.view) := h4.c5
  have hvl : decide (m.view < c.keep.view) = true := by simp; omega
  have hvg : decide (c.keep.view < m.view) = false := by simp; omega
  clear bq h4 f4 hk hvw
  
  conv => arg 2; whnf
  go_wp2_with fail
  go_region_held3 (fun W => W.cell? ⟨q, 4, none⟩ = some (.int .i64 m.view) ∧ W.cell? ⟨g, 5, none⟩ = some (.int .i64 c.keep.view)) (first | exact ⟨e4, y5⟩ | go_keep) (fail)
  obtain ⟨w5, hw5⟩ : ∃ x, x = w4.drew := ⟨_, rfl⟩
  have T5 : RowKit.Hid (VwTo M99 w2 w5 g c) := Lib.hid (by rw [hw5]; exact T4.out.drew1)
  rw [← hw5]
  clear hw5 e0 e4 y5
  obtain ⟨M5, ⟨L5, h5⟩, f5⟩ := T5.out
  obtain ⟨bq, _, _, _⟩ := HBox.out _ _ f5
  rw [Hkk.out] at bq
  have e0 : w5.cell? ⟨q, 0, none⟩ = some (.int .i64 3) := by simp [World.cell?, bq]
  have e1 : w5.cell? ⟨q, 1, none⟩ = some (.int .i64 m.frm) := by simp [World.cell?, bq]
  have e4 : w5.cell? ⟨q, 4, none⟩ = some (.int .i64 m.view) := by simp [World.cell?, bq]
  have y5 : w5.cell? ⟨g, 5, none⟩ = some (.int .i64 c.keep.view) := h5.c5
  have hS := vw_send w5 ⟨L5, h5⟩ { Vw.Msg.z with kind := 3, to_ := m.frm } _ ⟨none, 0, none, 0, rfl, ⟨Nat.le_refl _, Nat.zero_le _⟩, Sl.nil _ _ _ _, ⟨Nat.le_refl _, Nat.zero_le _⟩, Sl.nil _ _ _ _⟩ (by have := Hl.out; omega)
  obtain ⟨cX, hcX⟩ : ∃ cX, cX = c.send { Vw.Msg.z with kind := 3, to_ := m.frm } := ⟨_, rfl⟩
  have HEq : RowKit.Hid (c.in_ m = cX) := Lib.hid (by rw [c.in_low m Hh.out Hk.out Hvw.out, if_pos (by rw [Hkk.out]; decide), hcX])
  rw [← hcX] at hS
  have hS2 : Calls Try.prog 132 #[.pointer (some ⟨g, 0, none⟩), .agg #[.int .i64 3, .int .i64 0, .int .i64 m.frm, .int .i64 0, .int .i64 0, .int .i64 0, .int .i64 0, .int .i64 0, .int .i64 0, .int .i64 0, .slice none 0 0, .slice none 0 0]] w5 fun e w' => e = .returned (.tuple #[]) ∧ VwTo M5 w5 w' g cX := hS
  have HS := Lib.hid hS2
  have F5 := Lib.hid f5
  clear hS hS2 hcX h5 f5 bq
  go_wp2_with fail
  refine HS.out.mono ?_
  rintro e wX ⟨rfl, tX⟩
  have TX := Lib.hid (VwTo.trans F5.out tX)
  clear tX HS e0 e1 e4 y5
  obtain ⟨MX, hX, fX⟩ := TX.out
  have hT7 := vw_take (M := MX) wX hX
  have FX := Lib.hid fX
  have HT7 := Lib.hid hT7
  clear hX fX hT7
  go_wp2_with fail
  refine HT7.out.mono ?_
  rintro e w7 ⟨v1, v2, v3, rfl, t7⟩
  obtain ⟨s1, n1, p1, s2, n2, p2, s3, n3, p3, rfl, rfl, rfl⟩ := t7.slices
  have hp7 : w7.heap[p]? = some (.cells #[.slice none 0 0, .slice none 0 0, .slice none 0 0] 107 (0, 0)) := by obtain ⟨M7, _, f7, _⟩ := t7; exact (HBox.out _ _ (FX.out.trans f7)).2.1
  have qq0 : w7.cell? ⟨p, 0, none⟩ = some (.slice none 0 0) := by simp [World.cell?, hp7]
  have qq1 : w7.cell? ⟨p, 1, none⟩ = some (.slice none 0 0) := by simp [World.cell?, hp7]
  have qq2 : w7.cell? ⟨p, 2, none⟩ = some (.slice none 0 0) := by simp [World.cell?, hp7]
  have qf : ∀ o, w7.frozen? ⟨p, o, none⟩ = false := fun o => by simp [World.frozen?, hp7]
  have HW7 : RowKit.Hid (∀ W, W = (((w7.setCell ⟨p, 0, none⟩ (.slice s1 n1 p1)).setCell ⟨p, 1, none⟩ (.slice s2 n2 p2)).setCell ⟨p, 2, none⟩ (.slice s3 n3 p3)) → W.heap[p]? = some (.cells #[.slice s1 n1 p1, .slice s2 n2 p2, .slice s3 n3 p3] 107 (0, 0)) ∧ InTo M w W g (c.in_ m) (.returned (.agg #[.slice s1 n1 p1, .slice s2 n2 p2, .slice s3 n3 p3]))) := Lib.hid (by
    rintro W rfl
    refine ⟨by rw [heap_set (heap_set (heap_set hp7 0 _) 1 _) 2 _]; rfl, _, _, _, _, _, _, _, _, _, rfl, ?_⟩
    rw [HEq.out]
    exact Hfin.out _ _ _ _ (TakeTo.trans FX.out t7) (setg (S := (· = p)) (setg (S := (· = p)) (setg (S := (· = p)) (Only.refl _ w7) rfl 0 (.slice s1 n1 p1)) rfl 1 (.slice s2 n2 p2)) rfl 2 (.slice s3 n3 p3)))
  clear t7 hp7
  go_wp2_with fail
  obtain ⟨g1, g2⟩ := HW7.out _ rfl
  refine bodyPost_ret (v := .agg #[.slice s1 n1 p1, .slice s2 n2 p2, .slice s3 n3 p3]) (results_cell_row Try.results102 _ _ p 107 _ (0, 0) _ rfl g1 Try.underlying107 rfl (by kernel_rfl)) rfl ?_
  exact g2
set_option maxRecDepth 1000000 in
set_option maxHeartbeats 0 in
theorem vw_In_m4lt : InCase 4 (fun m c => m.view < c.keep.view) := by
  intro w M M99 w2 g q p c m ld la mn lc da md dc HBox Hfin Hh Hk Hl Hld Hmn hk hvw w4 T4
  intros
  replace hvw : m.view < c.keep.view := hvw
  have Hkk := Lib.hid hk
  have Hvw := Lib.hid hvw
  have hmv := Hh.out.view
  obtain ⟨M4, ⟨L, h4⟩, f4⟩ := T4.out
  have hR4 := h4.right
  obtain ⟨bq, _, _, _⟩ := HBox.out _ _ f4
  rw [hk] at bq
  have e0 : w4.cell? ⟨q, 0, none⟩ = some (.int .i64 4) := by simp [World.cell?, bq]
  have e4 : w4.cell? ⟨q, 4, none⟩ = some (.int .i64 m.view) := by simp [World.cell?, bq]
  have y5 : w4.cell? ⟨g, 5, none⟩ = some (.int .i64 c.keep.view) := h4.c5
  have hvl : decide (m.view < c.keep.view) = true := by simp; omega
  have hvg : decide (c.keep.view < m.view) = false := by simp; omega
  clear bq h4 f4 hk hvw
  
  conv => arg 2; whnf
  go_wp2_with fail
  go_region_held3 (fun W => W.cell? ⟨q, 4, none⟩ = some (.int .i64 m.view) ∧ W.cell? ⟨g, 5, none⟩ = some (.int .i64 c.keep.view)) (first | exact ⟨e4, y5⟩ | go_keep) (fail)
  obtain ⟨w5, hw5⟩ : ∃ x, x = w4.drew := ⟨_, rfl⟩
  have T5 : RowKit.Hid (VwTo M99 w2 w5 g c) := Lib.hid (by rw [hw5]; exact T4.out.drew1)
  rw [← hw5]
  clear hw5 e0 e4 y5
  obtain ⟨M5, ⟨L5, h5⟩, f5⟩ := T5.out
  obtain ⟨bq, _, _, _⟩ := HBox.out _ _ f5
  rw [Hkk.out] at bq
  have e0 : w5.cell? ⟨q, 0, none⟩ = some (.int .i64 4) := by simp [World.cell?, bq]
  have e1 : w5.cell? ⟨q, 1, none⟩ = some (.int .i64 m.frm) := by simp [World.cell?, bq]
  have e4 : w5.cell? ⟨q, 4, none⟩ = some (.int .i64 m.view) := by simp [World.cell?, bq]
  have y5 : w5.cell? ⟨g, 5, none⟩ = some (.int .i64 c.keep.view) := h5.c5
  clear h5 f5 bq
  obtain ⟨wX, hwX⟩ : ∃ x, x = w5 := ⟨_, rfl⟩
  obtain ⟨cX, hcX⟩ : ∃ x, x = c := ⟨_, rfl⟩
  have TX : RowKit.Hid (VwTo M99 w2 wX g cX) := Lib.hid (by rw [hwX, hcX]; exact T5.out)
  have HEq : RowKit.Hid (c.in_ m = cX) := Lib.hid (by rw [c.in_low m Hh.out Hk.out Hvw.out, if_neg (by rw [Hkk.out]; decide), hcX])
  go_upto_region 9 with fail
  rw [← hwX]
  clear hwX hcX e0 e1 e4 y5
  obtain ⟨MX, hX, fX⟩ := TX.out
  have hT7 := vw_take (M := MX) wX hX
  have FX := Lib.hid fX
  have HT7 := Lib.hid hT7
  clear hX fX hT7
  go_wp2_with fail
  refine HT7.out.mono ?_
  rintro e w7 ⟨v1, v2, v3, rfl, t7⟩
  obtain ⟨s1, n1, p1, s2, n2, p2, s3, n3, p3, rfl, rfl, rfl⟩ := t7.slices
  have hp7 : w7.heap[p]? = some (.cells #[.slice none 0 0, .slice none 0 0, .slice none 0 0] 107 (0, 0)) := by obtain ⟨M7, _, f7, _⟩ := t7; exact (HBox.out _ _ (FX.out.trans f7)).2.1
  have qq0 : w7.cell? ⟨p, 0, none⟩ = some (.slice none 0 0) := by simp [World.cell?, hp7]
  have qq1 : w7.cell? ⟨p, 1, none⟩ = some (.slice none 0 0) := by simp [World.cell?, hp7]
  have qq2 : w7.cell? ⟨p, 2, none⟩ = some (.slice none 0 0) := by simp [World.cell?, hp7]
  have qf : ∀ o, w7.frozen? ⟨p, o, none⟩ = false := fun o => by simp [World.frozen?, hp7]
  have HW7 : RowKit.Hid (∀ W, W = (((w7.setCell ⟨p, 0, none⟩ (.slice s1 n1 p1)).setCell ⟨p, 1, none⟩ (.slice s2 n2 p2)).setCell ⟨p, 2, none⟩ (.slice s3 n3 p3)) → W.heap[p]? = some (.cells #[.slice s1 n1 p1, .slice s2 n2 p2, .slice s3 n3 p3] 107 (0, 0)) ∧ InTo M w W g (c.in_ m) (.returned (.agg #[.slice s1 n1 p1, .slice s2 n2 p2, .slice s3 n3 p3]))) := Lib.hid (by
    rintro W rfl
    refine ⟨by rw [heap_set (heap_set (heap_set hp7 0 _) 1 _) 2 _]; rfl, _, _, _, _, _, _, _, _, _, rfl, ?_⟩
    rw [HEq.out]
    exact Hfin.out _ _ _ _ (TakeTo.trans FX.out t7) (setg (S := (· = p)) (setg (S := (· = p)) (setg (S := (· = p)) (Only.refl _ w7) rfl 0 (.slice s1 n1 p1)) rfl 1 (.slice s2 n2 p2)) rfl 2 (.slice s3 n3 p3)))
  clear t7 hp7
  go_wp2_with fail
  obtain ⟨g1, g2⟩ := HW7.out _ rfl
  refine bodyPost_ret (v := .agg #[.slice s1 n1 p1, .slice s2 n2 p2, .slice s3 n3 p3]) (results_cell_row Try.results102 _ _ p 107 _ (0, 0) _ rfl g1 Try.underlying107 rfl (by kernel_rfl)) rfl ?_
  exact g2
set_option maxRecDepth 1000000 in
set_option maxHeartbeats 0 in
theorem vw_In_m5lt : InCase 5 (fun m c => m.view < c.keep.view) := by
  intro w M M99 w2 g q p c m ld la mn lc da md dc HBox Hfin Hh Hk Hl Hld Hmn hk hvw w4 T4
  intros
  replace hvw : m.view < c.keep.view := hvw
  have Hkk := Lib.hid hk
  have Hvw := Lib.hid hvw
  have hmv := Hh.out.view
  obtain ⟨M4, ⟨L, h4⟩, f4⟩ := T4.out
  have hR4 := h4.right
  obtain ⟨bq, _, _, _⟩ := HBox.out _ _ f4
  rw [hk] at bq
  have e0 : w4.cell? ⟨q, 0, none⟩ = some (.int .i64 5) := by simp [World.cell?, bq]
  have e4 : w4.cell? ⟨q, 4, none⟩ = some (.int .i64 m.view) := by simp [World.cell?, bq]
  have y5 : w4.cell? ⟨g, 5, none⟩ = some (.int .i64 c.keep.view) := h4.c5
  have hvl : decide (m.view < c.keep.view) = true := by simp; omega
  have hvg : decide (c.keep.view < m.view) = false := by simp; omega
  clear bq h4 f4 hk hvw
  
  conv => arg 2; whnf
  go_wp2_with fail
  go_region_held3 (fun W => W.cell? ⟨q, 4, none⟩ = some (.int .i64 m.view) ∧ W.cell? ⟨g, 5, none⟩ = some (.int .i64 c.keep.view)) (first | exact ⟨e4, y5⟩ | go_keep) (fail)
  obtain ⟨w5, hw5⟩ : ∃ x, x = w4.drew := ⟨_, rfl⟩
  have T5 : RowKit.Hid (VwTo M99 w2 w5 g c) := Lib.hid (by rw [hw5]; exact T4.out.drew1)
  rw [← hw5]
  clear hw5 e0 e4 y5
  obtain ⟨M5, ⟨L5, h5⟩, f5⟩ := T5.out
  obtain ⟨bq, _, _, _⟩ := HBox.out _ _ f5
  rw [Hkk.out] at bq
  have e0 : w5.cell? ⟨q, 0, none⟩ = some (.int .i64 5) := by simp [World.cell?, bq]
  have e1 : w5.cell? ⟨q, 1, none⟩ = some (.int .i64 m.frm) := by simp [World.cell?, bq]
  have e4 : w5.cell? ⟨q, 4, none⟩ = some (.int .i64 m.view) := by simp [World.cell?, bq]
  have y5 : w5.cell? ⟨g, 5, none⟩ = some (.int .i64 c.keep.view) := h5.c5
  clear h5 f5 bq
  obtain ⟨wX, hwX⟩ : ∃ x, x = w5 := ⟨_, rfl⟩
  obtain ⟨cX, hcX⟩ : ∃ x, x = c := ⟨_, rfl⟩
  have TX : RowKit.Hid (VwTo M99 w2 wX g cX) := Lib.hid (by rw [hwX, hcX]; exact T5.out)
  have HEq : RowKit.Hid (c.in_ m = cX) := Lib.hid (by rw [c.in_low m Hh.out Hk.out Hvw.out, if_neg (by rw [Hkk.out]; decide), hcX])
  go_upto_region 9 with fail
  rw [← hwX]
  clear hwX hcX e0 e1 e4 y5
  obtain ⟨MX, hX, fX⟩ := TX.out
  have hT7 := vw_take (M := MX) wX hX
  have FX := Lib.hid fX
  have HT7 := Lib.hid hT7
  clear hX fX hT7
  go_wp2_with fail
  refine HT7.out.mono ?_
  rintro e w7 ⟨v1, v2, v3, rfl, t7⟩
  obtain ⟨s1, n1, p1, s2, n2, p2, s3, n3, p3, rfl, rfl, rfl⟩ := t7.slices
  have hp7 : w7.heap[p]? = some (.cells #[.slice none 0 0, .slice none 0 0, .slice none 0 0] 107 (0, 0)) := by obtain ⟨M7, _, f7, _⟩ := t7; exact (HBox.out _ _ (FX.out.trans f7)).2.1
  have qq0 : w7.cell? ⟨p, 0, none⟩ = some (.slice none 0 0) := by simp [World.cell?, hp7]
  have qq1 : w7.cell? ⟨p, 1, none⟩ = some (.slice none 0 0) := by simp [World.cell?, hp7]
  have qq2 : w7.cell? ⟨p, 2, none⟩ = some (.slice none 0 0) := by simp [World.cell?, hp7]
  have qf : ∀ o, w7.frozen? ⟨p, o, none⟩ = false := fun o => by simp [World.frozen?, hp7]
  have HW7 : RowKit.Hid (∀ W, W = (((w7.setCell ⟨p, 0, none⟩ (.slice s1 n1 p1)).setCell ⟨p, 1, none⟩ (.slice s2 n2 p2)).setCell ⟨p, 2, none⟩ (.slice s3 n3 p3)) → W.heap[p]? = some (.cells #[.slice s1 n1 p1, .slice s2 n2 p2, .slice s3 n3 p3] 107 (0, 0)) ∧ InTo M w W g (c.in_ m) (.returned (.agg #[.slice s1 n1 p1, .slice s2 n2 p2, .slice s3 n3 p3]))) := Lib.hid (by
    rintro W rfl
    refine ⟨by rw [heap_set (heap_set (heap_set hp7 0 _) 1 _) 2 _]; rfl, _, _, _, _, _, _, _, _, _, rfl, ?_⟩
    rw [HEq.out]
    exact Hfin.out _ _ _ _ (TakeTo.trans FX.out t7) (setg (S := (· = p)) (setg (S := (· = p)) (setg (S := (· = p)) (Only.refl _ w7) rfl 0 (.slice s1 n1 p1)) rfl 1 (.slice s2 n2 p2)) rfl 2 (.slice s3 n3 p3)))
  clear t7 hp7
  go_wp2_with fail
  obtain ⟨g1, g2⟩ := HW7.out _ rfl
  refine bodyPost_ret (v := .agg #[.slice s1 n1 p1, .slice s2 n2 p2, .slice s3 n3 p3]) (results_cell_row Try.results102 _ _ p 107 _ (0, 0) _ rfl g1 Try.underlying107 rfl (by kernel_rfl)) rfl ?_
  exact g2
end Go.Proofs.Ytmmgnbdngpkfcaa

namespace Go.Proofs.Ytmmgnbdngpkfcaa
open Go.RowKit
set_option linter.unusedVariables false

set_option maxRecDepth 1000000 in
set_option maxHeartbeats 0 in
theorem vw_In_m1eq : InCase 1 (fun m c => m.view = c.keep.view) := by
  intro w M M99 w2 g q p c m ld la mn lc da md dc HBox Hfin Hh Hk Hl Hld Hmn hk hvw w4 T4
  intros
  replace hvw : m.view = c.keep.view := hvw
  have Hkk := Lib.hid hk
  have Hvw := Lib.hid hvw
  have hmv := Hh.out.view
  obtain ⟨M4, ⟨L, h4⟩, f4⟩ := T4.out
  have hR4 := h4.right
  obtain ⟨bq, _, _, _⟩ := HBox.out _ _ f4
  rw [hk] at bq
  have e0 : w4.cell? ⟨q, 0, none⟩ = some (.int .i64 1) := by simp [World.cell?, bq]
  have e4 : w4.cell? ⟨q, 4, none⟩ = some (.int .i64 m.view) := by simp [World.cell?, bq]
  have y5 : w4.cell? ⟨g, 5, none⟩ = some (.int .i64 c.keep.view) := h4.c5
  have hvl : decide (m.view < c.keep.view) = false := by simp; omega
  have hvg : decide (c.keep.view < m.view) = false := by simp; omega
  clear bq h4 f4 hk hvw
  rw [inMid_eq]; refine wp_seq ?_
  conv => arg 2; whnf
  go_wp2_with fail
  go_region_held3 (fun W => W.cell? ⟨q, 4, none⟩ = some (.int .i64 m.view) ∧ W.cell? ⟨g, 5, none⟩ = some (.int .i64 c.keep.view)) (first | exact ⟨e4, y5⟩ | go_keep) (fail)
  obtain ⟨w5, hw5⟩ : ∃ x, x = w4.drew := ⟨_, rfl⟩
  have T5 : RowKit.Hid (VwTo M99 w2 w5 g c) := Lib.hid (by rw [hw5]; exact T4.out.drew1)
  rw [← hw5]
  clear hw5 e0 e4 y5
  obtain ⟨M5, ⟨L5, h5⟩, f5⟩ := T5.out
  obtain ⟨bq, _, _, _⟩ := HBox.out _ _ f5
  rw [Hkk.out] at bq
  have e0 : w5.cell? ⟨q, 0, none⟩ = some (.int .i64 1) := by simp [World.cell?, bq]
  have e1 : w5.cell? ⟨q, 1, none⟩ = some (.int .i64 m.frm) := by simp [World.cell?, bq]
  have e4 : w5.cell? ⟨q, 4, none⟩ = some (.int .i64 m.view) := by simp [World.cell?, bq]
  have y5 : w5.cell? ⟨g, 5, none⟩ = some (.int .i64 c.keep.view) := h5.c5
  have HC1 : RowKit.Hid (c.inC m = c) := Lib.hid (by unfold Vw.Core.inC; rw [if_neg (by rintro ⟨h, h1, h2⟩; have := Hvw.out; omega)])
  have HE0 : RowKit.Hid (c.in_ m = c.inD m ld) := Lib.hid (by rw [c.in_high m Hh.out Hk.out (by have := Hvw.out; omega), HC1.out, ← Hld.out])
  have HR : RowKit.Hid (Vw.Rest c c 6020) := Lib.hid ((Vw.Rest.refl c).mono (Nat.zero_le _))
  clear h5 f5 bq hR4
  go_wp2_with fail
  go_quiet (fail)
  obtain ⟨w6, hw6⟩ : ∃ x, x = w5.drewN nq := ⟨_, rfl⟩
  have T6 : RowKit.Hid (VwTo M99 w2 w6 g c) := Lib.hid (by rw [hw6]; exact T5.out.drewN nq)
  rw [← hw6]
  clear hw6 e0 e1 e4 y5
  go_wp2_with fail
  exact vw_In_t1 w M M99 w2 g q p c m ld la mn lc da md dc HBox Hfin Hh Hk Hl Hld Hmn Hkk.out c w6 T6 HE0 HR
set_option maxRecDepth 1000000 in
set_option maxHeartbeats 0 in
theorem vw_In_m2eq : InCase 2 (fun m c => m.view = c.keep.view) := by
  intro w M M99 w2 g q p c m ld la mn lc da md dc HBox Hfin Hh Hk Hl Hld Hmn hk hvw w4 T4
  intros
  replace hvw : m.view = c.keep.view := hvw
  have Hkk := Lib.hid hk
  have Hvw := Lib.hid hvw
  have hmv := Hh.out.view
  obtain ⟨M4, ⟨L, h4⟩, f4⟩ := T4.out
  have hR4 := h4.right
  obtain ⟨bq, _, _, _⟩ := HBox.out _ _ f4
  rw [hk] at bq
  have e0 : w4.cell? ⟨q, 0, none⟩ = some (.int .i64 2) := by simp [World.cell?, bq]
  have e4 : w4.cell? ⟨q, 4, none⟩ = some (.int .i64 m.view) := by simp [World.cell?, bq]
  have y5 : w4.cell? ⟨g, 5, none⟩ = some (.int .i64 c.keep.view) := h4.c5
  have hvl : decide (m.view < c.keep.view) = false := by simp; omega
  have hvg : decide (c.keep.view < m.view) = false := by simp; omega
  clear bq h4 f4 hk hvw
  rw [inMid_eq]; refine wp_seq ?_
  conv => arg 2; whnf
  go_wp2_with fail
  go_region_held3 (fun W => W.cell? ⟨q, 4, none⟩ = some (.int .i64 m.view) ∧ W.cell? ⟨g, 5, none⟩ = some (.int .i64 c.keep.view)) (first | exact ⟨e4, y5⟩ | go_keep) (fail)
  obtain ⟨w5, hw5⟩ : ∃ x, x = w4.drew := ⟨_, rfl⟩
  have T5 : RowKit.Hid (VwTo M99 w2 w5 g c) := Lib.hid (by rw [hw5]; exact T4.out.drew1)
  rw [← hw5]
  clear hw5 e0 e4 y5
  obtain ⟨M5, ⟨L5, h5⟩, f5⟩ := T5.out
  obtain ⟨bq, _, _, _⟩ := HBox.out _ _ f5
  rw [Hkk.out] at bq
  have e0 : w5.cell? ⟨q, 0, none⟩ = some (.int .i64 2) := by simp [World.cell?, bq]
  have e1 : w5.cell? ⟨q, 1, none⟩ = some (.int .i64 m.frm) := by simp [World.cell?, bq]
  have e4 : w5.cell? ⟨q, 4, none⟩ = some (.int .i64 m.view) := by simp [World.cell?, bq]
  have y5 : w5.cell? ⟨g, 5, none⟩ = some (.int .i64 c.keep.view) := h5.c5
  have HC1 : RowKit.Hid (c.inC m = c) := Lib.hid (by unfold Vw.Core.inC; rw [if_neg (by rintro ⟨h, h1, h2⟩; have := Hvw.out; omega)])
  have HE0 : RowKit.Hid (c.in_ m = c.inD m ld) := Lib.hid (by rw [c.in_high m Hh.out Hk.out (by have := Hvw.out; omega), HC1.out, ← Hld.out])
  have HR : RowKit.Hid (Vw.Rest c c 6020) := Lib.hid ((Vw.Rest.refl c).mono (Nat.zero_le _))
  clear h5 f5 bq hR4
  go_wp2_with fail
  go_quiet (fail)
  obtain ⟨w6, hw6⟩ : ∃ x, x = w5.drewN nq := ⟨_, rfl⟩
  have T6 : RowKit.Hid (VwTo M99 w2 w6 g c) := Lib.hid (by rw [hw6]; exact T5.out.drewN nq)
  rw [← hw6]
  clear hw6 e0 e1 e4 y5
  go_wp2_with fail
  exact vw_In_t2 w M M99 w2 g q p c m ld la mn lc da md dc HBox Hfin Hh Hk Hl Hld Hmn Hkk.out c w6 T6 HE0 HR
set_option maxRecDepth 1000000 in
set_option maxHeartbeats 0 in
theorem vw_In_m3eq : InCase 3 (fun m c => m.view = c.keep.view) := by
  intro w M M99 w2 g q p c m ld la mn lc da md dc HBox Hfin Hh Hk Hl Hld Hmn hk hvw w4 T4
  intros
  replace hvw : m.view = c.keep.view := hvw
  have Hkk := Lib.hid hk
  have Hvw := Lib.hid hvw
  have hmv := Hh.out.view
  obtain ⟨M4, ⟨L, h4⟩, f4⟩ := T4.out
  have hR4 := h4.right
  obtain ⟨bq, _, _, _⟩ := HBox.out _ _ f4
  rw [hk] at bq
  have e0 : w4.cell? ⟨q, 0, none⟩ = some (.int .i64 3) := by simp [World.cell?, bq]
  have e4 : w4.cell? ⟨q, 4, none⟩ = some (.int .i64 m.view) := by simp [World.cell?, bq]
  have y5 : w4.cell? ⟨g, 5, none⟩ = some (.int .i64 c.keep.view) := h4.c5
  have hvl : decide (m.view < c.keep.view) = false := by simp; omega
  have hvg : decide (c.keep.view < m.view) = false := by simp; omega
  clear bq h4 f4 hk hvw
  rw [inMid_eq]; refine wp_seq ?_
  conv => arg 2; whnf
  go_wp2_with fail
  go_region_held3 (fun W => W.cell? ⟨q, 4, none⟩ = some (.int .i64 m.view) ∧ W.cell? ⟨g, 5, none⟩ = some (.int .i64 c.keep.view)) (first | exact ⟨e4, y5⟩ | go_keep) (fail)
  obtain ⟨w5, hw5⟩ : ∃ x, x = w4.drew := ⟨_, rfl⟩
  have T5 : RowKit.Hid (VwTo M99 w2 w5 g c) := Lib.hid (by rw [hw5]; exact T4.out.drew1)
  rw [← hw5]
  clear hw5 e0 e4 y5
  obtain ⟨M5, ⟨L5, h5⟩, f5⟩ := T5.out
  obtain ⟨bq, _, _, _⟩ := HBox.out _ _ f5
  rw [Hkk.out] at bq
  have e0 : w5.cell? ⟨q, 0, none⟩ = some (.int .i64 3) := by simp [World.cell?, bq]
  have e1 : w5.cell? ⟨q, 1, none⟩ = some (.int .i64 m.frm) := by simp [World.cell?, bq]
  have e4 : w5.cell? ⟨q, 4, none⟩ = some (.int .i64 m.view) := by simp [World.cell?, bq]
  have y5 : w5.cell? ⟨g, 5, none⟩ = some (.int .i64 c.keep.view) := h5.c5
  have HC1 : RowKit.Hid (c.inC m = c) := Lib.hid (by unfold Vw.Core.inC; rw [if_neg (by rintro ⟨h, h1, h2⟩; have := Hvw.out; omega)])
  have HE0 : RowKit.Hid (c.in_ m = c.inD m ld) := Lib.hid (by rw [c.in_high m Hh.out Hk.out (by have := Hvw.out; omega), HC1.out, ← Hld.out])
  have HR : RowKit.Hid (Vw.Rest c c 6020) := Lib.hid ((Vw.Rest.refl c).mono (Nat.zero_le _))
  clear h5 f5 bq hR4
  go_wp2_with fail
  go_quiet (fail)
  obtain ⟨w6, hw6⟩ : ∃ x, x = w5.drewN nq := ⟨_, rfl⟩
  have T6 : RowKit.Hid (VwTo M99 w2 w6 g c) := Lib.hid (by rw [hw6]; exact T5.out.drewN nq)
  rw [← hw6]
  clear hw6 e0 e1 e4 y5
  go_wp2_with fail
  exact vw_In_t3 w M M99 w2 g q p c m ld la mn lc da md dc HBox Hfin Hh Hk Hl Hld Hmn Hkk.out c w6 T6 HE0 HR
set_option maxRecDepth 1000000 in
set_option maxHeartbeats 0 in
theorem vw_In_m4eq : InCase 4 (fun m c => m.view = c.keep.view) := by
  intro w M M99 w2 g q p c m ld la mn lc da md dc HBox Hfin Hh Hk Hl Hld Hmn hk hvw w4 T4
  intros
  replace hvw : m.view = c.keep.view := hvw
  have Hkk := Lib.hid hk
  have Hvw := Lib.hid hvw
  have hmv := Hh.out.view
  obtain ⟨M4, ⟨L, h4⟩, f4⟩ := T4.out
  have hR4 := h4.right
  obtain ⟨bq, _, _, _⟩ := HBox.out _ _ f4
  rw [hk] at bq
  have e0 : w4.cell? ⟨q, 0, none⟩ = some (.int .i64 4) := by simp [World.cell?, bq]
  have e4 : w4.cell? ⟨q, 4, none⟩ = some (.int .i64 m.view) := by simp [World.cell?, bq]
  have y5 : w4.cell? ⟨g, 5, none⟩ = some (.int .i64 c.keep.view) := h4.c5
  have hvl : decide (m.view < c.keep.view) = false := by simp; omega
  have hvg : decide (c.keep.view < m.view) = false := by simp; omega
  clear bq h4 f4 hk hvw
  rw [inMid_eq]; refine wp_seq ?_
  conv => arg 2; whnf
  go_wp2_with fail
  go_region_held3 (fun W => W.cell? ⟨q, 4, none⟩ = some (.int .i64 m.view) ∧ W.cell? ⟨g, 5, none⟩ = some (.int .i64 c.keep.view)) (first | exact ⟨e4, y5⟩ | go_keep) (fail)
  obtain ⟨w5, hw5⟩ : ∃ x, x = w4.drew := ⟨_, rfl⟩
  have T5 : RowKit.Hid (VwTo M99 w2 w5 g c) := Lib.hid (by rw [hw5]; exact T4.out.drew1)
  rw [← hw5]
  clear hw5 e0 e4 y5
  obtain ⟨M5, ⟨L5, h5⟩, f5⟩ := T5.out
  obtain ⟨bq, _, _, _⟩ := HBox.out _ _ f5
  rw [Hkk.out] at bq
  have e0 : w5.cell? ⟨q, 0, none⟩ = some (.int .i64 4) := by simp [World.cell?, bq]
  have e1 : w5.cell? ⟨q, 1, none⟩ = some (.int .i64 m.frm) := by simp [World.cell?, bq]
  have e4 : w5.cell? ⟨q, 4, none⟩ = some (.int .i64 m.view) := by simp [World.cell?, bq]
  have y5 : w5.cell? ⟨g, 5, none⟩ = some (.int .i64 c.keep.view) := h5.c5
  have HC1 : RowKit.Hid (c.inC m = c) := Lib.hid (by unfold Vw.Core.inC; rw [if_neg (by rintro ⟨h, h1, h2⟩; have := Hvw.out; omega)])
  have HE0 : RowKit.Hid (c.in_ m = c.inD m ld) := Lib.hid (by rw [c.in_high m Hh.out Hk.out (by have := Hvw.out; omega), HC1.out, ← Hld.out])
  have HR : RowKit.Hid (Vw.Rest c c 6020) := Lib.hid ((Vw.Rest.refl c).mono (Nat.zero_le _))
  clear h5 f5 bq hR4
  go_wp2_with fail
  go_quiet (fail)
  obtain ⟨w6, hw6⟩ : ∃ x, x = w5.drewN nq := ⟨_, rfl⟩
  have T6 : RowKit.Hid (VwTo M99 w2 w6 g c) := Lib.hid (by rw [hw6]; exact T5.out.drewN nq)
  rw [← hw6]
  clear hw6 e0 e1 e4 y5
  go_wp2_with fail
  exact vw_In_t4 w M M99 w2 g q p c m ld la mn lc da md dc HBox Hfin Hh Hk Hl Hld Hmn Hkk.out c w6 T6 HE0 HR
set_option maxRecDepth 1000000 in
set_option maxHeartbeats 0 in
theorem vw_In_m5eq : InCase 5 (fun m c => m.view = c.keep.view) := by
  intro w M M99 w2 g q p c m ld la mn lc da md dc HBox Hfin Hh Hk Hl Hld Hmn hk hvw w4 T4
  intros
  replace hvw : m.view = c.keep.view := hvw
  have Hkk := Lib.hid hk
  have Hvw := Lib.hid hvw
  have hmv := Hh.out.view
  obtain ⟨M4, ⟨L, h4⟩, f4⟩ := T4.out
  have hR4 := h4.right
  obtain ⟨bq, _, _, _⟩ := HBox.out _ _ f4
  rw [hk] at bq
  have e0 : w4.cell? ⟨q, 0, none⟩ = some (.int .i64 5) := by simp [World.cell?, bq]
  have e4 : w4.cell? ⟨q, 4, none⟩ = some (.int .i64 m.view) := by simp [World.cell?, bq]
  have y5 : w4.cell? ⟨g, 5, none⟩ = some (.int .i64 c.keep.view) := h4.c5
  have hvl : decide (m.view < c.keep.view) = false := by simp; omega
  have hvg : decide (c.keep.view < m.view) = false := by simp; omega
  clear bq h4 f4 hk hvw
  rw [inMid_eq]; refine wp_seq ?_
  conv => arg 2; whnf
  go_wp2_with fail
  go_region_held3 (fun W => W.cell? ⟨q, 4, none⟩ = some (.int .i64 m.view) ∧ W.cell? ⟨g, 5, none⟩ = some (.int .i64 c.keep.view)) (first | exact ⟨e4, y5⟩ | go_keep) (fail)
  obtain ⟨w5, hw5⟩ : ∃ x, x = w4.drew := ⟨_, rfl⟩
  have T5 : RowKit.Hid (VwTo M99 w2 w5 g c) := Lib.hid (by rw [hw5]; exact T4.out.drew1)
  rw [← hw5]
  clear hw5 e0 e4 y5
  obtain ⟨M5, ⟨L5, h5⟩, f5⟩ := T5.out
  obtain ⟨bq, _, _, _⟩ := HBox.out _ _ f5
  rw [Hkk.out] at bq
  have e0 : w5.cell? ⟨q, 0, none⟩ = some (.int .i64 5) := by simp [World.cell?, bq]
  have e1 : w5.cell? ⟨q, 1, none⟩ = some (.int .i64 m.frm) := by simp [World.cell?, bq]
  have e4 : w5.cell? ⟨q, 4, none⟩ = some (.int .i64 m.view) := by simp [World.cell?, bq]
  have y5 : w5.cell? ⟨g, 5, none⟩ = some (.int .i64 c.keep.view) := h5.c5
  have HC1 : RowKit.Hid (c.inC m = c) := Lib.hid (by unfold Vw.Core.inC; rw [if_neg (by rintro ⟨h, h1, h2⟩; have := Hvw.out; omega)])
  have HE0 : RowKit.Hid (c.in_ m = c.inD m ld) := Lib.hid (by rw [c.in_high m Hh.out Hk.out (by have := Hvw.out; omega), HC1.out, ← Hld.out])
  have HR : RowKit.Hid (Vw.Rest c c 6020) := Lib.hid ((Vw.Rest.refl c).mono (Nat.zero_le _))
  clear h5 f5 bq hR4
  go_wp2_with fail
  go_quiet (fail)
  obtain ⟨w6, hw6⟩ : ∃ x, x = w5.drewN nq := ⟨_, rfl⟩
  have T6 : RowKit.Hid (VwTo M99 w2 w6 g c) := Lib.hid (by rw [hw6]; exact T5.out.drewN nq)
  rw [← hw6]
  clear hw6 e0 e1 e4 y5
  go_wp2_with fail
  exact vw_In_t5 w M M99 w2 g q p c m ld la mn lc da md dc HBox Hfin Hh Hk Hl Hld Hmn Hkk.out c w6 T6 HE0 HR
end Go.Proofs.Ytmmgnbdngpkfcaa

namespace Go.Proofs.Ytmmgnbdngpkfcaa
open Go.RowKit
set_option linter.unusedVariables false

set_option maxRecDepth 1000000 in
set_option maxHeartbeats 0 in
theorem vw_In_m1gt : InCase 1 (fun m c => c.keep.view < m.view) := by
  intro w M M99 w2 g q p c m ld la mn lc da md dc HBox Hfin Hh Hk Hl Hld Hmn hk hvw w4 T4
  intros
  replace hvw : c.keep.view < m.view := hvw
  have Hkk := Lib.hid hk
  have Hvw := Lib.hid hvw
  have hmv := Hh.out.view
  obtain ⟨M4, ⟨L, h4⟩, f4⟩ := T4.out
  have hR4 := h4.right
  obtain ⟨bq, _, _, _⟩ := HBox.out _ _ f4
  rw [hk] at bq
  have e0 : w4.cell? ⟨q, 0, none⟩ = some (.int .i64 1) := by simp [World.cell?, bq]
  have e4 : w4.cell? ⟨q, 4, none⟩ = some (.int .i64 m.view) := by simp [World.cell?, bq]
  have y5 : w4.cell? ⟨g, 5, none⟩ = some (.int .i64 c.keep.view) := h4.c5
  have hvl : decide (m.view < c.keep.view) = false := by simp; omega
  have hvg : decide (c.keep.view < m.view) = true := by simp; omega
  clear bq h4 f4 hk hvw
  rw [inMid_eq]; refine wp_seq ?_
  conv => arg 2; whnf
  go_wp2_with fail
  go_region_held3 (fun W => W.cell? ⟨q, 4, none⟩ = some (.int .i64 m.view) ∧ W.cell? ⟨g, 5, none⟩ = some (.int .i64 c.keep.view)) (first | exact ⟨e4, y5⟩ | go_keep) (fail)
  obtain ⟨w5, hw5⟩ : ∃ x, x = w4.drew := ⟨_, rfl⟩
  have T5 : RowKit.Hid (VwTo M99 w2 w5 g c) := Lib.hid (by rw [hw5]; exact T4.out.drew1)
  rw [← hw5]
  clear hw5 e0 e4 y5
  obtain ⟨M5, ⟨L5, h5⟩, f5⟩ := T5.out
  obtain ⟨bq, _, _, _⟩ := HBox.out _ _ f5
  rw [Hkk.out] at bq
  have e0 : w5.cell? ⟨q, 0, none⟩ = some (.int .i64 1) := by simp [World.cell?, bq]
  have e1 : w5.cell? ⟨q, 1, none⟩ = some (.int .i64 m.frm) := by simp [World.cell?, bq]
  have e4 : w5.cell? ⟨q, 4, none⟩ = some (.int .i64 m.view) := by simp [World.cell?, bq]
  have y5 : w5.cell? ⟨g, 5, none⟩ = some (.int .i64 c.keep.view) := h5.c5
  have hCh := vw_change (M := M5) w5.drew ⟨L5, h5.drew⟩ m.view hmv (by have := Hl.out; omega) (by have := Hl.out; omega) (by have := Hl.out; omega)
  have HC1 : RowKit.Hid (c.inC m = c.change m.view) := Lib.hid (by unfold Vw.Core.inC; rw [if_pos ⟨by have := Hvw.out; omega, by rw [Hkk.out]; decide, by rw [Hkk.out]; decide⟩])
  have HE0 : RowKit.Hid (c.in_ m = (c.change m.view).inD m ld) := Lib.hid (by rw [c.in_high m Hh.out Hk.out (by have := Hvw.out; omega), HC1.out, ← Hld.out])
  have HR : RowKit.Hid (Vw.Rest c (c.change m.view) 6020) := Lib.hid (c.change_rest m.view hR4 hmv).1
  have HCh := Lib.hid hCh
  have F5 := Lib.hid f5.drew
  clear hCh h5 f5 bq hR4
  go_wp2_with fail
  go_region_held3 (fun W => W.cell? ⟨q, 0, none⟩ = some (.int .i64 1) ∧ W.cell? ⟨q, 4, none⟩ = some (.int .i64 m.view) ∧ W.cell? ⟨g, 5, none⟩ = some (.int .i64 c.keep.view)) (first | exact ⟨e0, e4, y5⟩ | go_keep) (fail)
  go_wp2_with fail
  refine HCh.out.mono ?_
  rintro e w6 ⟨rfl, t6⟩
  have T6 := Lib.hid (VwTo.trans F5.out t6)
  clear t6 HCh e0 e1 e4 y5
  go_wp2_with fail
  exact vw_In_t1 w M M99 w2 g q p c m ld la mn lc da md dc HBox Hfin Hh Hk Hl Hld Hmn Hkk.out (c.change m.view) w6 T6 HE0 HR
set_option maxRecDepth 1000000 in
set_option maxHeartbeats 0 in
theorem vw_In_m2gt : InCase 2 (fun m c => c.keep.view < m.view) := by
  intro w M M99 w2 g q p c m ld la mn lc da md dc HBox Hfin Hh Hk Hl Hld Hmn hk hvw w4 T4
  intros
  replace hvw : c.keep.view < m.view := hvw
  have Hkk := Lib.hid hk
  have Hvw := Lib.hid hvw
  have hmv := Hh.out.view
  obtain ⟨M4, ⟨L, h4⟩, f4⟩ := T4.out
  have hR4 := h4.right
  obtain ⟨bq, _, _, _⟩ := HBox.out _ _ f4
  rw [hk] at bq
  have e0 : w4.cell? ⟨q, 0, none⟩ = some (.int .i64 2) := by simp [World.cell?, bq]
  have e4 : w4.cell? ⟨q, 4, none⟩ = some (.int .i64 m.view) := by simp [World.cell?, bq]
  have y5 : w4.cell? ⟨g, 5, none⟩ = some (.int .i64 c.keep.view) := h4.c5
  have hvl : decide (m.view < c.keep.view) = false := by simp; omega
  have hvg : decide (c.keep.view < m.view) = true := by simp; omega
  clear bq h4 f4 hk hvw
  rw [inMid_eq]; refine wp_seq ?_
  conv => arg 2; whnf
  go_wp2_with fail
  go_region_held3 (fun W => W.cell? ⟨q, 4, none⟩ = some (.int .i64 m.view) ∧ W.cell? ⟨g, 5, none⟩ = some (.int .i64 c.keep.view)) (first | exact ⟨e4, y5⟩ | go_keep) (fail)
  obtain ⟨w5, hw5⟩ : ∃ x, x = w4.drew := ⟨_, rfl⟩
  have T5 : RowKit.Hid (VwTo M99 w2 w5 g c) := Lib.hid (by rw [hw5]; exact T4.out.drew1)
  rw [← hw5]
  clear hw5 e0 e4 y5
  obtain ⟨M5, ⟨L5, h5⟩, f5⟩ := T5.out
  obtain ⟨bq, _, _, _⟩ := HBox.out _ _ f5
  rw [Hkk.out] at bq
  have e0 : w5.cell? ⟨q, 0, none⟩ = some (.int .i64 2) := by simp [World.cell?, bq]
  have e1 : w5.cell? ⟨q, 1, none⟩ = some (.int .i64 m.frm) := by simp [World.cell?, bq]
  have e4 : w5.cell? ⟨q, 4, none⟩ = some (.int .i64 m.view) := by simp [World.cell?, bq]
  have y5 : w5.cell? ⟨g, 5, none⟩ = some (.int .i64 c.keep.view) := h5.c5
  have HC1 : RowKit.Hid (c.inC m = c) := Lib.hid (by unfold Vw.Core.inC; rw [if_neg (by rintro ⟨h, h1, h2⟩; exact h2 Hkk.out)])
  have HE0 : RowKit.Hid (c.in_ m = c.inD m ld) := Lib.hid (by rw [c.in_high m Hh.out Hk.out (by have := Hvw.out; omega), HC1.out, ← Hld.out])
  have HR : RowKit.Hid (Vw.Rest c c 6020) := Lib.hid ((Vw.Rest.refl c).mono (Nat.zero_le _))
  clear h5 f5 bq hR4
  go_wp2_with fail
  go_quiet (fail)
  obtain ⟨w6, hw6⟩ : ∃ x, x = w5.drewN nq := ⟨_, rfl⟩
  have T6 : RowKit.Hid (VwTo M99 w2 w6 g c) := Lib.hid (by rw [hw6]; exact T5.out.drewN nq)
  rw [← hw6]
  clear hw6 e0 e1 e4 y5
  go_wp2_with fail
  exact vw_In_t2 w M M99 w2 g q p c m ld la mn lc da md dc HBox Hfin Hh Hk Hl Hld Hmn Hkk.out c w6 T6 HE0 HR
set_option maxRecDepth 1000000 in
set_option maxHeartbeats 0 in
theorem vw_In_m3gt : InCase 3 (fun m c => c.keep.view < m.view) := by
  intro w M M99 w2 g q p c m ld la mn lc da md dc HBox Hfin Hh Hk Hl Hld Hmn hk hvw w4 T4
  intros
  replace hvw : c.keep.view < m.view := hvw
  have Hkk := Lib.hid hk
  have Hvw := Lib.hid hvw
  have hmv := Hh.out.view
  obtain ⟨M4, ⟨L, h4⟩, f4⟩ := T4.out
  have hR4 := h4.right
  obtain ⟨bq, _, _, _⟩ := HBox.out _ _ f4
  rw [hk] at bq
  have e0 : w4.cell? ⟨q, 0, none⟩ = some (.int .i64 3) := by simp [World.cell?, bq]
  have e4 : w4.cell? ⟨q, 4, none⟩ = some (.int .i64 m.view) := by simp [World.cell?, bq]
  have y5 : w4.cell? ⟨g, 5, none⟩ = some (.int .i64 c.keep.view) := h4.c5
  have hvl : decide (m.view < c.keep.view) = false := by simp; omega
  have hvg : decide (c.keep.view < m.view) = true := by simp; omega
  clear bq h4 f4 hk hvw
  rw [inMid_eq]; refine wp_seq ?_
  conv => arg 2; whnf
  go_wp2_with fail
  go_region_held3 (fun W => W.cell? ⟨q, 4, none⟩ = some (.int .i64 m.view) ∧ W.cell? ⟨g, 5, none⟩ = some (.int .i64 c.keep.view)) (first | exact ⟨e4, y5⟩ | go_keep) (fail)
  obtain ⟨w5, hw5⟩ : ∃ x, x = w4.drew := ⟨_, rfl⟩
  have T5 : RowKit.Hid (VwTo M99 w2 w5 g c) := Lib.hid (by rw [hw5]; exact T4.out.drew1)
  rw [← hw5]
  clear hw5 e0 e4 y5
  obtain ⟨M5, ⟨L5, h5⟩, f5⟩ := T5.out
  obtain ⟨bq, _, _, _⟩ := HBox.out _ _ f5
  rw [Hkk.out] at bq
  have e0 : w5.cell? ⟨q, 0, none⟩ = some (.int .i64 3) := by simp [World.cell?, bq]
  have e1 : w5.cell? ⟨q, 1, none⟩ = some (.int .i64 m.frm) := by simp [World.cell?, bq]
  have e4 : w5.cell? ⟨q, 4, none⟩ = some (.int .i64 m.view) := by simp [World.cell?, bq]
  have y5 : w5.cell? ⟨g, 5, none⟩ = some (.int .i64 c.keep.view) := h5.c5
  have hCh := vw_change (M := M5) w5.drew ⟨L5, h5.drew⟩ m.view hmv (by have := Hl.out; omega) (by have := Hl.out; omega) (by have := Hl.out; omega)
  have HC1 : RowKit.Hid (c.inC m = c.change m.view) := Lib.hid (by unfold Vw.Core.inC; rw [if_pos ⟨by have := Hvw.out; omega, by rw [Hkk.out]; decide, by rw [Hkk.out]; decide⟩])
  have HE0 : RowKit.Hid (c.in_ m = (c.change m.view).inD m ld) := Lib.hid (by rw [c.in_high m Hh.out Hk.out (by have := Hvw.out; omega), HC1.out, ← Hld.out])
  have HR : RowKit.Hid (Vw.Rest c (c.change m.view) 6020) := Lib.hid (c.change_rest m.view hR4 hmv).1
  have HCh := Lib.hid hCh
  have F5 := Lib.hid f5.drew
  clear hCh h5 f5 bq hR4
  go_wp2_with fail
  go_region_held3 (fun W => W.cell? ⟨q, 0, none⟩ = some (.int .i64 3) ∧ W.cell? ⟨q, 4, none⟩ = some (.int .i64 m.view) ∧ W.cell? ⟨g, 5, none⟩ = some (.int .i64 c.keep.view)) (first | exact ⟨e0, e4, y5⟩ | go_keep) (fail)
  go_wp2_with fail
  refine HCh.out.mono ?_
  rintro e w6 ⟨rfl, t6⟩
  have T6 := Lib.hid (VwTo.trans F5.out t6)
  clear t6 HCh e0 e1 e4 y5
  go_wp2_with fail
  exact vw_In_t3 w M M99 w2 g q p c m ld la mn lc da md dc HBox Hfin Hh Hk Hl Hld Hmn Hkk.out (c.change m.view) w6 T6 HE0 HR
set_option maxRecDepth 1000000 in
set_option maxHeartbeats 0 in
theorem vw_In_m4gt : InCase 4 (fun m c => c.keep.view < m.view) := by
  intro w M M99 w2 g q p c m ld la mn lc da md dc HBox Hfin Hh Hk Hl Hld Hmn hk hvw w4 T4
  intros
  replace hvw : c.keep.view < m.view := hvw
  have Hkk := Lib.hid hk
  have Hvw := Lib.hid hvw
  have hmv := Hh.out.view
  obtain ⟨M4, ⟨L, h4⟩, f4⟩ := T4.out
  have hR4 := h4.right
  obtain ⟨bq, _, _, _⟩ := HBox.out _ _ f4
  rw [hk] at bq
  have e0 : w4.cell? ⟨q, 0, none⟩ = some (.int .i64 4) := by simp [World.cell?, bq]
  have e4 : w4.cell? ⟨q, 4, none⟩ = some (.int .i64 m.view) := by simp [World.cell?, bq]
  have y5 : w4.cell? ⟨g, 5, none⟩ = some (.int .i64 c.keep.view) := h4.c5
  have hvl : decide (m.view < c.keep.view) = false := by simp; omega
  have hvg : decide (c.keep.view < m.view) = true := by simp; omega
  clear bq h4 f4 hk hvw
  rw [inMid_eq]; refine wp_seq ?_
  conv => arg 2; whnf
  go_wp2_with fail
  go_region_held3 (fun W => W.cell? ⟨q, 4, none⟩ = some (.int .i64 m.view) ∧ W.cell? ⟨g, 5, none⟩ = some (.int .i64 c.keep.view)) (first | exact ⟨e4, y5⟩ | go_keep) (fail)
  obtain ⟨w5, hw5⟩ : ∃ x, x = w4.drew := ⟨_, rfl⟩
  have T5 : RowKit.Hid (VwTo M99 w2 w5 g c) := Lib.hid (by rw [hw5]; exact T4.out.drew1)
  rw [← hw5]
  clear hw5 e0 e4 y5
  obtain ⟨M5, ⟨L5, h5⟩, f5⟩ := T5.out
  obtain ⟨bq, _, _, _⟩ := HBox.out _ _ f5
  rw [Hkk.out] at bq
  have e0 : w5.cell? ⟨q, 0, none⟩ = some (.int .i64 4) := by simp [World.cell?, bq]
  have e1 : w5.cell? ⟨q, 1, none⟩ = some (.int .i64 m.frm) := by simp [World.cell?, bq]
  have e4 : w5.cell? ⟨q, 4, none⟩ = some (.int .i64 m.view) := by simp [World.cell?, bq]
  have y5 : w5.cell? ⟨g, 5, none⟩ = some (.int .i64 c.keep.view) := h5.c5
  have hCh := vw_change (M := M5) w5.drew ⟨L5, h5.drew⟩ m.view hmv (by have := Hl.out; omega) (by have := Hl.out; omega) (by have := Hl.out; omega)
  have HC1 : RowKit.Hid (c.inC m = c.change m.view) := Lib.hid (by unfold Vw.Core.inC; rw [if_pos ⟨by have := Hvw.out; omega, by rw [Hkk.out]; decide, by rw [Hkk.out]; decide⟩])
  have HE0 : RowKit.Hid (c.in_ m = (c.change m.view).inD m ld) := Lib.hid (by rw [c.in_high m Hh.out Hk.out (by have := Hvw.out; omega), HC1.out, ← Hld.out])
  have HR : RowKit.Hid (Vw.Rest c (c.change m.view) 6020) := Lib.hid (c.change_rest m.view hR4 hmv).1
  have HCh := Lib.hid hCh
  have F5 := Lib.hid f5.drew
  clear hCh h5 f5 bq hR4
  go_wp2_with fail
  go_region_held3 (fun W => W.cell? ⟨q, 0, none⟩ = some (.int .i64 4) ∧ W.cell? ⟨q, 4, none⟩ = some (.int .i64 m.view) ∧ W.cell? ⟨g, 5, none⟩ = some (.int .i64 c.keep.view)) (first | exact ⟨e0, e4, y5⟩ | go_keep) (fail)
  go_wp2_with fail
  refine HCh.out.mono ?_
  rintro e w6 ⟨rfl, t6⟩
  have T6 := Lib.hid (VwTo.trans F5.out t6)
  clear t6 HCh e0 e1 e4 y5
  go_wp2_with fail
  exact vw_In_t4 w M M99 w2 g q p c m ld la mn lc da md dc HBox Hfin Hh Hk Hl Hld Hmn Hkk.out (c.change m.view) w6 T6 HE0 HR
set_option maxRecDepth 1000000 in
set_option maxHeartbeats 0 in
theorem vw_In_m5gt : InCase 5 (fun m c => c.keep.view < m.view) := by
  intro w M M99 w2 g q p c m ld la mn lc da md dc HBox Hfin Hh Hk Hl Hld Hmn hk hvw w4 T4
  intros
  replace hvw : c.keep.view < m.view := hvw
  have Hkk := Lib.hid hk
  have Hvw := Lib.hid hvw
  have hmv := Hh.out.view
  obtain ⟨M4, ⟨L, h4⟩, f4⟩ := T4.out
  have hR4 := h4.right
  obtain ⟨bq, _, _, _⟩ := HBox.out _ _ f4
  rw [hk] at bq
  have e0 : w4.cell? ⟨q, 0, none⟩ = some (.int .i64 5) := by simp [World.cell?, bq]
  have e4 : w4.cell? ⟨q, 4, none⟩ = some (.int .i64 m.view) := by simp [World.cell?, bq]
  have y5 : w4.cell? ⟨g, 5, none⟩ = some (.int .i64 c.keep.view) := h4.c5
  have hvl : decide (m.view < c.keep.view) = false := by simp; omega
  have hvg : decide (c.keep.view < m.view) = true := by simp; omega
  clear bq h4 f4 hk hvw
  rw [inMid_eq]; refine wp_seq ?_
  conv => arg 2; whnf
  go_wp2_with fail
  go_region_held3 (fun W => W.cell? ⟨q, 4, none⟩ = some (.int .i64 m.view) ∧ W.cell? ⟨g, 5, none⟩ = some (.int .i64 c.keep.view)) (first | exact ⟨e4, y5⟩ | go_keep) (fail)
  obtain ⟨w5, hw5⟩ : ∃ x, x = w4.drew := ⟨_, rfl⟩
  have T5 : RowKit.Hid (VwTo M99 w2 w5 g c) := Lib.hid (by rw [hw5]; exact T4.out.drew1)
  rw [← hw5]
  clear hw5 e0 e4 y5
  obtain ⟨M5, ⟨L5, h5⟩, f5⟩ := T5.out
  obtain ⟨bq, _, _, _⟩ := HBox.out _ _ f5
  rw [Hkk.out] at bq
  have e0 : w5.cell? ⟨q, 0, none⟩ = some (.int .i64 5) := by simp [World.cell?, bq]
  have e1 : w5.cell? ⟨q, 1, none⟩ = some (.int .i64 m.frm) := by simp [World.cell?, bq]
  have e4 : w5.cell? ⟨q, 4, none⟩ = some (.int .i64 m.view) := by simp [World.cell?, bq]
  have y5 : w5.cell? ⟨g, 5, none⟩ = some (.int .i64 c.keep.view) := h5.c5
  have HC1 : RowKit.Hid (c.inC m = c) := Lib.hid (by unfold Vw.Core.inC; rw [if_neg (by rintro ⟨h, h1, h2⟩; exact h1 Hkk.out)])
  have HE0 : RowKit.Hid (c.in_ m = c.inD m ld) := Lib.hid (by rw [c.in_high m Hh.out Hk.out (by have := Hvw.out; omega), HC1.out, ← Hld.out])
  have HR : RowKit.Hid (Vw.Rest c c 6020) := Lib.hid ((Vw.Rest.refl c).mono (Nat.zero_le _))
  clear h5 f5 bq hR4
  go_wp2_with fail
  go_quiet (fail)
  obtain ⟨w6, hw6⟩ : ∃ x, x = w5.drewN nq := ⟨_, rfl⟩
  have T6 : RowKit.Hid (VwTo M99 w2 w6 g c) := Lib.hid (by rw [hw6]; exact T5.out.drewN nq)
  rw [← hw6]
  clear hw6 e0 e1 e4 y5
  go_wp2_with fail
  exact vw_In_t5 w M M99 w2 g q p c m ld la mn lc da md dc HBox Hfin Hh Hk Hl Hld Hmn Hkk.out c w6 T6 HE0 HR
end Go.Proofs.Ytmmgnbdngpkfcaa

namespace Go.Proofs.Ytmmgnbdngpkfcaa
open Go.RowKit
set_option linter.unusedVariables false

theorem vw_In_mid (w : World) (M M99 : Col) (w2 : World) (g q p : Nat) (c : Vw.Core) (m : Vw.Msg) (ld : Int) (la : Option Addr) (mn lc : Nat) (da : Option Addr) (md dc : Nat)
    (HBox : RowKit.Hid (∀ (M' : Col) (W : World), Fr M99 w2 M' W → (W.heap[q]? = some (.cells #[.int .i64 m.kind, .int .i64 m.frm, .int .i64 m.to_, .int .i64 m.shard, .int .i64 m.view, .int .i64 m.normal, .int .i64 m.at_, .int .i64 m.commit, .int .i64 m.id, .int .i64 m.err, .slice la mn lc, .slice da md dc] 89 (0, 0))) ∧ (W.heap[p]? = some (.cells #[.slice none 0 0, .slice none 0 0, .slice none 0 0] 107 (0, 0))) ∧ Sl EBytes (Im M') W la m.list ∧ EMsg.rep (Im M') W (msgRow m (.slice la mn lc) (.slice da md dc)) m))
    (Hfin : RowKit.Hid (∀ (w7 W : World) (c' : Vw.Core) (v : Value), TakeTo M99 w2 w7 g c' v → Only (· = p) w7 W → TakeTo M w W g c' v))
    (Hh : RowKit.Hid (Vw.InOk c m)) (Hk : RowKit.Hid (1 ≤ m.kind ∧ m.kind ≤ 5)) (Hl : RowKit.Hid (c.recs.length ≤ 30000 ∧ c.msgs.length ≤ 30000 ∧ c.done.length ≤ 30000)) (Hld : RowKit.Hid (ld = Vw.lead m.view c.n)) (Hmn : RowKit.Hid (mn = m.list.length ∧ mn ≤ lc ∧ lc ≤ maxLen))
    (w4 : World) (T4 : RowKit.Hid (VwTo M99 w2 w4 g c)) {u1 u2 u6 u7 u8 u9 aA aB aC aD aE aF aG aH aI aJ aK aL aM aN aO aP aQ aR aS aT aU aV aW aX aY aZ bA bB bC bD bE bF bG bH bI bJ bK bL bM bN bO bP bQ bR bS bT bU bV bW bX bY bZ cA cB cC cD cE cF cG cH cI cJ cK cL cM cN cO cP cQ cR cS cT cU cV cW cY cZ dA dB dC dD dE dF dG dH dI dJ dK dL dM dN dO dP dQ dR dS dT dU dV dW dX dY dZ eA eB eC eD eE eF eG eH eI eJ eK eL eM eN eO eP eQ eR eS eT eU eV eW eX eY eZ fA fB fC fD fE fF fG fH fI fJ fK fL fM fN fO fP fQ fR fS fT fU fV fW fY fZ gA gB gC gD gE gF gG gH gI gJ gK gL gM gN gO gP gQ gR gS gT gU gV gW gX gY gZ hA hB hC hD hE hF hG hH hI hJ hK hL hM hN hO hP hQ hT hU hV hW hY hZ iA iB iC iD iE iF iG iH iI iJ iK iL iM iN iO iP iQ iR iS iT iU iV iW iX iY iZ jA jB jC jD jE jF jG jH jI jJ jK jL jM jN jO jP jQ jR jS jT jU jV jW jX jY jZ kA kB kC kD kE kF kG kH kI kJ kK kL kM kN kO kP kQ kR kS kT kU kV kW kX kY kZ lA lB lC lD lE lF lG lH lI lJ lK lL lM lN lO lP lQ lR lS lT : Value} :
    Code.wp Try.prog inMid (bodyPost Try.prog Try.f102 fun e w' => InTo M w w' g (c.in_ m) e) ⟨#[.pointer (some ⟨g, 0, none⟩), u1, u2, .pointer (some ⟨q, 0, none⟩), .pointer (some ⟨p, 0, none⟩), .int .i64 ld, u6, u7, u8, u9, aA, aB, aC, aD, aE, aF, aG, aH, aI, aJ, aK, aL, aM, aN, aO, aP, aQ, aR, aS, aT, aU, aV, aW, aX, aY, aZ, bA, bB, bC, bD, bE, bF, bG, bH, bI, bJ, bK, bL, bM, bN, bO, bP, bQ, bR, bS, bT, bU, bV, bW, bX, bY, bZ, cA, cB, cC, cD, cE, cF, cG, cH, cI, cJ, cK, cL, cM, cN, cO, cP, cQ, cR, cS, cT, cU, cV, cW, cY, cZ, dA, dB, dC, dD, dE, dF, dG, dH, dI, dJ, dK, dL, dM, dN, dO, dP, dQ, dR, dS, dT, dU, dV, dW, dX, dY, dZ, eA, eB, eC, eD, eE, eF, eG, eH, eI, eJ, eK, eL, eM, eN, eO, eP, eQ, eR, eS, eT, eU, eV, eW, eX, eY, eZ, fA, fB, fC, fD, fE, fF, fG, fH, fI, fJ, fK, fL, fM, fN, fO, fP, fQ, fR, fS, fT, fU, fV, fW, fY, fZ, gA, gB, gC, gD, gE, gF, gG, gH, gI, gJ, gK, gL, gM, gN, gO, gP, gQ, gR, gS, gT, gU, gV, gW, gX, gY, gZ, hA, hB, hC, hD, hE, hF, hG, hH, hI, hJ, hK, hL, hM, hN, hO, hP, hQ, hT, hU, hV, hW, hY, hZ, iA, iB, iC, iD, iE, iF, iG, iH, iI, iJ, iK, iL, iM, iN, iO, iP, iQ, iR, iS, iT, iU, iV, iW, iX, iY, iZ, jA, jB, jC, jD, jE, jF, jG, jH, jI, jJ, jK, jL, jM, jN, jO, jP, jQ, jR, jS, jT, jU, jV, jW, jX, jY, jZ, kA, kB, kC, kD, kE, kF, kG, kH, kI, kJ, kK, kL, kM, kN, kO, kP, kQ, kR, kS, kT, kU, kV, kW, kX, kY, kZ, lA, lB, lC, lD, lE, lF, lG, lH, lI, lJ, lK, lL, lM, lN, lO, lP, lQ, lR, lS, lT], []⟩ w4 := by
  rcases (by have := Hk.out; omega : m.kind = 1 ∨ m.kind = 2 ∨ m.kind = 3 ∨ m.kind = 4 ∨ m.kind = 5) with hk | hk | hk | hk | hk <;> rcases Int.lt_trichotomy m.view c.keep.view with hv | hv | hv
  · exact vw_In_m1lt w M M99 w2 g q p c m ld la mn lc da md dc HBox Hfin Hh Hk Hl Hld Hmn hk hv w4 T4
  · exact vw_In_m1eq w M M99 w2 g q p c m ld la mn lc da md dc HBox Hfin Hh Hk Hl Hld Hmn hk hv w4 T4
  · exact vw_In_m1gt w M M99 w2 g q p c m ld la mn lc da md dc HBox Hfin Hh Hk Hl Hld Hmn hk hv w4 T4
  · exact vw_In_m2lt w M M99 w2 g q p c m ld la mn lc da md dc HBox Hfin Hh Hk Hl Hld Hmn hk hv w4 T4
  · exact vw_In_m2eq w M M99 w2 g q p c m ld la mn lc da md dc HBox Hfin Hh Hk Hl Hld Hmn hk hv w4 T4
  · exact vw_In_m2gt w M M99 w2 g q p c m ld la mn lc da md dc HBox Hfin Hh Hk Hl Hld Hmn hk hv w4 T4
  · exact vw_In_m3lt w M M99 w2 g q p c m ld la mn lc da md dc HBox Hfin Hh Hk Hl Hld Hmn hk hv w4 T4
  · exact vw_In_m3eq w M M99 w2 g q p c m ld la mn lc da md dc HBox Hfin Hh Hk Hl Hld Hmn hk hv w4 T4
  · exact vw_In_m3gt w M M99 w2 g q p c m ld la mn lc da md dc HBox Hfin Hh Hk Hl Hld Hmn hk hv w4 T4
  · exact vw_In_m4lt w M M99 w2 g q p c m ld la mn lc da md dc HBox Hfin Hh Hk Hl Hld Hmn hk hv w4 T4
  · exact vw_In_m4eq w M M99 w2 g q p c m ld la mn lc da md dc HBox Hfin Hh Hk Hl Hld Hmn hk hv w4 T4
  · exact vw_In_m4gt w M M99 w2 g q p c m ld la mn lc da md dc HBox Hfin Hh Hk Hl Hld Hmn hk hv w4 T4
  · exact vw_In_m5lt w M M99 w2 g q p c m ld la mn lc da md dc HBox Hfin Hh Hk Hl Hld Hmn hk hv w4 T4
  · exact vw_In_m5eq w M M99 w2 g q p c m ld la mn lc da md dc HBox Hfin Hh Hk Hl Hld Hmn hk hv w4 T4
  · exact vw_In_m5gt w M M99 w2 g q p c m ld la mn lc da md dc HBox Hfin Hh Hk Hl Hld Hmn hk hv w4 T4
end Go.Proofs.Ytmmgnbdngpkfcaa

namespace Go.Proofs.Ytmmgnbdngpkfcaa
open Go.RowKit
set_option linter.unusedVariables false

/-- the whole -/
noncomputable def inBody : Code := Try.f102.body.getD .skip
noncomputable def inR0 : Code := codeHd inBody
noncomputable def inR1 : Code := codeHd (codeTl inBody)
noncomputable def inR3 : Code := codeHd (codeTl (codeTl inBody))
theorem inBody_is : Try.f102.body = some inBody := by kernel_rfl
theorem inBody_eq : inBody = .seq inR0 (.seq inR1 (.seq inR3 inMid)) := by kernel_rfl
set_option maxRecDepth 100000 in
set_option maxHeartbeats 0 in
theorem vw_In {M : Col} {g : Nat} {c : Vw.Core} (w : World) (h : VwAt M w g c) (m : Vw.Msg) (cs : List Value) (hm : EMsg.rep (Im M) w cs m) (hh : Vw.InOk c m) (hk : 1 ≤ m.kind ∧ m.kind ≤ 5) (hlr : c.recs.length ≤ 30000) (hlm : c.msgs.length ≤ 30000) (hld : c.done.length ≤ 30000) :
    Calls Try.prog 102 #[.pointer (some ⟨g, 0, none⟩), .agg cs.toArray] w fun e w' => InTo M w w' g (c.in_ m) e := by
  obtain ⟨L, h⟩ := h
  obtain ⟨M9, la, lc, da, dc, rfl, h9, h1, f1, hm1, hh1, r1, r2, r3, r4⟩ := msg_box h m cs hm
  obtain ⟨mn, hmn⟩ : ∃ x, x = m.list.length := ⟨_, rfl⟩
  obtain ⟨md, hmd⟩ : ∃ x, x = m.data.length := ⟨_, rfl⟩
  simp only [msgRow, List.toArray] at h1 f1 hm1 hh1 r2 r4 ⊢
  rw [← hmn, ← hmd] at h1 f1 hm1 hh1 r2 r4 ⊢
  rw [← hmn] at r1
  obtain ⟨w1, hw1⟩ : ∃ x, x = w.alloc (.cells #[.int .i64 m.kind, .int .i64 m.frm, .int .i64 m.to_, .int .i64 m.shard, .int .i64 m.view, .int .i64 m.normal, .int .i64 m.at_, .int .i64 m.commit, .int .i64 m.id, .int .i64 m.err, .slice la mn lc, .slice da md dc] 89) := ⟨_, rfl⟩
  rw [← hw1] at h1 f1 hm1 hh1 r2 r4
  obtain ⟨q, hq⟩ : ∃ q, q = w.heap.size := ⟨_, rfl⟩
  have hz1 : w1.heap.size = q + 1 := by rw [hw1, hq]; simp
  rw [← hq] at h9 hh1
  obtain ⟨h2, f2⟩ := h1.box (.cells #[.slice none 0 0, .slice none 0 0, .slice none 0 0] 107)
  obtain ⟨w2, hw2⟩ : ∃ x, x = w1.alloc (.cells #[.slice none 0 0, .slice none 0 0, .slice none 0 0] 107) := ⟨_, rfl⟩
  have hp2 : w2.heap[w1.heap.size]? = some (.cells #[.slice none 0 0, .slice none 0 0, .slice none 0 0] 107 (0, 0)) := by rw [hw2]; exact heap_alloc_new w1 _
  obtain ⟨p, hp⟩ : ∃ p, p = w1.heap.size := ⟨_, rfl⟩
  have hz2 : w2.heap.size = p + 1 := by rw [hw2, hp]; simp
  obtain ⟨M99, hM99⟩ : ∃ M99, M99 = updC M9 w1.heap.size 9 := ⟨_, rfl⟩
  rw [← hw2, ← hM99] at h2 f2
  rw [← hp] at hp2
  have h99 : M99 p = 9 := by rw [hM99, hp]; exact updC_same _ _ _
  have hq99 : M99 q = 9 := by rw [hM99]; rw [updC_other M9 9 (by omega)]; exact h9
  have hq2 : w2.heap[q]? = some (.cells #[.int .i64 m.kind, .int .i64 m.frm, .int .i64 m.to_, .int .i64 m.shard, .int .i64 m.view, .int .i64 m.normal, .int .i64 m.at_, .int .i64 m.commit, .int .i64 m.id, .int .i64 m.err, .slice la mn lc, .slice da md dc] 89 (0, 0)) := ((f2.other (k := q) (by omega) (by omega)).1).trans hh1
  have hm2 := EMsg.mono hm1 fun k hk hlt => ⟨f2.block hlt hk, f2.zero hlt hk⟩
  have r22 := r2.fr (by decide) f2
  have HBox : RowKit.Hid (∀ (M' : Col) (W : World), Fr M99 w2 M' W → (W.heap[q]? = some (.cells #[.int .i64 m.kind, .int .i64 m.frm, .int .i64 m.to_, .int .i64 m.shard, .int .i64 m.view, .int .i64 m.normal, .int .i64 m.at_, .int .i64 m.commit, .int .i64 m.id, .int .i64 m.err, .slice la mn lc, .slice da md dc] 89 (0, 0))) ∧ (W.heap[p]? = some (.cells #[.slice none 0 0, .slice none 0 0, .slice none 0 0] 107 (0, 0))) ∧ Sl EBytes (Im M') W la m.list ∧ EMsg.rep (Im M') W (msgRow m (.slice la mn lc) (.slice da md dc)) m) := Lib.hid fun M' W f => by
    have a1 := ((f.other (k := q) (by omega) (by omega)).1).trans hq2
    have a4 := EMsg.mono hm2 fun k hk hlt => ⟨f.block hlt hk, f.zero hlt hk⟩
    exact ⟨a1, ((f.other (k := p) (by omega) (by omega)).1).trans hp2, r22.fr (by decide) f, a4⟩
  have Hfin : RowKit.Hid (∀ (w7 W : World) (c' : Vw.Core) (v : Value), TakeTo M99 w2 w7 g c' v → Only (· = p) w7 W → TakeTo M w W g c' v) := Lib.hid fun w7 W c' v t ho =>
    take_unbox hq f1 h9 (by omega) (take_unbox hp f2 h99 (by omega) t ho) (Only.refl _ _)
  have hR := h2.right
  have Hh := Lib.hid hh
  have Hk := Lib.hid hk
  have Hl := Lib.hid (And.intro hlr (And.intro hlm hld))
  have hn := hR.n
  have hme := hR.me
  have hfr := hh.frm
  have hmv := hh.view
  have hmn2 : mn ≤ 2000 := by rw [hmn]; exact hh.small.1
  obtain ⟨bq, bp, _, _⟩ := HBox.out _ _ (Fr.refl M99 w2)
  have e1 : w2.cell? ⟨q, 1, none⟩ = some (.int .i64 m.frm) := by simp [World.cell?, bq]
  have e2 : w2.cell? ⟨q, 2, none⟩ = some (.int .i64 c.me) := by rw [← hh.to_]; simp [World.cell?, bq]
  have e3 : w2.cell? ⟨q, 3, none⟩ = some (.int .i64 c.shard) := by rw [← hh.shard]; simp [World.cell?, bq]
  have e4 : w2.cell? ⟨q, 4, none⟩ = some (.int .i64 m.view) := by simp [World.cell?, bq]
  have e5 : w2.cell? ⟨q, 5, none⟩ = some (.int .i64 m.normal) := by simp [World.cell?, bq]
  have e6 : w2.cell? ⟨q, 6, none⟩ = some (.int .i64 m.at_) := by simp [World.cell?, bq]
  have e10 : w2.cell? ⟨q, 10, none⟩ = some (.slice la mn lc) := by simp [World.cell?, bq]
  have y0 : w2.cell? ⟨g, 0, none⟩ = some (.int .i64 c.me) := h2.c0
  have y1 : w2.cell? ⟨g, 1, none⟩ = some (.int .i64 c.n) := h2.c1
  have y2 : w2.cell? ⟨g, 2, none⟩ = some (.int .i64 c.shard) := h2.c2
  have t1 : decide (m.frm < 1) = false := by simp; omega
  have t2 : decide ((c.n : Int) < m.frm) = false := by simp; omega
  have t3 : (m.frm == c.me) = false := by simpa using hh.ne
  have t4 : decide (m.view < 0) = false := by simp; omega
  have t5 : decide ((1099511627776 : Int) < m.view) = false := by simp; omega
  have t6 : decide ((2000 : Int) < (mn : Int)) = false := by simp; omega
  have t7 : decide (m.view < m.normal) = false := by have := hh.normal; simp; omega
  have t8 : decide (m.at_ < 0) = false := by have := hh.at_.1; simp; omega
  have HT := Lib.hid (And.intro t1 (And.intro t2 (And.intro t4 (And.intro t5 (And.intro t6 (And.intro t7 t8))))))
  have H2 := Lib.hid h2
  have Hmn := Lib.hid (And.intro hmn (And.intro r1.1 r1.2))
  have Hhh : (w.alloc (.cells #[.int .i64 m.kind, .int .i64 m.frm, .int .i64 m.to_, .int .i64 m.shard, .int .i64 m.view, .int .i64 m.normal, .int .i64 m.at_, .int .i64 m.commit, .int .i64 m.id, .int .i64 m.err, .slice la mn lc, .slice da md dc] 89)).alloc (.cells #[.slice none 0 0, .slice none 0 0, .slice none 0 0] 107) = w2 := by rw [← hw1, ← hw2]
  have Hqs : w.heap.size = q := hq.symm
  have Hps : (w.alloc (.cells #[.int .i64 m.kind, .int .i64 m.frm, .int .i64 m.to_, .int .i64 m.shard, .int .i64 m.view, .int .i64 m.normal, .int .i64 m.at_, .int .i64 m.commit, .int .i64 m.id, .int .i64 m.err, .slice la mn lc, .slice da md dc] 89)).heap.size = p := by rw [← hw1, hp]
  have HHh := Lib.hid Hhh
  have HHs := Lib.hid (And.intro Hqs Hps)
  clear hw1 hw2 hq hp h9 h1 f1 hm1 hh1 hz1 h2 f2 hp2 hz2 hM99 h99 hq99 hq2 hm2 r22 r1 r2 r3 r4 hmd hmn hlr hlm hld h hm hR hh hk bq bp Hhh Hqs Hps t1 t2 t4 t5 t6 t7 t8
  obtain ⟨ld, hld⟩ : ∃ ld, ld = Vw.lead m.view c.n := ⟨_, rfl⟩
  have HLd : RowKit.Hid (∀ W : World, Calls Try.prog 63 #[.int .i64 m.view, .int .i64 c.n] W fun e w' => e = .returned (.int .i64 ld) ∧ W = w') := Lib.hid fun W => by rw [hld]; exact vw_Leader m.view c.n W hmv.1 ⟨hn.1, by omega⟩
  have Hld := Lib.hid hld
  clear hld
  have hhh := HHh.out
  have hqs := HHs.out.1
  have hps := HHs.out.2
  refine calls_of_wp Try.func102 inBody_is ?_
  simp only [Try.ntmps102, List.size_toArray, List.length_cons, List.length_nil, Nat.reduceAdd, Nat.reduceSub, Array.replicate_succ,
     Array.replicate_zero, List.push_toArray, List.append_toArray, List.nil_append, List.cons_append]
  rw [inBody_eq]
  refine wp_seq ?_
  conv => arg 2; whnf
  go_upto_region 3 with fail
  clear hhh hqs hps
  obtain ⟨t1, t2, t4, t5, t6, t7, t8⟩ := HT.out
  conv => arg 2; whnf
  simp only [List.append_eq, List.cons_append, List.nil_append]
  go_wp2_with fail
  go_region_held3 (fun W => W.cell? ⟨q, 1, none⟩ = some (.int .i64 m.frm) ∧ W.cell? ⟨q, 2, none⟩ = some (.int .i64 c.me) ∧ W.cell? ⟨q, 3, none⟩ = some (.int .i64 c.shard) ∧ W.cell? ⟨q, 4, none⟩ = some (.int .i64 m.view) ∧ W.cell? ⟨q, 5, none⟩ = some (.int .i64 m.normal) ∧ W.cell? ⟨q, 6, none⟩ = some (.int .i64 m.at_) ∧ W.cell? ⟨q, 10, none⟩ = some (.slice la mn lc) ∧ W.cell? ⟨g, 0, none⟩ = some (.int .i64 c.me) ∧ W.cell? ⟨g, 1, none⟩ = some (.int .i64 c.n) ∧ W.cell? ⟨g, 2, none⟩ = some (.int .i64 c.shard))
    (first | exact ⟨e1, e2, e3, e4, e5, e6, e10, y0, y1, y2⟩ | go_keep) (fail)
  obtain ⟨w3, hw3⟩ : ∃ x, x = w2.drew := ⟨_, rfl⟩
  have T3 : RowKit.Hid (VwTo M99 w2 w3 g c) := Lib.hid (by rw [hw3]; exact ⟨M99, ⟨L, H2.out.drew⟩, (Fr.refl _ _).drew⟩)
  rw [← hw3]
  clear e1 e2 e3 e4 e5 e6 e10 y0 y1 y2 hw3 t1 t2 t4 t5 t6 t7 t8 H2
  go_upto_region 4 with fail
  conv => arg 2; whnf
  obtain ⟨M3, ⟨L3, h3⟩, f3⟩ := T3.out
  obtain ⟨bq, _, _, _⟩ := HBox.out _ _ f3
  have e4 : w3.cell? ⟨q, 4, none⟩ = some (.int .i64 m.view) := by simp [World.cell?, bq]
  have y1 : w3.cell? ⟨g, 1, none⟩ = some (.int .i64 c.n) := h3.c1
  clear bq h3 f3
  go_wp2_with fail
  go_region_held3 (fun W => W.cell? ⟨q, 4, none⟩ = some (.int .i64 m.view) ∧ W.cell? ⟨g, 1, none⟩ = some (.int .i64 c.n)) (first | exact ⟨e4, y1⟩ | go_keep)
    ((go_at_call 63; refine (HLd.out _).mono ?_; rintro e w4 ⟨rfl, rfl⟩))
  obtain ⟨w4, hw4⟩ : ∃ x, x = w3.drew := ⟨_, rfl⟩
  have T4 : RowKit.Hid (VwTo M99 w2 w4 g c) := Lib.hid (by rw [hw4]; exact T3.out.drew1)
  rw [← hw4]
  clear e4 y1 hw4 HLd T3
  go_wp2_with fail
  exact vw_In_mid w M M99 w2 g q p c m ld la mn lc da md dc HBox Hfin Hh Hk Hl Hld Hmn w4 T4
end Go.Proofs.Ytmmgnbdngpkfcaa

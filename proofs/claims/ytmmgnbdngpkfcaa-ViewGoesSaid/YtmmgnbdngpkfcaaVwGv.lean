/-
  What is to be done by a group's member: what must last.
  What is to be done by a group's member.
-/
import Derived.Test.YtmmgnbdngpkfcaaVwGt
namespace Go.Proofs.Ytmmgnbdngpkfcaa
open Go.RowKit
set_option linter.unusedVariables false
set_option linter.unusedSimpArgs false

/-- how many of j records are laid -/
def tk (cut : Int) (j : Nat) : Nat := if cut < 0 then j else min j cut.toNat
theorem lays_succ' {k : Vw.Keep} {rs : List Vw.Rc} {j : Nat} {r : Vw.Rc} (h : rs[j]? = some r) : Vw.lays k (rs.take (j + 1)) = Vw.lay (Vw.lays k (rs.take j)) r := by
  rw [List.take_add_one, h]
  exact Vw.lays_snoc _ _ _
set_option maxRecDepth 1000000 in
set_option maxHeartbeats 0 in
theorem vw_do1 (C0 : Col) (w0 : World) (gg i q : Nat) (cut : Int) (x : Gx) (C : Col) (L : GrL) (w : World) (HG : RowKit.Hid (GrM C w gg x L)) (HK : RowKit.Hid (KpA C0 w0 C w)) (ra ma da : Option Addr) (rn rc mn mc dn dc : Nat)
    (HB : RowKit.Hid (Im C q ∧ w.heap[q]? = some (.cells #[.slice ra rn rc, .slice ma mn mc, .slice da dn dc] 107 (0, 0)))) (R : Ending → World → Prop) (k0 : Vw.Keep) (rs : List Vw.Rc)
    (HS : RowKit.Hid (rn = rs.length ∧ rn ≤ 40000 ∧ Sl ERec (Im C) w ra rs))
    (HC : RowKit.Hid (i < x.n ∧ x.ks[i]? = some k0))
    (HL : RowKit.Hid (∀ j, (Vw.lays k0 (rs.take j)).log.length ≤ 2000)) (HRa : RowKit.Hid (∀ r ∈ rs, 0 ≤ r.a ∧ r.a ≤ 1099511627776))
    (Hnext : RowKit.Hid (∀ (C' : Col) (L' : GrL) (w' : World) (u2 u4 u5 u7 u8 u9 aA aB aC aD aE aF aG aH aI aJ aK aL aM aN aO aP aQ aR aS aT aU aV aW aX aY aZ bA bB bC bD bE bF bG bH bI bJ bK bL bM bN bO bP bQ bR bS bT bU bV bW bX bY bZ cA cB cC cD cE cF cG cH cI cJ cK cL cM cN cO cP cQ cR cS cT cU cV cW cX cY cZ dA dB dC dD dE dF dG dH dI dJ dK dL dM dN dO dP dQ dR dS dT dU dV dW dX dY dZ eA eB eC eD eE eF eG eH eI eJ eK eL eM eN eO eP eQ eR eS eT eU eV eW eX eY eZ fA fB fC fD fE fF fG fH fI fJ fK fL fM fN fO fP fQ fR fS fT fU fV fW fX fY fZ gA gB gC gD gE gF gG gH gI gJ gK gL gM gN gO gP gQ gR gS gT gU gV gW gX gY gZ hA hB hC hE hF hG hH hI hJ hN hO hP hQ hS hU hV hX hY hZ iA iB iC iD iE iF iG iH iI iJ iK iL iM iN iO iP iQ iR iS iT iU iV iW iX iY iZ jA jB jC jD jE jF jG jH jI jJ jK : Value), RowKit.Hid (GrM C' w' gg { x with ks := x.ks.set i (Vw.lays k0 (rs.take (tk cut rn))) } L') → RowKit.Hid (KpA C w C' w') → Code.wp Try.prog doP2 (bodyPost Try.prog Try.f66 R) ⟨#[.pointer (some ⟨gg, 0, none⟩), .int .i64 i, u2, .int .i64 cut, u4, u5, .pointer (some ⟨q, 0, none⟩), u7, u8, u9, aA, aB, aC, aD, aE, aF, aG, aH, aI, aJ, aK, aL, aM, aN, aO, aP, aQ, aR, aS, aT, aU, aV, aW, aX, aY, aZ, bA, bB, bC, bD, bE, bF, bG, bH, bI, bJ, bK, bL, bM, bN, bO, bP, bQ, bR, bS, bT, bU, bV, bW, bX, bY, bZ, cA, cB, cC, cD, cE, cF, cG, cH, cI, cJ, cK, cL, cM, cN, cO, cP, cQ, cR, cS, cT, cU, cV, cW, cX, cY, cZ, dA, dB, dC, dD, dE, dF, dG, dH, dI, dJ, dK, dL, dM, dN, dO, dP, dQ, dR, dS, dT, dU, dV, dW, dX, dY, dZ, eA, eB, eC, eD, eE, eF, eG, eH, eI, eJ, eK, eL, eM, eN, eO, eP, eQ, eR, eS, eT, eU, eV, eW, eX, eY, eZ, fA, fB, fC, fD, fE, fF, fG, fH, fI, fJ, fK, fL, fM, fN, fO, fP, fQ, fR, fS, fT, fU, fV, fW, fX, fY, fZ, gA, gB, gC, gD, gE, gF, gG, gH, gI, gJ, gK, gL, gM, gN, gO, gP, gQ, gR, gS, gT, gU, gV, gW, gX, gY, gZ, hA, hB, hC, hE, hF, hG, hH, hI, hJ, hN, hO, hP, hQ, hS, hU, hV, hX, hY, hZ, iA, iB, iC, iD, iE, iF, iG, iH, iI, iJ, iK, iL, iM, iN, iO, iP, iQ, iR, iS, iT, iU, iV, iW, iX, iY, iZ, jA, jB, jC, jD, jE, jF, jG, jH, jI, jJ, jK], []⟩ w')) (u2 u4 u5 u7 u8 u9 aA aB aC aD aE aF aG aH aI aJ aK aL aM aN aO aP aQ aR aS aT aU aV aW aX aY aZ bA bB bC bD bE bF bG bH bI bJ bK bL bM bN bO bP bQ bR bS bT bU bV bW bX bY bZ cA cB cC cD cE cF cG cH cI cJ cK cL cM cN cO cP cQ cR cS cT cU cV cW cX cY cZ dA dB dC dD dE dF dG dH dI dJ dK dL dM dN dO dP dQ dR dS dT dU dV dW dX dY dZ eA eB eC eD eE eF eG eH eI eJ eK eL eM eN eO eP eQ eR eS eT eU eV eW eX eY eZ fA fB fC fD fE fF fG fH fI fJ fK fL fM fN fO fP fQ fR fS fT fU fV fW fX fY fZ gA gB gC gD gE gF gG gH gI gJ gK gL gM gN gO gP gQ gR gS gT gU gV gW gX gY gZ hA hB hC hE hF hG hH hI hJ hN hO hP hQ hS hU hV hX hY hZ iA iB iC iD iE iF iG iH iI iJ iK iL iM iN iO iP iQ iR iS iT iU iV iW iX iY iZ jA jB jC jD jE jF jG jH jI jJ jK : Value) :
    Code.wp Try.prog doP1 (bodyPost Try.prog Try.f66 R) ⟨#[.pointer (some ⟨gg, 0, none⟩), .int .i64 i, u2, .int .i64 cut, u4, u5, .pointer (some ⟨q, 0, none⟩), u7, u8, u9, aA, aB, aC, aD, aE, aF, aG, aH, aI, aJ, aK, aL, aM, aN, aO, aP, aQ, aR, aS, aT, aU, aV, aW, aX, aY, aZ, bA, bB, bC, bD, bE, bF, bG, bH, bI, bJ, bK, bL, bM, bN, bO, bP, bQ, bR, bS, bT, bU, bV, bW, bX, bY, bZ, cA, cB, cC, cD, cE, cF, cG, cH, cI, cJ, cK, cL, cM, cN, cO, cP, cQ, cR, cS, cT, cU, cV, cW, cX, cY, cZ, dA, dB, dC, dD, dE, dF, dG, dH, dI, dJ, dK, dL, dM, dN, dO, dP, dQ, dR, dS, dT, dU, dV, dW, dX, dY, dZ, eA, eB, eC, eD, eE, eF, eG, eH, eI, eJ, eK, eL, eM, eN, eO, eP, eQ, eR, eS, eT, eU, eV, eW, eX, eY, eZ, fA, fB, fC, fD, fE, fF, fG, fH, fI, fJ, fK, fL, fM, fN, fO, fP, fQ, fR, fS, fT, fU, fV, fW, fX, fY, fZ, gA, gB, gC, gD, gE, gF, gG, gH, gI, gJ, gK, gL, gM, gN, gO, gP, gQ, gR, gS, gT, gU, gV, gW, gX, gY, gZ, hA, hB, hC, hE, hF, hG, hH, hI, hJ, hN, hO, hP, hQ, hS, hU, hV, hX, hY, hZ, iA, iB, iC, iD, iE, iF, iG, iH, iI, iJ, iK, iL, iM, iN, iO, iP, iQ, iR, iS, iT, iU, iV, iW, iX, iY, iZ, jA, jB, jC, jD, jE, jF, jG, jH, jI, jJ, jK], []⟩ w := by
  obtain ⟨hi, hks⟩ := HC.out
  have y0 : w.cell? ⟨q, 0, none⟩ = some (.slice ra rn rc) := by simp [World.cell?, HB.out.2]
  have hrn := HS.out.1
  have hrn2 := HS.out.2.1
  have hn5 := HG.out.nn.2
  have Hstart : RowKit.Hid (GrM C w gg { x with ks := x.ks.set i (Vw.lays k0 (rs.take (tk cut 0))) } L) := Lib.hid (by
    have e : ({ x with ks := x.ks.set i (Vw.lays k0 (rs.take (tk cut 0))) } : Gx) = x := by
      have e0 : tk cut 0 = 0 := by unfold tk; split <;> simp
      have e1 : x.ks.set i (Vw.lays k0 (rs.take (tk cut 0))) = x.ks := by
        rw [e0]
        apply List.ext_getElem?
        intro k
        by_cases e : k = i
        · subst e
          rw [List.getElem?_set_self (by rw [HG.out.p.kl]; exact hi), hks]
          rfl
        · rw [List.getElem?_set_ne (fun h => e h.symm)]
      rw [e1]
    rw [e]; exact HG.out)
  clear hks hrn
  rw [doP1_eq]
  refine wp_seq ?_
  conv => arg 2; whnf
  go_wp2_with fail
  clear y0
  go_loopg [18] rn (fun gn v wr => ∃ (j : Nat) (C' : Col) (L' : GrL), RowKit.Hid (gn = rn - j) ∧ j ≤ rn ∧ v = .int .i64 j ∧ RowKit.Hid (GrM C' wr gg { x with ks := x.ks.set i (Vw.lays k0 (rs.take (tk cut j))) } L') ∧ RowKit.Hid (KpA C w C' wr))
  case atStart => exact ⟨0, C, L, Lib.hid rfl, Nat.zero_le _, rfl, Hstart, Lib.hid (Kp.refl _ HG.out.p.dom)⟩
  case round =>
    obtain ⟨j, C', L', hgn, hj, rfl, hM, hK⟩ := hrel
    by_cases hlt : j < rn
    · have hjd : j < rs.length := by have := HS.out.1; omega
      obtain ⟨r, hr⟩ : ∃ r, rs[j]? = some r := ⟨_, List.getElem?_eq_getElem hjd⟩
      have hra := HRa.out r (List.mem_of_getElem? hr)
      have hlti : (j : Int) < (rn : Int) := by omega
      have hltd : decide ((j : Int) < (rn : Int)) = true := by simp; omega
      have hadd : IntKind.i64.wrap ((j : Int) + 1) = (j : Int) + 1 := IntWalk.i64_in _ (by omega)
      obtain ⟨rb, ro, hrra, hrb, cs, ⟨ea, ec, rfl, he1, he2⟩, hcs⟩ := HS.out.2.2 j r hr
      subst hrra
      obtain ⟨en, hen⟩ : ∃ en, en = r.data.length := ⟨_, rfl⟩
      have hcell : ∀ k v, (recRow r (.slice ea r.data.length ec))[k]? = some v → wr.cell? ⟨rb, ro + j * 4 + k, none⟩ = some v := fun k v hv => by
        have h1 := hcs k v hv
        change w.cell? ⟨rb, ro + (j * 4 + k), none⟩ = some v at h1
        rw [← Nat.add_assoc] at h1
        exact (cell_keep (KpA.im hK.out hrb (cell_lt h1)).1).trans h1
      have c0 : wr.cell? ⟨rb, ro + j * 4, none⟩ = some (.int .i64 r.kind) := hcell 0 _ rfl
      have c1 : wr.cell? ⟨rb, ro + j * 4 + 1, none⟩ = some (.int .i64 r.a) := hcell 1 _ rfl
      have c2 : wr.cell? ⟨rb, ro + j * 4 + 2, none⟩ = some (.int .i64 r.b) := hcell 2 _ rfl
      have c3 : wr.cell? ⟨rb, ro + j * 4 + 3, none⟩ = some (.slice ea en ec) := by rw [hen]; exact hcell 3 _ rfl
      have hds : Sl EU8 (Im C') wr ea r.data := he2.mono (by decide) fun k h1 h2 => KpA.im hK.out h1 h2
      have Hr := Lib.hid (And.intro hr (And.intro hra (And.intro hen (And.intro he1 hds))))
      obtain ⟨p, hp⟩ : ∃ p, p = wr.heap.size := ⟨_, rfl⟩
      obtain ⟨W1, hW1⟩ : ∃ W1, W1 = wr.alloc (.cells #[.int .i64 r.kind, .int .i64 r.a, .int .i64 r.b, .slice ea en ec] 98) := ⟨_, rfl⟩
      have hb1 : Below wr.heap.size wr W1 := by rw [hW1]; exact alloc_below _ _
      have hh1 : W1.heap[p]? = some (.cells #[.int .i64 r.kind, .int .i64 r.a, .int .i64 r.b, .slice ea en ec] 98 (0, 0)) := by rw [hW1, hp]; exact heap_alloc_new wr _
      have m1 := hM.out.below hb1
      have k1 := hK.out.trans (KpA.below hM.out hb1)
      have M1 := Lib.hid m1
      have K1 := Lib.hid k1
      have Hds1 : RowKit.Hid (Sl EU8 (Im C') W1 ea r.data) := Lib.hid (hds.below (by decide) hb1)
      have HW1 := Lib.hid hW1.symm
      have Hp := Lib.hid hp
      have Hh1 := Lib.hid hh1
      clear hr hra hrb hcs hcell he1 he2 hen hds hp hW1 hb1 hh1 m1 k1 hM hK
      go_upto_region 4 with fail
      rw [HW1.out, ← Hp.out]
      clear c0 c1 c2 c3 HW1
      by_cases hc : cut < 0 ∨ (j : Int) < cut
      · have hlay : RowKit.Hid (tk cut (j + 1) = j + 1 ∧ tk cut j = j) := Lib.hid (by
          unfold tk
          rcases hc with h | h
          · rw [if_pos h, if_pos h]; exact ⟨rfl, rfl⟩
          · by_cases h0 : cut < 0
            · rw [if_pos h0, if_pos h0]; exact ⟨rfl, rfl⟩
            · rw [if_neg h0, if_neg h0]; omega)
        obtain ⟨kb, ko, kc, ka, kcc, k', hk', hkvE, hkb, hk3, hk4, u0, u1, u2, hlc, hsl, hkf⟩ := M1.out.keepAt hi
        have hk2 : k' = Vw.lays k0 (rs.take j) := by
          change (x.ks.set i (Vw.lays k0 (rs.take (tk cut j))))[i]? = _ at hk'
          rw [List.getElem?_set_self (by rw [HG.out.p.kl]; exact hi), hlay.out.2] at hk'
          injection hk' with hk'; exact hk'.symm
        obtain ⟨kn, hkn⟩ : ∃ kn, kn = k'.log.length := ⟨_, rfl⟩
        have hkl : kn ≤ 2000 := by rw [hkn, hk2]; exact HL.out j
        obtain ⟨n, hn⟩ : ∃ n, n = x.n := ⟨_, rfl⟩
        have hile : i < n := by omega
        have y2 : W1.cell? ⟨gg, 2, none⟩ = some (.slice (some ⟨kb, ko, none⟩) n kc) := by rw [hn, ← show L'.kv = .slice (some ⟨kb, ko, none⟩) x.n kc from hkvE]; exact M1.out.c2
        rw [← hkn] at u2
        have x0 : W1.cell? ⟨p, 0, none⟩ = some (.int .i64 r.kind) := by simp [World.cell?, Hh1.out]
        have x1 : W1.cell? ⟨p, 1, none⟩ = some (.int .i64 r.a) := by simp [World.cell?, Hh1.out]
        have x2 : W1.cell? ⟨p, 2, none⟩ = some (.int .i64 r.b) := by simp [World.cell?, Hh1.out]
        have x3 : W1.cell? ⟨p, 3, none⟩ = some (.slice ea en ec) := by simp [World.cell?, Hh1.out]
        obtain ⟨kN, hkN⟩ : ∃ kN, kN = Vw.lay k' r := ⟨_, rfl⟩
        obtain ⟨nN, hnN⟩ : ∃ nN, nN = kN.log.length := ⟨_, rfl⟩
        have HLay : RowKit.Hid (∀ W : World, W.heap = W1.heap → Calls Try.prog 54 #[.agg #[.int .i64 k'.view, .int .i64 k'.normal, .slice ka kn kcc], .agg #[.int .i64 r.kind, .int .i64 r.a, .int .i64 r.b, .slice ea en ec]] W fun e w' =>
            ∃ la' lc', e = .returned (.agg #[.int .i64 kN.view, .int .i64 kN.normal, .slice la' nN lc']) ∧ (nN ≤ lc' ∧ lc' ≤ maxLen) ∧ Sl EBytes (Im C') w' la' kN.log ∧ Below W1.heap.size W w') := Lib.hid fun W hW => by
          rw [hnN, hkN]
          have hz : W.heap.size = W1.heap.size := by rw [hW]
          have := vw_Lay (Im C') k' r ka kn kcc ea en ec W hkn (by rw [hkn]; exact hlc) (hsl.heap (by decide) hW) Hr.out.2.2.1 (by rw [Hr.out.2.2.1]; exact Hr.out.2.2.2.1) (Hds1.out.heap (by decide) hW) (fun k hk => Classical.byContradiction fun h => by have := M1.out.p.dom _ h; omega) (by omega) ⟨by have := Hr.out.2.1; omega, by have := Hr.out.2.1; omega⟩
          rw [hz] at this
          exact this
        have HFin : RowKit.Hid (∀ (w6 : World) (la' : Option Addr) (lc' : Nat), Below W1.heap.size W1 w6 → (nN ≤ lc' ∧ lc' ≤ maxLen) → Sl EBytes (Im C') w6 la' kN.log →
            (w6.cell? ⟨gg, 2, none⟩ = some (.slice (some ⟨kb, ko, none⟩) n kc) ∧ w6.cell? ⟨kb, ko + i * 3, none⟩ = some (.int .i64 k'.view) ∧ w6.cell? ⟨kb, ko + i * 3 + 1, none⟩ = some (.int .i64 k'.normal) ∧ w6.cell? ⟨kb, ko + i * 3 + 2, none⟩ = some (.slice ka kn kcc) ∧ (∀ o, w6.frozen? ⟨kb, o, none⟩ = false)) ∧
            RowKit.Hid (GrM C' (((w6.setCell ⟨kb, ko + i * 3, none⟩ (.int .i64 kN.view)).setCell ⟨kb, ko + i * 3 + 1, none⟩ (.int .i64 kN.normal)).setCell ⟨kb, ko + i * 3 + 2, none⟩ (.slice la' nN lc')) gg { x with ks := x.ks.set i (Vw.lays k0 (rs.take (tk cut (j + 1)))) } L') ∧
            RowKit.Hid (KpA C w C' (((w6.setCell ⟨kb, ko + i * 3, none⟩ (.int .i64 kN.view)).setCell ⟨kb, ko + i * 3 + 1, none⟩ (.int .i64 kN.normal)).setCell ⟨kb, ko + i * 3 + 2, none⟩ (.slice la' nN lc')))) := Lib.hid fun w6 la' lc' hb6 hc6 hs6 => by
          have m6 := M1.out.below hb6
          have k6 := K1.out.trans (KpA.below M1.out hb6)
          obtain ⟨s1, s2⟩ := m6.setKeep hi hkvE hkb kN (la := la') (lc := lc') (by rw [← hnN]; exact hc6) hs6
          have e : (x.ks.set i (Vw.lays k0 (rs.take (tk cut j)))).set i kN = x.ks.set i (Vw.lays k0 (rs.take (tk cut (j + 1)))) := by
            rw [List.set_set, hlay.out.1, lays_succ' Hr.out.1, ← hk2, hkN]
          rw [← hnN] at s1 s2
          refine ⟨⟨cell_thru y2 hb6, cell_thru u0 hb6, cell_thru u1 hb6, cell_thru u2 hb6, fun o => (hb6.frozen (p := ⟨kb, o, none⟩) (cell_lt u0)).trans (hkf o)⟩, Lib.hid ?_, Lib.hid (k6.trans s2)⟩
          rw [← e]; exact s1
        clear hk' hkvE hkb hk3 hk4 hlc hsl hkf hk2 hkn hn hkN hnN
        have hbX : Below W1.heap.size W1 W1.drew := (Below.refl _ _).drew
        have HbX := Lib.hid hbX
        clear hbX
        rcases (by by_cases h0 : cut < 0; exact .inl h0; exact .inr ⟨h0, by omega⟩ : cut < 0 ∨ (¬ cut < 0 ∧ (j : Int) < cut)) with hcc | ⟨hcc, hcc2⟩
        all_goals
          clear hc
          go_wp2_with fail
          go_region_law ((go_simp; go_at_call 54; refine (HLay.out W1.drew rfl).mono ?_; rintro e w6 ⟨la', lc', rfl, hc6, hs6, hb6⟩
                          obtain ⟨⟨zg, z0, z1, z2, zf⟩, HM6, HK6⟩ := HFin.out w6 la' lc' (HbX.out.trans hb6) hc6 hs6
                          clear hc6 hs6 hb6))
          all_goals
            obtain ⟨w7, hw7⟩ : ∃ w7, w7 = ((w6.setCell ⟨kb, ko + i * 3, none⟩ (.int .i64 kN.view)).setCell ⟨kb, ko + i * 3 + 1, none⟩ (.int .i64 kN.normal)).setCell ⟨kb, ko + i * 3 + 2, none⟩ (.slice la' nN lc') := ⟨_, rfl⟩
            rw [← hw7] at HM6 HK6 ⊢
            clear hw7 zg z0 z1 z2 zf y2 u0 u1 u2 x0 x1 x2 x3
            go_wp2_with fail
            go_roundg (rn - (j + 1))
            case measure => rw [hgn.out]; omega
            case rel => exact ⟨j + 1, C', L', Lib.hid rfl, by omega, by go_num, HM6, HK6⟩
      · have hc1 : ¬ cut < 0 := by omega
        have hc2 : ¬ (j : Int) < cut := by omega
        have hlay : tk cut (j + 1) = tk cut j := by unfold tk; rw [if_neg hc1, if_neg hc1]; omega
        have M7 : RowKit.Hid (GrM C' W1 gg { x with ks := x.ks.set i (Vw.lays k0 (rs.take (tk cut (j + 1)))) } L') := Lib.hid (by rw [hlay]; exact M1.out)
        clear hc hlay M1
        go_wp2_with fail
        go_roundg (rn - (j + 1))
        case measure => rw [hgn.out]; omega
        case rel => exact ⟨j + 1, C', L', Lib.hid rfl, by omega, by go_num, M7, K1⟩
    · have hlti : ¬ (j : Int) < (rn : Int) := by omega
      have hltd : decide ((j : Int) < (rn : Int)) = false := by simp; omega
      have hjn : rn = j := by omega
      subst hjn
      have M8 := hM
      have K8 := hK
      clear hM hK
      go_wp2_with fail
      exact Hnext.out C' L' wr _ _ _ _ _ _ _ _ _ _ _ _ _ _ _ _ _ _ _ _ _ _ _ _ _ _ _ _ _ _ _ _ _ _ _ _ _ _ _ _ _ _ _ _ _ _ _ _ _ _ _ _ _ _ _ _ _ _ _ _ _ _ _ _ _ _ _ _ _ _ _ _ _ _ _ _ _ _ _ _ _ _ _ _ _ _ _ _ _ _ _ _ _ _ _ _ _ _ _ _ _ _ _ _ _ _ _ _ _ _ _ _ _ _ _ _ _ _ _ _ _ _ _ _ _ _ _ _ _ _ _ _ _ _ _ _ _ _ _ _ _ _ _ _ _ _ _ _ _ _ _ _ _ _ _ _ _ _ _ _ _ _ _ _ _ _ _ _ _ _ _ _ _ _ _ _ _ _ _ _ _ _ _ _ _ _ _ _ _ _ _ _ _ _ _ _ _ _ _ _ _ _ _ _ _ _ _ _ _ _ _ _ _ _ _ _ _ _ _ _ _ _ _ _ _ _ _ _ _ _ _ _ _ _ _ _ _ _ _ _ _ _ _ _ M8 K8
end Go.Proofs.Ytmmgnbdngpkfcaa

namespace Go.Proofs.Ytmmgnbdngpkfcaa
open Go.RowKit
set_option linter.unusedVariables false
set_option linter.unusedSimpArgs false

theorem tk_all {cut : Int} {n : Nat} (h : cut < 0 ∨ (n : Int) ≤ cut) : tk cut n = n := by unfold tk; split <;> omega
theorem tk_cut {cut : Int} {n : Nat} (h : 0 ≤ cut ∧ cut < (n : Int)) : tk cut n = cut.toNat := by unfold tk; rw [if_neg (by omega)]; omega
set_option maxRecDepth 1000000 in
set_option maxHeartbeats 0 in
theorem vw_gdo_a {C : Col} {gg : Nat} {x : Gx} {L : GrL} (w : World) (h : GrM C w gg x L) (i : Nat) (cut : Int) (ra ma da : Option Addr) (rn rc mn mc dn dc : Nat) (c : Vw.Core) (t0 : Nat) (k0 : Vw.Keep) (rs : List Vw.Rc) (ms : List Vw.Msg) (ds : List Vw.Bs)
    (hR : rn = rs.length ∧ rn ≤ 40000 ∧ Sl ERec (Im C) w ra rs) (hM : mn = ms.length ∧ mn ≤ 40000 ∧ x.mail.length ≤ 100000000000 ∧ Sl EMsg (Im C) w ma ms) (hD : dn = ds.length ∧ dn ≤ dc ∧ dc ≤ maxLen ∧ Sl EBytes (Im C) w da ds)
    (hi : i < x.n) (hc : x.core ((i : Int) + 1) = c) (hk : x.ks[i]? = some k0) (hl : Vw.lays k0 rs = c.keep) (ht : x.told[i]? = some (t0 : Int)) (hs : t0 ≤ x.sure.length ∧ x.sure.length ≤ 2000) (hcm : c.commit = t0 + ds.length ∧ c.commit ≤ c.keep.log.length ∧ c.commit ≤ 2000)
    (hT : ∀ j b, ds[j]? = some b → (Vw.tells x.sure t0 ds)[t0 + j]? = some b) (hms : ∀ m ∈ ms, m.frm = (i : Int) + 1 ∧ m.to_ ≠ (i : Int) + 1 ∧ 1 ≤ m.to_ ∧ m.to_ ≤ x.n ∧ m.shard = 2 ∧ m.view ≤ c.keep.view)
    (hL : ∀ j, (Vw.lays k0 (rs.take j)).log.length ≤ 2000) (hRa : ∀ r ∈ rs, 0 ≤ r.a ∧ r.a ≤ 1099511627776) (hcut : cut < 0 ∨ (rn : Int) ≤ cut) :
    Calls Try.prog 66 #[.pointer (some ⟨gg, 0, none⟩), .int .i64 i, .agg #[.slice ra rn rc, .slice ma mn mc, .slice da dn dc], .int .i64 cut] w fun e w' => e = .returned (.tuple #[]) ∧ GrTo C w w' gg { x with ks := x.ks.set i c.keep, told := x.told.set i (c.commit : Int), sure := Vw.tells x.sure t0 ds, mail := trim (x.mail ++ ms) } := by
  have hb1 : Below w.heap.size w (w.alloc (.cells #[.slice ra rn rc, .slice ma mn mc, .slice da dn dc] 107)) := alloc_below _ _
  have hh1 := heap_alloc_new w (.cells #[.slice ra rn rc, .slice ma mn mc, .slice da dn dc] 107)
  have g1 := h.below hb1
  have k1 : KpA C w C (w.alloc (.cells #[.slice ra rn rc, .slice ma mn mc, .slice da dn dc] 107)) := KpA.below h hb1
  have hq0 : Im C w.heap.size := Classical.byContradiction fun e => by have := h.p.dom _ e; omega
  obtain ⟨w1, hw1⟩ : ∃ w1, w1 = w.alloc (.cells #[.slice ra rn rc, .slice ma mn mc, .slice da dn dc] 107) := ⟨_, rfl⟩
  rw [← hw1] at hb1 hh1 g1 k1
  have hkl := h.p.kl
  have htk : tk cut rn = rn := tk_all hcut
  have hlx : x.ks.set i (Vw.lays k0 (rs.take (tk cut rn))) = x.ks.set i c.keep := by rw [htk, List.take_of_length_le (by omega), hl]
  have Hnext : RowKit.Hid (∀ (C' : Col) (L' : GrL) (w' : World) (u2 u4 u5 u7 u8 u9 aA aB aC aD aE aF aG aH aI aJ aK aL aM aN aO aP aQ aR aS aT aU aV aW aX aY aZ bA bB bC bD bE bF bG bH bI bJ bK bL bM bN bO bP bQ bR bS bT bU bV bW bX bY bZ cA cB cC cD cE cF cG cH cI cJ cK cL cM cN cO cP cQ cR cS cT cU cV cW cX cY cZ dA dB dC dD dE dF dG dH dI dJ dK dL dM dN dO dP dQ dR dS dT dU dV dW dX dY dZ eA eB eC eD eE eF eG eH eI eJ eK eL eM eN eO eP eQ eR eS eT eU eV eW eX eY eZ fA fB fC fD fE fF fG fH fI fJ fK fL fM fN fO fP fQ fR fS fT fU fV fW fX fY fZ gA gB gC gD gE gF gG gH gI gJ gK gL gM gN gO gP gQ gR gS gT gU gV gW gX gY gZ hA hB hC hE hF hG hH hI hJ hN hO hP hQ hS hU hV hX hY hZ iA iB iC iD iE iF iG iH iI iJ iK iL iM iN iO iP iQ iR iS iT iU iV iW iX iY iZ jA jB jC jD jE jF jG jH jI jJ jK : Value), RowKit.Hid (GrM C' w' gg { x with ks := x.ks.set i (Vw.lays k0 (rs.take (tk cut rn))) } L') → RowKit.Hid (KpA C w1 C' w') → Code.wp Try.prog doP2 (bodyPost Try.prog Try.f66 fun e w'' => e = .returned (.tuple #[]) ∧ GrTo C w w'' gg { x with ks := x.ks.set i c.keep, told := x.told.set i (c.commit : Int), sure := Vw.tells x.sure t0 ds, mail := trim (x.mail ++ ms) }) ⟨#[.pointer (some ⟨gg, 0, none⟩), .int .i64 i, u2, .int .i64 cut, u4, u5, .pointer (some ⟨w.heap.size, 0, none⟩), u7, u8, u9, aA, aB, aC, aD, aE, aF, aG, aH, aI, aJ, aK, aL, aM, aN, aO, aP, aQ, aR, aS, aT, aU, aV, aW, aX, aY, aZ, bA, bB, bC, bD, bE, bF, bG, bH, bI, bJ, bK, bL, bM, bN, bO, bP, bQ, bR, bS, bT, bU, bV, bW, bX, bY, bZ, cA, cB, cC, cD, cE, cF, cG, cH, cI, cJ, cK, cL, cM, cN, cO, cP, cQ, cR, cS, cT, cU, cV, cW, cX, cY, cZ, dA, dB, dC, dD, dE, dF, dG, dH, dI, dJ, dK, dL, dM, dN, dO, dP, dQ, dR, dS, dT, dU, dV, dW, dX, dY, dZ, eA, eB, eC, eD, eE, eF, eG, eH, eI, eJ, eK, eL, eM, eN, eO, eP, eQ, eR, eS, eT, eU, eV, eW, eX, eY, eZ, fA, fB, fC, fD, fE, fF, fG, fH, fI, fJ, fK, fL, fM, fN, fO, fP, fQ, fR, fS, fT, fU, fV, fW, fX, fY, fZ, gA, gB, gC, gD, gE, gF, gG, gH, gI, gJ, gK, gL, gM, gN, gO, gP, gQ, gR, gS, gT, gU, gV, gW, gX, gY, gZ, hA, hB, hC, hE, hF, hG, hH, hI, hJ, hN, hO, hP, hQ, hS, hU, hV, hX, hY, hZ, iA, iB, iC, iD, iE, iF, iG, iH, iI, iJ, iK, iL, iM, iN, iO, iP, iQ, iR, iS, iT, iU, iV, iW, iX, iY, iZ, jA, jB, jC, jD, jE, jF, jG, jH, jI, jJ, jK], []⟩ w') := Lib.hid fun C' L' w' u2 u4 u5 u7 u8 u9 aA aB aC aD aE aF aG aH aI aJ aK aL aM aN aO aP aQ aR aS aT aU aV aW aX aY aZ bA bB bC bD bE bF bG bH bI bJ bK bL bM bN bO bP bQ bR bS bT bU bV bW bX bY bZ cA cB cC cD cE cF cG cH cI cJ cK cL cM cN cO cP cQ cR cS cT cU cV cW cX cY cZ dA dB dC dD dE dF dG dH dI dJ dK dL dM dN dO dP dQ dR dS dT dU dV dW dX dY dZ eA eB eC eD eE eF eG eH eI eJ eK eL eM eN eO eP eQ eR eS eT eU eV eW eX eY eZ fA fB fC fD fE fF fG fH fI fJ fK fL fM fN fO fP fQ fR fS fT fU fV fW fX fY fZ gA gB gC gD gE gF gG gH gI gJ gK gL gM gN gO gP gQ gR gS gT gU gV gW gX gY gZ hA hB hC hE hF hG hH hI hJ hN hO hP hQ hS hU hV hX hY hZ iA iB iC iD iE iF iG iH iI iJ iK iL iM iN iO iP iQ iR iS iT iU iV iW iX iY iZ jA jB jC jD jE jF jG jH jI jJ jK hg hkp => by
    rw [hlx] at hg
    refine vw_do2a C w gg i w.heap.size cut { x with ks := x.ks.set i c.keep } C' L' w' hg (Lib.hid (k1.trans hkp.out)) ra ma da rn rc mn mc dn dc ?_ c t0 ds ms ?_ ?_ ?_ (Lib.hid hT) (Lib.hid hms) hcut _ _ _ _ _ _ _ _ _ _ _ _ _ _ _ _ _ _ _ _ _ _ _ _ _ _ _ _ _ _ _ _ _ _ _ _ _ _ _ _ _ _ _ _ _ _ _ _ _ _ _ _ _ _ _ _ _ _ _ _ _ _ _ _ _ _ _ _ _ _ _ _ _ _ _ _ _ _ _ _ _ _ _ _ _ _ _ _ _ _ _ _ _ _ _ _ _ _ _ _ _ _ _ _ _ _ _ _ _ _ _ _ _ _ _ _ _ _ _ _ _ _ _ _ _ _ _ _ _ _ _ _ _ _ _ _ _ _ _ _ _ _ _ _ _ _ _ _ _ _ _ _ _ _ _ _ _ _ _ _ _ _ _ _ _ _ _ _ _ _ _ _ _ _ _ _ _ _ _ _ _ _ _ _ _ _ _ _ _ _ _ _ _ _ _ _ _ _ _ _ _ _ _ _ _ _ _ _ _ _ _ _ _ _ _ _ _ _ _ _ _ _ _ _ _ _ _ _ _ _ _ _ _ _ _ _ _ _ _ _ _ _ _ _
    · obtain ⟨e1, e2⟩ := KpA.im hkp.out hq0 (Array.getElem?_eq_some_iff.1 hh1).1
      exact Lib.hid ⟨e2, e1.trans hh1⟩
    · exact Lib.hid ⟨hD.1, hD.2.1, hD.2.2.1, (hD.2.2.2.below (by decide) hb1).kp (by decide) hkp.out (fun e => e rfl)⟩
    · exact Lib.hid ⟨hM.1, hM.2.1, hM.2.2.1, (hM.2.2.2.below (by decide) hb1).kp (by decide) hkp.out (fun e => e rfl)⟩
    · exact Lib.hid ⟨hi, hc, List.getElem?_set_self (by rw [hkl]; exact hi), ht, hs.1, hs.2, hcm.1, hcm.2.1, hcm.2.2⟩
  have H1 := Lib.hid g1
  have K1 := Lib.hid k1
  have HB := Lib.hid (And.intro hq0 hh1)
  have HS := Lib.hid (And.intro hR.1 (And.intro hR.2.1 (hR.2.2.below (by decide) hb1)))
  have HC := Lib.hid (And.intro hi hk)
  have HL := Lib.hid hL
  have HRa := Lib.hid hRa
  clear h hR hM hD hi hc hk hl ht hs hcm hT hms hL hRa hcut hb1 hh1 g1 k1 hq0 hkl htk hlx
  have HW1 := Lib.hid hw1.symm
  clear hw1
  refine calls_of_wp Try.func66 doBody_is ?_
  simp only [Try.ntmps66, List.size_toArray, List.length_cons, List.length_nil, Nat.reduceAdd, Nat.reduceSub, Array.replicate_succ,
     Array.replicate_zero, List.push_toArray, List.append_toArray, List.nil_append, List.cons_append]
  rw [doBody_eq]
  refine wp_seq ?_
  conv => arg 2; whnf
  go_wp2_with fail
  rw [HW1.out]
  exact vw_do1 C w gg i w.heap.size cut x C L w1 H1 K1 ra ma da rn rc mn mc dn dc HB _ k0 rs HS HC HL HRa Hnext _ _ _ _ _ _ _ _ _ _ _ _ _ _ _ _ _ _ _ _ _ _ _ _ _ _ _ _ _ _ _ _ _ _ _ _ _ _ _ _ _ _ _ _ _ _ _ _ _ _ _ _ _ _ _ _ _ _ _ _ _ _ _ _ _ _ _ _ _ _ _ _ _ _ _ _ _ _ _ _ _ _ _ _ _ _ _ _ _ _ _ _ _ _ _ _ _ _ _ _ _ _ _ _ _ _ _ _ _ _ _ _ _ _ _ _ _ _ _ _ _ _ _ _ _ _ _ _ _ _ _ _ _ _ _ _ _ _ _ _ _ _ _ _ _ _ _ _ _ _ _ _ _ _ _ _ _ _ _ _ _ _ _ _ _ _ _ _ _ _ _ _ _ _ _ _ _ _ _ _ _ _ _ _ _ _ _ _ _ _ _ _ _ _ _ _ _ _ _ _ _ _ _ _ _ _ _ _ _ _ _ _ _ _ _ _ _ _ _ _ _ _ _ _ _ _ _ _ _ _ _ _ _ _ _ _ _ _ _ _ _ _ _ _
set_option maxRecDepth 1000000 in
set_option maxHeartbeats 0 in
theorem vw_gdo_b {C : Col} {gg : Nat} {x : Gx} {L : GrL} (w : World) (h : GrM C w gg x L) (i : Nat) (cut : Int) (ra ma da : Option Addr) (rn rc mn mc dn dc : Nat) (k0 k : Vw.Keep) (rs : List Vw.Rc)
    (hR : rn = rs.length ∧ rn ≤ 40000 ∧ Sl ERec (Im C) w ra rs)
    (hi : i < x.n) (hk : x.ks[i]? = some k0) (hl : Vw.lays k0 (rs.take cut.toNat) = k) (hkv : 0 ≤ k.normal ∧ k.normal ≤ k.view ∧ k.view ≤ 1099511627776) (hks : Vw.Small k.log)
    (hL : ∀ j, (Vw.lays k0 (rs.take j)).log.length ≤ 2000) (hRa : ∀ r ∈ rs, 0 ≤ r.a ∧ r.a ≤ 1099511627776) (hcut : 0 ≤ cut ∧ cut < (rn : Int)) :
    Calls Try.prog 66 #[.pointer (some ⟨gg, 0, none⟩), .int .i64 i, .agg #[.slice ra rn rc, .slice ma mn mc, .slice da dn dc], .int .i64 cut] w fun e w' => e = .returned (.tuple #[]) ∧ GrTo C w w' gg { x with ks := x.ks.set i k, core := updI x.core ((i : Int) + 1) (Vw.Core.new ((i : Int) + 1) x.n 2 x.pat k), told := x.told.set i 0 } := by
  have hb1 : Below w.heap.size w (w.alloc (.cells #[.slice ra rn rc, .slice ma mn mc, .slice da dn dc] 107)) := alloc_below _ _
  have hh1 := heap_alloc_new w (.cells #[.slice ra rn rc, .slice ma mn mc, .slice da dn dc] 107)
  have g1 := h.below hb1
  have k1 : KpA C w C (w.alloc (.cells #[.slice ra rn rc, .slice ma mn mc, .slice da dn dc] 107)) := KpA.below h hb1
  have hq0 : Im C w.heap.size := Classical.byContradiction fun e => by have := h.p.dom _ e; omega
  obtain ⟨w1, hw1⟩ : ∃ w1, w1 = w.alloc (.cells #[.slice ra rn rc, .slice ma mn mc, .slice da dn dc] 107) := ⟨_, rfl⟩
  rw [← hw1] at hb1 hh1 g1 k1
  have hkl := h.p.kl
  have hlx : x.ks.set i (Vw.lays k0 (rs.take (tk cut rn))) = x.ks.set i k := by rw [tk_cut hcut, hl]
  have Hnext : RowKit.Hid (∀ (C' : Col) (L' : GrL) (w' : World) (u2 u4 u5 u7 u8 u9 aA aB aC aD aE aF aG aH aI aJ aK aL aM aN aO aP aQ aR aS aT aU aV aW aX aY aZ bA bB bC bD bE bF bG bH bI bJ bK bL bM bN bO bP bQ bR bS bT bU bV bW bX bY bZ cA cB cC cD cE cF cG cH cI cJ cK cL cM cN cO cP cQ cR cS cT cU cV cW cX cY cZ dA dB dC dD dE dF dG dH dI dJ dK dL dM dN dO dP dQ dR dS dT dU dV dW dX dY dZ eA eB eC eD eE eF eG eH eI eJ eK eL eM eN eO eP eQ eR eS eT eU eV eW eX eY eZ fA fB fC fD fE fF fG fH fI fJ fK fL fM fN fO fP fQ fR fS fT fU fV fW fX fY fZ gA gB gC gD gE gF gG gH gI gJ gK gL gM gN gO gP gQ gR gS gT gU gV gW gX gY gZ hA hB hC hE hF hG hH hI hJ hN hO hP hQ hS hU hV hX hY hZ iA iB iC iD iE iF iG iH iI iJ iK iL iM iN iO iP iQ iR iS iT iU iV iW iX iY iZ jA jB jC jD jE jF jG jH jI jJ jK : Value), RowKit.Hid (GrM C' w' gg { x with ks := x.ks.set i (Vw.lays k0 (rs.take (tk cut rn))) } L') → RowKit.Hid (KpA C w1 C' w') → Code.wp Try.prog doP2 (bodyPost Try.prog Try.f66 fun e w'' => e = .returned (.tuple #[]) ∧ GrTo C w w'' gg { x with ks := x.ks.set i k, core := updI x.core ((i : Int) + 1) (Vw.Core.new ((i : Int) + 1) x.n 2 x.pat k), told := x.told.set i 0 }) ⟨#[.pointer (some ⟨gg, 0, none⟩), .int .i64 i, u2, .int .i64 cut, u4, u5, .pointer (some ⟨w.heap.size, 0, none⟩), u7, u8, u9, aA, aB, aC, aD, aE, aF, aG, aH, aI, aJ, aK, aL, aM, aN, aO, aP, aQ, aR, aS, aT, aU, aV, aW, aX, aY, aZ, bA, bB, bC, bD, bE, bF, bG, bH, bI, bJ, bK, bL, bM, bN, bO, bP, bQ, bR, bS, bT, bU, bV, bW, bX, bY, bZ, cA, cB, cC, cD, cE, cF, cG, cH, cI, cJ, cK, cL, cM, cN, cO, cP, cQ, cR, cS, cT, cU, cV, cW, cX, cY, cZ, dA, dB, dC, dD, dE, dF, dG, dH, dI, dJ, dK, dL, dM, dN, dO, dP, dQ, dR, dS, dT, dU, dV, dW, dX, dY, dZ, eA, eB, eC, eD, eE, eF, eG, eH, eI, eJ, eK, eL, eM, eN, eO, eP, eQ, eR, eS, eT, eU, eV, eW, eX, eY, eZ, fA, fB, fC, fD, fE, fF, fG, fH, fI, fJ, fK, fL, fM, fN, fO, fP, fQ, fR, fS, fT, fU, fV, fW, fX, fY, fZ, gA, gB, gC, gD, gE, gF, gG, gH, gI, gJ, gK, gL, gM, gN, gO, gP, gQ, gR, gS, gT, gU, gV, gW, gX, gY, gZ, hA, hB, hC, hE, hF, hG, hH, hI, hJ, hN, hO, hP, hQ, hS, hU, hV, hX, hY, hZ, iA, iB, iC, iD, iE, iF, iG, iH, iI, iJ, iK, iL, iM, iN, iO, iP, iQ, iR, iS, iT, iU, iV, iW, iX, iY, iZ, jA, jB, jC, jD, jE, jF, jG, jH, jI, jJ, jK], []⟩ w') := Lib.hid fun C' L' w' u2 u4 u5 u7 u8 u9 aA aB aC aD aE aF aG aH aI aJ aK aL aM aN aO aP aQ aR aS aT aU aV aW aX aY aZ bA bB bC bD bE bF bG bH bI bJ bK bL bM bN bO bP bQ bR bS bT bU bV bW bX bY bZ cA cB cC cD cE cF cG cH cI cJ cK cL cM cN cO cP cQ cR cS cT cU cV cW cX cY cZ dA dB dC dD dE dF dG dH dI dJ dK dL dM dN dO dP dQ dR dS dT dU dV dW dX dY dZ eA eB eC eD eE eF eG eH eI eJ eK eL eM eN eO eP eQ eR eS eT eU eV eW eX eY eZ fA fB fC fD fE fF fG fH fI fJ fK fL fM fN fO fP fQ fR fS fT fU fV fW fX fY fZ gA gB gC gD gE gF gG gH gI gJ gK gL gM gN gO gP gQ gR gS gT gU gV gW gX gY gZ hA hB hC hE hF hG hH hI hJ hN hO hP hQ hS hU hV hX hY hZ iA iB iC iD iE iF iG iH iI iJ iK iL iM iN iO iP iQ iR iS iT iU iV iW iX iY iZ jA jB jC jD jE jF jG jH jI jJ jK hg hkp => by
    rw [hlx] at hg
    refine vw_do2b C w gg i w.heap.size cut { x with ks := x.ks.set i k } C' L' w' hg (Lib.hid (k1.trans hkp.out)) ra ma da rn rc mn mc dn dc ?_ k ?_ hcut _ _ _ _ _ _ _ _ _ _ _ _ _ _ _ _ _ _ _ _ _ _ _ _ _ _ _ _ _ _ _ _ _ _ _ _ _ _ _ _ _ _ _ _ _ _ _ _ _ _ _ _ _ _ _ _ _ _ _ _ _ _ _ _ _ _ _ _ _ _ _ _ _ _ _ _ _ _ _ _ _ _ _ _ _ _ _ _ _ _ _ _ _ _ _ _ _ _ _ _ _ _ _ _ _ _ _ _ _ _ _ _ _ _ _ _ _ _ _ _ _ _ _ _ _ _ _ _ _ _ _ _ _ _ _ _ _ _ _ _ _ _ _ _ _ _ _ _ _ _ _ _ _ _ _ _ _ _ _ _ _ _ _ _ _ _ _ _ _ _ _ _ _ _ _ _ _ _ _ _ _ _ _ _ _ _ _ _ _ _ _ _ _ _ _ _ _ _ _ _ _ _ _ _ _ _ _ _ _ _ _ _ _ _ _ _ _ _ _ _ _ _ _ _ _ _ _ _ _ _ _ _ _ _ _ _ _ _ _ _ _ _ _ _
    · obtain ⟨e1, e2⟩ := KpA.im hkp.out hq0 (Array.getElem?_eq_some_iff.1 hh1).1
      exact Lib.hid ⟨e2, e1.trans hh1⟩
    · exact Lib.hid ⟨hi, List.getElem?_set_self (by rw [hkl]; exact hi), hkv, hks⟩
  have H1 := Lib.hid g1
  have K1 := Lib.hid k1
  have HB := Lib.hid (And.intro hq0 hh1)
  have HS := Lib.hid (And.intro hR.1 (And.intro hR.2.1 (hR.2.2.below (by decide) hb1)))
  have HC := Lib.hid (And.intro hi hk)
  have HL := Lib.hid hL
  have HRa := Lib.hid hRa
  clear h hR hi hk hl hkv hks hL hRa hcut hb1 hh1 g1 k1 hq0 hkl hlx
  have HW1 := Lib.hid hw1.symm
  clear hw1
  refine calls_of_wp Try.func66 doBody_is ?_
  simp only [Try.ntmps66, List.size_toArray, List.length_cons, List.length_nil, Nat.reduceAdd, Nat.reduceSub, Array.replicate_succ,
     Array.replicate_zero, List.push_toArray, List.append_toArray, List.nil_append, List.cons_append]
  rw [doBody_eq]
  refine wp_seq ?_
  conv => arg 2; whnf
  go_wp2_with fail
  rw [HW1.out]
  exact vw_do1 C w gg i w.heap.size cut x C L w1 H1 K1 ra ma da rn rc mn mc dn dc HB _ k0 rs HS HC HL HRa Hnext _ _ _ _ _ _ _ _ _ _ _ _ _ _ _ _ _ _ _ _ _ _ _ _ _ _ _ _ _ _ _ _ _ _ _ _ _ _ _ _ _ _ _ _ _ _ _ _ _ _ _ _ _ _ _ _ _ _ _ _ _ _ _ _ _ _ _ _ _ _ _ _ _ _ _ _ _ _ _ _ _ _ _ _ _ _ _ _ _ _ _ _ _ _ _ _ _ _ _ _ _ _ _ _ _ _ _ _ _ _ _ _ _ _ _ _ _ _ _ _ _ _ _ _ _ _ _ _ _ _ _ _ _ _ _ _ _ _ _ _ _ _ _ _ _ _ _ _ _ _ _ _ _ _ _ _ _ _ _ _ _ _ _ _ _ _ _ _ _ _ _ _ _ _ _ _ _ _ _ _ _ _ _ _ _ _ _ _ _ _ _ _ _ _ _ _ _ _ _ _ _ _ _ _ _ _ _ _ _ _ _ _ _ _ _ _ _ _ _ _ _ _ _ _ _ _ _ _ _ _ _ _ _ _ _ _ _ _ _ _ _ _ _ _
end Go.Proofs.Ytmmgnbdngpkfcaa

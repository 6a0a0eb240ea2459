/-
  What is to be done by a group's member: what is told as done.
-/
import Derived.Test.YtmmgnbdngpkfcaaVwGw
namespace Go.Proofs.Ytmmgnbdngpkfcaa
open Go.RowKit
set_option linter.unusedVariables false
set_option linter.unusedSimpArgs false

set_option maxRecDepth 1000000 in
set_option maxHeartbeats 0 in
theorem vw_do4 (C0 : Col) (w0 : World) (gg i q : Nat) (cut : Int) (x : Gx) (C : Col) (L : GrL) (w : World) (HG : RowKit.Hid (GrM C w gg x L)) (HK : RowKit.Hid (KpA C0 w0 C w)) (ra ma da : Option Addr) (rn rc mn mc dn dc : Nat)
    (HB : RowKit.Hid (Im C q ∧ w.heap[q]? = some (.cells #[.slice ra rn rc, .slice ma mn mc, .slice da dn dc] 107 (0, 0)))) (c : Vw.Core) (t0 : Nat) (ds : List Vw.Bs)
    (HS : RowKit.Hid (dn = ds.length ∧ dn ≤ dc ∧ dc ≤ maxLen ∧ Sl EBytes (Im C) w da ds))
    (HC : RowKit.Hid (i < x.n ∧ x.core ((i : Int) + 1) = c ∧ x.ks[i]? = some c.keep ∧ x.told[i]? = some (t0 : Int) ∧ t0 ≤ x.sure.length ∧ x.sure.length ≤ 2000 ∧ c.commit = t0 + ds.length ∧ c.commit ≤ c.keep.log.length ∧ c.commit ≤ 2000))
    (HT : RowKit.Hid (∀ j b, ds[j]? = some b → (Vw.tells x.sure t0 ds)[t0 + j]? = some b)) (u2 u4 u5 u7 u8 u9 aA aB aC aD aE aF aG aH aI aJ aK aL aM aN aO aP aQ aR aS aT aU aV aW aX aY aZ bA bB bC bD bE bF bG bH bI bJ bK bL bM bN bO bP bQ bR bS bT bU bV bW bX bY bZ cA cB cC cD cE cF cG cH cI cJ cK cL cM cN cO cP cQ cR cS cT cU cV cW cX cY cZ dA dB dC dD dE dF dG dH dI dJ dK dL dM dN dP dQ dR dS dT dU dV dW dX dY dZ eA eB eC eD eE eF eG eH eI eJ eK eL eM eN eO eP eQ eR eS eT eU eV eW eX eY eZ fA fB fC fD fE fF fG fH fI fJ fK fL fM fN fO fP fQ fR fS fT fU fV fW fX fY fZ gA gB gC gD gE gF gG gH gI gJ gK gL gM gN gO gP gQ gR gS gT gU gV gW gX gY gZ hA hB hC hD hE hF hG hH hI hJ hL hN hO hP hQ hR hS hT hU hV hY hZ iA iB iC iD iE iF iG iH iI iJ iK iL iM iN iO iP iQ iR iS iT iU iV iW iX iY iZ jA jB jC jD jE jF jG jH jI : Value) :
    Code.wp Try.prog doP4 (bodyPost Try.prog Try.f66 fun e w' => e = .returned (.tuple #[]) ∧ GrTo C0 w0 w' gg ({ x with told := x.told.set i (c.commit : Int), sure := Vw.tells x.sure t0 ds, mail := trim x.mail })) ⟨#[.pointer (some ⟨gg, 0, none⟩), .int .i64 i, u2, .int .i64 cut, u4, u5, .pointer (some ⟨q, 0, none⟩), u7, u8, u9, aA, aB, aC, aD, aE, aF, aG, aH, aI, aJ, aK, aL, aM, aN, aO, aP, aQ, aR, aS, aT, aU, aV, aW, aX, aY, aZ, bA, bB, bC, bD, bE, bF, bG, bH, bI, bJ, bK, bL, bM, bN, bO, bP, bQ, bR, bS, bT, bU, bV, bW, bX, bY, bZ, cA, cB, cC, cD, cE, cF, cG, cH, cI, cJ, cK, cL, cM, cN, cO, cP, cQ, cR, cS, cT, cU, cV, cW, cX, cY, cZ, dA, dB, dC, dD, dE, dF, dG, dH, dI, dJ, dK, dL, dM, dN, dP, dQ, dR, dS, dT, dU, dV, dW, dX, dY, dZ, eA, eB, eC, eD, eE, eF, eG, eH, eI, eJ, eK, eL, eM, eN, eO, eP, eQ, eR, eS, eT, eU, eV, eW, eX, eY, eZ, fA, fB, fC, fD, fE, fF, fG, fH, fI, fJ, fK, fL, fM, fN, fO, fP, fQ, fR, fS, fT, fU, fV, fW, fX, fY, fZ, gA, gB, gC, gD, gE, gF, gG, gH, gI, gJ, gK, gL, gM, gN, gO, gP, gQ, gR, gS, gT, gU, gV, gW, gX, gY, gZ, hA, hB, hC, hD, hE, hF, hG, hH, hI, hJ, hL, hN, hO, hP, hQ, hR, hS, hT, hU, hV, hY, hZ, iA, iB, iC, iD, iE, iF, iG, iH, iI, iJ, iK, iL, iM, iN, iO, iP, iQ, iR, iS, iT, iU, iV, iW, iX, iY, iZ, jA, jB, jC, jD, jE, jF, jG, jH, jI], []⟩ w := by
  obtain ⟨hi, hcc, hks, htd, hts, hs2, hcm, hcl, hc2⟩ := HC.out
  have y2 : w.cell? ⟨q, 2, none⟩ = some (.slice da dn dc) := by simp [World.cell?, HB.out.2]
  have hdn := HS.out.1
  have hdn2 : dn ≤ 2000 := by omega
  have hn5 := HG.out.nn.2
  have Hend : RowKit.Hid (∀ (C' : Col) (L' : GrL) (wr : World), GrM C' wr gg { x with told := x.told.set i ((t0 + dn : Nat) : Int), sure := Vw.tells x.sure t0 (ds.take dn) } L' → RowKit.Hid (GrM C' wr gg { x with told := x.told.set i (c.commit : Int), sure := Vw.tells x.sure t0 ds } L')) := Lib.hid fun C' L' wr h => Lib.hid (by
    rw [List.take_of_length_le (by omega)] at h
    rw [hcm, ← hdn]
    exact h)
  have HC5 : RowKit.Hid (i < x.n ∧ x.core ((i : Int) + 1) = c ∧ x.ks[i]? = some c.keep ∧ (x.told.set i (c.commit : Int))[i]? = some (c.commit : Int) ∧ c.commit ≤ c.keep.log.length) := Lib.hid ⟨hi, hcc, hks, List.getElem?_set_self (by rw [HG.out.p.tl]; exact hi), hcl⟩
  have Hstart : RowKit.Hid (GrM C w gg { x with told := x.told.set i ((t0 + 0 : Nat) : Int), sure := Vw.tells x.sure t0 (ds.take 0) } L) := Lib.hid (by
    have e : ({ x with told := x.told.set i ((t0 + 0 : Nat) : Int), sure := Vw.tells x.sure t0 (ds.take 0) } : Gx) = x := by
      have e1 : x.told.set i ((t0 + 0 : Nat) : Int) = x.told := by
        apply List.ext_getElem?
        intro k
        by_cases e : k = i
        · subst e
          rw [List.getElem?_set_self (by rw [HG.out.p.tl]; exact hi), htd]
          rfl
        · rw [List.getElem?_set_ne (fun h => e h.symm)]
      have e2 : Vw.tells x.sure t0 (ds.take 0) = x.sure := by simp [Vw.tells]
      rw [e1, e2]
    rw [e]; exact HG.out)
  have htd2 : t0 + ds.length ≤ 2000 := by omega
  clear hcc hks htd hcl hcm hdn
  rw [doP4_eq]
  refine wp_seq ?_
  conv => arg 2; whnf
  go_wp2_with fail
  clear y2
  go_loopg [126] dn (fun gn v wr => ∃ (j : Nat) (C' : Col) (L' : GrL), RowKit.Hid (gn = dn - j) ∧ j ≤ dn ∧ v = .int .i64 j ∧ RowKit.Hid (GrM C' wr gg { x with told := x.told.set i ((t0 + j : Nat) : Int), sure := Vw.tells x.sure t0 (ds.take j) } L') ∧ RowKit.Hid (KpA C w C' wr))
  case atStart => exact ⟨0, C, L, Lib.hid rfl, Nat.zero_le _, rfl, Hstart, Lib.hid (Kp.refl _ HG.out.p.dom)⟩
  case round =>
    obtain ⟨j, C', L', hgn, hj, rfl, hM, hK⟩ := hrel
    by_cases hlt : j < dn
    · have hjd : j < ds.length := by have := HS.out.1; omega
      have hlti : (j : Int) < (dn : Int) := by omega
      have hltd : decide ((j : Int) < (dn : Int)) = true := by simp; omega
      have hadd : IntKind.i64.wrap ((j : Int) + 1) = (j : Int) + 1 := IntWalk.i64_in _ (by omega)
      obtain ⟨p, hp⟩ : ∃ p, p = t0 + j := ⟨_, rfl⟩
      rw [← hp] at hM
      have hadd2 : IntKind.i64.wrap ((p : Int) + 1) = (p : Int) + 1 := IntWalk.i64_in _ (by omega)
      obtain ⟨db, dO, ba, bc, hda, hdb, e0, hbc, hbs⟩ := byts_atG HS.out.2.2.2 j hjd
      subst hda
      have hbw := hK.out.im hdb (cell_lt e0)
      have z0 : wr.cell? ⟨db, dO + j, none⟩ = some (.slice ba ds[j].length bc) := (cell_keep hbw.1).trans e0
      obtain ⟨bn, hbn⟩ : ∃ bn, bn = ds[j].length := ⟨_, rfl⟩
      rw [← hbn] at z0
      obtain ⟨tb, tt, tc, tv, htv, htvE, htb, ht3, ht4, x0, htf⟩ := hM.out.toldAt hi
      have htv' : tv = (p : Int) := by
        rw [List.getElem?_set_self (by rw [HG.out.p.tl]; exact hi)] at htv
        injection htv with htv; exact htv.symm
      subst htv'
      have y6 := hM.out.c6
      rw [htvE] at y6
      obtain ⟨n, hn⟩ : ∃ n, n = x.n := ⟨_, rfl⟩
      have y6' : wr.cell? ⟨gg, 6, none⟩ = some (.slice (some ⟨tb, tt, none⟩) n tc) := by rw [hn]; exact y6
      have hile : i < n := by omega
      obtain ⟨w1, hw1⟩ : ∃ w1, w1 = wr.setCell ⟨tb, tt + i, none⟩ (.int .i64 ((p : Int) + 1)) := ⟨_, rfl⟩
      obtain ⟨m1, k1⟩ := hM.out.setTold hi htvE htb ((p : Int) + 1) ⟨by omega, by omega⟩
      rw [← hw1] at m1 k1
      have hw1' := hw1.symm
      have M1 : RowKit.Hid (GrM C' w1 gg { x with told := x.told.set i ((t0 + (j + 1) : Nat) : Int), sure := Vw.tells x.sure t0 (ds.take j) } L') := Lib.hid (by
        have e : ((x.told.set i (p : Int)).set i ((p : Int) + 1)) = x.told.set i ((t0 + (j + 1) : Nat) : Int) := by
          rw [List.set_set, hp]; congr 1
        rw [← e]; exact m1)
      have K1 : RowKit.Hid (KpA C w C' w1) := Lib.hid (hK.out.trans k1)
      have Hbs : RowKit.Hid (Sl EU8 (Im C') w1 ba ds[j]) := Lib.hid ((hbs.kp (by decide) hK.out (fun e => e rfl)).kp (by decide) k1 (fun e => e rfl))
      have Hbn := Lib.hid (And.intro hbn (And.intro hbc (Lib.hid (HT.out j ds[j] (List.getElem?_eq_getElem hjd)))))
      have HM := hM
      have Htt := Lib.hid htf
      clear hdb e0 hbc hbs hbw hbn y6 htv htvE htb ht3 ht4 m1 k1 hM hn hw1
      have qtf := Htt.out
      have Hp := Lib.hid hp
      clear hp
      go_upto_region 21 with fail
      have hp := Hp.out
      have htl := tells_succ (sure := x.sure) (ds := ds) hts hjd
      have hlen5 : (Vw.tells x.sure t0 (ds.take (j + 1))).length = max x.sure.length (t0 + (j + 1)) := by
        unfold Vw.tells
        rw [List.length_append, List.length_drop, List.length_take]
        omega
      obtain ⟨sa, sc, hsv, hs1, hs2'⟩ := M1.out.p.sures.shape
      obtain ⟨sn, hsn⟩ : ∃ sn, sn = (Vw.tells x.sure t0 (ds.take j)).length := ⟨_, rfl⟩
      have hsn' : sn = max x.sure.length (t0 + j) := hsn.trans htl.1
      have y5 : w1.cell? ⟨gg, 5, none⟩ = some (.slice sa sn sc) := by rw [hsn, ← hsv]; exact M1.out.c5
      have Hsv : RowKit.Hid (L'.sv = .slice sa sn sc) := Lib.hid (by rw [hsn]; exact hsv)
      have Hlen := Lib.hid (And.intro hsn' (And.intro htl hlen5))
      have hple : p ≤ sn := by omega
      clear hsv hs1 hs2' hsn htl hsn' hlen5
      by_cases heq : p = sn
      · subst heq
        obtain ⟨X, hX⟩ : ∃ X, X = w1.alloc (.cells #[.slice ba bn bc] 49) := ⟨_, rfl⟩
        have hbX : Below w1.heap.size w1 X := by rw [hX]; exact alloc_below _ _
        have mX := M1.out.below hbX
        have HoX : RowKit.Hid (OwnQ C' 5 EBytes 49 X (.slice sa p sc) (Vw.tells x.sure t0 (ds.take j))) := Lib.hid (by rw [← Hsv.out]; exact mX.p.sures)
        have HslX : RowKit.Hid (Sl EBytes (Im C') X (some ⟨w1.heap.size, 0, none⟩) [ds[j]]) := Lib.hid (sl_one (by rw [hX]; exact heap_alloc_new w1 _) ⟨ba, bc, by rw [← Hbn.out.1], Hbn.out.2.1.1, Hbn.out.2.1.2, Hbs.out.below (by decide) hbX⟩ (Classical.byContradiction fun h => by have := M1.out.p.dom _ h; omega))
        have HX := Lib.hid mX
        have KX : RowKit.Hid (KpA C w C' X) := Lib.hid (K1.out.trans (KpA.below M1.out hbX))
        have HbsX : RowKit.Hid (Sl EU8 (Im C') X ba ds[j]) := Lib.hid (Hbs.out.below (by decide) hbX)
        have hX' := hX.symm
        have hl63 : (Vw.tells x.sure t0 (ds.take j)).length + [ds[j]].length ≤ 2001 := by rw [Hlen.out.2.1.1]; simp; omega
        clear hX hbX mX M1 K1 Hbs hp
        go_upto_region 23 with (first
          | (refine wpList_appQ (l2 := [ds[j]]) EBytes rfl rfl (by rfl) (by rfl) ti_texts HoX.out (by decide) HX.out.p.dom rfl HslX.out (by simp) (by unfold maxLen; omega) (by omega) ?_
             intro v4 w4 C4 ho4 hk4
             obtain ⟨a4, c4, hv4, -, -⟩ := ho4.shape
             obtain ⟨n4, hn4⟩ : ∃ n4, n4 = (Vw.tells x.sure t0 (ds.take j) ++ [ds[j]]).length := ⟨_, rfl⟩
             rw [← hn4] at hv4
             subst hv4
             have r4 := HX.out.rowKp hk4 (by decide)
             have z5 := r4.1 5 _ rfl
             have zf := r4.2 5
             obtain ⟨M5', K5'⟩ := HX.out.setSure ho4 hk4
             rw [← Hlen.out.2.1.2.2 (by have := Hp.out; have := Hlen.out.1; omega)] at M5'
             have Hbs5 : RowKit.Hid (Sl EU8 (Im C4) (w4.setCell ⟨gg, 5, none⟩ (.slice a4 n4 c4)) ba ds[j]) := Lib.hid (HbsX.out.kp (by decide) K5' (fun e => e rfl))
             have HM5 := Lib.hid M5'
             have HK5 := Lib.hid (KX.out.trans K5')
             clear ho4 hk4 r4 M5' K5' hn4))
        obtain ⟨w5, hw5⟩ : ∃ w5, w5 = w4.setCell ⟨gg, 5, none⟩ (.slice a4 n4 c4) := ⟨_, rfl⟩
        obtain ⟨C5, hC5⟩ : ∃ C5, C5 = C4 := ⟨_, rfl⟩
        obtain ⟨L5, hL5⟩ : ∃ L5, L5 = { L' with sv := .slice a4 n4 c4 } := ⟨_, rfl⟩
        have M5 : RowKit.Hid (GrM C5 w5 gg { x with told := x.told.set i ((t0 + (j + 1) : Nat) : Int), sure := Vw.tells x.sure t0 (ds.take (j + 1)) } L5) := by rw [hC5, hw5, hL5]; exact HM5
        have K5 : RowKit.Hid (KpA C w C5 w5) := by rw [hC5, hw5]; exact HK5
        rw [← hw5, ← hC5] at Hbs5
        rw [← hw5]
        clear hw5 hC5 hL5 HM5 HK5 z5 zf hX' y5
        have hp := Hp.out
        have hlen5 := Hlen.out.2.2
        obtain ⟨sb, so, sc5, cs5, hsv5, hsb5, hrep, hcs5, -, hs51, hs52⟩ := M5.out.p.sures.at (k := p) (by rw [hlen5]; omega)
        obtain ⟨a2, c2, rfl, hb1, hb2, hb3⟩ := hrep
        obtain ⟨s5, hs5⟩ : ∃ s5, s5 = (Vw.tells x.sure t0 (ds.take (j + 1))).length := ⟨_, rfl⟩
        have hps5 : p < s5 := by rw [hs5, hlen5]; omega
        have q5 := M5.out.c5
        rw [hsv5] at q5
        change w5.cell? ⟨gg, 5, none⟩ = some (.slice (some ⟨sb, so, none⟩) (Vw.tells x.sure t0 (ds.take (j + 1))).length sc5) at q5
        rw [← hs5] at q5
        have hge : (Vw.tells x.sure t0 (ds.take (j + 1)))[p]'(by rw [hlen5]; omega) = ds[j] := by
          have := tells_at hts hjd (by have := Hbn.out.2.2.out; exact this)
          rw [← hp] at this
          rw [List.getElem?_eq_getElem (by rw [hlen5]; omega)] at this
          injection this
        have q5e := hcs5 0 _ rfl
        change w5.cell? ⟨sb, so + p * EBytes.sz + 0, none⟩ = some (.slice a2 ((Vw.tells x.sure t0 (ds.take (j + 1)))[p]'(by rw [hlen5]; omega)).length c2) at q5e
        rw [show EBytes.sz = 1 from rfl, Nat.mul_one, Nat.add_zero] at q5e
        simp only [hge] at q5e hb1 hb3
        rw [← Hbn.out.1] at q5e
        have HSame : RowKit.Hid (∀ W : World, W.heap = w5.heap → Calls Try.prog 58 #[.slice a2 bn c2, .slice ba bn bc] W fun e w' => e = .returned (.bool true) ∧ W = w') := Lib.hid fun W hW => by
          refine (ref_Same a2 ba bn bn c2 bc ds[j] ds[j] W ⟨Hbn.out.1, (hb3.any (by decide)).heap (by decide) hW⟩ ⟨Hbn.out.1, (Hbs5.out.any (by decide)).heap (by decide) hW⟩).mono ?_
          rintro e w' ⟨rfl, h⟩
          exact ⟨by simp, h⟩
        clear hsv5 hsb5 hcs5 hs51 hs52 hb1 hb2 hb3 hge hs5 hp hlen5
        go_wp2_with fail
        refine (HSame.out _ rfl).mono ?_
        rintro e w6 ⟨rfl, rfl⟩
        clear q5 q5e HSame
        go_wp2_with fail
        go_roundg (dn - (j + 1))
        case measure => rw [hgn.out]; omega
        case rel => exact ⟨j + 1, C5, L5, Lib.hid rfl, by omega, by go_num, M5, K5⟩
      · have hne : p < sn := by omega
        have heqi : ¬ (p : Int) = (sn : Int) := by omega
        have heqb : ((p : Int) == (sn : Int)) = false := by simp; omega
        obtain ⟨w5, hw5⟩ : ∃ w5, w5 = w1 := ⟨_, rfl⟩
        obtain ⟨C5, hC5⟩ : ∃ C5, C5 = C' := ⟨_, rfl⟩
        obtain ⟨L5, hL5⟩ : ∃ L5, L5 = L' := ⟨_, rfl⟩
        have M5 : RowKit.Hid (GrM C5 w5 gg { x with told := x.told.set i ((t0 + (j + 1) : Nat) : Int), sure := Vw.tells x.sure t0 (ds.take (j + 1)) } L5) := Lib.hid (by rw [hC5, hw5, hL5, Hlen.out.2.1.2.1 (by have := Hp.out; have := Hlen.out.1; omega)]; exact M1.out)
        have K5 : RowKit.Hid (KpA C w C5 w5) := by rw [hC5, hw5]; exact K1
        have Hbs5 : RowKit.Hid (Sl EU8 (Im C5) w5 ba ds[j]) := by rw [hC5, hw5]; exact Hbs
        clear hp
        go_upto_region 23 with fail
        rw [← hw5]
        clear hw5 hC5 hL5 y5
        have hp := Hp.out
        have hlen5 := Hlen.out.2.2
        obtain ⟨sb, so, sc5, cs5, hsv5, hsb5, hrep, hcs5, -, hs51, hs52⟩ := M5.out.p.sures.at (k := p) (by rw [hlen5]; omega)
        obtain ⟨a2, c2, rfl, hb1, hb2, hb3⟩ := hrep
        obtain ⟨s5, hs5⟩ : ∃ s5, s5 = (Vw.tells x.sure t0 (ds.take (j + 1))).length := ⟨_, rfl⟩
        have hps5 : p < s5 := by rw [hs5, hlen5]; omega
        have q5 := M5.out.c5
        rw [hsv5] at q5
        change w5.cell? ⟨gg, 5, none⟩ = some (.slice (some ⟨sb, so, none⟩) (Vw.tells x.sure t0 (ds.take (j + 1))).length sc5) at q5
        rw [← hs5] at q5
        have hge : (Vw.tells x.sure t0 (ds.take (j + 1)))[p]'(by rw [hlen5]; omega) = ds[j] := by
          have := tells_at hts hjd (by have := Hbn.out.2.2.out; exact this)
          rw [← hp] at this
          rw [List.getElem?_eq_getElem (by rw [hlen5]; omega)] at this
          injection this
        have q5e := hcs5 0 _ rfl
        change w5.cell? ⟨sb, so + p * EBytes.sz + 0, none⟩ = some (.slice a2 ((Vw.tells x.sure t0 (ds.take (j + 1)))[p]'(by rw [hlen5]; omega)).length c2) at q5e
        rw [show EBytes.sz = 1 from rfl, Nat.mul_one, Nat.add_zero] at q5e
        simp only [hge] at q5e hb1 hb3
        rw [← Hbn.out.1] at q5e
        have HSame : RowKit.Hid (∀ W : World, W.heap = w5.heap → Calls Try.prog 58 #[.slice a2 bn c2, .slice ba bn bc] W fun e w' => e = .returned (.bool true) ∧ W = w') := Lib.hid fun W hW => by
          refine (ref_Same a2 ba bn bn c2 bc ds[j] ds[j] W ⟨Hbn.out.1, (hb3.any (by decide)).heap (by decide) hW⟩ ⟨Hbn.out.1, (Hbs5.out.any (by decide)).heap (by decide) hW⟩).mono ?_
          rintro e w' ⟨rfl, h⟩
          exact ⟨by simp, h⟩
        clear hsv5 hsb5 hcs5 hs51 hs52 hb1 hb2 hb3 hge hs5 hp hlen5
        go_wp2_with fail
        refine (HSame.out _ rfl).mono ?_
        rintro e w6 ⟨rfl, rfl⟩
        clear q5 q5e HSame
        go_wp2_with fail
        go_roundg (dn - (j + 1))
        case measure => rw [hgn.out]; omega
        case rel => exact ⟨j + 1, C5, L5, Lib.hid rfl, by omega, by go_num, M5, K5⟩
    · have hlti : ¬ (j : Int) < (dn : Int) := by omega
      have hltd : decide ((j : Int) < (dn : Int)) = false := by simp; omega
      have hjn : j = dn := by omega
      subst hjn
      have HMe := Hend.out _ _ _ hM.out
      have HKe : RowKit.Hid (KpA C0 w0 C' wr) := Lib.hid (HK.out.trans hK.out)
      clear hM hK
      go_wp2_with fail
      exact vw_do5 C0 w0 gg i q cut { x with told := x.told.set i (c.commit : Int), sure := Vw.tells x.sure t0 ds } C' L' wr HMe HKe c HC5 _ _ _ _ _ _ _ _ _ _ _ _ _ _ _ _ _ _ _ _ _ _ _ _ _ _ _ _ _ _ _ _ _ _ _ _ _ _ _ _ _ _ _ _ _ _ _ _ _ _ _ _ _ _ _ _ _ _ _ _ _ _ _ _ _ _ _ _ _ _ _ _ _ _ _ _ _ _ _ _ _ _ _ _ _ _ _ _ _ _ _ _ _ _ _ _ _ _ _ _ _ _ _ _ _ _ _ _ _ _ _ _ _ _ _ _ _ _ _ _ _ _ _ _ _ _ _ _ _ _ _ _ _ _ _ _ _ _ _ _ _ _ _ _ _ _ _ _ _ _ _ _ _ _ _ _ _ _ _ _ _ _ _ _ _ _ _ _ _ _ _ _ _ _ _ _ _ _ _ _ _ _ _ _ _ _ _ _ _ _ _ _ _ _ _ _ _ _ _ _ _ _ _ _ _ _ _ _ _ _ _ _ _ _ _ _ _ _ _ _ _ _ _ _ _ _ _ _ _ _ _ _ _ _ _ _ _ _ _ _ _ _ _ _
end Go.Proofs.Ytmmgnbdngpkfcaa

/-
  What is to be done by a group's member: the codes, the end.
  What is to be done by a group's member: what it keeps is what lasts.
  A group of members in memory: an entry of a list is written anew, a list grows.
-/
import Derived.Test.YtmmgnbdngpkfcaaVwGo
import Derived.Test.YtmmgnbdngpkfcaaVwCc
import Derived.Test.YtmmgnbdngpkfcaaVwY
import Derived.Test.YtmmgnbdngpkfcaaVwPe
namespace Go.Proofs.Ytmmgnbdngpkfcaa
open Go.RowKit
set_option linter.unusedVariables false
set_option linter.unusedSimpArgs false

noncomputable def doBody : Code := Try.f66.body.getD .skip
noncomputable def doP1 : Code := codeTl doBody
noncomputable def doP2 : Code := codeTl doP1
noncomputable def doP3 : Code := codeTl doP2
noncomputable def doP4 : Code := codeTl doP3
noncomputable def doP5 : Code := codeTl doP4
noncomputable def doP6 : Code := codeTl doP5
noncomputable def doA0 : Code := codeHd doBody
noncomputable def doA1 : Code := codeHd doP1
noncomputable def doA2 : Code := codeHd doP2
noncomputable def doA3 : Code := codeHd doP3
noncomputable def doA4 : Code := codeHd doP4
noncomputable def doA5 : Code := codeHd doP5
theorem doBody_is : Try.f66.body = some doBody := by kernel_rfl
theorem doBody_eq : doBody = .seq doA0 doP1 := by kernel_rfl
theorem doP1_eq : doP1 = .seq doA1 doP2 := by kernel_rfl
theorem doP2_eq : doP2 = .seq doA2 doP3 := by kernel_rfl
theorem doP3_eq : doP3 = .seq doA3 doP4 := by kernel_rfl
theorem doP4_eq : doP4 = .seq doA4 doP5 := by kernel_rfl
theorem doP5_eq : doP5 = .seq doA5 doP6 := by kernel_rfl
/-- 'mail[k:]' -/
theorem slice_mail_from {a : Option Addr} {n c : Nat} (k : Nat) (hk : k ≤ n) (hc : n ≤ c) (W : World) :
    (Instr.slice 83 (.slice a n c) (some (.int .i64 k)) none none).run Try.prog W = .ok (.slice (if c = k then a else a.map (·.add (k * 12))) (n - k) (c - k)) W := by
  obtain ⟨i0, z, hi0, hz, hsz, hby, hzc⟩ := ti_mails.info
  have e5 : i0.size = 12 := hsz
  simp [Instr.slice, run_underlying ti_mails.under, Instr.sliceBounds, run_sliceBound, sizeOf, typeInfo, hi0, e5, hk]
/-- what is left of the messages under way -/
def trim (l : List Vw.Msg) : List Vw.Msg := if 200 < l.length then l.drop 60 else l
set_option maxRecDepth 1000000 in
set_option maxHeartbeats 0 in
theorem vw_do6 (C0 : Col) (w0 : World) (gg i q : Nat) (cut : Int) (x : Gx) (C : Col) (L : GrL) (w : World) (HG : RowKit.Hid (GrM C w gg x L)) (HK : RowKit.Hid (KpA C0 w0 C w)) (u2 u4 u5 u7 u8 u9 aA aB aC aD aE aF aG aH aI aJ aK aL aM aN aO aP aQ aR aS aT aU aV aW aX aY aZ bA bB bC bD bE bF bG bH bI bJ bK bL bM bN bO bP bQ bR bS bT bU bV bW bX bY bZ cA cB cC cD cE cF cG cH cI cJ cK cL cM cN cO cP cQ cR cS cT cU cV cW cX cY cZ dA dB dC dD dE dF dG dH dI dJ dK dL dM dN dO dP dQ dR dS dT dU dV dW dX dY dZ eA eB eC eD eE eF eG eH eI eJ eK eL eM eN eO eP eQ eR eS eT eU eV eW eX eY eZ fA fB fC fD fE fF fG fH fI fJ fK fL fM fN fO fP fQ fR fS fT fU fV fW fX fY fZ gA gB gC gD gE gF gG gH gI gJ gK gL gM gN gO gP gQ gR gS gT gU gV gW gX gY gZ hA hB hC hD hE hF hG hH hI hJ hK hL hM hN hO hP hQ hT hU hV hX hY hZ iA iB iC iD iE iF iG iH iI iJ iK iL iM iN iO iP iQ iR iS iT iU iV iW iX iY iZ jA jB jC jD jE jF jG : Value) :
    Code.wp Try.prog doP6 (bodyPost Try.prog Try.f66 fun e w' => e = .returned (.tuple #[]) ∧ GrTo C0 w0 w' gg ({ x with mail := trim x.mail })) ⟨#[.pointer (some ⟨gg, 0, none⟩), .int .i64 i, u2, .int .i64 cut, u4, u5, .pointer (some ⟨q, 0, none⟩), u7, u8, u9, aA, aB, aC, aD, aE, aF, aG, aH, aI, aJ, aK, aL, aM, aN, aO, aP, aQ, aR, aS, aT, aU, aV, aW, aX, aY, aZ, bA, bB, bC, bD, bE, bF, bG, bH, bI, bJ, bK, bL, bM, bN, bO, bP, bQ, bR, bS, bT, bU, bV, bW, bX, bY, bZ, cA, cB, cC, cD, cE, cF, cG, cH, cI, cJ, cK, cL, cM, cN, cO, cP, cQ, cR, cS, cT, cU, cV, cW, cX, cY, cZ, dA, dB, dC, dD, dE, dF, dG, dH, dI, dJ, dK, dL, dM, dN, dO, dP, dQ, dR, dS, dT, dU, dV, dW, dX, dY, dZ, eA, eB, eC, eD, eE, eF, eG, eH, eI, eJ, eK, eL, eM, eN, eO, eP, eQ, eR, eS, eT, eU, eV, eW, eX, eY, eZ, fA, fB, fC, fD, fE, fF, fG, fH, fI, fJ, fK, fL, fM, fN, fO, fP, fQ, fR, fS, fT, fU, fV, fW, fX, fY, fZ, gA, gB, gC, gD, gE, gF, gG, gH, gI, gJ, gK, gL, gM, gN, gO, gP, gQ, gR, gS, gT, gU, gV, gW, gX, gY, gZ, hA, hB, hC, hD, hE, hF, hG, hH, hI, hJ, hK, hL, hM, hN, hO, hP, hQ, hT, hU, hV, hX, hY, hZ, iA, iB, iC, iD, iE, iF, iG, iH, iI, iJ, iK, iL, iM, iN, iO, iP, iQ, iR, iS, iT, iU, iV, iW, iX, iY, iZ, jA, jB, jC, jD, jE, jF, jG], []⟩ w := by
  obtain ⟨ma, mc, hmv, hm1, hm2⟩ := HG.out.p.mails.shape
  obtain ⟨mn, hmn⟩ : ∃ mn, mn = x.mail.length := ⟨_, rfl⟩
  have y4 := HG.out.c4
  rw [hmv, ← hmn] at y4
  have yf := HG.out.fz 4
  by_cases hlt : 200 < mn
  · have hltd : decide ((200 : Int) < (mn : Int)) = true := by simp; omega
    have hli : (200 : Int) < (mn : Int) := by omega
    obtain ⟨mb, mo, mc', mcs, hmv', hmb, -, -, -, -, -⟩ := HG.out.p.mails.at (k := 0) (by omega)
    rw [hmv] at hmv'
    injection hmv' with ea eb ec
    subst ea
    subst ec
    clear eb
    have hS := slice_mail_from (a := some ⟨mb, mo, none⟩) (n := mn) (c := mc) 60 (by omega) (by omega)
    rw [if_neg (by omega), Option.map_some, Addr.add_lit, show 60 * 12 = 720 from rfl] at hS
    have HFin : RowKit.Hid (GrTo C0 w0 (w.setCell ⟨gg, 4, none⟩ (.slice (some ⟨mb, mo + 720, none⟩) (mn - 60) (mc - 60))) gg { x with mail := trim x.mail }) := Lib.hid (by
      obtain ⟨a', hq, ha'⟩ := (by rw [hmn, ← hmv]; exact HG.out.p.mails : OwnQ C 4 EMsg 89 w (.slice (some ⟨mb, mo, none⟩) mn mc) x.mail).cut 60 (by omega) (by omega)
      rw [Option.map_some, Addr.add_lit, show EMsg.sz = 12 from rfl, show 60 * 12 = 720 from rfl] at ha'
      subst ha'
      have hp := HG.out.p.turn4 (Kp.refl _ HG.out.p.dom) hq
      have ho : Only (· = gg) w (w.setCell ⟨gg, 4, none⟩ (.slice (some ⟨mb, mo + 720, none⟩) (mn - 60) (mc - 60))) := setg (S := (· = gg)) (Only.refl _ _) rfl 4 _
      obtain ⟨g1, t1⟩ := GrM.put (x' := { x with mail := x.mail.drop 60 }) (L' := { L with mv := .slice (some ⟨mb, mo + 720, none⟩) (mn - 60) (mc - 60) }) HG.out.row HG.out.gc HG.out.nn HG.out.pp hp ho (by rw [heap_set HG.out.row 4 _]; rfl)
      have e : trim x.mail = x.mail.drop 60 := if_pos (by omega)
      rw [e]
      exact GrTo.trans (HK.out.trans t1) (GrTo.of g1))
    clear hmb
    have hm60 : ¬ mc = 60 := by omega
    have hm60' : ¬ mc - 60 = 0 := by omega
    have hmnc : mn ≤ mc := by omega
    clear hmv hmn hm1 hm2 hlt
    conv => arg 2; whnf
    go_wp2_with fail
    refine bodyPost_end (v := .tuple #[]) (by simp [results, Try.results66, go_sem]) rfl ?_
    exact ⟨rfl, HFin.out⟩
  · have hltd : decide ((200 : Int) < (mn : Int)) = false := by simp; omega
    have hli : ¬ (200 : Int) < (mn : Int) := by omega
    have HFin : RowKit.Hid (GrTo C0 w0 w gg { x with mail := trim x.mail }) := Lib.hid (by
      have e : trim x.mail = x.mail := if_neg (by omega)
      rw [e]
      exact GrTo.trans HK.out (GrTo.of HG.out))
    clear hmv hmn hm1 hm2 hlt
    conv => arg 2; whnf
    go_wp2_with fail
    refine bodyPost_end (v := .tuple #[]) (by simp [results, Try.results66, go_sem]) rfl ?_
    exact ⟨rfl, HFin.out⟩
end Go.Proofs.Ytmmgnbdngpkfcaa

namespace Go.Proofs.Ytmmgnbdngpkfcaa
open Go.RowKit
set_option linter.unusedVariables false
set_option linter.unusedSimpArgs false

set_option maxRecDepth 1000000 in
set_option maxHeartbeats 0 in
theorem vw_do5 (C0 : Col) (w0 : World) (gg i q : Nat) (cut : Int) (x : Gx) (C : Col) (L : GrL) (w : World) (HG : RowKit.Hid (GrM C w gg x L)) (HK : RowKit.Hid (KpA C0 w0 C w)) (c : Vw.Core)
    (HC : RowKit.Hid (i < x.n ∧ x.core ((i : Int) + 1) = c ∧ x.ks[i]? = some c.keep ∧ x.told[i]? = some (c.commit : Int) ∧ c.commit ≤ c.keep.log.length)) (u2 u4 u5 u7 u8 u9 aA aB aC aD aE aF aG aH aI aJ aK aL aM aN aO aP aQ aR aS aT aU aV aW aX aY aZ bA bB bC bD bE bF bG bH bI bJ bK bL bM bN bO bP bQ bR bS bT bU bV bW bX bY bZ cA cB cC cD cE cF cG cH cI cJ cK cL cM cN cO cP cQ cR cS cT cU cV cW cX cY cZ dA dB dC dD dE dF dG dH dI dJ dK dL dM dN dO dP dQ dR dS dT dU dV dW dX dY dZ eA eB eC eD eE eF eG eH eI eJ eK eL eM eN eO eP eQ eR eS eT eU eV eW eX eY eZ fA fB fC fD fE fF fG fH fI fJ fK fL fM fN fO fP fQ fR fS fT fU fV fW fX fY fZ gA gB gC gD gE gF gG gH gI gJ gK gL gM gN gO gP gQ gR gS gT gU gV gW gX gY gZ hA hB hC hD hE hF hG hH hI hJ hK hL hM hN hO hP hQ hT hU hV hX hY hZ iA iB iC iD iE iF iG iH iI iJ iK iL iM iN iO iP iQ iR iS iT iU iV iW iX iY iZ jA jB jC jD jE jF jG : Value) :
    Code.wp Try.prog doP5 (bodyPost Try.prog Try.f66 fun e w' => e = .returned (.tuple #[]) ∧ GrTo C0 w0 w' gg ({ x with mail := trim x.mail })) ⟨#[.pointer (some ⟨gg, 0, none⟩), .int .i64 i, u2, .int .i64 cut, u4, u5, .pointer (some ⟨q, 0, none⟩), u7, u8, u9, aA, aB, aC, aD, aE, aF, aG, aH, aI, aJ, aK, aL, aM, aN, aO, aP, aQ, aR, aS, aT, aU, aV, aW, aX, aY, aZ, bA, bB, bC, bD, bE, bF, bG, bH, bI, bJ, bK, bL, bM, bN, bO, bP, bQ, bR, bS, bT, bU, bV, bW, bX, bY, bZ, cA, cB, cC, cD, cE, cF, cG, cH, cI, cJ, cK, cL, cM, cN, cO, cP, cQ, cR, cS, cT, cU, cV, cW, cX, cY, cZ, dA, dB, dC, dD, dE, dF, dG, dH, dI, dJ, dK, dL, dM, dN, dO, dP, dQ, dR, dS, dT, dU, dV, dW, dX, dY, dZ, eA, eB, eC, eD, eE, eF, eG, eH, eI, eJ, eK, eL, eM, eN, eO, eP, eQ, eR, eS, eT, eU, eV, eW, eX, eY, eZ, fA, fB, fC, fD, fE, fF, fG, fH, fI, fJ, fK, fL, fM, fN, fO, fP, fQ, fR, fS, fT, fU, fV, fW, fX, fY, fZ, gA, gB, gC, gD, gE, gF, gG, gH, gI, gJ, gK, gL, gM, gN, gO, gP, gQ, gR, gS, gT, gU, gV, gW, gX, gY, gZ, hA, hB, hC, hD, hE, hF, hG, hH, hI, hJ, hK, hL, hM, hN, hO, hP, hQ, hT, hU, hV, hX, hY, hZ, iA, iB, iC, iD, iE, iF, iG, iH, iI, iJ, iK, iL, iM, iN, iO, iP, iQ, iR, iS, iT, iU, iV, iW, iX, iY, iZ, jA, jB, jC, jD, jE, jF, jG], []⟩ w := by
  obtain ⟨hi, hcc, hks, htd, hcl⟩ := HC.out
  obtain ⟨kb, ko, kc, la, lc, k', hk', hkvE, hkb, hk3, hk4, u0, u1, u2, hlc, hsl, hkf⟩ := HG.out.keepAt hi
  obtain rfl : c.keep = k' := by rw [hks] at hk'; injection hk'
  obtain ⟨cb, co, cc, g0, hg0, hcvE, hcb, hc3, hc4, v0, hvat, hcf⟩ := HG.out.coreAt hi
  obtain ⟨tb, tt, tc, t0, ht0, htvE, htb, ht3, ht4, x0, htf⟩ := HG.out.toldAt hi
  obtain rfl : (c.commit : Int) = t0 := by rw [htd] at ht0; injection ht0
  rw [hcc] at hvat
  obtain ⟨n, hn⟩ : ∃ n, n = x.n := ⟨_, rfl⟩
  obtain ⟨kn, hkn⟩ : ∃ kn, kn = c.keep.log.length := ⟨_, rfl⟩
  have y2 := HG.out.c2
  have y3 := HG.out.c3
  have y6 := HG.out.c6
  rw [hkvE] at y2
  rw [hcvE] at y3
  rw [htvE] at y6
  rw [← hn] at y2 y3 y6
  rw [← hkn] at u2
  have hR := hvat.right
  have hkl : kn ≤ 2000 := by rw [hkn]; exact hR.log.1
  have HKp : RowKit.Hid (∀ W : World, W.heap = w.heap → Calls Try.prog 62 #[.pointer (some ⟨g0, 0, none⟩)] W fun e w' => ∃ a' c', e = .returned (.agg #[.int .i64 c.keep.view, .int .i64 c.keep.normal, .slice a' kn c']) ∧ ((kn ≤ c' ∧ c' ≤ maxLen) ∧ Sl EBytes (fun _ => True) w' a' c.keep.log) ∧ Below w.heap.size W w') := Lib.hid fun W hW => by
    have hv : VwAt (pj (i + 1) C) W g0 c := hvat.keep (fun k hk _ => ⟨by rw [hW], rfl⟩) fun k hk => by rw [hW]; exact hvat.dom k hk
    refine (vw_Keeps W hv).mono ?_
    rintro e w' ⟨a', c', e1, e2, e3⟩
    rw [← hkn] at e1 e2
    rw [show W.heap.size = w.heap.size by rw [hW]] at e3
    exact ⟨a', c', e1, e2, e3⟩
  have HSm : RowKit.Hid (∀ (W : World) (a' : Option Addr) (c' : Nat), Below w.heap.size w W → (kn ≤ c' ∧ c' ≤ maxLen) → Sl EBytes (fun _ => True) W a' c.keep.log → Calls Try.prog 55 #[.agg #[.int .i64 c.keep.view, .int .i64 c.keep.normal, .slice a' kn c'], .agg #[.int .i64 c.keep.view, .int .i64 c.keep.normal, .slice la kn lc]] W fun e w' => e = .returned (.bool true) ∧ Below W.heap.size W w') := Lib.hid fun W a' c' hb hc' hs' =>
    law20_same _ _ c.keep.log a' kn c' la lc W hs' ((hsl.below (by decide) hb).any (by decide)) hkn hc'.1 (by rw [hkn]; exact hlc.1) (by omega)
  have HCm : RowKit.Hid (∀ W : World, Below w.heap.size w W → Calls Try.prog 59 #[.pointer (some ⟨g0, 0, none⟩)] W fun e w' => e = .returned (.int .i64 c.commit) ∧ W = w') := Lib.hid fun W hb => vw_Commit W (hvat.below hb)
  have HNx : RowKit.Hid (∀ W : World, Below w.heap.size w W → GrM C W gg x L ∧ KpA C0 w0 C W) := Lib.hid fun W hb => ⟨HG.out.below hb, HK.out.trans (KpA.below HG.out hb)⟩
  have hcmp : ((c.commit : Int) != (c.commit : Int)) = false := by simp
  have hgt : decide (kn < c.commit) = false := by simp; omega
  have hile : i < n := by omega
  have hin : n ≤ 5 := by rw [hn]; exact HG.out.nn.2
  clear hi hcc hks htd hcl hk' hkvE hkb hk3 hk4 hlc hsl hkf hg0 hcvE hcb hc3 hc4 hvat hcf ht0 htvE htb ht3 ht4 htf hn hkn hR
  rw [doP5_eq]
  refine wp_seq ?_
  conv => arg 2; whnf
  simp only [List.append_eq, List.cons_append, List.nil_append]
  go_wp2_with fail
  go_region_held3 (fun W => W.cell? ⟨gg, 2, none⟩ = some (.slice (some ⟨kb, ko, none⟩) n kc) ∧ W.cell? ⟨gg, 3, none⟩ = some (.slice (some ⟨cb, co, none⟩) n cc) ∧ W.cell? ⟨gg, 6, none⟩ = some (.slice (some ⟨tb, tt, none⟩) n tc) ∧ W.cell? ⟨kb, ko + i * 3, none⟩ = some (.int .i64 c.keep.view) ∧ W.cell? ⟨kb, ko + i * 3 + 1, none⟩ = some (.int .i64 c.keep.normal) ∧ W.cell? ⟨kb, ko + i * 3 + 2, none⟩ = some (.slice la kn lc) ∧ W.cell? ⟨cb, co + i, none⟩ = some (.pointer (some ⟨g0, 0, none⟩)) ∧ W.cell? ⟨tb, tt + i, none⟩ = some (.int .i64 c.commit))
    (first | exact ⟨y2, y3, y6, u0, u1, u2, v0, x0⟩ | exact ⟨a2, a3, a6, b0, b1, b2, d0, d1⟩ | exact ⟨e2, e3, e6, h0, h1, h2, f0, f1⟩ | go_keep)
    ((first
      | (go_at_call 62; refine (HKp.out w.drew rfl).mono ?_; rintro e w5 ⟨a', c', rfl, ⟨hc5, hs5⟩, hb5⟩; have hB5 : RowKit.Hid (Below w.heap.size w w5) := Lib.hid ((Below.refl _ _).drew.trans hb5); have a2 := cell_thru y2 hB5.out; have a3 := cell_thru y3 hB5.out; have a6 := cell_thru y6 hB5.out; have b0 := cell_thru u0 hB5.out; have b1 := cell_thru u1 hB5.out; have b2 := cell_thru u2 hB5.out; have d0 := cell_thru v0 hB5.out; have d1 := cell_thru x0 hB5.out; have Hc5 := Lib.hid hc5; have Hs5 := Lib.hid hs5; clear hb5 hc5 hs5)
      | (go_at_call 55; refine (HSm.out w5 a' c' hB5.out Hc5.out Hs5.out).mono ?_; rintro e w6 ⟨rfl, hb6⟩; have hB6 : RowKit.Hid (Below w.heap.size w w6) := Lib.hid (hB5.out.trans (hb6.mono hB5.out.size)); have e2 := cell_thru y2 hB6.out; have e3 := cell_thru y3 hB6.out; have e6 := cell_thru y6 hB6.out; have h0 := cell_thru u0 hB6.out; have h1 := cell_thru u1 hB6.out; have h2 := cell_thru u2 hB6.out; have f0 := cell_thru v0 hB6.out; have f1 := cell_thru x0 hB6.out; clear hb6)
      | (go_at_call 59; refine (HCm.out w6 hB6.out).mono ?_; rintro e w7 ⟨rfl, rfl⟩)))
  go_wp2_with fail
  exact vw_do6 C0 w0 gg i q cut x C L w6 (Lib.hid (HNx.out w6 hB6.out).1) (Lib.hid (HNx.out w6 hB6.out).2) _ _ _ _ _ _ _ _ _ _ _ _ _ _ _ _ _ _ _ _ _ _ _ _ _ _ _ _ _ _ _ _ _ _ _ _ _ _ _ _ _ _ _ _ _ _ _ _ _ _ _ _ _ _ _ _ _ _ _ _ _ _ _ _ _ _ _ _ _ _ _ _ _ _ _ _ _ _ _ _ _ _ _ _ _ _ _ _ _ _ _ _ _ _ _ _ _ _ _ _ _ _ _ _ _ _ _ _ _ _ _ _ _ _ _ _ _ _ _ _ _ _ _ _ _ _ _ _ _ _ _ _ _ _ _ _ _ _ _ _ _ _ _ _ _ _ _ _ _ _ _ _ _ _ _ _ _ _ _ _ _ _ _ _ _ _ _ _ _ _ _ _ _ _ _ _ _ _ _ _ _ _ _ _ _ _ _ _ _ _ _ _ _ _ _ _ _ _ _ _ _ _ _ _ _ _ _ _ _ _ _ _ _ _ _ _ _ _ _ _ _ _ _ _ _ _ _ _ _ _ _ _ _ _ _ _ _ _ _ _ _ _ _ _
end Go.Proofs.Ytmmgnbdngpkfcaa

namespace Go.Proofs.Ytmmgnbdngpkfcaa
open Go.RowKit
set_option linter.unusedVariables false

section
variable {C C' : Col} {w w' : World} {gg : Nat} {x : Gx} {L : GrL}
theorem GrM.setTold (h : GrM C w gg x L) {i tb tt tc : Nat} (hi : i < x.n) (htv : L.tv = .slice (some ⟨tb, tt, none⟩) x.n tc) (hb : C tb = 6) (t : Int) (ht : -9223372036854775808 ≤ t ∧ t ≤ 9223372036854775807) :
    GrM C (w.setCell ⟨tb, tt + i, none⟩ (.int .i64 t)) gg { x with told := x.told.set i t } L ∧ KpA C w C (w.setCell ⟨tb, tt + i, none⟩ (.int .i64 t)) := by
  obtain ⟨s1, s2, s3⟩ := h.p.tolds.set (by decide) (k := i) (x := t) (cs := [.int .i64 t]) (by rw [h.p.tl]; exact hi) ⟨rfl, ht.1, ht.2⟩ htv
  rw [show EInt.sz = 1 from rfl, Nat.mul_one] at s1 s2
  have t3 : Kp (· = 6) C w C _ := Kp.of_only h.p.dom s2 fun k hk => by rw [hk]; exact hb
  exact ⟨h.kp t3 (by decide) (h.p.turn6 t3 s1 (by rw [List.length_set]; exact h.p.tl)) rfl rfl rfl, t3.any (by decide)⟩
theorem GrM.setKeep (h : GrM C w gg x L) {i kb ko kc : Nat} (hi : i < x.n) (hkv : L.kv = .slice (some ⟨kb, ko, none⟩) x.n kc) (hb : C kb = 2) (k : Vw.Keep) {la : Option Addr} {lc : Nat} (hl : k.log.length ≤ lc ∧ lc ≤ maxLen) (hs : Sl EBytes (Im C) w la k.log) :
    GrM C (((w.setCell ⟨kb, ko + i * 3, none⟩ (.int .i64 k.view)).setCell ⟨kb, ko + i * 3 + 1, none⟩ (.int .i64 k.normal)).setCell ⟨kb, ko + i * 3 + 2, none⟩ (.slice la k.log.length lc)) gg { x with ks := x.ks.set i k } L ∧
      KpA C w C (((w.setCell ⟨kb, ko + i * 3, none⟩ (.int .i64 k.view)).setCell ⟨kb, ko + i * 3 + 1, none⟩ (.int .i64 k.normal)).setCell ⟨kb, ko + i * 3 + 2, none⟩ (.slice la k.log.length lc)) := by
  obtain ⟨s1, s2, s3⟩ := h.p.keeps.set (by decide) (k := i) (x := k) (cs := [.int .i64 k.view, .int .i64 k.normal, .slice la k.log.length lc]) (by rw [h.p.kl]; exact hi) ⟨la, lc, rfl, hl, hs⟩ hkv
  rw [show EKeepI.sz = 3 from rfl] at s1 s2
  have t3 : Kp (· = 2) C w C _ := Kp.of_only h.p.dom s2 fun k hk => by rw [hk]; exact hb
  exact ⟨h.kp t3 (by decide) (h.p.turn2 t3 s1 (by rw [List.length_set]; exact h.p.kl)) rfl rfl rfl, t3.any (by decide)⟩
theorem GrM.setSure (h : GrM C w gg x L) {v : Value} {ds : List Vw.Bs} (ho : OwnQ C' 5 EBytes 49 w' v ds) (t : Kp (· = 5) C w C' w') :
    GrM C' (w'.setCell ⟨gg, 5, none⟩ v) gg { x with sure := ds } { L with sv := v } ∧ KpA C w C' (w'.setCell ⟨gg, 5, none⟩ v) := by
  obtain ⟨e1, e2⟩ := t.blk h.lt (by rw [h.gc]; decide)
  have hr := e1.trans h.row
  obtain ⟨g1, t1⟩ := GrM.put (x' := { x with sure := ds }) (L' := { L with sv := v }) hr (e2.trans h.gc) h.nn h.pp (h.p.turn5 t ho) (setg (S := (· = gg)) (Only.refl _ _) rfl 5 v) (by rw [heap_set hr 5 _]; rfl)
  exact ⟨g1, (t.any (by decide)).trans t1⟩
theorem GrM.setMail (h : GrM C w gg x L) {v : Value} {ms : List Vw.Msg} (ho : OwnQ C' 4 EMsg 89 w' v ms) (t : Kp (· = 4) C w C' w') :
    GrM C' (w'.setCell ⟨gg, 4, none⟩ v) gg { x with mail := ms } { L with mv := v } ∧ KpA C w C' (w'.setCell ⟨gg, 4, none⟩ v) := by
  obtain ⟨e1, e2⟩ := t.blk h.lt (by rw [h.gc]; decide)
  have hr := e1.trans h.row
  obtain ⟨g1, t1⟩ := GrM.put (x' := { x with mail := ms }) (L' := { L with mv := v }) hr (e2.trans h.gc) h.nn h.pp (h.p.turn4 t ho) (setg (S := (· = gg)) (Only.refl _ _) rfl 4 v) (by rw [heap_set hr 4 _]; rfl)
  exact ⟨g1, (t.any (by decide)).trans t1⟩
/-- the row is as it was, while a list grows -/
theorem GrM.rowKp {S : Nat → Prop} (h : GrM C w gg x L) (t : Kp S C w C' w') (h1 : ¬ S 1) : (∀ k v, (grRow x L)[k]? = some v → w'.cell? ⟨gg, k, none⟩ = some v) ∧ ∀ k, w'.frozen? ⟨gg, k, none⟩ = false := by
  have hr := (t.blk h.lt (by rw [h.gc]; exact h1)).1.trans h.row
  exact ⟨fun k v hv => by simp [World.cell?, hr, hv], fun k => by simp [World.frozen?, hr]⟩
end
/-- what is told as done: one more -/
theorem tells_succ {sure ds : List Vw.Bs} {t j : Nat} (ht : t ≤ sure.length) (hj : j < ds.length) : (Vw.tells sure t (ds.take j)).length = max sure.length (t + j) ∧
    (t + j < sure.length → Vw.tells sure t (ds.take (j + 1)) = Vw.tells sure t (ds.take j)) ∧ (sure.length ≤ t + j → Vw.tells sure t (ds.take (j + 1)) = Vw.tells sure t (ds.take j) ++ [ds[j]]) := by
  unfold Vw.tells
  refine ⟨by simp; omega, fun h => ?_, fun h => ?_⟩
  · rw [List.drop_eq_nil_of_le (by rw [List.length_take]; omega), List.drop_eq_nil_of_le (by rw [List.length_take]; omega)]
  · rw [List.take_succ_eq_append_getElem hj, List.drop_append_of_le_length (by rw [List.length_take]; omega), List.append_assoc]
theorem tells_at {sure ds : List Vw.Bs} {t j : Nat} (ht : t ≤ sure.length) (hj : j < ds.length) (h : (Vw.tells sure t ds)[t + j]? = some ds[j]) : (Vw.tells sure t (ds.take (j + 1)))[t + j]? = some ds[j] := by
  obtain ⟨h1, h2, h3⟩ := tells_succ ht hj
  rcases Nat.lt_or_ge (t + j) sure.length with e | e
  · rw [h2 e]
    unfold Vw.tells at h ⊢
    rw [List.getElem?_append_left e] at h ⊢
    exact h
  · rw [h3 e, List.getElem?_append_right (by omega), h1, show t + j - max sure.length (t + j) = 0 by omega]; rfl
end Go.Proofs.Ytmmgnbdngpkfcaa

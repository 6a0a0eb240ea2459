/-
  The law ViewGoes, walked: the calm.
-/
import Derived.Test.YtmmgnbdngpkfcaaVwLj
namespace Go.Proofs.Ytmmgnbdngpkfcaa
open Go.RowKit
set_option linter.unusedVariables false
set_option linter.unusedSimpArgs false

noncomputable def goBody : Code := Try.f14.body.getD .skip
noncomputable def goT : Code := codeTl (codeTl (codeTl (codeTl goBody)))
theorem goBody_is : Try.f14.body = some goBody := by kernel_rfl
theorem goBody_eq : goBody = .seq (codeHd goBody) (.seq (codeHd (codeTl goBody)) (.seq (codeHd (codeTl (codeTl goBody))) (.seq (codeHd (codeTl (codeTl (codeTl goBody)))) goT))) := by kernel_rfl
set_option maxRecDepth 1000000 in
set_option maxHeartbeats 0 in
/-- the calm -/
theorem vw_goCalm (w w1 : World) (gg n j : Nat) (pat : Int) (d : BitVec 8) (x : Vw.Gr) (C : Col) (L : GrL) (wr : World) (HG : RowKit.Hid (GrM C wr gg (toGx x) L)) (HK : RowKit.Hid (KpA (fun _ => 0) w1 C wr)) (HI : RowKit.Hid (Vw.GrI x j ∧ Vw.BdG j j x ∧ (x.n = 1 → (x.core 1).ch = false) ∧ x.n = n ∧ x.pat = pat)) (Hj : RowKit.Hid (j ≤ 250 ∧ (1 ≤ n ∧ n ≤ 5) ∧ (1 ≤ pat ∧ pat ≤ 16))) (Hb : RowKit.Hid (Below w.heap.size w w1))
    {u0 u1 u2 u4 u5 u6 u7 u8 aA aB aC aD aE aF aG aH aI aJ aK aL aM aN aO aP aQ aR aS aT aU aV aW aX aY aZ bA bB bC bD bE bF bG bH bI bJ bK bL bM bN bO bP bQ bR bS bT bU bV bW bX bY bZ cA cB cC cD cE cF cG cH cI cJ cK cL cM cN cO cP cQ cR cS cT cU cV cW cX cY cZ dA dB dC dD dE dF dG dH dI dJ dK dL dM dN dO dP dQ dR dS dT dU dV dW dX dY dZ eA eB eC eD eE eF eG eH eI eJ eK eL eM eN eO eP eQ eR eS eT eU eV eW eX eY eZ fA fB fC fD fE fF fG fH fI fJ fK fL fM fN fO fP fQ fR fS fT fU fV fW fX fY fZ gA gB gC gD gE gF gG gH gI gJ gK gL gM gN gO gP gQ gR gS gT gU gV gW gX gY gZ hA hB hC hD hE hF : Value} :
    Code.wp Try.prog goT (bodyPost Try.prog Try.f14 fun e w' => e = .returned (.bool true) ∧ Below w.heap.size w w') ⟨#[u0, u1, u2, .int .u8 (bv d), u4, u5, u6, u7, u8, .pointer (some ⟨gg, 0, none⟩), aA, aB, aC, aD, aE, aF, aG, aH, aI, aJ, aK, aL, aM, aN, aO, aP, aQ, aR, aS, aT, aU, aV, aW, aX, aY, aZ, bA, bB, bC, bD, bE, bF, bG, bH, bI, bJ, bK, bL, bM, bN, bO, bP, bQ, bR, bS, bT, bU, bV, bW, bX, bY, bZ, cA, cB, cC, cD, cE, cF, cG, cH, cI, cJ, cK, cL, cM, cN, cO, cP, cQ, cR, cS, cT, cU, cV, cW, cX, cY, cZ, dA, dB, dC, dD, dE, dF, dG, dH, dI, dJ, dK, dL, dM, dN, dO, dP, dQ, dR, dS, dT, dU, dV, dW, dX, dY, dZ, eA, eB, eC, eD, eE, eF, eG, eH, eI, eJ, eK, eL, eM, eN, eO, eP, eQ, eR, eS, eT, eU, eV, eW, eX, eY, eZ, fA, fB, fC, fD, fE, fF, fG, fH, fI, fJ, fK, fL, fM, fN, fO, fP, fQ, fR, fS, fT, fU, fV, fW, fX, fY, fZ, gA, gB, gC, gD, gE, gF, gG, gH, gI, gJ, gK, gL, gM, gN, gO, gP, gQ, gR, gS, gT, gU, gV, gW, gX, gY, gZ, hA, hB, hC, hD, hE, hF], []⟩ wr := by
  obtain ⟨hI1, hI2, hI3, hI4, hI5⟩ := HI.out
  obtain ⟨hj, hn5, hp5⟩ := Hj.out
  obtain ⟨S, hS⟩ : ∃ S : Nat, (S : Int) = 40 * n + 20 * pat := ⟨(40 * n + 20 * pat).toNat, by omega⟩
  obtain ⟨x', hx'⟩ : ∃ x' : Vw.Gr, x' = { x with mail := [] } := ⟨_, rfl⟩
  have HGo : RowKit.Hid (Vw.GoesOk x' (goB d) S) := Lib.hid (by
    have hr := HG.out.rights
    rw [hx']
    refine Vw.goes_all (x := { x with mail := [] }) (b := goB d) (K := j) ?_ hj ?_ (fun y hy => ?_) hI3 rfl (by show x.pat ≤ 16; rw [hI5]; exact hp5.2) (by show (S : Int) = 40 * (x.n : Int) + 20 * x.pat; rw [hI4, hI5]; exact hS) (by show 2 ≤ 4000; decide)
    · obtain ⟨⟨G, hG⟩, h1, h2, h3⟩ := hI1
      exact ⟨⟨G, hG.lose fun m hm => by cases hm⟩, h1, Nat.zero_le _, h3⟩
    · have := hI2.mono (B' := 250) (L' := 250) (by omega) hj
      exact ⟨this.keep, fun m hm => by cases hm⟩
    · have hy : Vw.node x.n y := hy
      have := (hr (y - 1).toNat (by have := hy.1; have := hy.2; omega)).idle.1
      rw [show (((y - 1).toNat : Nat) : Int) + 1 = y by have := hy.1; omega] at this
      exact this)
  have hxn : x'.n = n := by rw [hx']; exact hI4
  have hxp : x'.pat = pat := by rw [hx']; exact hI5
  obtain ⟨ma, mc, hmv, hm1, hm2⟩ := HG.out.p.mails.shape
  have y0 := HG.out.c0
  have y1 := HG.out.c1
  have y4 := HG.out.c4
  rw [hmv] at y4
  have z4 : ∀ o, wr.frozen? ⟨gg, o, none⟩ = false := HG.out.fz
  change wr.cell? ⟨gg, 0, none⟩ = some (.int .i64 x.n) at y0
  rw [hI4] at y0
  change wr.cell? ⟨gg, 1, none⟩ = some (.int .i64 x.pat) at y1
  rw [hI5] at y1
  change wr.cell? ⟨gg, 4, none⟩ = some (.slice ma x.mail.length mc) at y4
  obtain ⟨w3, hw3⟩ : ∃ w3, w3 = wr.setCell ⟨gg, 4, none⟩ (.slice none 0 0) := ⟨_, rfl⟩
  obtain ⟨C1, L1, m1, k1⟩ := HG.out.noMail
  rw [← hx', ← hw3] at m1
  rw [← hw3] at k1
  have e0 : w3.cell? ⟨gg, 0, none⟩ = some (.int .i64 n) := by rw [← hxn]; exact m1.c0
  have e1 : w3.cell? ⟨gg, 1, none⟩ = some (.int .i64 pat) := by rw [← hxp]; exact m1.c1
  have M1 := Lib.hid m1
  have K1 := Lib.hid (HK.out.trans k1)
  have Hxn := Lib.hid (And.intro hxn hxp)
  have Hx' := Lib.hid hx'
  have HS := Lib.hid hS
  have Hn5 := Lib.hid (And.intro hn5 hp5)
  have hw1 : IntKind.i64.wrap (40 * (n : Int)) = 40 * (n : Int) := IntWalk.i64_in _ (by omega)
  have hw2 : IntKind.i64.wrap (20 * pat) = 20 * pat := IntWalk.i64_in _ (by omega)
  have hw4 : IntKind.i64.wrap (40 * (n : Int) + 20 * pat) = (S : Int) := by rw [IntWalk.i64_in _ (by omega)]; exact hS.symm
  have hw5 : IntKind.i64.wrap ((S : Int) + 20) = (S : Int) + 20 := IntWalk.i64_in _ (by omega)
  have hSb : (S : Int) ≤ 520 := by omega
  have Hw3 := Lib.hid hw3.symm
  clear hI1 hI2 hI3 hI4 hI5 hj hn5 hp5 hS hx' hxn hxp hmv hm1 hm2 m1 k1 hw3
  conv => arg 2; whnf
  go_upto_region 11 with fail
  rw [Hw3.out]
  clear Hw3 y0 y1 y4 z4
  go_region_held3 (fun W => W.cell? ⟨gg, 0, none⟩ = some (.int .i64 n) ∧ W.cell? ⟨gg, 1, none⟩ = some (.int .i64 pat)) (first | exact ⟨e0, e1⟩ | go_keep) (fail)
  obtain ⟨w4, hw4'⟩ : ∃ w4, w4 = w3.drew := ⟨_, rfl⟩
  have M4 : RowKit.Hid (GrM C1 w4 gg (toGx x') L1) := Lib.hid (by rw [hw4']; exact M1.out.below (Below.refl _ _).drew)
  have K4 : RowKit.Hid (KpA (fun _ => 0) w1 C1 w4) := Lib.hid (by rw [hw4']; exact K1.out.trans (KpA.below M1.out (Below.refl _ _).drew))
  rw [← hw4']
  clear hw4' e0 e1 M1 K1 hw1 hw2 hw4
  go_wp2_with fail
  go_loopg [12, 13] (S + 21) (fun gn va vu wr => ∃ (u at_ : Nat) (C : Col) (L : GrL), RowKit.Hid (gn = S + 21 - u) ∧ u ≤ S + 21 ∧ va = .int .i64 at_ ∧ vu = .int .i64 u ∧ RowKit.Hid (at_ = (Vw.goes S (goB d) x' u).2) ∧ RowKit.Hid (GrM C wr gg (toGx (Vw.goes S (goB d) x' u).1) L) ∧ RowKit.Hid (KpA (fun _ => 0) w1 C wr))
  case atStart => exact ⟨0, 0, C1, L1, Lib.hid rfl, Nat.zero_le _, rfl, rfl, Lib.hid rfl, M4, K4⟩
  case round =>
    obtain ⟨u, at_, C, L, hgn, hu, rfl, rfl, hat, hM, hK⟩ := hrel
    by_cases hgo : u ≤ S + 20
    · have hd1 : decide ((u : Int) ≤ (S : Int) + 20) = true := by simp; omega
      have hadd : IntKind.i64.wrap ((u : Int) + 1) = (u : Int) + 1 := IntWalk.i64_in _ (by omega)
      obtain ⟨q, hq⟩ : ∃ q, q = (Vw.goes S (goB d) x' u).1 := ⟨_, rfl⟩
      obtain ⟨s1, s2, s3⟩ := HGo.out.safe u hgo
      rw [← hq] at s1 s2 s3
      have hqn : q.n = n := s2.trans Hxn.out.1
      have MQ : RowKit.Hid (GrM C wr gg (toGx q) L) := Lib.hid (by rw [hq]; exact hM.out)
      obtain ⟨ca, cc, y3, hcc1, hcc2⟩ := MQ.out.coresAt
      rw [hqn] at y3 hcc1
      have Hq := Lib.hid hq
      have Hs := Lib.hid (And.intro s1 hqn)
      have Hu := Lib.hid hgo
      have hnn : (n : Int) ≤ 5 := by have := Hn5.out.1.2; omega
      unfold maxLen at hcc2
      obtain ⟨wo, hwo⟩ : ∃ wo : World, wo = wr := ⟨_, rfl⟩
      rw [← hwo] at hK y3 MQ ⊢
      clear hM hq s1 s2 s3 hqn hwo
      go_wp2_with fail
      -- all tick
      clear y3 hcc1 hcc2
      go_loopg [76] n (fun gn v wr => ∃ (j : Nat) (C : Col) (L : GrL), RowKit.Hid (gn = n - j) ∧ j ≤ n ∧ v = .int .i64 j ∧ RowKit.Hid (GrM C wr gg (toGx (Vw.tickTo q j)) L) ∧ RowKit.Hid (KpA (fun _ => 0) w1 C wr))
      case atStart => exact ⟨0, C, L, Lib.hid rfl, Nat.zero_le _, rfl, MQ, hK⟩
      case round =>
        obtain ⟨j, C2, L2, hgn2, hj, rfl, hM2, hK2⟩ := hrel
        by_cases hjn : j < n
        · have hd2 : decide ((j : Int) < (n : Int)) = true := by simp; omega
          have hadd2 : IntKind.i64.wrap ((j : Int) + 1) = (j : Int) + 1 := IntWalk.i64_in _ (by omega)
          have hjt : j < (Vw.tickTo q j).n := by
            rw [tickTo_n, Hs.out.2]; exact hjn
          obtain ⟨cb, co, cc, g, y3, v0, HT⟩ := vw_tick1 hM2.out (Hs.out.1.ticks j (by rw [Hs.out.2]; exact hj)) (by decide) hjt
          rw [tickTo_n, Hs.out.2] at y3
          have HT := Lib.hid HT
          clear hjt
          go_wp2_with fail
          refine HT.out.mono ?_
          rintro e w5 ⟨a1, n1, c1, a2, n2, c2, a3, n3, c3, rfl, HD⟩
          clear HT y3 v0
          go_wp2_with fail
          refine HD.out.mono ?_
          rintro e w6 ⟨rfl, C3, L3, m3, k3⟩
          have M3 := Lib.hid m3
          have K3 := Lib.hid (hK2.out.trans k3)
          clear m3 k3 HD hM2 hK2
          go_wp2_with fail
          go_roundg (n - (j + 1))
          case measure => rw [hgn2.out]; omega
          case rel => exact ⟨j + 1, C3, L3, Lib.hid rfl, by omega, by go_num, M3, K3⟩
        · have hd2 : decide ((j : Int) < (n : Int)) = false := by simp; omega
          have ejn : j = n := by omega
          have MT : RowKit.Hid (GrM C2 wr gg (toGx (Vw.tickTo q n)) L2) := Lib.hid (by rw [← ejn]; exact hM2.out)
          obtain ⟨wt, hwt⟩ : ∃ wt : World, wt = wr := ⟨_, rfl⟩
          rw [← hwt] at hK2 MT ⊢
          clear hjn hwt hM2 hgn2 hK MQ
          go_wp2_with fail
          clear hd2 hj ejn
          -- all messages come
          go_loopg [15] 2000 (fun gn v wr => ∃ (k : Nat) (C : Col) (L : GrL), RowKit.Hid (gn = 2000 - k) ∧ k ≤ 2000 ∧ v = .int .i64 k ∧ RowKit.Hid (GrM C wr gg (toGx (Vw.mailRun (Vw.tickTo q n) k)) L) ∧ RowKit.Hid (KpA (fun _ => 0) w1 C wr))
          case atStart => exact ⟨0, C2, L2, Lib.hid rfl, Nat.zero_le _, rfl, Lib.hid (by rw [Vw.mailRun_zero]; exact MT.out), hK2⟩
          case round =>
            obtain ⟨k, C4, L4, hgn4, hk, rfl, hM4, hK4⟩ := hrel
            obtain ⟨z, hz⟩ : ∃ z, z = Vw.mailRun (Vw.tickTo q n) k := ⟨_, rfl⟩
            rw [← hz] at hM4
            obtain ⟨ma, mc, hmv, hm1, hm2⟩ := hM4.out.p.mails.shape
            have y4 := hM4.out.c4
            rw [hmv] at y4
            obtain ⟨ml, hml⟩ : ∃ ml, ml = z.mail.length := ⟨_, rfl⟩
            change wr.cell? ⟨gg, 4, none⟩ = some (.slice ma z.mail.length mc) at y4
            rw [← hml] at y4
            have hmlb : ml ≤ 9223372036854775807 := by
              rw [hml]
              unfold maxLen at hm2
              exact Nat.le_trans hm1 (by omega)
            have fin : (Vw.mailRun (Vw.tickTo q n) 2000).mail = [] := by
              have := Hs.out.1.fin
              rw [Vw.unit_is, Hs.out.2] at this
              exact this
            by_cases hml0 : 0 < ml
            · have hk2 : k < 2000 := by
                rcases Nat.lt_or_ge k 2000 with h | h
                · exact h
                · exfalso
                  have : k = 2000 := by omega
                  rw [this] at hz
                  rw [← hz] at fin
                  rw [fin] at hml
                  simp at hml
                  omega
              have hd3 : decide (0 < ml) = true := by simpa using hml0
              have hd3' : decide ((0 : Int) < (ml : Int)) = true := by simp; omega
              have hd4 : decide ((k : Int) < 2000) = true := by simp; omega
              have hadd4 : IntKind.i64.wrap ((k : Int) + 1) = (k : Int) + 1 := IntWalk.i64_in _ (by omega)
              have hzI : Vw.GrI z 1000 := by rw [hz, ← Hs.out.2]; exact Hs.out.1.mails k
              have HStep := Lib.hid (vw_gstep gg 1 0 0 z 1000 C4 L4 wr hM4.out hzI (by decide))
              have hst : Vw.grStep z 1 0 0 = Vw.mailRun (Vw.tickTo q n) (k + 1) := by
                rw [Vw.mailRun_succ, ← hz]
                exact Vw.step_deliver z fun e => by rw [e] at hml; simp at hml; omega
              have Hst := Lib.hid hst
              clear hml hmv hm1 hm2 fin hzI hst hz
              go_wp2_with fail
              refine HStep.out.mono ?_
              rintro e w5 ⟨rfl, C5, L5, m5, k5⟩
              rw [Hst.out] at m5
              have M5 := Lib.hid m5
              have K5 := Lib.hid (hK4.out.trans k5)
              clear m5 k5 HStep y4 hM4 hK4 Hst
              go_wp2_with fail
              go_roundg (2000 - (k + 1))
              case measure => rw [hgn4.out]; omega
              case rel => exact ⟨k + 1, C5, L5, Lib.hid rfl, by omega, by go_num, M5, K5⟩
            · have hml1 : ml = 0 := by omega
              have hzu : z = Vw.unit q := by
                have e1 : z.mail = [] := by
                  have : z.mail.length = 0 := by rw [← hml]; exact hml1
                  exact List.length_eq_zero_iff.1 this
                rw [Vw.unit_is, Hs.out.2, hz]
                rw [hz] at e1
                have := mailRun_stop e1 (2000 - k)
                rw [show k + (2000 - k) = 2000 by omega] at this
                exact this.symm
              have MU : RowKit.Hid (GrM C4 wr gg (toGx (Vw.unit q)) L4) := Lib.hid (by rw [← hzu]; exact hM4.out)
              rw [hml1] at y4
              obtain ⟨wv, hwv⟩ : ∃ wv : World, wv = wr := ⟨_, rfl⟩
              rw [← hwv] at hK4 MU y4 ⊢
              clear hwv hM4 hgn4 hK2 MT hzu hml hml1 hml0 hmv hm1 hm2 fin hz hmlb
              have y7 := MU.out.c7
              have hgs := Vw.goes_succ S (goB d) x' u
              rw [← Hq.out] at hgs
              have Hun : RowKit.Hid ((Vw.unit q).n = n) := Lib.hid (by rw [Vw.unit_is, mailRun_n, tickTo_n, Hs.out.2])
              by_cases hus : u = S
              · have hd5 : decide ((u : Int) = (S : Int)) = true := by simp; omega
                have hd5' : ((u : Int) == (S : Int)) = true := by simp; omega
                rw [if_pos hus] at hgs
                have ha0 : at_ = 0 := by rw [hat.out, hus]; exact HGo.out.zero
                have Hgs : RowKit.Hid (Vw.goes S (goB d) x' (u + 1) = Vw.propTo (goB d) n (Vw.unit q, 0)) := Lib.hid (by rw [hgs, ← hat.out, ha0, Hxn.out.1])
                have Hqu : RowKit.Hid ((Vw.goes S (goB d) x' S).1 = q) := Lib.hid (by have := Hq.out.symm; rw [hus] at this; exact this)
                obtain ⟨ca, cc, y3, hcc1, hcc2⟩ := MU.out.coresAt
                rw [Hun.out] at y3 hcc1
                unfold maxLen at hcc2
                have Ha0 := Lib.hid ha0
                have Hus := Lib.hid hus
                clear ha0
                clear hgs y7 hus
                go_wp2_with fail
                clear y4 hk y3 hcc1 hcc2 hd5 hd5'
                -- who leads is handed an entry
                go_loopg [12, 114] n (fun gn va v wr => ∃ (j a : Nat) (C : Col) (L : GrL), RowKit.Hid (gn = n - j) ∧ j ≤ n ∧ va = .int .i64 a ∧ v = .int .i64 j ∧ RowKit.Hid (a = (Vw.propTo (goB d) j (Vw.unit q, 0)).2) ∧ RowKit.Hid (GrM C wr gg (toGx (Vw.propTo (goB d) j (Vw.unit q, 0)).1) L) ∧ RowKit.Hid (KpA (fun _ => 0) w1 C wr))
                case atStart => exact ⟨0, at_, C4, L4, Lib.hid rfl, Nat.zero_le _, rfl, rfl, Ha0, MU, hK4⟩
                case round =>
                  obtain ⟨j, a, C6, L6, hgn6, hj, rfl, rfl, ha, hM6, hK6⟩ := hrel
                  obtain ⟨z, hz⟩ : ∃ z, z = Vw.propTo (goB d) j (Vw.unit q, 0) := ⟨_, rfl⟩
                  have MZ : RowKit.Hid (GrM C6 wr gg (toGx z.1) L6) := Lib.hid (by rw [hz]; exact hM6.out)
                  have hzn : z.1.n = n := by rw [hz, propTo_n]; exact Hun.out
                  by_cases hjn : j < n
                  · have hd6 : decide ((j : Int) < (n : Int)) = true := by simp; omega
                    have hadd6 : IntKind.i64.wrap ((j : Int) + 1) = (j : Int) + 1 := IntWalk.i64_in _ (by omega)
                    obtain ⟨cb, co, cc, g, y3, v0, HL⟩ := vw_lead1 MZ.out (i := j) (by rw [hzn]; exact hjn)
                    rw [hzn] at y3
                    have HL := Lib.hid HL
                    have hzI : Vw.GrI z.1 1000 := by
                      have := HGo.out.prop j (by rw [Hxn.out.1]; exact hj)
                      rw [Hqu.out, ← hz] at this
                      exact this
                    have hcode : (z.1.core ((j : Int) + 1)).leads = true → z.2 = 0 → ((z.1.core ((j : Int) + 1)).propose (goB d)).2 = 0 := by
                      have := HGo.out.code j (by rw [Hxn.out.1]; exact hjn)
                      rw [Hqu.out, ← hz] at this
                      exact this
                    have hnext : Vw.propTo (goB d) (j + 1) (Vw.unit q, 0) = if (z.1.core ((j : Int) + 1)).leads = true ∧ z.2 = 0 then (Vw.grDo z.1 ((j : Int) + 1) ((z.1.core ((j : Int) + 1)).propose (goB d)).1 (-1), ((z.1.core ((j : Int) + 1)).propose (goB d)).1.keep.log.length) else z := by rw [hz]; rfl
                    have Haz : RowKit.Hid (a = z.2) := Lib.hid (by rw [hz]; exact ha.out)
                    have HzI := Lib.hid (And.intro hzI hzn)
                    have Hcode := Lib.hid hcode
                    have Hnext := Lib.hid hnext
                    clear hzI hcode hnext hz hzn hM6 ha
                    obtain ⟨ld, hld⟩ : ∃ ld, ld = (z.1.core ((j : Int) + 1)).leads := ⟨_, rfl⟩
                    rw [← hld] at HL
                    have Hld := Lib.hid hld
                    clear hld
                    by_cases hl : ld = true
                    · subst hl
                      by_cases ha0 : a = 0
                      · have hd7 : decide ((a : Int) = 0) = true := by simp; omega
                        have hd7' : ((a : Int) == 0) = true := by simp; omega
                        go_wp2_with fail
                        refine HL.out.mono ?_
                        rintro e w5 ⟨rfl, hb5⟩
                        have M5 : RowKit.Hid (GrM C6 w5 gg (toGx z.1) L6) := Lib.hid (MZ.out.below hb5.out)
                        have K5 : RowKit.Hid (KpA (fun _ => 0) w1 C6 w5) := Lib.hid (hK6.out.trans (KpA.below MZ.out hb5.out))
                        clear y3 v0 HL
                        obtain ⟨cb, co, cc, g, y3, v0, HP⟩ := vw_prop1 M5.out HzI.out.1 (by decide) (i := j) (by rw [HzI.out.2]; exact hjn) d (Hcode.out Hld.out.symm (by rw [← Haz.out]; exact ha0))
                        rw [HzI.out.2] at y3
                        have HP := Lib.hid HP
                        have hst : Vw.propTo (goB d) (j + 1) (Vw.unit q, 0) = (Vw.grDo z.1 ((j : Int) + 1) ((z.1.core ((j : Int) + 1)).propose (goB d)).1 (-1), ((z.1.core ((j : Int) + 1)).propose (goB d)).1.keep.log.length) := by
                          rw [Hnext.out, if_pos ⟨Hld.out.symm, by rw [← Haz.out]; exact ha0⟩]
                        obtain ⟨at2, hat2⟩ : ∃ at2, at2 = ((z.1.core ((j : Int) + 1)).propose (goB d)).1.keep.log.length := ⟨_, rfl⟩
                        rw [← hat2] at HP hst
                        have Hst := Lib.hid hst
                        clear hst hb5 MZ hK6 hat2
                        go_wp2_with fail
                        refine HP.out.mono ?_
                        rintro e w6 ⟨a1, n1, c1, a2, n2, c2, a3, n3, c3, rfl, HD⟩
                        clear HP y3 v0
                        go_wp2_with fail
                        refine (HD.out _ (alloc_below w6 _)).mono ?_
                        rintro e w7 ⟨rfl, C7, L7, m7, k7⟩
                        have M7 : RowKit.Hid (GrM C7 w7 gg (toGx (Vw.propTo (goB d) (j + 1) (Vw.unit q, 0)).1) L7) := Lib.hid (by rw [Hst.out]; exact m7)
                        have K7 := Lib.hid (K5.out.trans k7)
                        clear m7 k7 HD M5 K5
                        go_wp2_with fail
                        go_roundg (n - (j + 1))
                        case measure => rw [hgn6.out]; omega
                        case rel => exact ⟨j + 1, at2, C7, L7, Lib.hid rfl, by omega, rfl, by go_num, Lib.hid (by rw [Hst.out]), M7, K7⟩
                      · have hd7 : decide ((a : Int) = 0) = false := by simp; omega
                        have hd7' : ((a : Int) == 0) = false := by simp; omega
                        go_wp2_with fail
                        refine HL.out.mono ?_
                        rintro e w5 ⟨rfl, hb5⟩
                        have M5 : RowKit.Hid (GrM C6 w5 gg (toGx z.1) L6) := Lib.hid (MZ.out.below hb5.out)
                        have K5 : RowKit.Hid (KpA (fun _ => 0) w1 C6 w5) := Lib.hid (hK6.out.trans (KpA.below MZ.out hb5.out))
                        have hst : Vw.propTo (goB d) (j + 1) (Vw.unit q, 0) = z := by
                          rw [Hnext.out, if_neg]
                          rintro ⟨_, e⟩
                          exact ha0 (by rw [Haz.out, e])
                        have Hst := Lib.hid hst
                        clear hst HL y3 v0 hb5 MZ hK6
                        go_wp2_with fail
                        go_roundg (n - (j + 1))
                        case measure => rw [hgn6.out]; omega
                        case rel => exact ⟨j + 1, a, C6, L6, Lib.hid rfl, by omega, rfl, by go_num, Lib.hid (by rw [Hst.out]; exact Haz.out), Lib.hid (by rw [Hst.out]; exact M5.out), K5⟩
                    · have hl : ld = false := by simpa using hl
                      subst hl
                      go_wp2_with fail
                      refine HL.out.mono ?_
                      rintro e w5 ⟨rfl, hb5⟩
                      have M5 : RowKit.Hid (GrM C6 w5 gg (toGx z.1) L6) := Lib.hid (MZ.out.below hb5.out)
                      have K5 : RowKit.Hid (KpA (fun _ => 0) w1 C6 w5) := Lib.hid (hK6.out.trans (KpA.below MZ.out hb5.out))
                      have hst : Vw.propTo (goB d) (j + 1) (Vw.unit q, 0) = z := by
                        rw [Hnext.out, if_neg]
                        rintro ⟨e, _⟩
                        rw [← Hld.out] at e
                        cases e
                      have Hst := Lib.hid hst
                      clear hst HL y3 v0 hb5 MZ hK6
                      go_wp2_with fail
                      go_roundg (n - (j + 1))
                      case measure => rw [hgn6.out]; omega
                      case rel => exact ⟨j + 1, a, C6, L6, Lib.hid rfl, by omega, rfl, by go_num, Lib.hid (by rw [Hst.out]; exact Haz.out), Lib.hid (by rw [Hst.out]; exact M5.out), K5⟩
                  · have hd6 : decide ((j : Int) < (n : Int)) = false := by simp; omega
                    have ejn : j = n := by omega
                    have MF : RowKit.Hid (GrM C6 wr gg (toGx (Vw.goes S (goB d) x' (u + 1)).1) L6) := Lib.hid (by rw [Hgs.out, ← ejn, ← hz]; exact MZ.out)
                    have HaF : RowKit.Hid (a = (Vw.goes S (goB d) x' (u + 1)).2) := Lib.hid (by rw [Hgs.out, ← ejn]; exact ha.out)
                    have y7 := MF.out.c7
                    have hg6 : ¬ (j : Int) < (n : Int) := by omega
                    clear hjn ejn MZ hM6 hz hzn hgn6
                    go_wp2_with fail
                    go_roundg (S + 21 - (u + 1))
                    case measure => rw [hgn.out]; omega
                    case rel => exact ⟨u + 1, a, C6, L6, Lib.hid rfl, by omega, rfl, by go_num, HaF, MF, hK6⟩
              · have hd5 : decide ((u : Int) = (S : Int)) = false := by simp; omega
                have hd5' : ((u : Int) == (S : Int)) = false := by simp; omega
                rw [if_neg hus, ← hat.out] at hgs
                have Hgs := Lib.hid hgs
                clear hgs hus
                go_wp2_with fail
                go_roundg (S + 21 - (u + 1))
                case measure => rw [hgn.out]; omega
                case rel => exact ⟨u + 1, at_, C4, L4, Lib.hid rfl, by omega, rfl, by go_num, Lib.hid (by rw [Hgs.out]), Lib.hid (by rw [Hgs.out]; exact MU.out), hK4⟩
    · have hu21 : u = S + 21 := by omega
      have hd1 : decide ((u : Int) ≤ (S : Int) + 20) = false := by simp; omega
      have hg1 : ¬ (u : Int) ≤ (S : Int) + 20 := by omega
      obtain ⟨q, hq⟩ : ∃ q, q = (Vw.goes S (goB d) x' u).1 := ⟨_, rfl⟩
      have MQ : RowKit.Hid (GrM C wr gg (toGx q) L) := Lib.hid (by rw [hq]; exact hM.out)
      have f1 := HGo.out.at_
      have f2 := HGo.out.sure
      have f3 := HGo.out.told
      rw [← hu21, ← hat.out] at f1 f2 f3
      rw [← hq] at f2 f3
      rw [Hxn.out.1] at f3
      have hqn : q.n = n := by
        have := MQ.out.c0
        have e := (HGo.out.safe (S + 20) (Nat.le_refl _)).2.1
        rw [hq, hu21, Vw.goes_succ, if_neg (by omega)]
        show (Vw.unit _).n = n
        rw [Vw.unit_is, mailRun_n, tickTo_n, e]
        exact Hxn.out.1
      obtain ⟨sb, so, sc, ba, bc, y5, v5, hb5⟩ := sure_at MQ.out f2
      obtain ⟨sl, hsl⟩ : ∃ sl, sl = q.sure.length := ⟨_, rfl⟩
      rw [← hsl] at y5
      have hsl2 : at_ ≤ sl := by
        have := (List.getElem?_eq_some_iff.1 f2).1
        rw [hsl]; omega
      obtain ⟨am, ham⟩ : ∃ am : Nat, at_ = am + 1 := ⟨at_ - 1, by have := f1.1; omega⟩
      rw [show at_ - 1 = am by omega] at v5
      have hlen2 : (goB d).length = 2 := rfl
      rw [hlen2] at v5
      have hdz : decide ((at_ : Int) = 0) = false := by have := f1.1; simp; omega
      have hdz' : ((at_ : Int) == 0) = false := by have := f1.1; simp; omega
      have hds : decide (sl < at_) = false := by simp; omega
      have hsub : IntKind.i64.wrap ((at_ : Int) - 1) = (am : Int) := by rw [IntWalk.i64_in _ (by have := f1.2; omega)]; omega
      have hams : (am : Int) < (sl : Int) := by omega
      have hamn : am < sl := by omega
      obtain ⟨W, hW⟩ : ∃ W, W = wr.alloc (.cells #[.int .u8 (bv d), .int .u8 77] 5) := ⟨_, rfl⟩
      have hbW : Below wr.heap.size wr W := by rw [hW]; exact alloc_below wr _
      have hhW : W.heap[wr.heap.size]? = some (.cells #[.int .u8 (bv d), .int .u8 77] 5 (0, 0)) := by rw [hW]; exact heap_alloc_new wr (.cells #[.int .u8 (bv d), .int .u8 77] 5)
      have HSame : RowKit.Hid (Calls Try.prog 58 #[.slice ba 2 bc, .slice (some ⟨wr.heap.size, 0, none⟩) 2 2] W fun e w' => e = .returned (.bool true) ∧ W = w') := Lib.hid (by
        have r1 : RB W ba 2 (goB d) := ⟨rfl, fun j v hv => by
          obtain ⟨b, o, e, hb, cs, hrep, hcs⟩ := hb5 j v hv
          exact ⟨b, o, e, trivial, cs, hrep, fun i u hu => cell_thru (hcs i u hu) hbW⟩⟩
        have r2 : RB W (some ⟨wr.heap.size, 0, none⟩) 2 (goB d) := ⟨rfl, fun j v hj => by
          refine ⟨wr.heap.size, 0, rfl, trivial, [.int .u8 (bv v)], rfl, fun j2 u hu => ?_⟩
          have hj2 : j2 = 0 := by have := (List.getElem?_eq_some_iff.1 hu).1; simp at this; exact this
          subst hj2
          simp at hu; subst hu
          unfold goB at hj
          have hjl : j < 2 := by have := (List.getElem?_eq_some_iff.1 hj).1; simpa using this
          rcases (by omega : j = 0 ∨ j = 1) with rfl | rfl
          · simp at hj; subst hj
            simp [World.cell?, hhW]
          · simp at hj; subst hj
            simp [World.cell?, hhW, EU8]
            rfl⟩
        refine (ref_Same ba (some ⟨wr.heap.size, 0, none⟩) 2 2 bc 2 (goB d) (goB d) W r1 r2).mono ?_
        rintro e w' ⟨rfl, h⟩
        exact ⟨by simp, h⟩)
      have MW : RowKit.Hid (GrM C W gg (toGx q) L) := Lib.hid (MQ.out.below hbW)
      have KW : RowKit.Hid (KpA (fun _ => 0) w1 C W) := Lib.hid (hK.out.trans (KpA.below MQ.out hbW))
      have HW := Lib.hid hW.symm
      have F3 := Lib.hid f3
      have Hqn := Lib.hid hqn
      have hat2k : (at_ : Int) ≤ 2000 := by have := f1.2; omega
      clear f1 f2 f3 hgo hq hM hsl hhW hbW hb5 hW hqn hu21 hu MQ hK hgn hat
      clear ham
      go_wp2_with fail
      rw [HW.out]
      refine HSame.out.mono ?_
      rintro e w5 ⟨rfl, rfl⟩
      obtain ⟨ca, cc, y3, hcc1, hcc2⟩ := MW.out.coresAt
      rw [Hqn.out] at y3 hcc1
      unfold maxLen at hcc2
      have hnn : (n : Int) ≤ 5 := by have := Hn5.out.1.2; omega
      clear y5 v5 HSame HW hdz hdz' hds hsub hams hamn
      go_wp2_with fail
      clear y3 hcc1 hcc2
      go_loopg [185] n (fun gn v wr => ∃ (j : Nat), RowKit.Hid (gn = n - j) ∧ j ≤ n ∧ v = .int .i64 j ∧ W = wr)
      case atStart => exact ⟨0, Lib.hid rfl, Nat.zero_le _, rfl, rfl⟩
      case round =>
        obtain ⟨j, hgn2, hj, rfl, rfl⟩ := hrel
        by_cases hjn : j < n
        · have hd2 : decide ((j : Int) < (n : Int)) = true := by simp; omega
          have hadd2 : IntKind.i64.wrap ((j : Int) + 1) = (j : Int) + 1 := IntWalk.i64_in _ (by omega)
          obtain ⟨tb, tt, tc, y6, v6⟩ := told_at MW.out (i := j) (by rw [Hqn.out]; exact hjn)
          rw [Hqn.out] at y6
          obtain ⟨cm, hcm⟩ : ∃ cm, cm = (q.core ((j : Int) + 1)).commit := ⟨_, rfl⟩
          rw [← hcm] at v6
          have hle : at_ ≤ cm := by rw [hcm]; exact F3.out _ ⟨by omega, by omega⟩
          have hd3 : decide ((cm : Int) < (at_ : Int)) = false := by simp; omega
          have hg3 : ¬ (cm : Int) < (at_ : Int) := by omega
          clear hcm
          go_wp2_with fail
          clear y6 v6 hd3 hg3 hle
          go_roundg (n - (j + 1))
          case measure => rw [hgn2.out]; omega
          case rel => exact ⟨j + 1, Lib.hid rfl, by omega, by go_num, rfl⟩
        · have hd2 : decide ((j : Int) < (n : Int)) = false := by simp; omega
          have hg2 : ¬ (j : Int) < (n : Int) := by omega
          have HBe : RowKit.Hid (Below w.heap.size w W) := Lib.hid (Hb.out.trans (KW.out.belowAll.mono Hb.out.size))
          clear hjn
          go_wp2_with fail
          go_ret
          exact ⟨rfl, HBe.out⟩
end Go.Proofs.Ytmmgnbdngpkfcaa

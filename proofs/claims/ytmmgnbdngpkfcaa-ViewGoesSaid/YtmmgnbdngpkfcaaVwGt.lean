/-
  What is to be done by a group's member: messages.
  What is to be done by a group's member: whether the power goes.
-/
import Derived.Test.YtmmgnbdngpkfcaaVwGr
import Derived.Deep.MidRow
import Derived.Deep.WholeRow
namespace Go.Proofs.Ytmmgnbdngpkfcaa
open Go.RowKit
set_option linter.unusedVariables false
set_option linter.unusedSimpArgs false

def zmsg : Array Value := #[.int .i64 0, .int .i64 0, .int .i64 0, .int .i64 0, .int .i64 0, .int .i64 0, .int .i64 0, .int .i64 0, .int .i64 0, .int .i64 0, .slice none 0 0, .slice none 0 0]
set_option maxRecDepth 1000000 in
set_option maxHeartbeats 0 in
theorem vw_do3 (C0 : Col) (w0 : World) (gg i q : Nat) (cut : Int) (x : Gx) (C : Col) (L : GrL) (w : World) (HG : RowKit.Hid (GrM C w gg x L)) (HK : RowKit.Hid (KpA C0 w0 C w)) (ra ma da : Option Addr) (rn rc mn mc dn dc : Nat)
    (HB : RowKit.Hid (Im C q ∧ w.heap[q]? = some (.cells #[.slice ra rn rc, .slice ma mn mc, .slice da dn dc] 107 (0, 0)))) (c : Vw.Core) (t0 : Nat) (ds : List Vw.Bs) (ms : List Vw.Msg)
    (HS : RowKit.Hid (dn = ds.length ∧ dn ≤ dc ∧ dc ≤ maxLen ∧ Sl EBytes (Im C) w da ds))
    (HSm : RowKit.Hid (mn = ms.length ∧ mn ≤ 40000 ∧ x.mail.length ≤ 100000000000 ∧ Sl EMsg (Im C) w ma ms))
    (HC : RowKit.Hid (i < x.n ∧ x.core ((i : Int) + 1) = c ∧ x.ks[i]? = some c.keep ∧ x.told[i]? = some (t0 : Int) ∧ t0 ≤ x.sure.length ∧ x.sure.length ≤ 2000 ∧ c.commit = t0 + ds.length ∧ c.commit ≤ c.keep.log.length ∧ c.commit ≤ 2000))
    (HT : RowKit.Hid (∀ j b, ds[j]? = some b → (Vw.tells x.sure t0 ds)[t0 + j]? = some b))
    (HM : RowKit.Hid (∀ m ∈ ms, m.frm = (i : Int) + 1 ∧ m.to_ ≠ (i : Int) + 1 ∧ 1 ≤ m.to_ ∧ m.to_ ≤ x.n ∧ m.shard = 2 ∧ m.view ≤ c.keep.view)) (u2 u4 u5 u7 u8 u9 aA aB aC aD aE aF aG aH aI aJ aK aL aM aN aO aP aQ aR aS aT aU aV aW aX aY aZ bA bB bC bD bE bF bG bH bI bJ bK bL bM bN bO bP bQ bR bS bT bU bV bW bX bY bZ cA cB cC cD cE cF cG cH cI cJ cK cL cM cN cO cP cQ cR cS cT cU cV cW cX cY cZ dA dB dC dD dE dF dG dH dI dJ dK dL dM dN dO dP dQ dR dS dT dU dV dW dX dY dZ eA eB eC eD eE eF eG eH eI eJ eK eL eM eN eO eP eQ eR eS eT eU eV eW eX eY eZ fA fB fC fD fE fF fG fH fI fJ fK fL fM fN fO fP fQ fR fS fT fU fV fW fX fY fZ gA gB gC gD gE gF gG gH gI gJ gK gL gM gN gO gP gQ gR gS gT gU gV gW gY gZ hA hB hC hD hE hF hG hH hI hJ hL hN hO hP hQ hS hT hU hV hW hY hZ iA iB iC iD iE iF iG iH iI iJ iK iL iM iN iO iP iQ iR iS iT iU iV iW iX iY iZ jA jB jC jD jE jF jG jH jI : Value) :
    Code.wp Try.prog doP3 (bodyPost Try.prog Try.f66 fun e w' => e = .returned (.tuple #[]) ∧ GrTo C0 w0 w' gg ({ x with told := x.told.set i (c.commit : Int), sure := Vw.tells x.sure t0 ds, mail := trim (x.mail ++ ms) })) ⟨#[.pointer (some ⟨gg, 0, none⟩), .int .i64 i, u2, .int .i64 cut, u4, u5, .pointer (some ⟨q, 0, none⟩), u7, u8, u9, aA, aB, aC, aD, aE, aF, aG, aH, aI, aJ, aK, aL, aM, aN, aO, aP, aQ, aR, aS, aT, aU, aV, aW, aX, aY, aZ, bA, bB, bC, bD, bE, bF, bG, bH, bI, bJ, bK, bL, bM, bN, bO, bP, bQ, bR, bS, bT, bU, bV, bW, bX, bY, bZ, cA, cB, cC, cD, cE, cF, cG, cH, cI, cJ, cK, cL, cM, cN, cO, cP, cQ, cR, cS, cT, cU, cV, cW, cX, cY, cZ, dA, dB, dC, dD, dE, dF, dG, dH, dI, dJ, dK, dL, dM, dN, dO, dP, dQ, dR, dS, dT, dU, dV, dW, dX, dY, dZ, eA, eB, eC, eD, eE, eF, eG, eH, eI, eJ, eK, eL, eM, eN, eO, eP, eQ, eR, eS, eT, eU, eV, eW, eX, eY, eZ, fA, fB, fC, fD, fE, fF, fG, fH, fI, fJ, fK, fL, fM, fN, fO, fP, fQ, fR, fS, fT, fU, fV, fW, fX, fY, fZ, gA, gB, gC, gD, gE, gF, gG, gH, gI, gJ, gK, gL, gM, gN, gO, gP, gQ, gR, gS, gT, gU, gV, gW, gY, gZ, hA, hB, hC, hD, hE, hF, hG, hH, hI, hJ, hL, hN, hO, hP, hQ, hS, hT, hU, hV, hW, hY, hZ, iA, iB, iC, iD, iE, iF, iG, iH, iI, iJ, iK, iL, iM, iN, iO, iP, iQ, iR, iS, iT, iU, iV, iW, iX, iY, iZ, jA, jB, jC, jD, jE, jF, jG, jH, jI], []⟩ w := by
  obtain ⟨hi, hcc, hks, htd, hts, hs2, hcm, hcl, hc2⟩ := HC.out
  have y1 : w.cell? ⟨q, 1, none⟩ = some (.slice ma mn mc) := by simp [World.cell?, HB.out.2]
  have hmn := HSm.out.1
  have hmn2 := HSm.out.2.1
  have hn5 := HG.out.nn.2
  have hcz : ∀ (C' : Col) (wr : World), KpA C w C' wr → Im C' q ∧ wr.heap[q]? = some (.cells #[.slice ra rn rc, .slice ma mn mc, .slice da dn dc] 107 (0, 0)) := fun C' wr k => by
    obtain ⟨e1, e2⟩ := k.im HB.out.1 (Array.getElem?_eq_some_iff.1 HB.out.2).1
    exact ⟨e2, e1.trans HB.out.2⟩
  have Hend : RowKit.Hid (∀ (C' : Col) (L' : GrL) (wr : World), GrM C' wr gg { x with mail := x.mail ++ ms.take mn } L' → KpA C w C' wr →
      RowKit.Hid (GrM C' wr gg { x with mail := x.mail ++ ms } L') ∧ RowKit.Hid (KpA C0 w0 C' wr) ∧ RowKit.Hid (Im C' q ∧ wr.heap[q]? = some (.cells #[.slice ra rn rc, .slice ma mn mc, .slice da dn dc] 107 (0, 0))) ∧ RowKit.Hid (dn = ds.length ∧ dn ≤ dc ∧ dc ≤ maxLen ∧ Sl EBytes (Im C') wr da ds)) := Lib.hid fun C' L' wr h k => by
    rw [List.take_of_length_le (by omega)] at h
    exact ⟨Lib.hid h, Lib.hid (HK.out.trans k), Lib.hid (hcz C' wr k), Lib.hid ⟨HS.out.1, HS.out.2.1, HS.out.2.2.1, HS.out.2.2.2.kp (by decide) k (fun e => e rfl)⟩⟩
  have HC4 : RowKit.Hid (i < x.n ∧ x.core ((i : Int) + 1) = c ∧ x.ks[i]? = some c.keep ∧ x.told[i]? = some (t0 : Int) ∧ t0 ≤ x.sure.length ∧ x.sure.length ≤ 2000 ∧ c.commit = t0 + ds.length ∧ c.commit ≤ c.keep.log.length ∧ c.commit ≤ 2000) := HC
  have Hstart : RowKit.Hid (GrM C w gg { x with mail := x.mail ++ ms.take 0 } L) := Lib.hid (by
    have e : ({ x with mail := x.mail ++ ms.take 0 } : Gx) = x := by simp
    rw [e]; exact HG.out)
  have Hks := Lib.hid hks
  clear hcc htd hcl hcm hcz hts hs2 hc2 hks
  rw [doP3_eq]
  refine wp_seq ?_
  conv => arg 2; whnf
  go_wp2_with fail
  clear y1
  go_loopg [61] mn (fun gn v wr => ∃ (j : Nat) (C' : Col) (L' : GrL), RowKit.Hid (gn = mn - j) ∧ j ≤ mn ∧ v = .int .i64 j ∧ RowKit.Hid (GrM C' wr gg { x with mail := x.mail ++ ms.take j } L') ∧ RowKit.Hid (KpA C w C' wr))
  case atStart => exact ⟨0, C, L, Lib.hid rfl, Nat.zero_le _, rfl, Hstart, Lib.hid (Kp.refl _ HG.out.p.dom)⟩
  case round =>
    obtain ⟨j, C', L', hgn, hj, rfl, hM, hK⟩ := hrel
    by_cases hlt : j < mn
    · have hjd : j < ms.length := by have := HSm.out.1; omega
      obtain ⟨m, hm⟩ : ∃ m, ms[j]? = some m := ⟨_, List.getElem?_eq_getElem hjd⟩
      obtain ⟨f1, f2, f3, f4, f5, f6⟩ := HM.out m (List.mem_of_getElem? hm)
      have hlti : (j : Int) < (mn : Int) := by omega
      have hltd : decide ((j : Int) < (mn : Int)) = true := by simp; omega
      have hadd : IntKind.i64.wrap ((j : Int) + 1) = (j : Int) + 1 := IntWalk.i64_in _ (by omega)
      have haddi : IntKind.i64.wrap ((i : Int) + 1) = (i : Int) + 1 := IntWalk.i64_in _ (by omega)
      obtain ⟨mb, mo, hma, hmb, cs, ⟨la, lc, ea, ec, rfl, hl1, hl2, he1, he2⟩, hcs⟩ := HSm.out.2.2.2 j m hm
      subst hma
      obtain ⟨ln, hln⟩ : ∃ ln, ln = m.list.length := ⟨_, rfl⟩
      obtain ⟨en, hen⟩ : ∃ en, en = m.data.length := ⟨_, rfl⟩
      have hR : wr.rangeAt mb (mo + j * 12) [.int .i64 m.kind, .int .i64 ((i : Int) + 1), .int .i64 m.to_, .int .i64 2, .int .i64 m.view, .int .i64 m.normal, .int .i64 m.at_, .int .i64 m.commit, .int .i64 m.id, .int .i64 m.err, .slice la ln lc, .slice ea en ec] := by
        intro k v hv
        have e : msgRow m (.slice la m.list.length lc) (.slice ea m.data.length ec) = [.int .i64 m.kind, .int .i64 ((i : Int) + 1), .int .i64 m.to_, .int .i64 2, .int .i64 m.view, .int .i64 m.normal, .int .i64 m.at_, .int .i64 m.commit, .int .i64 m.id, .int .i64 m.err, .slice la ln lc, .slice ea en ec] := by
          unfold msgRow; rw [f1, f5, ← hln, ← hen]
        have h1 := hcs k v (by rw [e]; exact hv)
        change w.cell? ⟨mb, mo + (j * 12 + k), none⟩ = some v at h1
        rw [← Nat.add_assoc] at h1
        exact (cell_keep (hK.out.im hmb (cell_lt h1)).1).trans h1
      obtain ⟨W1, hW1⟩ : ∃ W1, W1 = wr.alloc (.cells #[.int .i64 m.kind, .int .i64 ((i : Int) + 1), .int .i64 m.to_, .int .i64 2, .int .i64 m.view, .int .i64 m.normal, .int .i64 m.at_, .int .i64 m.commit, .int .i64 m.id, .int .i64 m.err, .slice la ln lc, .slice ea en ec] 89) := ⟨_, rfl⟩
      obtain ⟨p, hp⟩ : ∃ p, p = wr.heap.size := ⟨_, rfl⟩
      have hb1 : Below wr.heap.size wr W1 := by rw [hW1]; exact alloc_below _ _
      have hh1 : W1.heap[p]? = some (.cells #[.int .i64 m.kind, .int .i64 ((i : Int) + 1), .int .i64 m.to_, .int .i64 2, .int .i64 m.view, .int .i64 m.normal, .int .i64 m.at_, .int .i64 m.commit, .int .i64 m.id, .int .i64 m.err, .slice la ln lc, .slice ea en ec] 89 (0, 0)) := by rw [hW1, hp]; exact heap_alloc_new wr _
      have m1 := hM.out.below hb1
      have k1 := hK.out.trans (KpA.below hM.out hb1)
      obtain ⟨kb, ko, kc, ka, kcc, k', hk', hkvE, hkb, hk3, hk4, u0, u1, u2, hlc, hsl, hkf⟩ := m1.keepAt hi
      obtain rfl : c.keep = k' := by have := Hks.out; change x.ks[i]? = _ at hk'; rw [this] at hk'; injection hk'
      obtain ⟨n, hn⟩ : ∃ n, n = x.n := ⟨_, rfl⟩
      have y0 : W1.cell? ⟨gg, 0, none⟩ = some (.int .i64 n) := by rw [hn]; exact m1.c0
      have y2 : W1.cell? ⟨gg, 2, none⟩ = some (.slice (some ⟨kb, ko, none⟩) n kc) := by rw [hn, ← show L'.kv = .slice (some ⟨kb, ko, none⟩) x.n kc from hkvE]; exact m1.c2
      obtain ⟨va, vc, hmv, hv1, hv2⟩ := m1.p.mails.shape
      obtain ⟨vn, hvn⟩ : ∃ vn, vn = (x.mail ++ ms.take j).length := ⟨_, rfl⟩
      have hvn2 : vn ≤ 100000040000 := by rw [hvn, List.length_append, List.length_take]; have := HSm.out.2.2.1; omega
      have y4 : W1.cell? ⟨gg, 4, none⟩ = some (.slice va vn vc) := by rw [hvn, ← hmv]; exact m1.c4
      have x0 : W1.cell? ⟨p, 0, none⟩ = some (.int .i64 m.kind) := by simp [World.cell?, hh1]
      have x1 : W1.cell? ⟨p, 1, none⟩ = some (.int .i64 ((i : Int) + 1)) := by simp [World.cell?, hh1]
      have x2 : W1.cell? ⟨p, 2, none⟩ = some (.int .i64 m.to_) := by simp [World.cell?, hh1]
      have x3 : W1.cell? ⟨p, 3, none⟩ = some (.int .i64 2) := by simp [World.cell?, hh1]
      have x4 : W1.cell? ⟨p, 4, none⟩ = some (.int .i64 m.view) := by simp [World.cell?, hh1]
      have t2 : (m.to_ == (i : Int) + 1) = false := by simpa using f2
      have t3 : decide (m.to_ < 1) = false := by simp; omega
      have t4 : decide ((n : Int) < m.to_) = false := by simp; omega
      have t6 : decide (c.keep.view < m.view) = false := by simp; omega
      have hile : i < n := by omega
      have M1 := Lib.hid m1
      have K1 := Lib.hid k1
      have Hsucc : RowKit.Hid ((x.mail ++ ms.take j) ++ [m] = x.mail ++ ms.take (j + 1)) := Lib.hid (by
        rw [List.append_assoc, List.take_add_one, hm]; rfl)
      have Hmv : RowKit.Hid (L'.mv = .slice va vn vc) := Lib.hid (by rw [hvn]; exact hmv)
      have Hlen2 := Lib.hid (And.intro hvn hvn2)
      have Hm := Lib.hid (And.intro hm (And.intro f1 (And.intro f5 (And.intro hln (And.intro hen (And.intro hl1 (And.intro hl2 (And.intro he1 he2))))))))
      have HR := Lib.hid hR
      have HW1 := Lib.hid hW1.symm
      have Hp := Lib.hid hp
      have Hh1 := Lib.hid hh1
      have Hz : RowKit.Hid ((wr.alloc (.cells zmsg 89)).heap[wr.heap.size]? = some (.cells zmsg 89 (0, 0))) := Lib.hid (heap_alloc_new wr _)
      have Hs12 : RowKit.Hid ((Try.prog.info? 89).map (·.size) = some (#[.int .i64 m.kind, .int .i64 ((i : Int) + 1), .int .i64 m.to_, .int .i64 2, .int .i64 m.view, .int .i64 m.normal, .int .i64 m.at_, .int .i64 m.commit, .int .i64 m.id, .int .i64 m.err, .slice la ln lc, .slice ea en ec] : Array Value).size) := Lib.hid size_vmsg
      have Hset : RowKit.Hid ((wr.alloc (.cells zmsg 89)).setRow wr.heap.size #[.int .i64 m.kind, .int .i64 ((i : Int) + 1), .int .i64 m.to_, .int .i64 2, .int .i64 m.view, .int .i64 m.normal, .int .i64 m.at_, .int .i64 m.commit, .int .i64 m.id, .int .i64 m.err, .slice la ln lc, .slice ea en ec] = W1) := Lib.hid (by rw [World.setRow_alloc_new, hW1])
      clear hm f1 f2 f3 f4 f5 f6 hmb hcs hl1 hl2 he1 he2 hln hen hR hW1 hp hb1 hh1 m1 k1 hk' hkvE hkb hk3 hk4 hlc hsl hkf hn hmv hv1 hv2 hvn u1 u2 hM hK
      go_upto_region 12 with (first
        | (refine wpList_load_mid rfl _ _ rfl mb (mo + j * 12) rfl [.int .i64 m.kind, .int .i64 ((i : Int) + 1), .int .i64 m.to_, .int .i64 2, .int .i64 m.view, .int .i64 m.normal, .int .i64 m.at_, .int .i64 m.commit, .int .i64 m.id, .int .i64 m.err, .slice la ln lc, .slice ea en ec] _ HR.out Try.underlying89 rfl Hs12.out ?_)
        | (refine wpList_storeRow rfl _ _ _ rfl wr.heap.size rfl zmsg #[.int .i64 m.kind, .int .i64 ((i : Int) + 1), .int .i64 m.to_, .int .i64 2, .int .i64 m.view, .int .i64 m.normal, .int .i64 m.at_, .int .i64 m.commit, .int .i64 m.id, .int .i64 m.err, .slice la ln lc, .slice ea en ec] rfl 89 Hz.out Hs12.out rfl rfl ?_))
      rw [HW1.out, ← Hp.out]
      clear HW1 Hset Hz HR
      go_wp2_with fail
      go_region_held3 (fun W => W.cell? ⟨p, 1, none⟩ = some (.int .i64 ((i : Int) + 1)) ∧ W.cell? ⟨p, 2, none⟩ = some (.int .i64 m.to_) ∧ W.cell? ⟨p, 3, none⟩ = some (.int .i64 2) ∧ W.cell? ⟨p, 4, none⟩ = some (.int .i64 m.view) ∧ W.cell? ⟨gg, 0, none⟩ = some (.int .i64 n) ∧ W.cell? ⟨gg, 2, none⟩ = some (.slice (some ⟨kb, ko, none⟩) n kc) ∧ W.cell? ⟨kb, ko + i * 3, none⟩ = some (.int .i64 c.keep.view))
        (first | exact ⟨x1, x2, x3, x4, y0, y2, u0⟩ | go_keep) (fail)
      obtain ⟨w5, hw5⟩ : ∃ w5, w5 = W1.drew := ⟨_, rfl⟩
      have m5 : GrM C' w5 gg { x with mail := x.mail ++ ms.take j } L' := by rw [hw5]; exact M1.out.below (Below.refl _ _).drew
      have k5 : KpA C w C' w5 := by rw [hw5]; exact K1.out.trans (KpA.below M1.out (Below.refl _ _).drew)
      have hh5 : w5.heap[p]? = some (.cells #[.int .i64 m.kind, .int .i64 ((i : Int) + 1), .int .i64 m.to_, .int .i64 2, .int .i64 m.view, .int .i64 m.normal, .int .i64 m.at_, .int .i64 m.commit, .int .i64 m.id, .int .i64 m.err, .slice la ln lc, .slice ea en ec] 89 (0, 0)) := by rw [hw5]; exact Hh1.out
      rw [← hw5]
      clear hw5 x0 x1 x2 x3 x4 y0 y2 y4 u0 t2 t3 t4 t6 M1 K1 Hh1
      have HItem : RowKit.Hid (∀ X : World, Below w5.heap.size w5 X → X.heap[w5.heap.size]? = some (.cells #[.int .i64 m.kind, .int .i64 ((i : Int) + 1), .int .i64 m.to_, .int .i64 2, .int .i64 m.view, .int .i64 m.normal, .int .i64 m.at_, .int .i64 m.commit, .int .i64 m.id, .int .i64 m.err, .slice la ln lc, .slice ea en ec] 89 (0, 0)) → OwnQ C' 4 EMsg 89 X (.slice va vn vc) (x.mail ++ ms.take j) ∧ (∀ k, C' k ≠ 0 → k < X.heap.size) ∧ Sl EMsg (Im C') X (some ⟨w5.heap.size, 0, none⟩) [m] ∧ GrM C' X gg { x with mail := x.mail ++ ms.take j } L' ∧ KpA C w C' X) := Lib.hid fun X hX hh => by
        obtain ⟨hm, f1, f5, hln, hen, hl1, hl2, he1, he2⟩ := Hm.out
        have mX := m5.below hX
        have him : ∀ k, Im C k → k < w.heap.size → X.heap[k]? = w.heap[k]? ∧ Im C' k := fun k h1 h2 => by
          have kk := k5.trans (KpA.below m5 hX)
          exact KpA.im kk h1 h2
        refine ⟨by rw [← Hmv.out]; exact mX.p.mails, mX.p.dom, sl_one hh ⟨la, lc, ea, ec, ?_, hl1, hl2.mono (by decide) him, he1, he2.mono (by decide) him⟩ (Classical.byContradiction fun h => by have := m5.p.dom _ h; omega), mX, k5.trans (KpA.below m5 hX)⟩
        show [.int .i64 m.kind, .int .i64 ((i : Int) + 1), .int .i64 m.to_, .int .i64 2, .int .i64 m.view, .int .i64 m.normal, .int .i64 m.at_, .int .i64 m.commit, .int .i64 m.id, .int .i64 m.err, .slice la ln lc, .slice ea en ec] = msgRow m _ _
        unfold msgRow
        rw [f1, f5, ← hln, ← hen]
      have HItem2 : RowKit.Hid (∀ (X : World) (v6 : Value) (w6 : World) (C6 : Col), OwnQ C6 4 EMsg 89 w6 v6 ((x.mail ++ ms.take j) ++ [m]) → Kp (· = 4) C' X C6 w6 → Below w5.heap.size w5 X → X.heap[w5.heap.size]? = some (.cells #[.int .i64 m.kind, .int .i64 ((i : Int) + 1), .int .i64 m.to_, .int .i64 2, .int .i64 m.view, .int .i64 m.normal, .int .i64 m.at_, .int .i64 m.commit, .int .i64 m.id, .int .i64 m.err, .slice la ln lc, .slice ea en ec] 89 (0, 0)) →
          ∃ a6 n6 c6, v6 = .slice a6 n6 c6 ∧ w6.cell? ⟨gg, 4, none⟩ = some L'.mv ∧ w6.frozen? ⟨gg, 4, none⟩ = false ∧ RowKit.Hid (GrM C6 (w6.setCell ⟨gg, 4, none⟩ v6) gg { x with mail := x.mail ++ ms.take (j + 1) } { L' with mv := v6 }) ∧ RowKit.Hid (KpA C w C6 (w6.setCell ⟨gg, 4, none⟩ v6))) := Lib.hid fun X v6 w6 C6 ho6 hk6 hX hh => by
        obtain ⟨-, -, -, gX, kX⟩ := HItem.out X hX hh
        obtain ⟨a6, c6, hv6, -, -⟩ := ho6.shape
        have r6 := gX.rowKp hk6 (by decide)
        obtain ⟨m6, k6⟩ := gX.setMail ho6 hk6
        rw [Hsucc.out] at m6
        exact ⟨a6, _, c6, hv6, r6.1 4 _ rfl, r6.2 4, Lib.hid m6, Lib.hid (kX.trans k6)⟩
      have y4 : w5.cell? ⟨gg, 4, none⟩ = some (.slice va vn vc) := by rw [← Hmv.out]; exact m5.c4
      have x0 : w5.cell? ⟨p, 0, none⟩ = some (.int .i64 m.kind) := by simp [World.cell?, hh5]
      have x1 : w5.cell? ⟨p, 1, none⟩ = some (.int .i64 ((i : Int) + 1)) := by simp [World.cell?, hh5]
      have x2 : w5.cell? ⟨p, 2, none⟩ = some (.int .i64 m.to_) := by simp [World.cell?, hh5]
      have x3 : w5.cell? ⟨p, 3, none⟩ = some (.int .i64 2) := by simp [World.cell?, hh5]
      have x4 : w5.cell? ⟨p, 4, none⟩ = some (.int .i64 m.view) := by simp [World.cell?, hh5]
      have x5 : w5.cell? ⟨p, 5, none⟩ = some (.int .i64 m.normal) := by simp [World.cell?, hh5]
      have x6 : w5.cell? ⟨p, 6, none⟩ = some (.int .i64 m.at_) := by simp [World.cell?, hh5]
      have x7 : w5.cell? ⟨p, 7, none⟩ = some (.int .i64 m.commit) := by simp [World.cell?, hh5]
      have x8 : w5.cell? ⟨p, 8, none⟩ = some (.int .i64 m.id) := by simp [World.cell?, hh5]
      have x9 : w5.cell? ⟨p, 9, none⟩ = some (.int .i64 m.err) := by simp [World.cell?, hh5]
      have x10 : w5.cell? ⟨p, 10, none⟩ = some (.slice la ln lc) := by simp [World.cell?, hh5]
      have x11 : w5.cell? ⟨p, 11, none⟩ = some (.slice ea en ec) := by simp [World.cell?, hh5]
      have kA := alloc_below w5 (.cells #[.int .i64 m.kind, .int .i64 ((i : Int) + 1), .int .i64 m.to_, .int .i64 2, .int .i64 m.view, .int .i64 m.normal, .int .i64 m.at_, .int .i64 m.commit, .int .i64 m.id, .int .i64 m.err, .slice la ln lc, .slice ea en ec] 89)
      have kA4 := cell_thru y4 kA
      have HkA := Lib.hid kA
      have HhA := Lib.hid (heap_alloc_new w5 (.cells #[.int .i64 m.kind, .int .i64 ((i : Int) + 1), .int .i64 m.to_, .int .i64 2, .int .i64 m.view, .int .i64 m.normal, .int .i64 m.at_, .int .i64 m.commit, .int .i64 m.id, .int .i64 m.err, .slice la ln lc, .slice ea en ec] 89))
      clear m5 k5 hh5 kA
      go_wp2_with fail
      go_region_law ((rw [if_pos (by simp [Region.wanted])]
                      refine step_appQ EMsg (by rfl) (by rfl) (by rfl) ti_mails (HItem.out _ (by first | exact HkA.out | exact HkA.out.drew) HhA.out).1 (by decide) (HItem.out _ (by first | exact HkA.out | exact HkA.out.drew) HhA.out).2.1 rfl (HItem.out _ (by first | exact HkA.out | exact HkA.out.drew) HhA.out).2.2.1 (by simp) (by rw [← Hlen2.out.1]; unfold maxLen; simp; omega) (by rw [← Hlen2.out.1]; simp; omega) ?_
                      intro v6 w6 C6 ho6 hk6
                      obtain ⟨a6, n6, c6, hv6, z4, zf, HM6, HK6⟩ := HItem2.out _ v6 w6 C6 ho6 hk6 (by first | exact HkA.out | exact HkA.out.drew) HhA.out
                      subst hv6
                      clear ho6 hk6))
      all_goals
        obtain ⟨w7, hw7⟩ : ∃ w7, w7 = w6.setCell ⟨gg, 4, none⟩ (.slice a6 n6 c6) := ⟨_, rfl⟩
        obtain ⟨L7, hL7⟩ : ∃ L7, L7 = { L' with mv := .slice a6 n6 c6 } := ⟨_, rfl⟩
        have M7 : RowKit.Hid (GrM C6 w7 gg { x with mail := x.mail ++ ms.take (j + 1) } L7) := Lib.hid (by rw [hw7, hL7]; exact HM6.out)
        have K7 : RowKit.Hid (KpA C w C6 w7) := Lib.hid (by rw [hw7]; exact HK6.out)
        rw [← hw7]
        clear hw7 hL7 HM6 HK6 z4 zf x0 x1 x2 x3 x4 x5 x6 x7 x8 x9 x10 x11 y4 kA4
        go_wp2_with fail
        go_roundg (mn - (j + 1))
        case measure => rw [hgn.out]; omega
        case rel => exact ⟨j + 1, C6, L7, Lib.hid rfl, by omega, by go_num, M7, K7⟩
    · have hlti : ¬ (j : Int) < (mn : Int) := by omega
      have hltd : decide ((j : Int) < (mn : Int)) = false := by simp; omega
      have hjn : mn = j := by omega
      subst hjn
      obtain ⟨h1, h2, h3, h4⟩ := Hend.out _ _ _ hM.out hK.out
      clear hM hK
      go_wp2_with fail
      exact vw_do4 C0 w0 gg i q cut { x with mail := x.mail ++ ms } C' L' wr h1 h2 ra ma da rn rc _ mc dn dc h3 c t0 ds h4 HC4 HT _ _ _ _ _ _ _ _ _ _ _ _ _ _ _ _ _ _ _ _ _ _ _ _ _ _ _ _ _ _ _ _ _ _ _ _ _ _ _ _ _ _ _ _ _ _ _ _ _ _ _ _ _ _ _ _ _ _ _ _ _ _ _ _ _ _ _ _ _ _ _ _ _ _ _ _ _ _ _ _ _ _ _ _ _ _ _ _ _ _ _ _ _ _ _ _ _ _ _ _ _ _ _ _ _ _ _ _ _ _ _ _ _ _ _ _ _ _ _ _ _ _ _ _ _ _ _ _ _ _ _ _ _ _ _ _ _ _ _ _ _ _ _ _ _ _ _ _ _ _ _ _ _ _ _ _ _ _ _ _ _ _ _ _ _ _ _ _ _ _ _ _ _ _ _ _ _ _ _ _ _ _ _ _ _ _ _ _ _ _ _ _ _ _ _ _ _ _ _ _ _ _ _ _ _ _ _ _ _ _ _ _ _ _ _ _ _ _ _ _ _ _ _ _ _ _ _ _ _ _ _ _ _ _ _ _ _ _ _ _ _ _ _ _
end Go.Proofs.Ytmmgnbdngpkfcaa

namespace Go.Proofs.Ytmmgnbdngpkfcaa
open Go.RowKit
set_option linter.unusedVariables false
set_option linter.unusedSimpArgs false

set_option maxRecDepth 1000000 in
set_option maxHeartbeats 0 in
theorem vw_do2a (C0 : Col) (w0 : World) (gg i q : Nat) (cut : Int) (x : Gx) (C : Col) (L : GrL) (w : World) (HG : RowKit.Hid (GrM C w gg x L)) (HK : RowKit.Hid (KpA C0 w0 C w)) (ra ma da : Option Addr) (rn rc mn mc dn dc : Nat)
    (HB : RowKit.Hid (Im C q ∧ w.heap[q]? = some (.cells #[.slice ra rn rc, .slice ma mn mc, .slice da dn dc] 107 (0, 0)))) (c : Vw.Core) (t0 : Nat) (ds : List Vw.Bs) (ms : List Vw.Msg)
    (HS : RowKit.Hid (dn = ds.length ∧ dn ≤ dc ∧ dc ≤ maxLen ∧ Sl EBytes (Im C) w da ds))
    (HSm : RowKit.Hid (mn = ms.length ∧ mn ≤ 40000 ∧ x.mail.length ≤ 100000000000 ∧ Sl EMsg (Im C) w ma ms))
    (HC : RowKit.Hid (i < x.n ∧ x.core ((i : Int) + 1) = c ∧ x.ks[i]? = some c.keep ∧ x.told[i]? = some (t0 : Int) ∧ t0 ≤ x.sure.length ∧ x.sure.length ≤ 2000 ∧ c.commit = t0 + ds.length ∧ c.commit ≤ c.keep.log.length ∧ c.commit ≤ 2000))
    (HT : RowKit.Hid (∀ j b, ds[j]? = some b → (Vw.tells x.sure t0 ds)[t0 + j]? = some b))
    (HM : RowKit.Hid (∀ m ∈ ms, m.frm = (i : Int) + 1 ∧ m.to_ ≠ (i : Int) + 1 ∧ 1 ≤ m.to_ ∧ m.to_ ≤ x.n ∧ m.shard = 2 ∧ m.view ≤ c.keep.view))
    (hcut : cut < 0 ∨ (rn : Int) ≤ cut) (u2 u4 u5 u7 u8 u9 aA aB aC aD aE aF aG aH aI aJ aK aL aM aN aO aP aQ aR aS aT aU aV aW aX aY aZ bA bB bC bD bE bF bG bH bI bJ bK bL bM bN bO bP bQ bR bS bT bU bV bW bX bY bZ cA cB cC cD cE cF cG cH cI cJ cK cL cM cN cO cP cQ cR cS cT cU cV cW cX cY cZ dA dB dC dD dE dF dG dH dI dJ dK dL dM dN dO dP dQ dR dS dT dU dV dW dX dY dZ eA eB eC eD eE eF eG eH eI eJ eK eL eM eN eO eP eQ eR eS eT eU eV eW eX eY eZ fA fB fC fD fE fF fG fH fI fJ fK fL fM fN fO fP fQ fR fS fT fU fV fW fX fY fZ gA gB gC gD gE gF gG gH gI gJ gK gL gM gN gO gP gQ gR gS gT gU gV gW gY gZ hA hB hC hD hE hF hG hH hI hJ hL hN hO hP hQ hS hT hU hV hW hY hZ iA iB iC iD iE iF iG iH iI iJ iK iL iM iN iO iP iQ iR iS iT iU iV iW iX iY iZ jA jB jC jD jE jF jG jH jI : Value) :
    Code.wp Try.prog doP2 (bodyPost Try.prog Try.f66 fun e w' => e = .returned (.tuple #[]) ∧ GrTo C0 w0 w' gg ({ x with told := x.told.set i (c.commit : Int), sure := Vw.tells x.sure t0 ds, mail := trim (x.mail ++ ms) })) ⟨#[.pointer (some ⟨gg, 0, none⟩), .int .i64 i, u2, .int .i64 cut, u4, u5, .pointer (some ⟨q, 0, none⟩), u7, u8, u9, aA, aB, aC, aD, aE, aF, aG, aH, aI, aJ, aK, aL, aM, aN, aO, aP, aQ, aR, aS, aT, aU, aV, aW, aX, aY, aZ, bA, bB, bC, bD, bE, bF, bG, bH, bI, bJ, bK, bL, bM, bN, bO, bP, bQ, bR, bS, bT, bU, bV, bW, bX, bY, bZ, cA, cB, cC, cD, cE, cF, cG, cH, cI, cJ, cK, cL, cM, cN, cO, cP, cQ, cR, cS, cT, cU, cV, cW, cX, cY, cZ, dA, dB, dC, dD, dE, dF, dG, dH, dI, dJ, dK, dL, dM, dN, dO, dP, dQ, dR, dS, dT, dU, dV, dW, dX, dY, dZ, eA, eB, eC, eD, eE, eF, eG, eH, eI, eJ, eK, eL, eM, eN, eO, eP, eQ, eR, eS, eT, eU, eV, eW, eX, eY, eZ, fA, fB, fC, fD, fE, fF, fG, fH, fI, fJ, fK, fL, fM, fN, fO, fP, fQ, fR, fS, fT, fU, fV, fW, fX, fY, fZ, gA, gB, gC, gD, gE, gF, gG, gH, gI, gJ, gK, gL, gM, gN, gO, gP, gQ, gR, gS, gT, gU, gV, gW, gY, gZ, hA, hB, hC, hD, hE, hF, hG, hH, hI, hJ, hL, hN, hO, hP, hQ, hS, hT, hU, hV, hW, hY, hZ, iA, iB, iC, iD, iE, iF, iG, iH, iI, iJ, iK, iL, iM, iN, iO, iP, iQ, iR, iS, iT, iU, iV, iW, iX, iY, iZ, jA, jB, jC, jD, jE, jF, jG, jH, jI], []⟩ w := by
  have y0 : w.cell? ⟨q, 0, none⟩ = some (.slice ra rn rc) := by simp [World.cell?, HB.out.2]
  rw [doP2_eq]
  refine wp_seq ?_
  conv => arg 2; whnf
  by_cases h0 : cut < 0
  · have h1 : decide (0 ≤ cut) = false := by simp; omega
    have h1i : ¬ (0 ≤ cut) := by omega
    clear hcut h0
    go_wp2_with fail
    exact vw_do3 C0 w0 gg i q cut x C L w HG HK ra ma da rn rc mn mc dn dc HB c t0 ds ms HS HSm HC HT HM _ _ _ _ _ _ _ _ _ _ _ _ _ _ _ _ _ _ _ _ _ _ _ _ _ _ _ _ _ _ _ _ _ _ _ _ _ _ _ _ _ _ _ _ _ _ _ _ _ _ _ _ _ _ _ _ _ _ _ _ _ _ _ _ _ _ _ _ _ _ _ _ _ _ _ _ _ _ _ _ _ _ _ _ _ _ _ _ _ _ _ _ _ _ _ _ _ _ _ _ _ _ _ _ _ _ _ _ _ _ _ _ _ _ _ _ _ _ _ _ _ _ _ _ _ _ _ _ _ _ _ _ _ _ _ _ _ _ _ _ _ _ _ _ _ _ _ _ _ _ _ _ _ _ _ _ _ _ _ _ _ _ _ _ _ _ _ _ _ _ _ _ _ _ _ _ _ _ _ _ _ _ _ _ _ _ _ _ _ _ _ _ _ _ _ _ _ _ _ _ _ _ _ _ _ _ _ _ _ _ _ _ _ _ _ _ _ _ _ _ _ _ _ _ _ _ _ _ _ _ _ _ _ _ _ _ _ _ _ _ _ _ _ _
  · have h1 : decide (0 ≤ cut) = true := by simp; omega
    have h1i : 0 ≤ cut := by omega
    have h2 : decide (cut < (rn : Int)) = false := by simp; omega
    have h2i : ¬ (cut < (rn : Int)) := by omega
    clear hcut h0
    go_wp2_with fail
    exact vw_do3 C0 w0 gg i q cut x C L w HG HK ra ma da rn rc mn mc dn dc HB c t0 ds ms HS HSm HC HT HM _ _ _ _ _ _ _ _ _ _ _ _ _ _ _ _ _ _ _ _ _ _ _ _ _ _ _ _ _ _ _ _ _ _ _ _ _ _ _ _ _ _ _ _ _ _ _ _ _ _ _ _ _ _ _ _ _ _ _ _ _ _ _ _ _ _ _ _ _ _ _ _ _ _ _ _ _ _ _ _ _ _ _ _ _ _ _ _ _ _ _ _ _ _ _ _ _ _ _ _ _ _ _ _ _ _ _ _ _ _ _ _ _ _ _ _ _ _ _ _ _ _ _ _ _ _ _ _ _ _ _ _ _ _ _ _ _ _ _ _ _ _ _ _ _ _ _ _ _ _ _ _ _ _ _ _ _ _ _ _ _ _ _ _ _ _ _ _ _ _ _ _ _ _ _ _ _ _ _ _ _ _ _ _ _ _ _ _ _ _ _ _ _ _ _ _ _ _ _ _ _ _ _ _ _ _ _ _ _ _ _ _ _ _ _ _ _ _ _ _ _ _ _ _ _ _ _ _ _ _ _ _ _ _ _ _ _ _ _ _ _ _ _ _
set_option maxRecDepth 1000000 in
set_option maxHeartbeats 0 in
theorem vw_do2b (C0 : Col) (w0 : World) (gg i q : Nat) (cut : Int) (x : Gx) (C : Col) (L : GrL) (w : World) (HG : RowKit.Hid (GrM C w gg x L)) (HK : RowKit.Hid (KpA C0 w0 C w)) (ra ma da : Option Addr) (rn rc mn mc dn dc : Nat)
    (HB : RowKit.Hid (Im C q ∧ w.heap[q]? = some (.cells #[.slice ra rn rc, .slice ma mn mc, .slice da dn dc] 107 (0, 0)))) (k : Vw.Keep) (HC : RowKit.Hid (i < x.n ∧ x.ks[i]? = some k ∧ (0 ≤ k.normal ∧ k.normal ≤ k.view ∧ k.view ≤ 1099511627776) ∧ Vw.Small k.log))
    (hcut : 0 ≤ cut ∧ cut < (rn : Int)) (u2 u4 u5 u7 u8 u9 aA aB aC aD aE aF aG aH aI aJ aK aL aM aN aO aP aQ aR aS aT aU aV aW aX aY aZ bA bB bC bD bE bF bG bH bI bJ bK bL bM bN bO bP bQ bR bS bT bU bV bW bX bY bZ cA cB cC cD cE cF cG cH cI cJ cK cL cM cN cO cP cQ cR cS cT cU cV cW cX cY cZ dA dB dC dD dE dF dG dH dI dJ dK dL dM dN dO dP dQ dR dS dT dU dV dW dX dY dZ eA eB eC eD eE eF eG eH eI eJ eK eL eM eN eO eP eQ eR eS eT eU eV eW eX eY eZ fA fB fC fD fE fF fG fH fI fJ fK fL fM fN fO fP fQ fR fS fT fU fV fW fX fY fZ gA gB gC gD gE gF gG gH gI gJ gK gL gM gN gO gP gQ gR gS gT gU gV gW gY gZ hA hB hC hD hE hF hG hH hI hJ hL hN hO hP hQ hS hT hU hV hW hY hZ iA iB iC iD iE iF iG iH iI iJ iK iL iM iN iO iP iQ iR iS iT iU iV iW iX iY iZ jA jB jC jD jE jF jG jH jI : Value) :
    Code.wp Try.prog doP2 (bodyPost Try.prog Try.f66 fun e w' => e = .returned (.tuple #[]) ∧ GrTo C0 w0 w' gg ({ x with core := updI x.core ((i : Int) + 1) (Vw.Core.new ((i : Int) + 1) x.n 2 x.pat k), told := x.told.set i 0 })) ⟨#[.pointer (some ⟨gg, 0, none⟩), .int .i64 i, u2, .int .i64 cut, u4, u5, .pointer (some ⟨q, 0, none⟩), u7, u8, u9, aA, aB, aC, aD, aE, aF, aG, aH, aI, aJ, aK, aL, aM, aN, aO, aP, aQ, aR, aS, aT, aU, aV, aW, aX, aY, aZ, bA, bB, bC, bD, bE, bF, bG, bH, bI, bJ, bK, bL, bM, bN, bO, bP, bQ, bR, bS, bT, bU, bV, bW, bX, bY, bZ, cA, cB, cC, cD, cE, cF, cG, cH, cI, cJ, cK, cL, cM, cN, cO, cP, cQ, cR, cS, cT, cU, cV, cW, cX, cY, cZ, dA, dB, dC, dD, dE, dF, dG, dH, dI, dJ, dK, dL, dM, dN, dO, dP, dQ, dR, dS, dT, dU, dV, dW, dX, dY, dZ, eA, eB, eC, eD, eE, eF, eG, eH, eI, eJ, eK, eL, eM, eN, eO, eP, eQ, eR, eS, eT, eU, eV, eW, eX, eY, eZ, fA, fB, fC, fD, fE, fF, fG, fH, fI, fJ, fK, fL, fM, fN, fO, fP, fQ, fR, fS, fT, fU, fV, fW, fX, fY, fZ, gA, gB, gC, gD, gE, gF, gG, gH, gI, gJ, gK, gL, gM, gN, gO, gP, gQ, gR, gS, gT, gU, gV, gW, gY, gZ, hA, hB, hC, hD, hE, hF, hG, hH, hI, hJ, hL, hN, hO, hP, hQ, hS, hT, hU, hV, hW, hY, hZ, iA, iB, iC, iD, iE, iF, iG, iH, iI, iJ, iK, iL, iM, iN, iO, iP, iQ, iR, iS, iT, iU, iV, iW, iX, iY, iZ, jA, jB, jC, jD, jE, jF, jG, jH, jI], []⟩ w := by
  have y0 : w.cell? ⟨q, 0, none⟩ = some (.slice ra rn rc) := by simp [World.cell?, HB.out.2]
  have hbg := vw_gbegin w HG.out i HC.out.1 k HC.out.2.1 HC.out.2.2.1 HC.out.2.2.2
  have Hbg := Lib.hid hbg
  have h1 : decide (0 ≤ cut) = true := by simp; omega
  have h1i : 0 ≤ cut := by omega
  have h2 : decide (cut < (rn : Int)) = true := by simp; omega
  have h2i : cut < (rn : Int) := by omega
  clear hcut hbg
  rw [doP2_eq]
  refine wp_seq ?_
  conv => arg 2; whnf
  go_wp2_with fail
  refine Hbg.out.mono ?_
  rintro e w1 ⟨rfl, ht⟩
  have HT1 := Lib.hid (GrTo.trans HK.out ht)
  clear ht Hbg y0
  go_wp2_with fail
  refine bodyPost_ret (v := .tuple #[]) (by simp [results, Try.results66, go_sem]) rfl ?_
  exact ⟨rfl, HT1.out⟩
end Go.Proofs.Ytmmgnbdngpkfcaa

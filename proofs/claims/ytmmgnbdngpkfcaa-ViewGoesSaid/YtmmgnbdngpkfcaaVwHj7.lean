/-
  A group's step, walked: a message.
  A group's step, walked: a message.
-/
import Derived.Test.YtmmgnbdngpkfcaaVwHj
import Derived.Test.YtmmgnbdngpkfcaaVwGt
namespace Go.Proofs.Ytmmgnbdngpkfcaa
open Go.RowKit
set_option linter.unusedVariables false
set_option linter.unusedSimpArgs false

set_option maxRecDepth 1000000 in
set_option maxHeartbeats 0 in
theorem vw_spM2 (C0 : Col) (w0 : World) (gg q i0 : Nat) (cut : Int) (k N I : Int) (x : Vw.Gr) (K : Nat) (C : Col) (L : GrL) (w : World) (HG : RowKit.Hid (GrM C w gg (toGx x) L)) (HK : RowKit.Hid (KpA C0 w0 C w)) (HI : RowKit.Hid (Vw.GrI x K ∧ K ≤ 1000000))
    (HB : RowKit.Hid (Im C q ∧ w.heap[q]? = some (.cells #[.int .i64 k, .int .i64 N, .int .i64 I] 120 (0, 0)))) (HN : RowKit.Hid ((i0 : Int) = N % 65536 % x.n ∧ i0 < x.n ∧ cut = if 6 ≤ k then I % 4 else -1)) (hk : k = 2) {u1 u2 u6 u7 u8 u9 aA aB aC aD aE aF aG aH aI aJ aK aL aM aN aO aP aQ aR aS aT aU aV aW aX aY aZ bA bB bC bD bE bF bG bH bI bJ bK bL bM bN bO bP bQ bR bS bT bU bV bW bX bY bZ cA cB cC cD cE cF cG cH cI cJ cK cL cM cN cO cP cQ cR cS cT cU cV cW cX cY cZ dA dB dC dD dE dF dG dH dI dJ dK dL dM dN dO dP dQ dR dS dT dU dV dW dX dY dZ eA eB eC eD eE eF eG eH eI eJ eK eL eM eN eO eP eQ eR eS eT eU eV eW eX eY eZ fA fB fC fD fE fF fG fH fI fJ fK fL fM : Value} :
    Code.wp Try.prog spP4 (bodyPost Try.prog Try.f65 fun e w' => e = .returned (.tuple #[]) ∧ GrTo C0 w0 w' gg (toGx (Vw.grStep x k N I))) ⟨#[.pointer (some ⟨gg, 0, none⟩), u1, u2, .pointer (some ⟨q, 0, none⟩), .int .i64 i0, .int .i64 cut, u6, u7, u8, u9, aA, aB, aC, aD, aE, aF, aG, aH, aI, aJ, aK, aL, aM, aN, aO, aP, aQ, aR, aS, aT, aU, aV, aW, aX, aY, aZ, bA, bB, bC, bD, bE, bF, bG, bH, bI, bJ, bK, bL, bM, bN, bO, bP, bQ, bR, bS, bT, bU, bV, bW, bX, bY, bZ, cA, cB, cC, cD, cE, cF, cG, cH, cI, cJ, cK, cL, cM, cN, cO, cP, cQ, cR, cS, cT, cU, cV, cW, cX, cY, cZ, dA, dB, dC, dD, dE, dF, dG, dH, dI, dJ, dK, dL, dM, dN, dO, dP, dQ, dR, dS, dT, dU, dV, dW, dX, dY, dZ, eA, eB, eC, eD, eE, eF, eG, eH, eI, eJ, eK, eL, eM, eN, eO, eP, eQ, eR, eS, eT, eU, eV, eW, eX, eY, eZ, fA, fB, fC, fD, fE, fF, fG, fH, fI, fJ, fK, fL, fM], []⟩ w := by
  obtain ⟨hiN, hi, hcut⟩ := HN.out
  obtain ⟨⟨G, hGo⟩, hsu, hmlen, hn5, hp5⟩ := HI.out.1
  have hKb := HI.out.2
  have e0 : w.cell? ⟨q, 0, none⟩ = some (.int .i64 k) := by simp [World.cell?, HB.out.2]
  have e1 : w.cell? ⟨q, 1, none⟩ = some (.int .i64 N) := by simp [World.cell?, HB.out.2]
  obtain ⟨ma, mc, hmv, hm1, hm2⟩ := HG.out.p.mails.shape
  obtain ⟨mn, hmn⟩ : ∃ mn, mn = x.mail.length := ⟨_, rfl⟩
  change L.mv = .slice ma x.mail.length mc at hmv
  change x.mail.length ≤ mc at hm1
  rw [← hmn] at hmv hm1
  have y4 := HG.out.c4
  rw [hmv] at y4
  have hstep : Vw.grStep x k N I = Vw.grMail x k N cut := by
    unfold Vw.grStep
    simp only
    rw [if_neg (by omega), if_pos (by omega), ← hcut]
  by_cases h0 : mn = 0
  · subst h0
    have HTo : RowKit.Hid (GrTo C0 w0 w gg (toGx (Vw.grStep x k N I))) := Lib.hid (by
      have : Vw.grMail x k N cut = x := by
        unfold Vw.grMail
        rw [List.eq_nil_of_length_eq_zero hmn.symm]
        rfl
      rw [hstep, this]; exact GrTo.trans HK.out (GrTo.of HG.out))
    clear hmv hm1 hm2 hmn hiN hi hcut hGo hsu hmlen hn5 hp5 hstep
    subst hk
    conv => arg 2; whnf
    go_wp2_with fail
    refine bodyPost_ret (v := .tuple #[]) (by simp [results, Try.results65, go_sem]) rfl ?_
    exact ⟨rfl, HTo.out⟩
  obtain ⟨j, hj⟩ : ∃ j, j = (N % 65536 % (mn : Int)).toNat := ⟨_, rfl⟩
  have hr0 : 0 ≤ N % 65536 := by omega
  have hjm : N % 65536 % (mn : Int) = (j : Int) := by have := Int.emod_nonneg (N % 65536) (show (mn : Int) ≠ 0 by omega); omega
  have hjl : j < mn := by have := Int.emod_lt_of_pos (N % 65536) (show 0 < (mn : Int) by omega); omega
  obtain ⟨m, hm⟩ : ∃ m, x.mail[j]? = some m := ⟨_, List.getElem?_eq_getElem (by omega)⟩
  have hmem := List.mem_of_getElem? hm
  have hmo := hGo.mail m hmem
  obtain ⟨ito, hito⟩ : ∃ ito : Nat, m.to_ = (ito : Int) + 1 := ⟨(m.to_ - 1).toNat, by have := hmo.to_.1; omega⟩
  have hitn : ito < x.n := by have := hmo.to_.2; rw [hGo.n] at this; omega
  obtain ⟨mb, mo, mc', cs, hmv', hmb, ⟨la, lc, ea, ec, rfl, hl1, hl2, he1, he2⟩, hcs, -, -, -⟩ := HG.out.p.mails.at (k := j) (by show j < x.mail.length; omega)
  have hmj : (toGx x).mail[j]'(by show j < x.mail.length; omega) = m := by
    have h := List.getElem?_eq_getElem (l := x.mail) (i := j) (by omega)
    rw [hm] at h
    injection h with h; exact h.symm
  simp only [hmj] at hl1 hl2 he1 he2 hcs
  rw [hmv] at hmv'
  injection hmv' with ea1 ea2 ea3
  subst ea1
  subst ea3
  obtain ⟨ln, hln⟩ : ∃ ln, ln = m.list.length := ⟨_, rfl⟩
  obtain ⟨en, hen⟩ : ∃ en, en = m.data.length := ⟨_, rfl⟩
  have hrow : msgRow m (.slice la m.list.length lc) (.slice ea m.data.length ec) = [.int .i64 m.kind, .int .i64 m.frm, .int .i64 ((ito : Int) + 1), .int .i64 m.shard, .int .i64 m.view, .int .i64 m.normal, .int .i64 m.at_, .int .i64 m.commit, .int .i64 m.id, .int .i64 m.err, .slice la ln lc, .slice ea en ec] := by unfold msgRow; rw [hito, ← hln, ← hen]
  have HR : RowKit.Hid (∀ W : World, W.heap = w.heap → W.rangeAt mb (mo + j * 12) [.int .i64 m.kind, .int .i64 m.frm, .int .i64 ((ito : Int) + 1), .int .i64 m.shard, .int .i64 m.view, .int .i64 m.normal, .int .i64 m.at_, .int .i64 m.commit, .int .i64 m.id, .int .i64 m.err, .slice la ln lc, .slice ea en ec]) := Lib.hid fun W hW k v hv => by
    have h1 := hcs k v (by rw [hrow]; exact hv)
    change w.cell? ⟨mb, mo + j * 12 + k, none⟩ = some v at h1
    rw [← h1]; simp [World.cell?, hW]
  have Hrep : RowKit.Hid (∀ (C' : Col) (W : World), (∀ b, Im C b → b < w.heap.size → W.heap[b]? = w.heap[b]? ∧ Im C' b) → EMsg.rep (Im C') W [.int .i64 m.kind, .int .i64 m.frm, .int .i64 ((ito : Int) + 1), .int .i64 m.shard, .int .i64 m.view, .int .i64 m.normal, .int .i64 m.at_, .int .i64 m.commit, .int .i64 m.id, .int .i64 m.err, .slice la ln lc, .slice ea en ec] m) := Lib.hid fun C' W hW =>
    EMsg.mono (ok := Im C) ⟨la, lc, ea, ec, hrow.symm, hl1, hl2, he1, he2⟩ hW
  have hmail : Vw.grMail x k N cut = (let x1 : Vw.Gr := if k ≠ 3 then { x with mail := x.mail.take j ++ x.mail.drop (j + 1) } else x; if k ≠ 2 then Vw.grDo x1 m.to_ ((x1.core m.to_).in_ m) cut else x1) := by
    unfold Vw.grMail
    rw [← hmn, ← hj, hm]
  have hand : bits .and .i64 N 65535 = N % 65536 := bits_and65535 N
  obtain ⟨r, hr⟩ : ∃ r, r = N % 65536 := ⟨_, rfl⟩
  rw [← hr] at hand hjm hr0
  have htm : Int.tmod r (mn : Int) = (j : Int) := by rw [Int.tmod_eq_emod_of_nonneg hr0]; exact hjm
  have hmne : ¬ (mn : Int) = 0 := by omega
  have hmz : ¬ mn = 0 := h0
  have hm0 : ((mn : Int) == 0) = false := by simp; omega
  have hmn11 : mn ≤ 100000000000 := by rw [hmn]; omega
  have hwr2 : IntKind.i64.wrap (r % (mn : Int)) = (j : Int) := by rw [hjm]; exact IntWalk.i64_in _ (by omega)
  have hwr3 : IntKind.i64.wrap (Int.tmod r (mn : Int)) = (j : Int) := by rw [htm]; exact IntWalk.i64_in _ (by omega)
  have hwj : IntKind.i64.wrap (j : Int) = (j : Int) := IntWalk.i64_in _ (by omega)
  have Hfacts := Lib.hid (And.intro hGo (And.intro hsu (And.intro hmo (And.intro hito (And.intro hitn (And.intro hm (And.intro hmn (And.intro hstep hmail))))))))
  have Hmv := Lib.hid (And.intro hmv (And.intro hm1 hm2))
  clear hmv hm1 hm2 hmn hiN hi hcut hGo hsu hmlen hn5 hp5 hstep h0 hj hm hmem hmo hito hitn hmb hl1 hl2 he1 he2 hcs hmj ea2 hln hen hrow hmail hr
  subst hk
  conv => arg 2; whnf
  go_wp2_with fail
  go_region_held3 (fun W => W.cell? ⟨q, 1, none⟩ = some (.int .i64 N) ∧ W.cell? ⟨gg, 4, none⟩ = some (.slice (some ⟨mb, mo, none⟩) mn mc)) (first | exact ⟨e1, y4⟩ | go_keep) (fail)
  obtain ⟨w5, hw5⟩ : ∃ w5, w5 = w.drew := ⟨_, rfl⟩
  have G5 : RowKit.Hid (GrM C w5 gg (toGx x) L ∧ KpA C w C w5) := Lib.hid (by rw [hw5]; exact ⟨HG.out.below (Below.refl _ _).drew, KpA.below HG.out (Below.refl _ _).drew⟩)
  have HR5 := Lib.hid (HR.out w5 (by rw [hw5]; rfl))
  have q0 : w5.cell? ⟨q, 0, none⟩ = some (.int .i64 2) := by rw [hw5]; exact e0
  have q4 : w5.cell? ⟨gg, 4, none⟩ = some (.slice (some ⟨mb, mo, none⟩) mn mc) := by rw [hw5]; exact y4
  have Hh5 : RowKit.Hid (w5.heap = w.heap) := Lib.hid (by rw [hw5]; rfl)
  rw [← hw5]
  clear hw5 e0 e1 y4 HR hand htm hmne hmz hwr2 hwr3 hm0 hjm hr0
  obtain ⟨W1, hW1⟩ : ∃ W1, W1 = w5.alloc (.cells #[.int .i64 m.kind, .int .i64 m.frm, .int .i64 ((ito : Int) + 1), .int .i64 m.shard, .int .i64 m.view, .int .i64 m.normal, .int .i64 m.at_, .int .i64 m.commit, .int .i64 m.id, .int .i64 m.err, .slice la ln lc, .slice ea en ec] 89) := ⟨_, rfl⟩
  obtain ⟨p, hp⟩ : ∃ p, p = w5.heap.size := ⟨_, rfl⟩
  have hb1 : Below w5.heap.size w5 W1 := by rw [hW1]; exact alloc_below _ _
  have hh1 : W1.heap[p]? = some (.cells #[.int .i64 m.kind, .int .i64 m.frm, .int .i64 ((ito : Int) + 1), .int .i64 m.shard, .int .i64 m.view, .int .i64 m.normal, .int .i64 m.at_, .int .i64 m.commit, .int .i64 m.id, .int .i64 m.err, .slice la ln lc, .slice ea en ec] 89 (0, 0)) := by rw [hW1, hp]; exact heap_alloc_new w5 _
  have hpi : Im C p := Classical.byContradiction fun h => by have := G5.out.1.p.dom _ h; omega
  have G1 : RowKit.Hid (GrM C W1 gg (toGx x) L ∧ KpA C w C W1) := Lib.hid ⟨G5.out.1.below hb1, G5.out.2.trans (KpA.below G5.out.1 hb1)⟩
  have P1 := Lib.hid (And.intro hpi hh1)
  have d0 := cell_thru q0 hb1
  have d4 := cell_thru q4 hb1
  have HW1 := Lib.hid hW1.symm
  have Hp := Lib.hid hp
  have Hs12 : RowKit.Hid ((Try.prog.info? 89).map (·.size) = some (#[.int .i64 m.kind, .int .i64 m.frm, .int .i64 ((ito : Int) + 1), .int .i64 m.shard, .int .i64 m.view, .int .i64 m.normal, .int .i64 m.at_, .int .i64 m.commit, .int .i64 m.id, .int .i64 m.err, .slice la ln lc, .slice ea en ec] : Array Value).size) := Lib.hid size_vmsg
  have Hz : RowKit.Hid ((w5.alloc (.cells zmsg 89)).heap[w5.heap.size]? = some (.cells zmsg 89 (0, 0))) := Lib.hid (heap_alloc_new w5 _)
  clear hW1 hp hb1 hh1 hpi
  go_upto_region 16 with (first
    | (refine wpList_load_mid rfl _ _ rfl mb (mo + j * 12) rfl [.int .i64 m.kind, .int .i64 m.frm, .int .i64 ((ito : Int) + 1), .int .i64 m.shard, .int .i64 m.view, .int .i64 m.normal, .int .i64 m.at_, .int .i64 m.commit, .int .i64 m.id, .int .i64 m.err, .slice la ln lc, .slice ea en ec] _ HR5.out Try.underlying89 rfl Hs12.out ?_)
    | (refine wpList_storeRow rfl _ _ _ rfl w5.heap.size rfl zmsg #[.int .i64 m.kind, .int .i64 m.frm, .int .i64 ((ito : Int) + 1), .int .i64 m.shard, .int .i64 m.view, .int .i64 m.normal, .int .i64 m.at_, .int .i64 m.commit, .int .i64 m.id, .int .i64 m.err, .slice la ln lc, .slice ea en ec] rfl 89 Hz.out Hs12.out rfl rfl ?_))
  rw [HW1.out, ← Hp.out]
  clear q0 q4 HW1 Hz HR5
  -- it is taken out
  have hadd : IntKind.i64.wrap ((j : Int) + 1) = (j : Int) + 1 := IntWalk.i64_in _ (by omega)
  go_upto_region 17 with fail
  have kA := alloc_below W1 (.cells #[] 89)
  have kA4 := cell_thru d4 kA
  have HkA := Lib.hid kA
  have HhA := Lib.hid (heap_alloc_new W1 (.cells #[] 89))
  have HN : RowKit.Hid (∀ X : World, Below W1.heap.size W1 X → X.heap[W1.heap.size]? = some (.cells #[] 89 (0, 0)) →
      GrP (fun _ => False) (nmC C W1.heap.size) X { toGx x with mail := [] } { L with mv := .slice (some ⟨W1.heap.size, 0, none⟩) 0 0 } ∧ KpA C W1 (nmC C W1.heap.size) X ∧ Sl EMsg (Im (nmC C W1.heap.size)) X (some ⟨mb, mo, none⟩) x.mail ∧ (X.heap[gg]? = some (.cells (grRow (toGx x) L) 124 (0, 0)) ∧ nmC C W1.heap.size gg = 1)) := Lib.hid fun X hX hh => G1.out.1.newMail hX (Nat.le_refl _) hh Hmv.out.1
  have hjn : j + 1 ≤ mn := hjl
  have hmnc := Hmv.out.2.1
  have Htl : RowKit.Hid ((x.mail.take j).length = j ∧ (x.mail.drop (j + 1)).length = mn - (j + 1) ∧ mn = x.mail.length) := Lib.hid ⟨by rw [List.length_take, ← Hfacts.out.2.2.2.2.2.2.1]; omega, by rw [List.length_drop, ← Hfacts.out.2.2.2.2.2.2.1], Hfacts.out.2.2.2.2.2.2.1⟩
  -- the second part's address
  obtain ⟨a2, ha2⟩ : ∃ a2 : Option Addr, a2 = if mc = j + 1 then some ⟨mb, mo, none⟩ else some ⟨mb, mo + (j + 1) * 12, none⟩ := ⟨_, rfl⟩
  have Ha2 : RowKit.Hid (∀ (C' : Col) (W : World), Sl EMsg (Im C') W (some ⟨mb, mo, none⟩) x.mail → Sl EMsg (Im C') W a2 (x.mail.drop (j + 1))) := Lib.hid fun C' W h => by
    rw [ha2]
    split
    · have e0 : x.mail.drop (j + 1) = [] := List.eq_nil_of_length_eq_zero (by rw [Htl.out.2.1]; omega)
      rw [e0]; exact Sl.nil _ _ _ _
    · exact h.dropQ (j + 1)
  have HArm : RowKit.Hid (∀ (X w4 : World) (C4 : Col) (g4 o4 n4 c4 : Nat), OwnQ C4 4 EMsg 89 w4 (.slice (some ⟨g4, o4, none⟩) n4 c4) ([] ++ x.mail.take j) → Kp (· = 4) (nmC C W1.heap.size) X C4 w4 → Below W1.heap.size W1 X → X.heap[W1.heap.size]? = some (.cells #[] 89 (0, 0)) →
      w4.cell? ⟨gg, 4, none⟩ = some (.slice (some ⟨mb, mo, none⟩) mn mc) ∧ (∀ o, w4.frozen? ⟨gg, o, none⟩ = false) ∧ RowKit.Hid (OwnQ C4 4 EMsg 89 w4 (.slice (some ⟨g4, o4, none⟩) n4 c4) (x.mail.take j) ∧ (∀ k, C4 k ≠ 0 → k < w4.heap.size) ∧ Sl EMsg (Im C4) w4 a2 (x.mail.drop (j + 1)) ∧
        ∀ (w5 : World) (C5 : Col) (g5 o5 n5 c5 : Nat), OwnQ C5 4 EMsg 89 w5 (.slice (some ⟨g5, o5, none⟩) n5 c5) (x.mail.take j ++ x.mail.drop (j + 1)) → Kp (· = 4) C4 w4 C5 w5 →
          w5.cell? ⟨gg, 4, none⟩ = some (.slice (some ⟨mb, mo, none⟩) mn mc) ∧ w5.frozen? ⟨gg, 4, none⟩ = false ∧ RowKit.Hid (GrM C5 (w5.setCell ⟨gg, 4, none⟩ (.slice (some ⟨g5, o5, none⟩) n5 c5)) gg (toGx { x with mail := x.mail.take j ++ x.mail.drop (j + 1) }) { L with mv := .slice (some ⟨g5, o5, none⟩) n5 c5 } ∧ KpA C W1 C5 (w5.setCell ⟨gg, 4, none⟩ (.slice (some ⟨g5, o5, none⟩) n5 c5))))) := Lib.hid fun X w4 C4 g4 o4 n4 c4 ho4 hk4 hX hh => by
    obtain ⟨n1, n2, n3, n4', n5⟩ := HN.out X hX hh
    have hggz : gg < X.heap.size := (Array.getElem?_eq_some_iff.1 n4').1
    obtain ⟨r1, r2⟩ := hk4.blk hggz (by rw [n5]; decide)
    have r1 := r1.trans n4'
    have r2 := r2.trans n5
    have hp4 := n1.turn4 hk4 ho4
    rw [List.nil_append] at ho4 hp4
    have hcell : ∀ W : World, W.heap[gg]? = some (.cells (grRow (toGx x) L) 124 (0, 0)) → W.cell? ⟨gg, 4, none⟩ = some (.slice (some ⟨mb, mo, none⟩) mn mc) ∧ ∀ o, W.frozen? ⟨gg, o, none⟩ = false := fun W hW => by
      refine ⟨?_, fun o => by simp [World.frozen?, hW]⟩
      rw [← Hmv.out.1]
      simp [World.cell?, hW, grRow]
    refine ⟨(hcell w4 r1).1, (hcell w4 r1).2, Lib.hid ⟨ho4, hp4.dom, Ha2.out C4 w4 (n3.mono (by decide) fun b hb hlt => hk4.im (by decide) hb hlt), fun w5 C5 g5 o5 n5' c5 ho5 hk5 => ?_⟩⟩
    have hggz4 : gg < w4.heap.size := (Array.getElem?_eq_some_iff.1 r1).1
    obtain ⟨s1, s2⟩ := hk5.blk hggz4 (by rw [r2]; decide)
    have s1 := s1.trans r1
    have s2 := s2.trans r2
    have hp5 := hp4.turn4 hk5 ho5
    obtain ⟨m5, k5⟩ := GrM.put (x' := toGx { x with mail := x.mail.take j ++ x.mail.drop (j + 1) }) (L' := { L with mv := .slice (some ⟨g5, o5, none⟩) n5' c5 }) s1 s2 G1.out.1.nn G1.out.1.pp hp5 (setg (S := (· = gg)) (Only.refl _ w5) rfl 4 (.slice (some ⟨g5, o5, none⟩) n5' c5)) (by rw [heap_set s1 4 _]; rfl)
    exact ⟨(hcell w5 s1).1, (hcell w5 s1).2 4, Lib.hid ⟨m5, n2.trans (((hk4.any (by decide)).trans (hk5.any (by decide))).trans k5)⟩⟩
  have hci : (mc = j + 1 ∧ a2 = some ⟨mb, mo, none⟩) ∨ (¬ mc = j + 1 ∧ a2 = some ⟨mb, mo + (j + 1) * 12, none⟩) := by
    rw [ha2]
    by_cases e : mc = j + 1
    · exact .inl ⟨e, if_pos e⟩
    · exact .inr ⟨e, if_neg e⟩
  have hj63 : j ≤ 100000000000 := by omega
  have hi1 : (j : Int) ≤ (mc : Int) := by omega
  have hi2 : (j : Int) + 1 ≤ (mn : Int) := by omega
  have hi3 : (0 : Int) ≤ (j : Int) := by omega
  have hjm1 : j ≤ mn := by omega
  have hjc1 : j ≤ mc := by omega
  have hjc2 : j + 1 ≤ mc := by omega
  have hSl1 : ∀ W : World, (Instr.slice 83 (.slice (some ⟨mb, mo, none⟩) mn mc) none (some (.int .i64 (j : Int))) none).run Try.prog W = .ok (.slice (some ⟨mb, mo, none⟩) j mc) W := slice_mail_to j hjc1
  have hSl2 : ∀ W : World, (Instr.slice 83 (.slice (some ⟨mb, mo, none⟩) mn mc) (some (.int .i64 ((j : Int) + 1))) none none).run Try.prog W = .ok (.slice a2 (mn - (j + 1)) (mc - (j + 1))) W := fun W => by
    have h := slice_mail_from (a := some ⟨mb, mo, none⟩) (n := mn) (c := mc) (j + 1) hjn hmnc W
    rw [Option.map_some, Addr.add_lit] at h
    rw [ha2]
    exact h
  clear ha2 kA hci
  clear hi1 hi2 hi3 hjm1 hjc1 hjc2 hjn hmnc
  all_goals
    go_wp2_with fail
    go_region_law ((rw [if_pos (by simp [Region.wanted])]
                    first
                      | (refine step_appQ0 (l := []) (l2 := x.mail.take j) EMsg (by rfl) (by rfl) (by rfl) ti_mails (HN.out _ (by first | exact HkA.out | exact HkA.out.drew) HhA.out).1.mails (by decide) (HN.out _ (by first | exact HkA.out | exact HkA.out.drew) HhA.out).1.dom Htl.out.1.symm (Sl.takeQ (HN.out _ (by first | exact HkA.out | exact HkA.out.drew) HhA.out).2.2.1 j) (by rw [Htl.out.1]; unfold maxLen; simp; omega) (by rw [Htl.out.1]; simp; omega) ?_
                         intro g4 o4 n4 c4 w4 C4 ho4 hk4 hn4
                         obtain ⟨z4, zf4, HP4⟩ := HArm.out _ w4 C4 g4 o4 n4 c4 ho4 hk4 (by first | exact HkA.out | exact HkA.out.drew) HhA.out
                         clear ho4 hk4 hn4)
                      | (refine step_appQ0 (l := x.mail.take j) (l2 := x.mail.drop (j + 1)) EMsg (by rfl) (by rfl) (by rfl) ti_mails HP4.out.1 (by decide) HP4.out.2.1 Htl.out.2.1.symm HP4.out.2.2.1 (by rw [Htl.out.1, Htl.out.2.1]; unfold maxLen; omega) (by rw [Htl.out.1, Htl.out.2.1]; omega) ?_
                         intro g5 o5 n5 c5 w6 C6 ho5 hk5 hn5
                         obtain ⟨z5, zf5, HM6⟩ := HP4.out.2.2.2 w6 C6 g5 o5 n5 c5 ho5 hk5
                         clear ho5 hk5 hn5)))
    all_goals
      obtain ⟨w7, hw7⟩ : ∃ w7, w7 = w6.setCell ⟨gg, 4, none⟩ (.slice (some ⟨g5, o5, none⟩) n5 c5) := ⟨_, rfl⟩
      obtain ⟨L7, hL7⟩ : ∃ L7, L7 = { L with mv := .slice (some ⟨g5, o5, none⟩) n5 c5 } := ⟨_, rfl⟩
      obtain ⟨C7, hC7⟩ : ∃ C7, C7 = C6 := ⟨_, rfl⟩
      obtain ⟨x1, hx1⟩ : ∃ x1 : Vw.Gr, x1 = { x with mail := x.mail.take j ++ x.mail.drop (j + 1) } := ⟨_, rfl⟩
      have M7 : RowKit.Hid (GrM C7 w7 gg (toGx x1) L7) := Lib.hid (by rw [hC7, hw7, hx1, hL7]; exact HM6.out.1)
      have K17 : RowKit.Hid (KpA C W1 C7 w7) := Lib.hid (by rw [hC7, hw7]; exact HM6.out.2)
      rw [← hw7]
      have Hx1 := Lib.hid hx1
      clear hw7 hL7 hC7 hx1 HM6 z5 zf5 z4 zf4 HP4 kA4 d4 d0
      have P7 : RowKit.Hid (Im C7 p ∧ w7.heap[p]? = some (.cells #[.int .i64 m.kind, .int .i64 m.frm, .int .i64 ((ito : Int) + 1), .int .i64 m.shard, .int .i64 m.view, .int .i64 m.normal, .int .i64 m.at_, .int .i64 m.commit, .int .i64 m.id, .int .i64 m.err, .slice la ln lc, .slice ea en ec] 89 (0, 0))) := Lib.hid (by
        obtain ⟨e1, e2⟩ := KpA.im K17.out P1.out.1 (Array.getElem?_eq_some_iff.1 P1.out.2).1
        exact ⟨e2, e1.trans P1.out.2⟩)
      have K7 : RowKit.Hid (KpA C w C7 w7) := Lib.hid (G1.out.2.trans K17.out)
      have Q7 : RowKit.Hid (w7.cell? ⟨q, 0, none⟩ = some (.int .i64 2)) := Lib.hid (by
        have e1 := (KpA.im K7.out HB.out.1 (Array.getElem?_eq_some_iff.1 HB.out.2).1).1
        have : w.cell? ⟨q, 0, none⟩ = some (.int .i64 2) := by simp [World.cell?, HB.out.2]
        exact (cell_keep e1).trans this)
      obtain ⟨hGo, hsu, hmo, hito, hitn, hm, hmn, hstep, hmail⟩ := Hfacts.out
      have Hxn : RowKit.Hid (x1.n = x.n) := Lib.hid (by rw [Hx1.out])
      have HDone : RowKit.Hid (GrTo C0 w0 w7 gg (toGx (Vw.grStep x 2 N I))) := Lib.hid (by
        rw [hstep, hmail]
        have e : (let x1 : Vw.Gr := if (2 : Int) ≠ 3 then { x with mail := x.mail.take j ++ x.mail.drop (j + 1) } else x; if (2 : Int) ≠ 2 then Vw.grDo x1 m.to_ ((x1.core m.to_).in_ m) cut else x1) = x1 := by rw [Hx1.out]; rfl
        rw [e]
        exact GrTo.trans (HK.out.trans K7.out) (GrTo.of M7.out))
      clear hGo hsu hmo hito hm hmn hstep hmail Hfacts K17 P1 G1
      clear hitn
      have hP7 := P7.out
      have q0 : w7.cell? ⟨q, 0, none⟩ = some (.int .i64 2) := Q7.out
      clear hP7
      go_wp2_with fail
      refine bodyPost_end (v := .tuple #[]) (by simp [results, Try.results65, go_sem]) rfl ?_
      exact ⟨rfl, HDone.out⟩
end Go.Proofs.Ytmmgnbdngpkfcaa

namespace Go.Proofs.Ytmmgnbdngpkfcaa
open Go.RowKit
set_option linter.unusedVariables false
set_option linter.unusedSimpArgs false

set_option maxRecDepth 1000000 in
set_option maxHeartbeats 0 in
theorem vw_spM7 (C0 : Col) (w0 : World) (gg q i0 : Nat) (cut : Int) (k N I : Int) (x : Vw.Gr) (K : Nat) (C : Col) (L : GrL) (w : World) (HG : RowKit.Hid (GrM C w gg (toGx x) L)) (HK : RowKit.Hid (KpA C0 w0 C w)) (HI : RowKit.Hid (Vw.GrI x K ∧ K ≤ 1000000))
    (HB : RowKit.Hid (Im C q ∧ w.heap[q]? = some (.cells #[.int .i64 k, .int .i64 N, .int .i64 I] 120 (0, 0)))) (HN : RowKit.Hid ((i0 : Int) = N % 65536 % x.n ∧ i0 < x.n ∧ cut = if 6 ≤ k then I % 4 else -1)) (hk : k = 7) {u1 u2 u6 u7 u8 u9 aA aB aC aD aE aF aG aH aI aJ aK aL aM aN aO aP aQ aR aS aT aU aV aW aX aY aZ bA bB bC bD bE bF bG bH bI bJ bK bL bM bN bO bP bQ bR bS bT bU bV bW bX bY bZ cA cB cC cD cE cF cG cH cI cJ cK cL cM cN cO cP cQ cR cS cT cU cV cW cX cY cZ dA dB dC dD dE dF dG dH dI dJ dK dL dM dN dO dP dQ dR dS dT dU dV dW dX dY dZ eA eB eC eD eE eF eG eH eI eJ eK eL eM eN eO eP eQ eR eS eT eU eV eW eX eY eZ fA fB fC fD fE fF fG fH fI fJ fK fL fM : Value} :
    Code.wp Try.prog spP4 (bodyPost Try.prog Try.f65 fun e w' => e = .returned (.tuple #[]) ∧ GrTo C0 w0 w' gg (toGx (Vw.grStep x k N I))) ⟨#[.pointer (some ⟨gg, 0, none⟩), u1, u2, .pointer (some ⟨q, 0, none⟩), .int .i64 i0, .int .i64 cut, u6, u7, u8, u9, aA, aB, aC, aD, aE, aF, aG, aH, aI, aJ, aK, aL, aM, aN, aO, aP, aQ, aR, aS, aT, aU, aV, aW, aX, aY, aZ, bA, bB, bC, bD, bE, bF, bG, bH, bI, bJ, bK, bL, bM, bN, bO, bP, bQ, bR, bS, bT, bU, bV, bW, bX, bY, bZ, cA, cB, cC, cD, cE, cF, cG, cH, cI, cJ, cK, cL, cM, cN, cO, cP, cQ, cR, cS, cT, cU, cV, cW, cX, cY, cZ, dA, dB, dC, dD, dE, dF, dG, dH, dI, dJ, dK, dL, dM, dN, dO, dP, dQ, dR, dS, dT, dU, dV, dW, dX, dY, dZ, eA, eB, eC, eD, eE, eF, eG, eH, eI, eJ, eK, eL, eM, eN, eO, eP, eQ, eR, eS, eT, eU, eV, eW, eX, eY, eZ, fA, fB, fC, fD, fE, fF, fG, fH, fI, fJ, fK, fL, fM], []⟩ w := by
  obtain ⟨hiN, hi, hcut⟩ := HN.out
  obtain ⟨⟨G, hGo⟩, hsu, hmlen, hn5, hp5⟩ := HI.out.1
  have hKb := HI.out.2
  have e0 : w.cell? ⟨q, 0, none⟩ = some (.int .i64 k) := by simp [World.cell?, HB.out.2]
  have e1 : w.cell? ⟨q, 1, none⟩ = some (.int .i64 N) := by simp [World.cell?, HB.out.2]
  obtain ⟨ma, mc, hmv, hm1, hm2⟩ := HG.out.p.mails.shape
  obtain ⟨mn, hmn⟩ : ∃ mn, mn = x.mail.length := ⟨_, rfl⟩
  change L.mv = .slice ma x.mail.length mc at hmv
  change x.mail.length ≤ mc at hm1
  rw [← hmn] at hmv hm1
  have y4 := HG.out.c4
  rw [hmv] at y4
  have hstep : Vw.grStep x k N I = Vw.grMail x k N cut := by
    unfold Vw.grStep
    simp only
    rw [if_neg (by omega), if_pos (by omega), ← hcut]
  by_cases h0 : mn = 0
  · subst h0
    have HTo : RowKit.Hid (GrTo C0 w0 w gg (toGx (Vw.grStep x k N I))) := Lib.hid (by
      have : Vw.grMail x k N cut = x := by
        unfold Vw.grMail
        rw [List.eq_nil_of_length_eq_zero hmn.symm]
        rfl
      rw [hstep, this]; exact GrTo.trans HK.out (GrTo.of HG.out))
    clear hmv hm1 hm2 hmn hiN hi hcut hGo hsu hmlen hn5 hp5 hstep
    subst hk
    conv => arg 2; whnf
    go_wp2_with fail
    refine bodyPost_ret (v := .tuple #[]) (by simp [results, Try.results65, go_sem]) rfl ?_
    exact ⟨rfl, HTo.out⟩
  obtain ⟨j, hj⟩ : ∃ j, j = (N % 65536 % (mn : Int)).toNat := ⟨_, rfl⟩
  have hr0 : 0 ≤ N % 65536 := by omega
  have hjm : N % 65536 % (mn : Int) = (j : Int) := by have := Int.emod_nonneg (N % 65536) (show (mn : Int) ≠ 0 by omega); omega
  have hjl : j < mn := by have := Int.emod_lt_of_pos (N % 65536) (show 0 < (mn : Int) by omega); omega
  obtain ⟨m, hm⟩ : ∃ m, x.mail[j]? = some m := ⟨_, List.getElem?_eq_getElem (by omega)⟩
  have hmem := List.mem_of_getElem? hm
  have hmo := hGo.mail m hmem
  obtain ⟨ito, hito⟩ : ∃ ito : Nat, m.to_ = (ito : Int) + 1 := ⟨(m.to_ - 1).toNat, by have := hmo.to_.1; omega⟩
  have hitn : ito < x.n := by have := hmo.to_.2; rw [hGo.n] at this; omega
  obtain ⟨mb, mo, mc', cs, hmv', hmb, ⟨la, lc, ea, ec, rfl, hl1, hl2, he1, he2⟩, hcs, -, -, -⟩ := HG.out.p.mails.at (k := j) (by show j < x.mail.length; omega)
  have hmj : (toGx x).mail[j]'(by show j < x.mail.length; omega) = m := by
    have h := List.getElem?_eq_getElem (l := x.mail) (i := j) (by omega)
    rw [hm] at h
    injection h with h; exact h.symm
  simp only [hmj] at hl1 hl2 he1 he2 hcs
  rw [hmv] at hmv'
  injection hmv' with ea1 ea2 ea3
  subst ea1
  subst ea3
  obtain ⟨ln, hln⟩ : ∃ ln, ln = m.list.length := ⟨_, rfl⟩
  obtain ⟨en, hen⟩ : ∃ en, en = m.data.length := ⟨_, rfl⟩
  have hrow : msgRow m (.slice la m.list.length lc) (.slice ea m.data.length ec) = [.int .i64 m.kind, .int .i64 m.frm, .int .i64 ((ito : Int) + 1), .int .i64 m.shard, .int .i64 m.view, .int .i64 m.normal, .int .i64 m.at_, .int .i64 m.commit, .int .i64 m.id, .int .i64 m.err, .slice la ln lc, .slice ea en ec] := by unfold msgRow; rw [hito, ← hln, ← hen]
  have HR : RowKit.Hid (∀ W : World, W.heap = w.heap → W.rangeAt mb (mo + j * 12) [.int .i64 m.kind, .int .i64 m.frm, .int .i64 ((ito : Int) + 1), .int .i64 m.shard, .int .i64 m.view, .int .i64 m.normal, .int .i64 m.at_, .int .i64 m.commit, .int .i64 m.id, .int .i64 m.err, .slice la ln lc, .slice ea en ec]) := Lib.hid fun W hW k v hv => by
    have h1 := hcs k v (by rw [hrow]; exact hv)
    change w.cell? ⟨mb, mo + j * 12 + k, none⟩ = some v at h1
    rw [← h1]; simp [World.cell?, hW]
  have Hrep : RowKit.Hid (∀ (C' : Col) (W : World), (∀ b, Im C b → b < w.heap.size → W.heap[b]? = w.heap[b]? ∧ Im C' b) → EMsg.rep (Im C') W [.int .i64 m.kind, .int .i64 m.frm, .int .i64 ((ito : Int) + 1), .int .i64 m.shard, .int .i64 m.view, .int .i64 m.normal, .int .i64 m.at_, .int .i64 m.commit, .int .i64 m.id, .int .i64 m.err, .slice la ln lc, .slice ea en ec] m) := Lib.hid fun C' W hW =>
    EMsg.mono (ok := Im C) ⟨la, lc, ea, ec, hrow.symm, hl1, hl2, he1, he2⟩ hW
  have hmail : Vw.grMail x k N cut = (let x1 : Vw.Gr := if k ≠ 3 then { x with mail := x.mail.take j ++ x.mail.drop (j + 1) } else x; if k ≠ 2 then Vw.grDo x1 m.to_ ((x1.core m.to_).in_ m) cut else x1) := by
    unfold Vw.grMail
    rw [← hmn, ← hj, hm]
  have hand : bits .and .i64 N 65535 = N % 65536 := bits_and65535 N
  obtain ⟨r, hr⟩ : ∃ r, r = N % 65536 := ⟨_, rfl⟩
  rw [← hr] at hand hjm hr0
  have htm : Int.tmod r (mn : Int) = (j : Int) := by rw [Int.tmod_eq_emod_of_nonneg hr0]; exact hjm
  have hmne : ¬ (mn : Int) = 0 := by omega
  have hmz : ¬ mn = 0 := h0
  have hm0 : ((mn : Int) == 0) = false := by simp; omega
  have hmn11 : mn ≤ 100000000000 := by rw [hmn]; omega
  have hwr2 : IntKind.i64.wrap (r % (mn : Int)) = (j : Int) := by rw [hjm]; exact IntWalk.i64_in _ (by omega)
  have hwr3 : IntKind.i64.wrap (Int.tmod r (mn : Int)) = (j : Int) := by rw [htm]; exact IntWalk.i64_in _ (by omega)
  have hwj : IntKind.i64.wrap (j : Int) = (j : Int) := IntWalk.i64_in _ (by omega)
  have Hfacts := Lib.hid (And.intro hGo (And.intro hsu (And.intro hmo (And.intro hito (And.intro hitn (And.intro hm (And.intro hmn (And.intro hstep hmail))))))))
  have Hmv := Lib.hid (And.intro hmv (And.intro hm1 hm2))
  clear hmv hm1 hm2 hmn hiN hi hcut hGo hsu hmlen hn5 hp5 hstep h0 hj hm hmem hmo hito hitn hmb hl1 hl2 he1 he2 hcs hmj ea2 hln hen hrow hmail hr
  subst hk
  conv => arg 2; whnf
  go_wp2_with fail
  go_region_held3 (fun W => W.cell? ⟨q, 1, none⟩ = some (.int .i64 N) ∧ W.cell? ⟨gg, 4, none⟩ = some (.slice (some ⟨mb, mo, none⟩) mn mc)) (first | exact ⟨e1, y4⟩ | go_keep) (fail)
  obtain ⟨w5, hw5⟩ : ∃ w5, w5 = w.drew := ⟨_, rfl⟩
  have G5 : RowKit.Hid (GrM C w5 gg (toGx x) L ∧ KpA C w C w5) := Lib.hid (by rw [hw5]; exact ⟨HG.out.below (Below.refl _ _).drew, KpA.below HG.out (Below.refl _ _).drew⟩)
  have HR5 := Lib.hid (HR.out w5 (by rw [hw5]; rfl))
  have q0 : w5.cell? ⟨q, 0, none⟩ = some (.int .i64 7) := by rw [hw5]; exact e0
  have q4 : w5.cell? ⟨gg, 4, none⟩ = some (.slice (some ⟨mb, mo, none⟩) mn mc) := by rw [hw5]; exact y4
  have Hh5 : RowKit.Hid (w5.heap = w.heap) := Lib.hid (by rw [hw5]; rfl)
  rw [← hw5]
  clear hw5 e0 e1 y4 HR hand htm hmne hmz hwr2 hwr3 hm0 hjm hr0
  obtain ⟨W1, hW1⟩ : ∃ W1, W1 = w5.alloc (.cells #[.int .i64 m.kind, .int .i64 m.frm, .int .i64 ((ito : Int) + 1), .int .i64 m.shard, .int .i64 m.view, .int .i64 m.normal, .int .i64 m.at_, .int .i64 m.commit, .int .i64 m.id, .int .i64 m.err, .slice la ln lc, .slice ea en ec] 89) := ⟨_, rfl⟩
  obtain ⟨p, hp⟩ : ∃ p, p = w5.heap.size := ⟨_, rfl⟩
  have hb1 : Below w5.heap.size w5 W1 := by rw [hW1]; exact alloc_below _ _
  have hh1 : W1.heap[p]? = some (.cells #[.int .i64 m.kind, .int .i64 m.frm, .int .i64 ((ito : Int) + 1), .int .i64 m.shard, .int .i64 m.view, .int .i64 m.normal, .int .i64 m.at_, .int .i64 m.commit, .int .i64 m.id, .int .i64 m.err, .slice la ln lc, .slice ea en ec] 89 (0, 0)) := by rw [hW1, hp]; exact heap_alloc_new w5 _
  have hpi : Im C p := Classical.byContradiction fun h => by have := G5.out.1.p.dom _ h; omega
  have G1 : RowKit.Hid (GrM C W1 gg (toGx x) L ∧ KpA C w C W1) := Lib.hid ⟨G5.out.1.below hb1, G5.out.2.trans (KpA.below G5.out.1 hb1)⟩
  have P1 := Lib.hid (And.intro hpi hh1)
  have d0 := cell_thru q0 hb1
  have d4 := cell_thru q4 hb1
  have HW1 := Lib.hid hW1.symm
  have Hp := Lib.hid hp
  have Hs12 : RowKit.Hid ((Try.prog.info? 89).map (·.size) = some (#[.int .i64 m.kind, .int .i64 m.frm, .int .i64 ((ito : Int) + 1), .int .i64 m.shard, .int .i64 m.view, .int .i64 m.normal, .int .i64 m.at_, .int .i64 m.commit, .int .i64 m.id, .int .i64 m.err, .slice la ln lc, .slice ea en ec] : Array Value).size) := Lib.hid size_vmsg
  have Hz : RowKit.Hid ((w5.alloc (.cells zmsg 89)).heap[w5.heap.size]? = some (.cells zmsg 89 (0, 0))) := Lib.hid (heap_alloc_new w5 _)
  clear hW1 hp hb1 hh1 hpi
  go_upto_region 16 with (first
    | (refine wpList_load_mid rfl _ _ rfl mb (mo + j * 12) rfl [.int .i64 m.kind, .int .i64 m.frm, .int .i64 ((ito : Int) + 1), .int .i64 m.shard, .int .i64 m.view, .int .i64 m.normal, .int .i64 m.at_, .int .i64 m.commit, .int .i64 m.id, .int .i64 m.err, .slice la ln lc, .slice ea en ec] _ HR5.out Try.underlying89 rfl Hs12.out ?_)
    | (refine wpList_storeRow rfl _ _ _ rfl w5.heap.size rfl zmsg #[.int .i64 m.kind, .int .i64 m.frm, .int .i64 ((ito : Int) + 1), .int .i64 m.shard, .int .i64 m.view, .int .i64 m.normal, .int .i64 m.at_, .int .i64 m.commit, .int .i64 m.id, .int .i64 m.err, .slice la ln lc, .slice ea en ec] rfl 89 Hz.out Hs12.out rfl rfl ?_))
  rw [HW1.out, ← Hp.out]
  clear q0 q4 HW1 Hz HR5
  -- it is taken out
  have hadd : IntKind.i64.wrap ((j : Int) + 1) = (j : Int) + 1 := IntWalk.i64_in _ (by omega)
  go_upto_region 17 with fail
  have kA := alloc_below W1 (.cells #[] 89)
  have kA4 := cell_thru d4 kA
  have HkA := Lib.hid kA
  have HhA := Lib.hid (heap_alloc_new W1 (.cells #[] 89))
  have HN : RowKit.Hid (∀ X : World, Below W1.heap.size W1 X → X.heap[W1.heap.size]? = some (.cells #[] 89 (0, 0)) →
      GrP (fun _ => False) (nmC C W1.heap.size) X { toGx x with mail := [] } { L with mv := .slice (some ⟨W1.heap.size, 0, none⟩) 0 0 } ∧ KpA C W1 (nmC C W1.heap.size) X ∧ Sl EMsg (Im (nmC C W1.heap.size)) X (some ⟨mb, mo, none⟩) x.mail ∧ (X.heap[gg]? = some (.cells (grRow (toGx x) L) 124 (0, 0)) ∧ nmC C W1.heap.size gg = 1)) := Lib.hid fun X hX hh => G1.out.1.newMail hX (Nat.le_refl _) hh Hmv.out.1
  have hjn : j + 1 ≤ mn := hjl
  have hmnc := Hmv.out.2.1
  have Htl : RowKit.Hid ((x.mail.take j).length = j ∧ (x.mail.drop (j + 1)).length = mn - (j + 1) ∧ mn = x.mail.length) := Lib.hid ⟨by rw [List.length_take, ← Hfacts.out.2.2.2.2.2.2.1]; omega, by rw [List.length_drop, ← Hfacts.out.2.2.2.2.2.2.1], Hfacts.out.2.2.2.2.2.2.1⟩
  -- the second part's address
  obtain ⟨a2, ha2⟩ : ∃ a2 : Option Addr, a2 = if mc = j + 1 then some ⟨mb, mo, none⟩ else some ⟨mb, mo + (j + 1) * 12, none⟩ := ⟨_, rfl⟩
  have Ha2 : RowKit.Hid (∀ (C' : Col) (W : World), Sl EMsg (Im C') W (some ⟨mb, mo, none⟩) x.mail → Sl EMsg (Im C') W a2 (x.mail.drop (j + 1))) := Lib.hid fun C' W h => by
    rw [ha2]
    split
    · have e0 : x.mail.drop (j + 1) = [] := List.eq_nil_of_length_eq_zero (by rw [Htl.out.2.1]; omega)
      rw [e0]; exact Sl.nil _ _ _ _
    · exact h.dropQ (j + 1)
  have HArm : RowKit.Hid (∀ (X w4 : World) (C4 : Col) (g4 o4 n4 c4 : Nat), OwnQ C4 4 EMsg 89 w4 (.slice (some ⟨g4, o4, none⟩) n4 c4) ([] ++ x.mail.take j) → Kp (· = 4) (nmC C W1.heap.size) X C4 w4 → Below W1.heap.size W1 X → X.heap[W1.heap.size]? = some (.cells #[] 89 (0, 0)) →
      w4.cell? ⟨gg, 4, none⟩ = some (.slice (some ⟨mb, mo, none⟩) mn mc) ∧ (∀ o, w4.frozen? ⟨gg, o, none⟩ = false) ∧ RowKit.Hid (OwnQ C4 4 EMsg 89 w4 (.slice (some ⟨g4, o4, none⟩) n4 c4) (x.mail.take j) ∧ (∀ k, C4 k ≠ 0 → k < w4.heap.size) ∧ Sl EMsg (Im C4) w4 a2 (x.mail.drop (j + 1)) ∧
        ∀ (w5 : World) (C5 : Col) (g5 o5 n5 c5 : Nat), OwnQ C5 4 EMsg 89 w5 (.slice (some ⟨g5, o5, none⟩) n5 c5) (x.mail.take j ++ x.mail.drop (j + 1)) → Kp (· = 4) C4 w4 C5 w5 →
          w5.cell? ⟨gg, 4, none⟩ = some (.slice (some ⟨mb, mo, none⟩) mn mc) ∧ w5.frozen? ⟨gg, 4, none⟩ = false ∧ RowKit.Hid (GrM C5 (w5.setCell ⟨gg, 4, none⟩ (.slice (some ⟨g5, o5, none⟩) n5 c5)) gg (toGx { x with mail := x.mail.take j ++ x.mail.drop (j + 1) }) { L with mv := .slice (some ⟨g5, o5, none⟩) n5 c5 } ∧ KpA C W1 C5 (w5.setCell ⟨gg, 4, none⟩ (.slice (some ⟨g5, o5, none⟩) n5 c5))))) := Lib.hid fun X w4 C4 g4 o4 n4 c4 ho4 hk4 hX hh => by
    obtain ⟨n1, n2, n3, n4', n5⟩ := HN.out X hX hh
    have hggz : gg < X.heap.size := (Array.getElem?_eq_some_iff.1 n4').1
    obtain ⟨r1, r2⟩ := hk4.blk hggz (by rw [n5]; decide)
    have r1 := r1.trans n4'
    have r2 := r2.trans n5
    have hp4 := n1.turn4 hk4 ho4
    rw [List.nil_append] at ho4 hp4
    have hcell : ∀ W : World, W.heap[gg]? = some (.cells (grRow (toGx x) L) 124 (0, 0)) → W.cell? ⟨gg, 4, none⟩ = some (.slice (some ⟨mb, mo, none⟩) mn mc) ∧ ∀ o, W.frozen? ⟨gg, o, none⟩ = false := fun W hW => by
      refine ⟨?_, fun o => by simp [World.frozen?, hW]⟩
      rw [← Hmv.out.1]
      simp [World.cell?, hW, grRow]
    refine ⟨(hcell w4 r1).1, (hcell w4 r1).2, Lib.hid ⟨ho4, hp4.dom, Ha2.out C4 w4 (n3.mono (by decide) fun b hb hlt => hk4.im (by decide) hb hlt), fun w5 C5 g5 o5 n5' c5 ho5 hk5 => ?_⟩⟩
    have hggz4 : gg < w4.heap.size := (Array.getElem?_eq_some_iff.1 r1).1
    obtain ⟨s1, s2⟩ := hk5.blk hggz4 (by rw [r2]; decide)
    have s1 := s1.trans r1
    have s2 := s2.trans r2
    have hp5 := hp4.turn4 hk5 ho5
    obtain ⟨m5, k5⟩ := GrM.put (x' := toGx { x with mail := x.mail.take j ++ x.mail.drop (j + 1) }) (L' := { L with mv := .slice (some ⟨g5, o5, none⟩) n5' c5 }) s1 s2 G1.out.1.nn G1.out.1.pp hp5 (setg (S := (· = gg)) (Only.refl _ w5) rfl 4 (.slice (some ⟨g5, o5, none⟩) n5' c5)) (by rw [heap_set s1 4 _]; rfl)
    exact ⟨(hcell w5 s1).1, (hcell w5 s1).2 4, Lib.hid ⟨m5, n2.trans (((hk4.any (by decide)).trans (hk5.any (by decide))).trans k5)⟩⟩
  have hci : (mc = j + 1 ∧ a2 = some ⟨mb, mo, none⟩) ∨ (¬ mc = j + 1 ∧ a2 = some ⟨mb, mo + (j + 1) * 12, none⟩) := by
    rw [ha2]
    by_cases e : mc = j + 1
    · exact .inl ⟨e, if_pos e⟩
    · exact .inr ⟨e, if_neg e⟩
  have hj63 : j ≤ 100000000000 := by omega
  have hi1 : (j : Int) ≤ (mc : Int) := by omega
  have hi2 : (j : Int) + 1 ≤ (mn : Int) := by omega
  have hi3 : (0 : Int) ≤ (j : Int) := by omega
  have hjm1 : j ≤ mn := by omega
  have hjc1 : j ≤ mc := by omega
  have hjc2 : j + 1 ≤ mc := by omega
  have hSl1 : ∀ W : World, (Instr.slice 83 (.slice (some ⟨mb, mo, none⟩) mn mc) none (some (.int .i64 (j : Int))) none).run Try.prog W = .ok (.slice (some ⟨mb, mo, none⟩) j mc) W := slice_mail_to j hjc1
  have hSl2 : ∀ W : World, (Instr.slice 83 (.slice (some ⟨mb, mo, none⟩) mn mc) (some (.int .i64 ((j : Int) + 1))) none none).run Try.prog W = .ok (.slice a2 (mn - (j + 1)) (mc - (j + 1))) W := fun W => by
    have h := slice_mail_from (a := some ⟨mb, mo, none⟩) (n := mn) (c := mc) (j + 1) hjn hmnc W
    rw [Option.map_some, Addr.add_lit] at h
    rw [ha2]
    exact h
  clear ha2 kA hci
  clear hi1 hi2 hi3 hjm1 hjc1 hjc2 hjn hmnc
  all_goals
    go_wp2_with fail
    go_region_law ((rw [if_pos (by simp [Region.wanted])]
                    first
                      | (refine step_appQ0 (l := []) (l2 := x.mail.take j) EMsg (by rfl) (by rfl) (by rfl) ti_mails (HN.out _ (by first | exact HkA.out | exact HkA.out.drew) HhA.out).1.mails (by decide) (HN.out _ (by first | exact HkA.out | exact HkA.out.drew) HhA.out).1.dom Htl.out.1.symm (Sl.takeQ (HN.out _ (by first | exact HkA.out | exact HkA.out.drew) HhA.out).2.2.1 j) (by rw [Htl.out.1]; unfold maxLen; simp; omega) (by rw [Htl.out.1]; simp; omega) ?_
                         intro g4 o4 n4 c4 w4 C4 ho4 hk4 hn4
                         obtain ⟨z4, zf4, HP4⟩ := HArm.out _ w4 C4 g4 o4 n4 c4 ho4 hk4 (by first | exact HkA.out | exact HkA.out.drew) HhA.out
                         clear ho4 hk4 hn4)
                      | (refine step_appQ0 (l := x.mail.take j) (l2 := x.mail.drop (j + 1)) EMsg (by rfl) (by rfl) (by rfl) ti_mails HP4.out.1 (by decide) HP4.out.2.1 Htl.out.2.1.symm HP4.out.2.2.1 (by rw [Htl.out.1, Htl.out.2.1]; unfold maxLen; omega) (by rw [Htl.out.1, Htl.out.2.1]; omega) ?_
                         intro g5 o5 n5 c5 w6 C6 ho5 hk5 hn5
                         obtain ⟨z5, zf5, HM6⟩ := HP4.out.2.2.2 w6 C6 g5 o5 n5 c5 ho5 hk5
                         clear ho5 hk5 hn5)))
    all_goals
      obtain ⟨w7, hw7⟩ : ∃ w7, w7 = w6.setCell ⟨gg, 4, none⟩ (.slice (some ⟨g5, o5, none⟩) n5 c5) := ⟨_, rfl⟩
      obtain ⟨L7, hL7⟩ : ∃ L7, L7 = { L with mv := .slice (some ⟨g5, o5, none⟩) n5 c5 } := ⟨_, rfl⟩
      obtain ⟨C7, hC7⟩ : ∃ C7, C7 = C6 := ⟨_, rfl⟩
      obtain ⟨x1, hx1⟩ : ∃ x1 : Vw.Gr, x1 = { x with mail := x.mail.take j ++ x.mail.drop (j + 1) } := ⟨_, rfl⟩
      have M7 : RowKit.Hid (GrM C7 w7 gg (toGx x1) L7) := Lib.hid (by rw [hC7, hw7, hx1, hL7]; exact HM6.out.1)
      have K17 : RowKit.Hid (KpA C W1 C7 w7) := Lib.hid (by rw [hC7, hw7]; exact HM6.out.2)
      rw [← hw7]
      have Hx1 := Lib.hid hx1
      clear hw7 hL7 hC7 hx1 HM6 z5 zf5 z4 zf4 HP4 kA4 d4 d0
      have P7 : RowKit.Hid (Im C7 p ∧ w7.heap[p]? = some (.cells #[.int .i64 m.kind, .int .i64 m.frm, .int .i64 ((ito : Int) + 1), .int .i64 m.shard, .int .i64 m.view, .int .i64 m.normal, .int .i64 m.at_, .int .i64 m.commit, .int .i64 m.id, .int .i64 m.err, .slice la ln lc, .slice ea en ec] 89 (0, 0))) := Lib.hid (by
        obtain ⟨e1, e2⟩ := KpA.im K17.out P1.out.1 (Array.getElem?_eq_some_iff.1 P1.out.2).1
        exact ⟨e2, e1.trans P1.out.2⟩)
      have K7 : RowKit.Hid (KpA C w C7 w7) := Lib.hid (G1.out.2.trans K17.out)
      have Q7 : RowKit.Hid (w7.cell? ⟨q, 0, none⟩ = some (.int .i64 7)) := Lib.hid (by
        have e1 := (KpA.im K7.out HB.out.1 (Array.getElem?_eq_some_iff.1 HB.out.2).1).1
        have : w.cell? ⟨q, 0, none⟩ = some (.int .i64 7) := by simp [World.cell?, HB.out.2]
        exact (cell_keep e1).trans this)
      obtain ⟨hGo, hsu, hmo, hito, hitn, hm, hmn, hstep, hmail⟩ := Hfacts.out
      have Hxn : RowKit.Hid (x1.n = x.n) := Lib.hid (by rw [Hx1.out])
      have HDo : RowKit.Hid (Vw.grStep x 7 N I = Vw.grDo x1 ((ito : Int) + 1) ((x1.core ((ito : Int) + 1)).in_ m) cut) := Lib.hid (by
        rw [hstep, hmail, ← hito, Hx1.out]
        rfl)
      have HGo : RowKit.Hid (∃ G, Vw.GrOk G x1 K ∧ x1.sure.length ≤ 2000 ∧ x1.mail.length ≤ 100000000000 ∧ Vw.MsgOk G m ∧ m.to_ = (ito : Int) + 1) := Lib.hid ⟨G, by rw [Hx1.out]; exact hGo.lose fun m' h' => (List.mem_append.1 h').elim List.mem_of_mem_take List.mem_of_mem_drop, by rw [Hx1.out]; exact hsu, by rw [Hx1.out]; show (x.mail.take j ++ x.mail.drop (j + 1)).length ≤ _; rw [List.length_append, List.length_take, List.length_drop, ← hmn]; omega, hmo, hito⟩
      have hitn : ito < x1.n := by rw [Hxn.out]; exact hitn
      clear hGo hsu hmo hito hm hmn hstep hmail Hfacts K17 P1 G1
      have hP7 := P7.out
      have q0 : w7.cell? ⟨q, 0, none⟩ = some (.int .i64 7) := Q7.out
      clear hP7
      have HrepX : RowKit.Hid (EMsg.rep (Im C7) w7 [.int .i64 m.kind, .int .i64 m.frm, .int .i64 ((ito : Int) + 1), .int .i64 m.shard, .int .i64 m.view, .int .i64 m.normal, .int .i64 m.at_, .int .i64 m.commit, .int .i64 m.id, .int .i64 m.err, .slice la ln lc, .slice ea en ec] m) := Lib.hid (Hrep.out C7 w7 fun b hb hlt => KpA.im K7.out hb hlt)
      have hx5 : x1.n ≤ 5 := by have := Hxn.out; have := HI.out.1.2.2.2.1; omega
      have KF : RowKit.Hid (KpA C0 w0 C7 w7) := Lib.hid (HK.out.trans K7.out)
      go_upto_region 19 with fail
      exact vw_spR19 C0 w0 gg p ito cut x1 (Vw.grStep x 7 N I) K C7 L7 w7 m la ln lc ea en ec M7 KF hx5 P7 HrepX HGo hitn HDo
end Go.Proofs.Ytmmgnbdngpkfcaa

/-
  A group's step, walked.
  The law ViewSafe, walked.
  A group in the calm, walked: a member ticks, a member is handed an entry.
-/
import Derived.Test.YtmmgnbdngpkfcaaVwHf
import Derived.Test.YtmmgnbdngpkfcaaVwHj3
import Derived.Test.YtmmgnbdngpkfcaaVwHj7
import Derived.Test.YtmmgnbdngpkfcaaVwHl
import Derived.Test.YtmmgnbdngpkfcaaVwLi
namespace Go.Proofs.Ytmmgnbdngpkfcaa
open Go.RowKit
set_option linter.unusedVariables false
set_option linter.unusedSimpArgs false

set_option maxRecDepth 1000000 in
set_option maxHeartbeats 0 in
theorem vw_spP4 (C0 : Col) (w0 : World) (gg q i0 : Nat) (cut : Int) (k N I : Int) (x : Vw.Gr) (K : Nat) (C : Col) (L : GrL) (w : World) (HG : RowKit.Hid (GrM C w gg (toGx x) L)) (HK : RowKit.Hid (KpA C0 w0 C w)) (HI : RowKit.Hid (Vw.GrI x K ∧ K ≤ 1000000))
    (HB : RowKit.Hid (Im C q ∧ w.heap[q]? = some (.cells #[.int .i64 k, .int .i64 N, .int .i64 I] 120 (0, 0)))) (HN : RowKit.Hid ((i0 : Int) = N % 65536 % x.n ∧ i0 < x.n ∧ cut = if 6 ≤ k then I % 4 else -1)) {u1 u2 u6 u7 u8 u9 aA aB aC aD aE aF aG aH aI aJ aK aL aM aN aO aP aQ aR aS aT aU aV aW aX aY aZ bA bB bC bD bE bF bG bH bI bJ bK bL bM bN bO bP bQ bR bS bT bU bV bW bX bY bZ cA cB cC cD cE cF cG cH cI cJ cK cL cM cN cO cP cQ cR cS cT cU cV cW cX cY cZ dA dB dC dD dE dF dG dH dI dJ dK dL dM dN dO dP dQ dR dS dT dU dV dW dX dY dZ eA eB eC eD eE eF eG eH eI eJ eK eL eM eN eO eP eQ eR eS eT eU eV eW eX eY eZ fA fB fC fD fE fF fG fH fI fJ fK fL fM : Value} :
    Code.wp Try.prog spP4 (bodyPost Try.prog Try.f65 fun e w' => e = .returned (.tuple #[]) ∧ GrTo C0 w0 w' gg (toGx (Vw.grStep x k N I))) ⟨#[.pointer (some ⟨gg, 0, none⟩), u1, u2, .pointer (some ⟨q, 0, none⟩), .int .i64 i0, .int .i64 cut, u6, u7, u8, u9, aA, aB, aC, aD, aE, aF, aG, aH, aI, aJ, aK, aL, aM, aN, aO, aP, aQ, aR, aS, aT, aU, aV, aW, aX, aY, aZ, bA, bB, bC, bD, bE, bF, bG, bH, bI, bJ, bK, bL, bM, bN, bO, bP, bQ, bR, bS, bT, bU, bV, bW, bX, bY, bZ, cA, cB, cC, cD, cE, cF, cG, cH, cI, cJ, cK, cL, cM, cN, cO, cP, cQ, cR, cS, cT, cU, cV, cW, cX, cY, cZ, dA, dB, dC, dD, dE, dF, dG, dH, dI, dJ, dK, dL, dM, dN, dO, dP, dQ, dR, dS, dT, dU, dV, dW, dX, dY, dZ, eA, eB, eC, eD, eE, eF, eG, eH, eI, eJ, eK, eL, eM, eN, eO, eP, eQ, eR, eS, eT, eU, eV, eW, eX, eY, eZ, fA, fB, fC, fD, fE, fF, fG, fH, fI, fJ, fK, fL, fM], []⟩ w := by
  by_cases h0 : k = 0 ∨ k = 6
  · exact vw_spT0 C0 w0 gg q i0 cut k N I x K C L w HG HK HI HB HN h0
  by_cases h1 : k = 1
  · exact vw_spM1 C0 w0 gg q i0 cut k N I x K C L w HG HK HI HB HN h1
  by_cases h2 : k = 2
  · exact vw_spM2 C0 w0 gg q i0 cut k N I x K C L w HG HK HI HB HN h2
  by_cases h3 : k = 3
  · exact vw_spM3 C0 w0 gg q i0 cut k N I x K C L w HG HK HI HB HN h3
  by_cases h7 : k = 7
  · exact vw_spM7 C0 w0 gg q i0 cut k N I x K C L w HG HK HI HB HN h7
  by_cases h4 : k = 4
  · exact vw_spT4 C0 w0 gg q i0 cut k N I x K C L w HG HK HI HB HN h4
  by_cases h5 : k = 5
  · exact vw_spT5 C0 w0 gg q i0 cut k N I x K C L w HG HK HI HB HN h5
  · exact vw_spTx C0 w0 gg q i0 cut k N I x K C L w HG HK HI HB HN ⟨h0, by omega, h4, h5⟩
set_option maxRecDepth 1000000 in
set_option maxHeartbeats 0 in
theorem vw_gstep (gg : Nat) (k N I : Int) (x : Vw.Gr) (K : Nat) (C : Col) (L : GrL) (w : World) (h : GrM C w gg (toGx x) L) (hI : Vw.GrI x K) (hK : K ≤ 1000000) :
    Calls Try.prog 65 #[.pointer (some ⟨gg, 0, none⟩), .agg #[.int .i64 k, .int .i64 N, .int .i64 I]] w fun e w' => e = .returned (.tuple #[]) ∧ GrTo C w w' gg (toGx (Vw.grStep x k N I)) := by
  obtain ⟨w1, hw1⟩ : ∃ w1, w1 = w.alloc (.cells #[.int .i64 k, .int .i64 N, .int .i64 I] 120) := ⟨_, rfl⟩
  obtain ⟨q, hq⟩ : ∃ q, q = w.heap.size := ⟨_, rfl⟩
  have hb1 : Below w.heap.size w w1 := by rw [hw1]; exact alloc_below _ _
  have hh1 : w1.heap[q]? = some (.cells #[.int .i64 k, .int .i64 N, .int .i64 I] 120 (0, 0)) := by rw [hw1, hq]; exact heap_alloc_new w _
  have hqi : Im C q := Classical.byContradiction fun h' => by have := h.p.dom _ h'; omega
  have m1 := h.below hb1
  have k1 : KpA C w C w1 := KpA.below h hb1
  obtain ⟨n, hn⟩ : ∃ n, n = x.n := ⟨_, rfl⟩
  have hnn := hI.2.2.2.1
  have y0 : w1.cell? ⟨gg, 0, none⟩ = some (.int .i64 n) := by rw [hn]; exact m1.c0
  have e0 : w1.cell? ⟨q, 0, none⟩ = some (.int .i64 k) := by simp [World.cell?, hh1]
  have e1 : w1.cell? ⟨q, 1, none⟩ = some (.int .i64 N) := by simp [World.cell?, hh1]
  have e2 : w1.cell? ⟨q, 2, none⟩ = some (.int .i64 I) := by simp [World.cell?, hh1]
  obtain ⟨i0, hi0⟩ : ∃ i0, i0 = (N % 65536 % (n : Int)).toNat := ⟨_, rfl⟩
  have hr0 : 0 ≤ N % 65536 := by omega
  have hmod : N % 65536 % (n : Int) = (i0 : Int) := by have := Int.emod_nonneg (N % 65536) (show (n : Int) ≠ 0 by omega); omega
  have hlt : i0 < n := by have := Int.emod_lt_of_pos (N % 65536) (show 0 < (n : Int) by omega); omega
  have HN0 : RowKit.Hid ((i0 : Int) = N % 65536 % x.n ∧ i0 < x.n) := Lib.hid (by rw [← hn]; exact ⟨hmod.symm, hlt⟩)
  have hand : bits .and .i64 N 65535 = N % 65536 := bits_and65535 N
  have hand3 : bits .and .i64 I 3 = I % 4 := bits_and3 I
  obtain ⟨r, hr⟩ : ∃ r, r = N % 65536 := ⟨_, rfl⟩
  rw [← hr] at hand hmod hr0
  have htm : Int.tmod r (n : Int) = (i0 : Int) := by rw [Int.tmod_eq_emod_of_nonneg hr0]; exact hmod
  have hne : ¬ (n : Int) = 0 := by omega
  have hnz : ¬ n = 0 := by omega
  have hw0 : IntKind.i64.wrap (i0 : Int) = (i0 : Int) := IntWalk.i64_in _ (by omega)
  have hw2 : IntKind.i64.wrap (r % (n : Int)) = (i0 : Int) := by rw [hmod]; exact hw0
  have hw3 : IntKind.i64.wrap (Int.tmod r (n : Int)) = (i0 : Int) := by rw [htm]; exact hw0
  have HW1 := Lib.hid hw1.symm
  have Hq := Lib.hid hq.symm
  have M1 := Lib.hid m1
  have K1 := Lib.hid k1
  have HI := Lib.hid (And.intro hI hK)
  have HB := Lib.hid (And.intro hqi hh1)
  clear h hI hw1 hq hb1 hh1 hqi m1 k1 hn hi0 hr
  refine calls_of_wp Try.func65 spBody_is ?_
  simp only [Try.ntmps65, List.size_toArray, List.length_cons, List.length_nil, Nat.reduceAdd, Nat.reduceSub, Array.replicate_succ,
     Array.replicate_zero, List.push_toArray, List.append_toArray, List.nil_append, List.cons_append]
  rw [spBody_eq]
  refine wp_seq ?_
  conv => arg 2; whnf
  go_wp2_with fail
  rw [HW1.out, Hq.out]
  clear HW1
  conv => arg 2; whnf
  go_wp2_with fail
  go_region_held3 (fun W => W.cell? ⟨q, 1, none⟩ = some (.int .i64 N) ∧ W.cell? ⟨gg, 0, none⟩ = some (.int .i64 n)) (first | exact ⟨e1, y0⟩ | go_keep) (fail)
  obtain ⟨w2, hw2'⟩ : ∃ w2, w2 = w1.drew := ⟨_, rfl⟩
  have M2 : RowKit.Hid (GrM C w2 gg (toGx x) L) := Lib.hid (by rw [hw2']; exact M1.out.below (Below.refl _ _).drew)
  have K2 : RowKit.Hid (KpA C w C w2) := Lib.hid (by rw [hw2']; exact K1.out.trans (KpA.below M1.out (Below.refl _ _).drew))
  have HB2 : RowKit.Hid (Im C q ∧ w2.heap[q]? = some (.cells #[.int .i64 k, .int .i64 N, .int .i64 I] 120 (0, 0))) := Lib.hid (by rw [hw2']; exact HB.out)
  have f0 : w2.cell? ⟨q, 0, none⟩ = some (.int .i64 k) := by rw [hw2']; exact e0
  have f2 : w2.cell? ⟨q, 2, none⟩ = some (.int .i64 I) := by rw [hw2']; exact e2
  rw [← hw2']
  clear hw2' e0 e1 e2 y0 hand htm hne hnz hw0 hw2 hw3 hmod hr0 M1 K1 HB
  go_wp2_with fail
  conv => arg 2; whnf
  go_wp2_with fail
  conv => arg 2; whnf
  by_cases h6 : 6 ≤ k
  · have h6d : decide (6 ≤ k) = true := by simpa using h6
    have HN := Lib.hid (And.intro HN0.out.1 (And.intro HN0.out.2 (if_pos h6).symm) : (i0 : Int) = N % 65536 % x.n ∧ i0 < x.n ∧ I % 4 = if 6 ≤ k then I % 4 else -1)
    go_wp2_with fail
    exact vw_spP4 C w gg q i0 (I % 4) k N I x K C L w2 M2 K2 HI HB2 HN
  · have h6d : decide (6 ≤ k) = false := by simpa using h6
    have HN := Lib.hid (And.intro HN0.out.1 (And.intro HN0.out.2 (if_neg h6).symm) : (i0 : Int) = N % 65536 % x.n ∧ i0 < x.n ∧ (-1 : Int) = if 6 ≤ k then I % 4 else -1)
    go_wp2_with fail
    exact vw_spP4 C w gg q i0 (-1) k N I x K C L w2 M2 K2 HI HB2 HN
end Go.Proofs.Ytmmgnbdngpkfcaa

namespace Go.Proofs.Ytmmgnbdngpkfcaa
open Go.RowKit
set_option linter.unusedVariables false
set_option linter.unusedSimpArgs false

end Go.Proofs.Ytmmgnbdngpkfcaa

namespace Go.Proofs.Ytmmgnbdngpkfcaa
open Go.RowKit
set_option linter.unusedVariables false
set_option linter.unusedSimpArgs false

/-- where a group's members lie -/
theorem GrM.coresAt {C : Col} {w : World} {gg : Nat} {x : Vw.Gr} {L : GrL} (h : GrM C w gg (toGx x) L) : ∃ a cc, w.cell? ⟨gg, 3, none⟩ = some (.slice a x.n cc) ∧ x.n ≤ cc ∧ cc ≤ maxLen := by
  obtain ⟨cb, co, cc, g, hg, hcvE, hcb, hc3, hc4, v0, hvat, hcf⟩ := h.coreAt (i := 0) (by have := h.nn.1; exact this)
  have y3 := h.c3
  rw [hcvE] at y3
  exact ⟨_, _, y3, hc3, hc4⟩
/-- a member ticks, and what it gives out is done -/
theorem vw_tick1 {C : Col} {w : World} {gg : Nat} {x : Vw.Gr} {L : GrL} {K : Nat} (h : GrM C w gg (toGx x) L) (hI : Vw.GrI x K) (hK : K ≤ 1000000) {i : Nat} (hi : i < x.n) :
    ∃ cb co cc g, w.cell? ⟨gg, 3, none⟩ = some (.slice (some ⟨cb, co, none⟩) x.n cc) ∧ w.cell? ⟨cb, co + i, none⟩ = some (.pointer (some ⟨g, 0, none⟩)) ∧
      Calls Try.prog 61 #[.pointer (some ⟨g, 0, none⟩)] w fun e w2 => ∃ a1 n1 c1 a2 n2 c2 a3 n3 c3, e = .returned (.agg #[.slice a1 n1 c1, .slice a2 n2 c2, .slice a3 n3 c3]) ∧
        RowKit.Hid (Calls Try.prog 66 #[.pointer (some ⟨gg, 0, none⟩), .int .i64 i, .agg #[.slice a1 n1 c1, .slice a2 n2 c2, .slice a3 n3 c3], .int .i64 (-1)] w2 fun e w' => e = .returned (.tuple #[]) ∧ GrTo C w w' gg (toGx (Vw.grDo x ((i : Int) + 1) (x.core ((i : Int) + 1)).tick (-1)))) := by
  obtain ⟨G, hGo, hy, hst, hout, hid⟩ := GrI_at hI hi
  obtain ⟨cb, co, cc, g, hg, hcvE, hcb, hc3, hc4, v0, hvat, hcf⟩ := h.coreAt hi
  change w.cell? ⟨cb, co + i, none⟩ = _ at v0
  change VwAt (pj (i + 1) C) w g (x.core ((i : Int) + 1)) at hvat
  have y3 := h.c3
  rw [hcvE] at y3
  change w.cell? ⟨gg, 3, none⟩ = some (.slice (some ⟨cb, co, none⟩) x.n cc) at y3
  have hmail := hI.2.2.1
  refine ⟨cb, co, cc, g, y3, v0, (vw_Tick w hvat hout (by omega)).mono ?_⟩
  rintro e w2 ⟨a1, n1, c1, a2, n2, c2, a3, n3, c3, rfl, ht⟩
  refine ⟨a1, n1, c1, a2, n2, c2, a3, n3, c3, rfl, Lib.hid ?_⟩
  obtain ⟨G1, hact⟩ := Vw.Act.tick hGo.gi hst hout
  have hfew := Vw.tick_few hGo.gi hst hvat.right hout (by omega)
  obtain ⟨C2, m2, k2, o2⟩ := h.takes hg ht
  refine (vw_gact hGo hI.2.1 (by omega) hi hact hfew (-1) w2 m2 o2).mono ?_
  rintro e w' ⟨e1, e2⟩
  exact ⟨e1, GrTo.trans k2 e2⟩
/-- who leads is told -/
theorem vw_lead1 {C : Col} {w : World} {gg : Nat} {x : Vw.Gr} {L : GrL} (h : GrM C w gg (toGx x) L) {i : Nat} (hi : i < x.n) :
    ∃ cb co cc g, w.cell? ⟨gg, 3, none⟩ = some (.slice (some ⟨cb, co, none⟩) x.n cc) ∧ w.cell? ⟨cb, co + i, none⟩ = some (.pointer (some ⟨g, 0, none⟩)) ∧
      Calls Try.prog 60 #[.pointer (some ⟨g, 0, none⟩)] w fun e w2 => e = .returned (.bool (x.core ((i : Int) + 1)).leads) ∧ RowKit.Hid (Below w.heap.size w w2) := by
  obtain ⟨cb, co, cc, g, hg, hcvE, hcb, hc3, hc4, v0, hvat, hcf⟩ := h.coreAt hi
  change w.cell? ⟨cb, co + i, none⟩ = _ at v0
  change VwAt (pj (i + 1) C) w g (x.core ((i : Int) + 1)) at hvat
  have y3 := h.c3
  rw [hcvE] at y3
  change w.cell? ⟨gg, 3, none⟩ = some (.slice (some ⟨cb, co, none⟩) x.n cc) at y3
  refine ⟨cb, co, cc, g, y3, v0, (vw_Leads w hvat).mono ?_⟩
  rintro e w2 ⟨h1, h2⟩
  exact ⟨h1, Lib.hid h2⟩
/-- what is handed in -/
def goB (d : BitVec 8) : Vw.Bs := [d, 77#8]
/-- a member is handed an entry, and what it gives out is done -/
theorem vw_prop1 {C : Col} {w : World} {gg : Nat} {x : Vw.Gr} {L : GrL} {K : Nat} (h : GrM C w gg (toGx x) L) (hI : Vw.GrI x K) (hK : K ≤ 1000000) {i : Nat} (hi : i < x.n) (d : BitVec 8) (h0 : ((x.core ((i : Int) + 1)).propose (goB d)).2 = 0) :
    ∃ cb co cc g, w.cell? ⟨gg, 3, none⟩ = some (.slice (some ⟨cb, co, none⟩) x.n cc) ∧ w.cell? ⟨cb, co + i, none⟩ = some (.pointer (some ⟨g, 0, none⟩)) ∧
      Calls Try.prog 57 #[.pointer (some ⟨g, 0, none⟩), .slice (some ⟨w.heap.size, 0, none⟩) 2 2] (w.alloc (.cells #[.int .u8 (bv d), .int .u8 77] 5)) fun e w2 => ∃ a1 n1 c1 a2 n2 c2 a3 n3 c3, e = .returned (.tuple #[.int .i64 ((x.core ((i : Int) + 1)).propose (goB d)).1.keep.log.length, .agg #[.slice a1 n1 c1, .slice a2 n2 c2, .slice a3 n3 c3], .int .i64 0]) ∧
        RowKit.Hid (∀ W : World, Below w2.heap.size w2 W → Calls Try.prog 66 #[.pointer (some ⟨gg, 0, none⟩), .int .i64 i, .agg #[.slice a1 n1 c1, .slice a2 n2 c2, .slice a3 n3 c3], .int .i64 (-1)] W fun e w' => e = .returned (.tuple #[]) ∧ GrTo C w w' gg (toGx (Vw.grDo x ((i : Int) + 1) ((x.core ((i : Int) + 1)).propose (goB d)).1 (-1)))) := by
  obtain ⟨G, hGo, hy, hst, hout, hid⟩ := GrI_at hI hi
  obtain ⟨w1, hw1⟩ : ∃ w1, w1 = w.alloc (.cells #[.int .u8 (bv d), .int .u8 77] 5) := ⟨_, rfl⟩
  have hb1 : Below w.heap.size w w1 := by rw [hw1]; exact alloc_below w _
  have hh : w1.heap[w.heap.size]? = some (.cells #[.int .u8 (bv d), .int .u8 77] 5 (0, 0)) := by rw [hw1]; exact heap_alloc_new w (.cells #[.int .u8 (bv d), .int .u8 77] 5)
  have hz : Im C w.heap.size := Classical.byContradiction fun e => by have := h.p.dom _ e; omega
  obtain ⟨cb0, co0, cc0, g0, hg0, hcv0, hcb0, hc30, hc40, v00, hvat0, hcf0⟩ := h.coreAt hi
  have h1 := h.below hb1
  have k1 : KpA C w C w1 := KpA.below h hb1
  obtain ⟨cb, co, cc, g, hg, hcvE, hcb, hc3, hc4, v0, hvat, hcf⟩ := h1.coreAt hi
  rw [hg0] at hg
  injection hg with hg
  subst hg
  change w.cell? ⟨cb0, co0 + i, none⟩ = _ at v00
  change VwAt (pj (i + 1) C) w1 g0 (x.core ((i : Int) + 1)) at hvat
  have y3 := h.c3
  rw [hcv0] at y3
  change w.cell? ⟨gg, 3, none⟩ = some (.slice (some ⟨cb0, co0, none⟩) x.n cc0) at y3
  have hmail := hI.2.2.1
  rw [← hw1]
  have hsl : Sl EU8 (Im (pj (i + 1) C)) w1 (some ⟨w.heap.size, 0, none⟩) (goB d) := by
    intro j v hj
    refine ⟨w.heap.size, 0, rfl, pj_im (by omega) hz, [.int .u8 (bv v)], rfl, fun j2 u hu => ?_⟩
    have hj2 : j2 = 0 := by have := (List.getElem?_eq_some_iff.1 hu).1; simp at this; exact this
    subst hj2
    simp at hu; subst hu
    unfold goB at hj
    have hjl : j < 2 := by have := (List.getElem?_eq_some_iff.1 hj).1; simpa using this
    rcases (by omega : j = 0 ∨ j = 1) with rfl | rfl
    · simp at hj; subst hj
      simp [World.cell?, hh]
    · simp at hj; subst hj
      simp [World.cell?, hh, EU8]
      rfl
  refine ⟨cb0, co0, cc0, g0, y3, v00, (vw_Propose w1 hvat _ 2 2 (goB d) rfl hsl (by rw [hout.1]; decide) (by rw [hout.2.1]; decide) (by rw [hout.2.2]; decide) (by decide)).mono ?_⟩
  intro e w2 hp
  unfold ProTo at hp
  rw [if_pos h0] at hp
  obtain ⟨v1, v2, v3, rfl, t⟩ := hp
  obtain ⟨M', hv, f, ho⟩ := id t
  obtain ⟨a1, c1, a2, c2, a3, c3, rfl, rfl, rfl, _⟩ := ho.few
  refine ⟨a1, _, c1, a2, _, c2, a3, _, c3, rfl, Lib.hid fun W hW => ?_⟩
  obtain ⟨G1, hact⟩ := Vw.Act.propose (Vw.Act.start hGo.gi hst hout) (goB d)
  have hfew := Vw.propose_few hvat.right hout (goB d)
  obtain ⟨C2, m2, k2, o2, h7⟩ := h1.takes7 hg0 t
  have tW : Kp (· = 7) C2 w2 C2 W := Kp.below m2.p.dom hW
  have mW := m2.kp tW (by decide) (m2.p.turn7 tW) rfl rfl rfl
  refine (vw_gact hGo hI.2.1 (by omega) hi hact hfew (-1) W mW (o2.kp tW (by decide))).mono ?_
  rintro e w' ⟨e1, e2⟩
  exact ⟨e1, GrTo.trans ((k1.trans k2).trans (tW.any (by decide))) e2⟩
/-- no message is under way any more -/
theorem GrM.noMail {C : Col} {w : World} {gg : Nat} {x : Vw.Gr} {L : GrL} (h : GrM C w gg (toGx x) L) : GrTo C w (w.setCell ⟨gg, 4, none⟩ (.slice none 0 0)) gg (toGx { x with mail := [] }) := by
  obtain ⟨g1, t1⟩ := h.setMail (v := .slice none 0 0) (ms := []) (OwnQ.nil _ _ _ _ _) (Kp.refl _ h.p.dom)
  exact ⟨_, _, g1, t1⟩
theorem mailRun_stop {x : Vw.Gr} {k : Nat} (h : (Vw.mailRun x k).mail = []) : ∀ j, Vw.mailRun x (k + j) = Vw.mailRun x k
  | 0 => rfl
  | j + 1 => by
    rw [← Nat.add_assoc, Vw.mailRun_succ, mailRun_stop h j, Vw.deliver_nil h]
theorem tickTo_n (x : Vw.Gr) : ∀ j, (Vw.tickTo x j).n = x.n
  | 0 => rfl
  | j + 1 => (Vw.grDo_n _ _ _ _).1.trans (tickTo_n x j)
theorem deliver_n (x : Vw.Gr) : (Vw.deliver x).n = x.n := by
  cases h : x.mail with
  | nil => rw [Vw.deliver_nil h]
  | cons m r => rw [Vw.deliver_eq h]; exact (Vw.grDo_n _ _ _ _).1
theorem mailRun_n (x : Vw.Gr) : ∀ k, (Vw.mailRun x k).n = x.n
  | 0 => by rw [Vw.mailRun_zero]
  | k + 1 => by rw [Vw.mailRun_succ, deliver_n, mailRun_n x k]
theorem propTo_n (b : Vw.Bs) (p : Vw.Gr × Nat) : ∀ j, (Vw.propTo b j p).1.n = p.1.n
  | 0 => rfl
  | j + 1 => by
    have ih := propTo_n b p j
    show (if _ ∧ _ then _ else _ : Vw.Gr × Nat).1.n = _
    split
    · exact (Vw.grDo_n _ _ _ _).1.trans ih
    · exact ih
/-- an entry that was told as done, where it lies -/
theorem sure_at {C : Col} {w : World} {gg : Nat} {x : Vw.Gr} {L : GrL} (h : GrM C w gg (toGx x) L) {j : Nat} {b : Vw.Bs} (hj : x.sure[j]? = some b) :
    ∃ sb so sc ba bc, w.cell? ⟨gg, 5, none⟩ = some (.slice (some ⟨sb, so, none⟩) x.sure.length sc) ∧ w.cell? ⟨sb, so + j, none⟩ = some (.slice ba b.length bc) ∧ Sl EU8 (Im C) w ba b := by
  obtain ⟨hjl, hjb⟩ := List.getElem?_eq_some_iff.1 hj
  obtain ⟨sb, so, sc, cs, hsv, hsb, hrep, hcs, -, hs1, hs2⟩ := h.p.sures.at (k := j) hjl
  obtain ⟨a2, c2, rfl, hb1, hb2, hb3⟩ := hrep
  have q5 := h.c5
  rw [hsv] at q5
  have q5e := hcs 0 _ rfl
  rw [show EBytes.sz = 1 from rfl, Nat.mul_one, Nat.add_zero] at q5e
  have e : (toGx x).sure[j]'hjl = b := hjb
  rw [e] at q5e hb3
  exact ⟨sb, so, sc, a2, c2, q5, q5e, hb3⟩
/-- how much a member has told -/
theorem told_at {C : Col} {w : World} {gg : Nat} {x : Vw.Gr} {L : GrL} (h : GrM C w gg (toGx x) L) {i : Nat} (hi : i < x.n) :
    ∃ tb tt tc, w.cell? ⟨gg, 6, none⟩ = some (.slice (some ⟨tb, tt, none⟩) x.n tc) ∧ w.cell? ⟨tb, tt + i, none⟩ = some (.int .i64 ((x.core ((i : Int) + 1)).commit : Int)) := by
  obtain ⟨tb, tt, tc, t, ht, htv, htb, h1, h2, h3, h4⟩ := h.toldAt (i := i) hi
  rw [toGx_told x hi] at ht
  injection ht with ht
  have y := h.c6
  rw [htv] at y
  rw [← ht] at h3
  exact ⟨tb, tt, tc, y, h3⟩
end Go.Proofs.Ytmmgnbdngpkfcaa

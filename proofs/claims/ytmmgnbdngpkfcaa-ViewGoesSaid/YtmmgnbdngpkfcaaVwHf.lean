/-
  A group's step, walked: an entry is handed in.
-/
import Derived.Test.YtmmgnbdngpkfcaaVwHl
namespace Go.Proofs.Ytmmgnbdngpkfcaa
open Go.RowKit
set_option linter.unusedVariables false
set_option linter.unusedSimpArgs false

theorem clear_self {c : Vw.Core} (h : c.recs = [] ∧ c.msgs = [] ∧ c.done = []) : c.clear = c := by
  obtain ⟨h1, h2, h3⟩ := h
  cases c
  simp only at h1 h2 h3
  subst h1; subst h2; subst h3
  rfl
theorem OutV.kp {S : Nat → Prop} {C C' : Col} {w w' : World} {rs : List Vw.Rc} {ms : List Vw.Msg} {ds : List Vw.Bs} {v : Value} (h : OutV C w rs ms ds v) (t : Kp S C w C' w') (h0 : ¬ S 0) : OutV C' w' rs ms ds v := by
  obtain ⟨a1, c1, a2, c2, a3, c3, e, ⟨h1, s1⟩, ⟨h2, s2⟩, ⟨h3, s3⟩⟩ := h
  exact ⟨a1, c1, a2, c2, a3, c3, e, ⟨h1, s1.kp (by decide) t h0⟩, ⟨h2, s2.kp (by decide) t h0⟩, ⟨h3, s3.kp (by decide) t h0⟩⟩
theorem GrM.takes7 {C : Col} {w w' : World} {gg : Nat} {x : Gx} {L : GrL} (h : GrM C w gg x L) {i g : Nat} (hg : L.gs[i]? = some g) {c : Vw.Core} {v : Value} (t : TakeTo (pj (i + 1) C) w w' g c v) :
    ∃ C', GrM C' w' gg { x with core := updI x.core ((i : Int) + 1) c.clear } L ∧ KpA C w C' w' ∧ OutV C' w' c.recs c.msgs c.done v ∧ ∀ k, k < w.heap.size → C k = 7 → C' k = 7 := by
  obtain ⟨M', hv, f, ho⟩ := t
  have hi := (List.getElem?_eq_some_iff.1 hg).1
  have hgl := h.p.gl
  have hnn := h.nn
  obtain ⟨t1, t2, t3⟩ := Kp.member (y := i + 1) h.p.dom f hv ⟨by omega, by omega⟩
  have hn0 : ∀ d, d < 10 → ¬ (d / 10 = i + 1 ∧ d ≠ 0) := fun d hd h => by omega
  refine ⟨_, h.kp t1 (hn0 _ (by decide)) (h.p.member (by omega) t1 hg t2) rfl rfl rfl, t1.any (hn0 _ (by decide)), ?_, fun k hk e => (t1.col k hk (by rw [e]; exact hn0 _ (by decide))).trans e⟩
  obtain ⟨a1, c1, a2, c2, a3, c3, e, ⟨h1, s1⟩, ⟨h2, s2⟩, ⟨h3, s3⟩⟩ := ho
  exact ⟨a1, c1, a2, c2, a3, c3, e, ⟨h1, s1.mono (by decide) fun k hk hlt => ⟨rfl, t3 k hlt hk⟩⟩, ⟨h2, s2.mono (by decide) fun k hk hlt => ⟨rfl, t3 k hlt hk⟩⟩, ⟨h3, s3.mono (by decide) fun k hk hlt => ⟨rfl, t3 k hlt hk⟩⟩⟩
theorem set3_far {w : World} {p : Nat} {v1 v2 v3 : Value} {a : Addr} {u : Value} (h : w.cell? a = some u) (hp : p ≠ a.block) : (((w.setCell ⟨p, 0, none⟩ v1).setCell ⟨p, 1, none⟩ v2).setCell ⟨p, 2, none⟩ v3).cell? a = some u := by
  rw [World.cell?_setCell_far _ _ _ _ hp, World.cell?_setCell_far _ _ _ _ hp, World.cell?_setCell_far _ _ _ _ hp]; exact h
/-- what comes of an entry that is handed in -/
def PrOut (M : Col) (w w' : World) (g : Nat) (c : Vw.Core) (b : Vw.Bs) (e : Ending) : Prop :=
  ∃ a1 n1 c1 a2 n2 c2 a3 n3 c3 nn er, e = .returned (.tuple #[.int .i64 nn, .agg #[.slice a1 n1 c1, .slice a2 n2 c2, .slice a3 n3 c3], .int .i64 er]) ∧ TakeTo M w w' g (c.propose b).1 (.agg #[.slice a1 n1 c1, .slice a2 n2 c2, .slice a3 n3 c3]) ∧ ((er = 0 ∧ n1 = 1) ∨ (er = 50 ∧ n1 = 0) ∨ (er = 40 ∧ n1 = 0))
theorem pr_out {M : Col} {w w' : World} {g : Nat} {c : Vw.Core} {b : Vw.Bs} {e : Ending} (h0 : c.recs = [] ∧ c.msgs = [] ∧ c.done = []) (hb : b.length ≤ 4000) (h : ProTo M w w' g c b e) : PrOut M w w' g c b e := by
  unfold ProTo at h
  rcases Vw.propose_recs c b h0.1 hb with ⟨h1, h2⟩ | ⟨h1, h2⟩
  · rw [if_pos h1] at h
    obtain ⟨v1, v2, v3, e1, t⟩ := h
    obtain ⟨M', hv, f, ho⟩ := id t
    obtain ⟨a1, c1, a2, c2, a3, c3, rfl, rfl, rfl, _⟩ := ho.few
    exact ⟨a1, _, c1, a2, _, c2, a3, _, c3, _, 0, e1, t, .inl ⟨rfl, h2⟩⟩
  · have hne : (c.propose b).2 ≠ 0 := by rcases h1 with h1 | h1 <;> rw [h1] <;> decide
    rw [if_neg hne] at h
    obtain ⟨e1, M', hv, f⟩ := h
    have hc : (c.propose b).1 = c := by
      unfold Vw.Core.propose at h1 ⊢
      split
      · rfl
      · split
        · rfl
        · split
          · rfl
          · rename_i q1 q2 q3
            rw [if_neg q1, if_neg q2, if_neg q3] at h1
            rcases h1 with h1 | h1 <;> cases h1
    refine ⟨none, 0, 0, none, 0, 0, none, 0, 0, _, _, e1, ?_, ?_⟩
    · rw [hc]
      refine ⟨M', by rw [clear_self h0]; exact hv, f, ?_⟩
      rw [h0.1, h0.2.1, h0.2.2]
      exact OutV.nil _ _
    · rcases h1 with h1 | h1
      · exact .inr (.inl ⟨h1, rfl⟩)
      · exact .inr (.inr ⟨h1, rfl⟩)
set_option maxRecDepth 1000000 in
set_option maxHeartbeats 0 in
theorem vw_spT4 (C0 : Col) (w0 : World) (gg q i0 : Nat) (cut : Int) (k N I : Int) (x : Vw.Gr) (K : Nat) (C : Col) (L : GrL) (w : World) (HG : RowKit.Hid (GrM C w gg (toGx x) L)) (HK : RowKit.Hid (KpA C0 w0 C w)) (HI : RowKit.Hid (Vw.GrI x K ∧ K ≤ 1000000))
    (HB : RowKit.Hid (Im C q ∧ w.heap[q]? = some (.cells #[.int .i64 k, .int .i64 N, .int .i64 I] 120 (0, 0)))) (HN : RowKit.Hid ((i0 : Int) = N % 65536 % x.n ∧ i0 < x.n ∧ cut = if 6 ≤ k then I % 4 else -1)) (hk : k = 4) {u1 u2 u6 u7 u8 u9 aA aB aC aD aE aF aG aH aI aJ aK aL aM aN aO aP aQ aR aS aT aU aV aW aX aY aZ bD bE bF bG bH bI bJ bK bL bM bN bO bP bQ bR bS bT bU bV bW bX bY bZ cA cB cC cD cE cF cG cH cI cJ cK cL cM cN cO cP cQ cR cS cT cU cV cW cX cY cZ dA dB dC dD dE dF dG dH dI dJ dK dL dM dN dO dP dQ dR dS dT dU dV dW dX dY dZ eA eB eC eD eE eF eG eH eI eJ eK eL eM eN eO eP eQ eR eS eT eU eV eW eX eY eZ fA fB fC fD fE fF fG fH fI fJ fK fL fM fN fO fP : Value} :
    Code.wp Try.prog spP4 (bodyPost Try.prog Try.f65 fun e w' => e = .returned (.tuple #[]) ∧ GrTo C0 w0 w' gg (toGx (Vw.grStep x k N I))) ⟨#[.pointer (some ⟨gg, 0, none⟩), u1, u2, .pointer (some ⟨q, 0, none⟩), .int .i64 i0, .int .i64 cut, u6, u7, u8, u9, aA, aB, aC, aD, aE, aF, aG, aH, aI, aJ, aK, aL, aM, aN, aO, aP, aQ, aR, aS, aT, aU, aV, aW, aX, aY, aZ, bD, bE, bF, bG, bH, bI, bJ, bK, bL, bM, bN, bO, bP, bQ, bR, bS, bT, bU, bV, bW, bX, bY, bZ, cA, cB, cC, cD, cE, cF, cG, cH, cI, cJ, cK, cL, cM, cN, cO, cP, cQ, cR, cS, cT, cU, cV, cW, cX, cY, cZ, dA, dB, dC, dD, dE, dF, dG, dH, dI, dJ, dK, dL, dM, dN, dO, dP, dQ, dR, dS, dT, dU, dV, dW, dX, dY, dZ, eA, eB, eC, eD, eE, eF, eG, eH, eI, eJ, eK, eL, eM, eN, eO, eP, eQ, eR, eS, eT, eU, eV, eW, eX, eY, eZ, fA, fB, fC, fD, fE, fF, fG, fH, fI, fJ, fK, fL, fM, fN, fO, fP], []⟩ w := by
  obtain ⟨hiN, hi, hcut⟩ := HN.out
  obtain ⟨G, hGo, hy, hst, hout, hid⟩ := GrI_at HI.out.1 hi
  obtain ⟨cb, co, cc, g, hg, hcvE, hcb, hc3, hc4, v0, hvat, hcf⟩ := HG.out.coreAt hi
  change w.cell? ⟨cb, co + i0, none⟩ = _ at v0
  change VwAt (pj (i0 + 1) C) w g (x.core ((i0 : Int) + 1)) at hvat
  have y3 := HG.out.c3
  rw [hcvE] at y3
  change w.cell? ⟨gg, 3, none⟩ = some (.slice (some ⟨cb, co, none⟩) x.n cc) at y3
  obtain ⟨n, hn⟩ : ∃ n, n = x.n := ⟨_, rfl⟩
  rw [← hn] at y3
  have e0 : w.cell? ⟨q, 0, none⟩ = some (.int .i64 k) := by simp [World.cell?, HB.out.2]
  have e2 : w.cell? ⟨q, 2, none⟩ = some (.int .i64 I) := by simp [World.cell?, HB.out.2]
  have hile : i0 < n := by omega
  have hKb := HI.out.2
  have hmail := HI.out.1.2.2.1
  have hpr : ∀ (X : World) (CX : Col) (bb : Nat), VwAt (pj (i0 + 1) CX) X g (x.core ((i0 : Int) + 1)) → Im CX bb → X.heap[bb]? = some (.cells #[.int .u8 (bv (BitVec.ofInt 8 I)), .int .u8 (bv (BitVec.ofInt 8 (I / 256)))] 5 (0, 0)) →
      Calls Try.prog 57 #[.pointer (some ⟨g, 0, none⟩), .slice (some ⟨bb, 0, none⟩) 2 2] X fun e w' => PrOut (pj (i0 + 1) CX) X w' g (x.core ((i0 : Int) + 1)) (Vw.opBytes I) e := fun X CX bb hvX hz hh => by
    have hsl : Sl EU8 (Im (pj (i0 + 1) CX)) X (some ⟨bb, 0, none⟩) (Vw.opBytes I) := by
      intro j v hj
      refine ⟨bb, 0, rfl, pj_im (by omega) hz, [.int .u8 (bv v)], rfl, fun j2 u hu => ?_⟩
      have hj2 : j2 = 0 := by have := (List.getElem?_eq_some_iff.1 hu).1; simp at this; exact this
      subst hj2
      simp at hu; subst hu
      unfold Vw.opBytes at hj
      have hjl : j < 2 := by have := (List.getElem?_eq_some_iff.1 hj).1; simpa using this
      rcases (by omega : j = 0 ∨ j = 1) with rfl | rfl
      · simp at hj; subst hj
        simp [World.cell?, hh]
      · simp at hj; subst hj
        simp [World.cell?, hh, EU8]
    refine (vw_Propose X hvX _ 2 2 (Vw.opBytes I) rfl hsl (by rw [hout.1]; decide) (by rw [hout.2.1]; decide) (by rw [hout.2.2]; decide) (by decide)).mono ?_
    intro e w' h
    exact pr_out hout (by show 2 ≤ 4000; decide) h
  obtain ⟨G1, hact⟩ := Vw.Act.propose (Vw.Act.start hGo.gi hst hout) (Vw.opBytes I)
  have hfew := Vw.propose_few hvat.right hout (Vw.opBytes I)
  have HDo : RowKit.Hid (∀ (X w2 W : World) (CX : Col) (v1 v2 v3 : Value), GrM CX X gg (toGx x) L → KpA C w CX X → TakeTo (pj (i0 + 1) CX) X w2 g ((x.core ((i0 : Int) + 1)).propose (Vw.opBytes I)).1 (.agg #[v1, v2, v3]) → (∀ C2, (∀ k, C2 k ≠ 0 → k < w2.heap.size) → (∀ k, k < X.heap.size → CX k = 7 → C2 k = 7) → Kp (· = 7) C2 w2 C2 W) →
      Calls Try.prog 66 #[.pointer (some ⟨gg, 0, none⟩), .int .i64 i0, .agg #[v1, v2, v3], .int .i64 cut] W fun e w' => e = .returned (.tuple #[]) ∧ GrTo C0 w0 w' gg (toGx (Vw.grStep x k N I))) := Lib.hid fun X w2 W CX v1 v2 v3 hX kX ht hW => by
    obtain ⟨C2, m2, k2, o2, h7⟩ := hX.takes7 hg ht
    have tW := hW C2 m2.p.dom h7
    have mW := m2.kp tW (by decide) (m2.p.turn7 tW) rfl rfl rfl
    refine (vw_gact hGo HI.out.1.2.1 (by omega) hi hact hfew cut W mW (o2.kp tW (by decide))).mono ?_
    rintro e w' ⟨e1, e2⟩
    refine ⟨e1, GrTo.trans (((HK.out.trans kX).trans k2).trans (tW.any (by decide))) ?_⟩
    have : Vw.grStep x k N I = Vw.grDo x ((i0 : Int) + 1) ((x.core ((i0 : Int) + 1)).propose (Vw.opBytes I)).1 cut := by
      unfold Vw.grStep
      simp only
      rw [if_neg (by omega), if_neg (by omega), if_pos hk, ← hiN, hcut]
    rw [this]; exact e2
  have hz0 : ∀ bb, w.heap.size ≤ bb → Im C bb := fun bb hb => Classical.byContradiction fun h => by have := HG.out.p.dom _ h; omega
  -- a world in which it is handed in
  have key : ∀ (X : World) (CX : Col) (bb : Nat), Below w.heap.size w X → GrM CX X gg (toGx x) L → KpA C w CX X → (∀ k, k < w.heap.size → CX k = C k) → VwAt (pj (i0 + 1) CX) X g (x.core ((i0 : Int) + 1)) → Im CX bb → X.heap[bb]? = some (.cells #[.int .u8 (bv (BitVec.ofInt 8 I)), .int .u8 (bv (BitVec.ofInt 8 (I / 256)))] 5 (0, 0)) →
      Calls Try.prog 57 #[.pointer (some ⟨g, 0, none⟩), .slice (some ⟨bb, 0, none⟩) 2 2] X fun e w' => ∃ a1 n1 c1 a2 n2 c2 a3 n3 c3 nn er, e = .returned (.tuple #[.int .i64 nn, .agg #[.slice a1 n1 c1, .slice a2 n2 c2, .slice a3 n3 c3], .int .i64 er]) ∧ ((er = 0 ∧ n1 = 1) ∨ (er = 50 ∧ n1 = 0) ∨ (er = 40 ∧ n1 = 0)) ∧
        (w'.cell? ⟨gg, 3, none⟩ = some (.slice (some ⟨cb, co, none⟩) n cc) ∧ w'.cell? ⟨cb, co + i0, none⟩ = some (.pointer (some ⟨g, 0, none⟩)) ∧ w'.cell? ⟨q, 2, none⟩ = some (.int .i64 I)) ∧
        RowKit.Hid ((∀ b, b < X.heap.size → CX b = 7 → w'.heap[b]? = X.heap[b]?) ∧ X.heap.size ≤ w'.heap.size ∧ ∀ W : World, (∀ C2, (∀ k, C2 k ≠ 0 → k < w'.heap.size) → (∀ k, k < X.heap.size → CX k = 7 → C2 k = 7) → Kp (· = 7) C2 w' C2 W) →
          Calls Try.prog 66 #[.pointer (some ⟨gg, 0, none⟩), .int .i64 i0, .agg #[.slice a1 n1 c1, .slice a2 n2 c2, .slice a3 n3 c3], .int .i64 cut] W fun e w' => e = .returned (.tuple #[]) ∧ GrTo C0 w0 w' gg (toGx (Vw.grStep x k N I))) := by
    intro X CX bb hX mX kX hcol hv hz hh
    refine (hpr X CX bb hv hz hh).mono ?_
    rintro e w' ⟨a1, n1, c1, a2, n2, c2, a3, n3, c3, nn, er, rfl, t, her⟩
    obtain ⟨M', _, f, _⟩ := id t
    have kk : ∀ b, b < w.heap.size → (C b = 0 ∨ (C b ≠ 0 ∧ C b < 10)) → w'.heap[b]? = w.heap[b]? := fun b hb hc => by
      have h1 : X.heap[b]? = w.heap[b]? := hX.block b hb
      have hb2 : b < X.heap.size := Nat.lt_of_lt_of_le hb hX.size
      have e := hcol b hb
      rcases hc with hc | ⟨hc, hc2⟩
      · exact (f.block hb2 (show pj (i0 + 1) CX b = 0 by unfold pj; rw [e, if_pos hc])).trans h1
      · exact (f.other hb2 (show 7 < pj (i0 + 1) CX b by unfold pj; rw [e, if_neg hc, if_neg (by omega)]; decide)).1.trans h1
    refine ⟨a1, n1, c1, a2, n2, c2, a3, n3, c3, nn, er, rfl, her, ⟨(cell_keep (kk gg (cell_lt y3) (.inr (by rw [HG.out.gc]; decide)))).trans y3, (cell_keep (kk cb (cell_lt v0) (.inr (by rw [hcb]; decide)))).trans v0, (cell_keep (kk q (cell_lt e2) (.inl HB.out.1))).trans e2⟩, Lib.hid ⟨fun b hb e7 => ?_, f.size, fun W hW => HDo.out X w' W CX _ _ _ mX kX t hW⟩⟩
    exact (f.other hb (show 7 < pj (i0 + 1) CX b by unfold pj; rw [e7, if_neg (by decide), if_neg (by omega)]; decide)).1
  have hbox : ∀ (X : World) (p : Nat), Below w.heap.size w X → w.heap.size ≤ p → p < X.heap.size → GrM (updC C p 7) X gg (toGx x) L ∧ KpA C w (updC C p 7) X ∧ (∀ k, k < w.heap.size → updC C p 7 k = C k) ∧ VwAt (pj (i0 + 1) (updC C p 7)) X g (x.core ((i0 : Int) + 1)) := fun X p hX hp1 hp2 => by
    have t : Kp (· = 7) C w (updC C p 7) X := ⟨Go.Proofs.Ytmmgnbdngpkfcaa.Below.only hX, fun k hk _ => updC_other C 7 (by omega), fun k hk => by
      by_cases e : k = p
      · rw [e]; exact hp2
      · rw [updC_other C 7 e] at hk
        exact Nat.lt_of_lt_of_le (HG.out.p.dom k hk) hX.size⟩
    exact ⟨HG.out.kp t (by decide) (HG.out.p.turn7 t) rfl rfl rfl, t.any (by decide), fun k hk => updC_other C 7 (by omega), hvat.kp t (by decide) fun d hd e => by omega⟩
  obtain ⟨Xa, hXa⟩ : ∃ X, X = (w.alloc (.cells #[.int .u8 (bv (BitVec.ofInt 8 I)), .int .u8 (bv (BitVec.ofInt 8 (I / 256)))] 5)).drew := ⟨_, rfl⟩
  obtain ⟨Xb, hXb⟩ : ∃ X, X = ((w.alloc (.cells #[.int .u8 (bv (BitVec.ofInt 8 I)), .int .u8 (bv (BitVec.ofInt 8 (I / 256)))] 5)).alloc (.cells #[.slice none 0 0, .slice none 0 0, .slice none 0 0] 107)).drew := ⟨_, rfl⟩
  obtain ⟨Xc, hXc⟩ : ∃ X, X = ((w.alloc (.cells #[.slice none 0 0, .slice none 0 0, .slice none 0 0] 107)).alloc (.cells #[.int .u8 (bv (BitVec.ofInt 8 I)), .int .u8 (bv (BitVec.ofInt 8 (I / 256)))] 5)).drew := ⟨_, rfl⟩
  have bA : Below w.heap.size w Xa := by rw [hXa]; exact (alloc_below w _).drew
  have bB : Below w.heap.size w Xb := by rw [hXb]; exact ((alloc_below w _).trans ((alloc_below (w.alloc _) _).mono (alloc_below w _).size)).drew
  have bC : Below w.heap.size w Xc := by rw [hXc]; exact ((alloc_below w _).trans ((alloc_below (w.alloc _) _).mono (alloc_below w _).size)).drew
  have zB : w.heap.size + 1 < Xb.heap.size := by rw [hXb]; show _ < ((w.alloc (.cells #[.int .u8 (bv (BitVec.ofInt 8 I)), .int .u8 (bv (BitVec.ofInt 8 (I / 256)))] 5)).alloc (.cells #[.slice none 0 0, .slice none 0 0, .slice none 0 0] 107)).heap.size; simp
  have zC : w.heap.size < Xc.heap.size := by rw [hXc]; show _ < ((w.alloc (.cells #[.slice none 0 0, .slice none 0 0, .slice none 0 0] 107)).alloc (.cells #[.int .u8 (bv (BitVec.ofInt 8 I)), .int .u8 (bv (BitVec.ofInt 8 (I / 256)))] 5)).heap.size; simp; try omega
  have HPa := Lib.hid (key Xa C w.heap.size bA (HG.out.below bA) (KpA.below HG.out bA) (fun _ _ => rfl) (hvat.below bA) (hz0 _ (Nat.le_refl _)) (by rw [hXa]; exact heap_alloc_new w (.cells #[.int .u8 (bv (BitVec.ofInt 8 I)), .int .u8 (bv (BitVec.ofInt 8 (I / 256)))] 5)))
  obtain ⟨b1, b2, b3, b4⟩ := hbox Xb (w.heap.size + 1) bB (by omega) zB
  have HPb := Lib.hid (key Xb _ w.heap.size bB b1 b2 b3 b4 ((updC_other C 7 (by omega)).trans (hz0 _ (Nat.le_refl _))) (by rw [hXb]; exact (Below.heap_alloc (w.alloc (.cells #[.int .u8 (bv (BitVec.ofInt 8 I)), .int .u8 (bv (BitVec.ofInt 8 (I / 256)))] 5)) (.cells #[.slice none 0 0, .slice none 0 0, .slice none 0 0] 107) w.heap.size (by simp)).trans (heap_alloc_new w (.cells #[.int .u8 (bv (BitVec.ofInt 8 I)), .int .u8 (bv (BitVec.ofInt 8 (I / 256)))] 5))))
  obtain ⟨c1, c2, c3, c4⟩ := hbox Xc w.heap.size bC (Nat.le_refl _) zC
  have HPc := Lib.hid (key Xc _ (w.heap.size + 1) bC c1 c2 c3 c4 ((updC_other C 7 (by omega)).trans (hz0 _ (by omega))) (by rw [hXc, ← alloc_size w (.cells #[.slice none 0 0, .slice none 0 0, .slice none 0 0] 107)]; exact heap_alloc_new (w.alloc (.cells #[.slice none 0 0, .slice none 0 0, .slice none 0 0] 107)) (.cells #[.int .u8 (bv (BitVec.ofInt 8 I)), .int .u8 (bv (BitVec.ofInt 8 (I / 256)))] 5)))
  have HZb : RowKit.Hid (Xb.heap[w.heap.size + 1]? = some (.cells #[.slice none 0 0, .slice none 0 0, .slice none 0 0] 107 (0, 0)) ∧ updC C (w.heap.size + 1) 7 (w.heap.size + 1) = 7 ∧ w.heap.size + 1 < Xb.heap.size) := Lib.hid ⟨by rw [hXb, ← alloc_size w (.cells #[.int .u8 (bv (BitVec.ofInt 8 I)), .int .u8 (bv (BitVec.ofInt 8 (I / 256)))] 5)]; exact heap_alloc_new (w.alloc (.cells #[.int .u8 (bv (BitVec.ofInt 8 I)), .int .u8 (bv (BitVec.ofInt 8 (I / 256)))] 5)) (.cells #[.slice none 0 0, .slice none 0 0, .slice none 0 0] 107), updC_same _ _ _, zB⟩
  have HZc : RowKit.Hid (Xc.heap[w.heap.size]? = some (.cells #[.slice none 0 0, .slice none 0 0, .slice none 0 0] 107 (0, 0)) ∧ updC C w.heap.size 7 w.heap.size = 7 ∧ w.heap.size < Xc.heap.size) := Lib.hid ⟨by rw [hXc]; exact (Below.heap_alloc (w.alloc (.cells #[.slice none 0 0, .slice none 0 0, .slice none 0 0] 107)) (.cells #[.int .u8 (bv (BitVec.ofInt 8 I)), .int .u8 (bv (BitVec.ofInt 8 (I / 256)))] 5) w.heap.size (by simp)).trans (heap_alloc_new w (.cells #[.slice none 0 0, .slice none 0 0, .slice none 0 0] 107)), updC_same _ _ _, zC⟩
  have Hlt : RowKit.Hid (gg < w.heap.size ∧ cb < w.heap.size ∧ q < w.heap.size) := Lib.hid ⟨cell_lt y3, cell_lt v0, cell_lt e2⟩
  have HXa := Lib.hid hXa.symm
  have HXb := Lib.hid hXb.symm
  have HXc := Lib.hid hXc.symm
  clear hiN hcut hGo hy hst hout hid hg hcvE hcb hc3 hc4 hvat hcf hact hfew hn hmail hpr hz0 key hbox hXa hXb hXc bA bB bC zB zC b1 b2 b3 b4 c1 c2 c3 c4
  subst hk
  have ne1 := World.new_ne w ⟨gg, 3, none⟩ y3
  have ne2 := World.new_ne w ⟨cb, co + i0, none⟩ v0
  have ne3 := World.new_ne w ⟨q, 2, none⟩ e2
  conv => arg 2; whnf
  go_wp2_with fail
  go_region_held3 (fun W => W.cell? ⟨gg, 3, none⟩ = some (.slice (some ⟨cb, co, none⟩) n cc) ∧ W.cell? ⟨cb, co + i0, none⟩ = some (.pointer (some ⟨g, 0, none⟩)) ∧ W.cell? ⟨q, 2, none⟩ = some (.int .i64 I)) (first | exact ⟨y3, v0, e2⟩ | exact ⟨z3, z4, z5⟩ | exact ⟨s3, s4, s5⟩ | go_keep) ((go_at_call 57; (first
      | (rw [HXa.out]; refine HPa.out.mono ?_; rintro e w2 ⟨a1, n1, c1, a2, n2, c2, a3, n3, c3, nn, er, rfl, her, ⟨z3, z4, z5⟩, HD⟩; have hvar : RowKit.Hid (w2 = w2) := Lib.hid rfl)
      | (rw [HXc.out]; refine HPc.out.mono ?_; rintro e w2 ⟨a1, n1, c1, a2, n2, c2, a3, n3, c3, nn, er, rfl, her, ⟨z3, z4, z5⟩, HD⟩; have hp2 := (HD.out.1 _ HZc.out.2.2 HZc.out.2.1).trans HZc.out.1; have p0 : w2.cell? ⟨w.heap.size, 0, none⟩ = some (.slice none 0 0) := (by simp [World.cell?, hp2]); have p1 : w2.cell? ⟨w.heap.size, 1, none⟩ = some (.slice none 0 0) := (by simp [World.cell?, hp2]); have p2 : w2.cell? ⟨w.heap.size, 2, none⟩ = some (.slice none 0 0) := (by simp [World.cell?, hp2]); have pf : ∀ o, w2.frozen? ⟨w.heap.size, o, none⟩ = false := fun o => (by simp [World.frozen?, hp2]); have s3 := set3_far (v1 := .slice a1 n1 c1) (v2 := .slice a2 n2 c2) (v3 := .slice a3 n3 c3) z3 (show w.heap.size ≠ gg from (by have := Hlt.out; omega)); have s4 := set3_far (v1 := .slice a1 n1 c1) (v2 := .slice a2 n2 c2) (v3 := .slice a3 n3 c3) z4 (show w.heap.size ≠ cb from (by have := Hlt.out; omega)); have s5 := set3_far (v1 := .slice a1 n1 c1) (v2 := .slice a2 n2 c2) (v3 := .slice a3 n3 c3) z5 (show w.heap.size ≠ q from (by have := Hlt.out; omega)); have Hp2 := Lib.hid hp2; clear hp2)
      | (rw [HXb.out]; refine HPb.out.mono ?_; rintro e w2 ⟨a1, n1, c1, a2, n2, c2, a3, n3, c3, nn, er, rfl, her, ⟨z3, z4, z5⟩, HD⟩; have hp2 := (HD.out.1 _ HZb.out.2.2 HZb.out.2.1).trans HZb.out.1; have p0 : w2.cell? ⟨w.heap.size + 1, 0, none⟩ = some (.slice none 0 0) := (by simp [World.cell?, hp2]); have p1 : w2.cell? ⟨w.heap.size + 1, 1, none⟩ = some (.slice none 0 0) := (by simp [World.cell?, hp2]); have p2 : w2.cell? ⟨w.heap.size + 1, 2, none⟩ = some (.slice none 0 0) := (by simp [World.cell?, hp2]); have pf : ∀ o, w2.frozen? ⟨w.heap.size + 1, o, none⟩ = false := fun o => (by simp [World.frozen?, hp2]); have s3 := set3_far (v1 := .slice a1 n1 c1) (v2 := .slice a2 n2 c2) (v3 := .slice a3 n3 c3) z3 (show w.heap.size + 1 ≠ gg from (by have := Hlt.out; omega)); have s4 := set3_far (v1 := .slice a1 n1 c1) (v2 := .slice a2 n2 c2) (v3 := .slice a3 n3 c3) z4 (show w.heap.size + 1 ≠ cb from (by have := Hlt.out; omega)); have s5 := set3_far (v1 := .slice a1 n1 c1) (v2 := .slice a2 n2 c2) (v3 := .slice a3 n3 c3) z5 (show w.heap.size + 1 ≠ q from (by have := Hlt.out; omega)); have Hp2 := Lib.hid hp2; clear hp2))))
  · obtain ⟨W, hW⟩ : ∃ W, W = w2.alloc (.cells #[.slice a1 n1 c1, .slice a2 n2 c2, .slice a3 n3 c3] 107) := ⟨_, rfl⟩
    rw [← hW]
    have hr : W.heap[w2.heap.size]? = some (.cells #[.slice a1 n1 c1, .slice a2 n2 c2, .slice a3 n3 c3] 107 (0, 0)) := by rw [hW]; exact heap_alloc_new w2 _
    have HDW := Lib.hid (HD.out.2.2 W fun C2 hd h7 => Kp.below hd (by rw [hW]; exact alloc_below w2 _))
    have r0 : W.cell? ⟨w2.heap.size, 0, none⟩ = some (.slice a1 n1 c1) := by simp [World.cell?, hr]
    have r1 : W.cell? ⟨w2.heap.size, 1, none⟩ = some (.slice a2 n2 c2) := by simp [World.cell?, hr]
    have r2 : W.cell? ⟨w2.heap.size, 2, none⟩ = some (.slice a3 n3 c3) := by simp [World.cell?, hr]
    clear hr hW z3 z4 z5 y3 v0 e2 e0 ne1 ne2 ne3
    rcases her with ⟨rfl, rfl⟩ | ⟨rfl, rfl⟩ | ⟨rfl, rfl⟩
    all_goals
      go_wp2_with fail
      refine HDW.out.mono ?_
      rintro e w9 ⟨rfl, hto⟩
      have HTo := Lib.hid hto
      clear hto HDW r0 r1 r2
      go_wp2_with fail
      refine bodyPost_end (v := .tuple #[]) (by simp [results, Try.results65, go_sem]) rfl ?_
      exact ⟨rfl, HTo.out⟩
  · obtain ⟨W, hW⟩ : ∃ W, W = ((w2.setCell ⟨w.heap.size + 1, 0, none⟩ (.slice a1 n1 c1)).setCell ⟨w.heap.size + 1, 1, none⟩ (.slice a2 n2 c2)).setCell ⟨w.heap.size + 1, 2, none⟩ (.slice a3 n3 c3) := ⟨_, rfl⟩
    rw [← hW] at s3 s4 s5 ⊢
    have hr : W.heap[w.heap.size + 1]? = some (.cells #[.slice a1 n1 c1, .slice a2 n2 c2, .slice a3 n3 c3] 107 (0, 0)) := by rw [hW, heap_set (heap_set (heap_set Hp2.out 0 _) 1 _) 2 _]; rfl
    have HDW := Lib.hid (HD.out.2.2 W fun C2 hd h7 => Kp.of_only (T := (· = w.heap.size + 1)) hd (by rw [hW]; exact setg (S := (· = w.heap.size + 1)) (setg (S := (· = w.heap.size + 1)) (setg (S := (· = w.heap.size + 1)) (Only.refl _ w2) rfl 0 _) rfl 1 _) rfl 2 _) fun k hk => by rw [hk]; exact h7 _ HZb.out.2.2 HZb.out.2.1)
    clear s3 s4 s5 p0 p1 p2 pf
    have r0 : W.cell? ⟨w.heap.size + 1, 0, none⟩ = some (.slice a1 n1 c1) := by simp [World.cell?, hr]
    have r1 : W.cell? ⟨w.heap.size + 1, 1, none⟩ = some (.slice a2 n2 c2) := by simp [World.cell?, hr]
    have r2 : W.cell? ⟨w.heap.size + 1, 2, none⟩ = some (.slice a3 n3 c3) := by simp [World.cell?, hr]
    clear hr hW z3 z4 z5 y3 v0 e2 e0 ne1 ne2 ne3
    rcases her with ⟨rfl, rfl⟩ | ⟨rfl, rfl⟩ | ⟨rfl, rfl⟩
    all_goals
      go_wp2_with fail
      refine HDW.out.mono ?_
      rintro e w9 ⟨rfl, hto⟩
      have HTo := Lib.hid hto
      clear hto HDW r0 r1 r2
      go_wp2_with fail
      refine bodyPost_end (v := .tuple #[]) (by simp [results, Try.results65, go_sem]) rfl ?_
      exact ⟨rfl, HTo.out⟩
  · obtain ⟨W, hW⟩ : ∃ W, W = ((w2.setCell ⟨w.heap.size, 0, none⟩ (.slice a1 n1 c1)).setCell ⟨w.heap.size, 1, none⟩ (.slice a2 n2 c2)).setCell ⟨w.heap.size, 2, none⟩ (.slice a3 n3 c3) := ⟨_, rfl⟩
    rw [← hW] at s3 s4 s5 ⊢
    have hr : W.heap[w.heap.size]? = some (.cells #[.slice a1 n1 c1, .slice a2 n2 c2, .slice a3 n3 c3] 107 (0, 0)) := by rw [hW, heap_set (heap_set (heap_set Hp2.out 0 _) 1 _) 2 _]; rfl
    have HDW := Lib.hid (HD.out.2.2 W fun C2 hd h7 => Kp.of_only (T := (· = w.heap.size)) hd (by rw [hW]; exact setg (S := (· = w.heap.size)) (setg (S := (· = w.heap.size)) (setg (S := (· = w.heap.size)) (Only.refl _ w2) rfl 0 _) rfl 1 _) rfl 2 _) fun k hk => by rw [hk]; exact h7 _ HZc.out.2.2 HZc.out.2.1)
    clear s3 s4 s5 p0 p1 p2 pf
    have r0 : W.cell? ⟨w.heap.size, 0, none⟩ = some (.slice a1 n1 c1) := by simp [World.cell?, hr]
    have r1 : W.cell? ⟨w.heap.size, 1, none⟩ = some (.slice a2 n2 c2) := by simp [World.cell?, hr]
    have r2 : W.cell? ⟨w.heap.size, 2, none⟩ = some (.slice a3 n3 c3) := by simp [World.cell?, hr]
    clear hr hW z3 z4 z5 y3 v0 e2 e0 ne1 ne2 ne3
    rcases her with ⟨rfl, rfl⟩ | ⟨rfl, rfl⟩ | ⟨rfl, rfl⟩
    all_goals
      go_wp2_with fail
      refine HDW.out.mono ?_
      rintro e w9 ⟨rfl, hto⟩
      have HTo := Lib.hid hto
      clear hto HDW r0 r1 r2
      go_wp2_with fail
      refine bodyPost_end (v := .tuple #[]) (by simp [results, Try.results65, go_sem]) rfl ?_
      exact ⟨rfl, HTo.out⟩
end Go.Proofs.Ytmmgnbdngpkfcaa

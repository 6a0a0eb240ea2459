/-
  A group's messages in memory: one is taken out.
  A message comes to a group's member: the plain law and the walk together.
  A group's step, walked: a message is taken in.
-/
import Derived.Test.YtmmgnbdngpkfcaaVwHl
namespace Go.Proofs.Ytmmgnbdngpkfcaa
open Go.RowKit
set_option linter.unusedVariables false
set_option linter.unusedSimpArgs false

section
variable {P : Program} {w : World} {ops : Array Oper} {rest : List Oper} {o : Oper} {a : Act} {Q : Exit → Act → World → Prop}
theorem run_app_zero {t te ty : TypeId} {sz bytes : Nat} (ti : ElemInfo P t te sz bytes) {g o n cap : Nat} (hn : n ≤ cap) {ad : Option Addr} {c : Nat} :
    (Builtin.append_ #[t, t] ty #[.slice (some ⟨g, o, none⟩) n cap, .slice ad 0 c]).run P w = .ok (.slice (some ⟨g, o, none⟩) n cap) w := by
  obtain ⟨i, z, hi, hz, hsz, hby, hzc⟩ := ti.info
  cases ad <;> simp [Builtin.append_, run_underlying ti.under, sizeOf, typeInfo, hi, Builtin.lenOf, Builtin.firstCells, loadCells, loadCellsFrom, hn, storeCells]
/-- append of a list that may be empty -/
theorem run_appQ0 {α : Type} (E : Enc α) {t te ty : TypeId} {bytes : Nat} (ti : ElemInfo P t te E.sz bytes) {C : Col} {i : Nat} {g0 o0 n0 c0 : Nat} {l : List α} (hown : OwnQ C i E te w (.slice (some ⟨g0, o0, none⟩) n0 c0) l) (hi : i ≠ 0) (hdom : ∀ k, C k ≠ 0 → k < w.heap.size)
    {ad : Option Addr} {m c : Nat} {l2 : List α} (hm : m = l2.length) (hsl : Sl E (Im C) w ad l2)
    (h63 : l.length + l2.length ≤ maxLen) (hbytes : (l.length + l2.length) * bytes ≤ 140737488355328) :
    ∃ g' o' n' c' w' C', (Builtin.append_ #[t, t] ty #[.slice (some ⟨g0, o0, none⟩) n0 c0, .slice ad m c]).run P w = .ok (.slice (some ⟨g', o', none⟩) n' c') w' ∧ OwnQ C' i E te w' (.slice (some ⟨g', o', none⟩) n' c') (l ++ l2) ∧ Kp (· = i) C w C' w' ∧ n' = l.length + l2.length := by
  by_cases h0 : l2 = []
  · subst h0
    subst hm
    obtain ⟨a1, c1, e, hl, hc⟩ := hown.shape
    injection e with e1 e2 e3
    subst e2
    subst e3
    exact ⟨g0, o0, _, _, w, C, run_app_zero ti hl, by rw [List.append_nil]; exact hown, Kp.refl _ hdom, by simp⟩
  · obtain ⟨v', w', C', hr, h1, h2⟩ := run_appQ (P := P) (ty := ty) E ti hown hi hdom (c := c) hm hsl (List.length_pos_iff.2 h0) h63 hbytes
    have hne : 0 < (l ++ l2).length := by have := List.length_pos_iff.2 h0; rw [List.length_append]; omega
    rcases h1 with ⟨_, e⟩ | ⟨g, o', cap, cur, rfl, h1⟩
    · rw [e] at hne; simp at hne
    · exact ⟨g, o', _, cap, w', C', hr, .inr ⟨g, o', cap, cur, rfl, h1⟩, h2, List.length_append⟩
theorem step_appQ0 {α : Type} {K : Act → World → Prop} (E : Enc α) {t te : TypeId} {bytes : Nat} {s x : Operand} {g0 o0 n0 c0 : Nat} {l l2 : List α} {ad : Option Addr} {m c : Nat} {C : Col} {i : Nat}
    (ho : o.op = .call { callee := .builtin .append, args := #[s, x], argTypes := #[t, t] }) (hs : a.eval s = .slice (some ⟨g0, o0, none⟩) n0 c0) (hx : a.eval x = .slice ad m c)
    (ti : ElemInfo P t te E.sz bytes) (hown : OwnQ C i E te w (.slice (some ⟨g0, o0, none⟩) n0 c0) l) (hi : i ≠ 0) (hdom : ∀ k, C k ≠ 0 → k < w.heap.size) (hm : m = l2.length) (hsl : Sl E (Im C) w ad l2)
    (h63 : l.length + l2.length ≤ maxLen) (hbytes : (l.length + l2.length) * bytes ≤ 140737488355328)
    (h : ∀ g' o' n' c' w' C', OwnQ C' i E te w' (.slice (some ⟨g', o', none⟩) n' c') (l ++ l2) → Kp (· = i) C w C' w' → n' = l.length + l2.length → K (a.put o.dst (.slice (some ⟨g', o', none⟩) n' c')) w') : o.wp P a w K Q := by
  obtain ⟨g', o', n', c', w', C', hr, h2, h3, h4⟩ := run_appQ0 (P := P) (ty := o.type) E ti hown hi hdom (c := c) hm hsl h63 hbytes
  unfold Oper.wp execOp
  simp only [ho, resolve, invoke, builtin, Sem.run_bind, Sem.run_pure, Result.andThen_ok, List.map_toArray, List.map_cons, List.map_nil, hs, hx, hr]
  exact h g' o' n' c' w' C' h2 h3 h4
end
/-- 'mail[:k]' -/
theorem slice_mail_to {b o n c : Nat} (k : Nat) (hk : k ≤ c) (W : World) :
    (Instr.slice 83 (.slice (some ⟨b, o, none⟩) n c) none (some (.int .i64 k)) none).run Try.prog W = .ok (.slice (some ⟨b, o, none⟩) k c) W := by
  obtain ⟨i0, z, hi0, hz, hsz, hby, hzc⟩ := ti_mails.info
  have e5 : i0.size = 12 := hsz
  simp [Instr.slice, run_underlying ti_mails.under, Instr.sliceBounds, run_sliceBound, sizeOf, typeInfo, hi0, e5, hk, Addr.add_lit]
/-- the messages' block is given away; another one is the list's -/
def nmC (C : Col) (b : Nat) : Col := fun k => if k = b then 4 else if C k = 4 then 0 else C k
/-- the messages under way are given away; a new list begins -/
theorem GrM.newMail {C : Col} {w w' : World} {gg : Nat} {x : Gx} {L : GrL} (h : GrM C w gg x L) (hb : Below w.heap.size w w') {b : Nat} (hb0 : w.heap.size ≤ b) (hb1 : w'.heap[b]? = some (.cells #[] 89 (0, 0))) {ma : Option Addr} {mn mc : Nat} (hmv : L.mv = .slice ma mn mc) :
    GrP (fun _ => False) (nmC C b) w' { x with mail := [] } { L with mv := .slice (some ⟨b, 0, none⟩) 0 0 } ∧ KpA C w (nmC C b) w' ∧ Sl EMsg (Im (nmC C b)) w' ma x.mail ∧ (w'.heap[gg]? = some (.cells (grRow x L) 124 (0, 0)) ∧ nmC C b gg = 1) := by
  have hbz := (Array.getElem?_eq_some_iff.1 hb1).1
  obtain ⟨C', hC'⟩ : ∃ C' : Col, C' = fun k => if k = b then 4 else if C k = 4 then 0 else C k := ⟨_, rfl⟩
  rw [show nmC C b = C' from hC'.symm]
  have hdom : ∀ k, C' k ≠ 0 → k < w'.heap.size := fun k hk => by
    rw [hC'] at hk
    simp only at hk
    by_cases e : k = b
    · rw [e]; exact hbz
    · rw [if_neg e] at hk
      by_cases e2 : C k = 4
      · rw [if_pos e2] at hk; exact absurd rfl hk
      · rw [if_neg e2] at hk
        exact Nat.lt_of_lt_of_le (h.p.dom k hk) hb.size
  have t : Kp (fun d => d = 4) C w C' w' := ⟨Go.Proofs.Ytmmgnbdngpkfcaa.Below.only hb, fun k hk hn => by rw [hC']; simp only; rw [if_neg (by omega), if_neg hn], hdom⟩
  obtain ⟨e1, e2⟩ := t.blk h.lt (by rw [h.gc]; decide)
  have hp := h.p.turn4 t (mv := .slice (some ⟨b, 0, none⟩) 0 0) (ms := []) (.inr ⟨b, 0, 0, #[], rfl, by rw [hC']; simp, hb1, Nat.le_refl _, Nat.zero_le _, by simp, fun k y hy => by simp at hy⟩)
  refine ⟨hp, t.any (by decide), ?_, e1.trans h.row, e2.trans h.gc⟩
  have hsl := h.p.mails.sl (ok := fun k => C k = 4 ∨ C k = 0) (fun k e => .inl e) (fun k e => .inr e) hmv
  refine hsl.mono (by decide) fun k hk hlt => ⟨hb.block k hlt, ?_⟩
  show C' k = 0
  rw [hC']
  simp only
  rw [if_neg (by omega)]
  rcases hk with e | e
  · rw [if_pos e]
  · rw [if_neg (by omega)]; exact e
/-- a list's parts can be read -/
theorem Sl.takeQ {α : Type} {E : Enc α} {ok : Nat → Prop} {w : World} {a : Option Addr} {l : List α} (h : Sl E ok w a l) (j : Nat) : Sl E ok w a (l.take j) := fun k x hx => by
  rw [List.getElem?_take] at hx
  split at hx
  · exact h k x hx
  · cases hx
theorem Sl.dropQ {α : Type} {E : Enc α} {ok : Nat → Prop} {w : World} {b o : Nat} {l : List α} (h : Sl E ok w (some ⟨b, o, none⟩) l) (j : Nat) : Sl E ok w (some ⟨b, o + j * E.sz, none⟩) (l.drop j) := fun k x hx => by
  rw [List.getElem?_drop] at hx
  obtain ⟨b', o', e, hb, cs, hr, hc⟩ := h (j + k) x hx
  injection e with e
  injection e with e1 e2
  subst e1; subst e2
  refine ⟨b, o + j * E.sz, rfl, hb, cs, hr, fun i v hv => ?_⟩
  have := hc i v hv
  rw [show o + j * E.sz + (k * E.sz + i) = o + ((j + k) * E.sz + i) by rw [Nat.add_mul]; omega]
  exact this
end Go.Proofs.Ytmmgnbdngpkfcaa

namespace Go.Proofs.Ytmmgnbdngpkfcaa
open Go.RowKit
set_option linter.unusedVariables false
set_option linter.unusedSimpArgs false

/-- what never turns stands -/
def KpIm (C : Col) (w w' : World) : Prop := ∀ b, Im C b → b < w.heap.size → w'.heap[b]? = w.heap[b]?
theorem vw_gin {G : Vw.Gh} {x1 : Vw.Gr} {K : Nat} (hG : Vw.GrOk G x1 K) (hs : x1.sure.length ≤ 2000) (hml : x1.mail.length ≤ 100000000000) {C : Col} {gg : Nat} {L : GrL} (w : World) (h : GrM C w gg (toGx x1) L) (m : Vw.Msg) (hm : Vw.MsgOk G m) (ito : Nat) (hto : m.to_ = (ito : Int) + 1) (hi : ito < x1.n) (cs : List Value) (hrep : EMsg.rep (Im C) w cs m) (cut : Int) {g : Nat} (hg : L.gs[ito]? = some g) :
    Calls Try.prog 102 #[.pointer (some ⟨g, 0, none⟩), .agg cs.toArray] w fun e w' => ∃ a1 n1 c1 a2 n2 c2 a3 n3 c3, e = .returned (.agg #[.slice a1 n1 c1, .slice a2 n2 c2, .slice a3 n3 c3]) ∧
      RowKit.Hid (KpIm C w w' ∧ Calls Try.prog 66 #[.pointer (some ⟨gg, 0, none⟩), .int .i64 ito, .agg #[.slice a1 n1 c1, .slice a2 n2 c2, .slice a3 n3 c3], .int .i64 cut] w' fun e w'' => e = .returned (.tuple #[]) ∧ GrTo C w w'' gg (toGx (Vw.grDo x1 ((ito : Int) + 1) ((x1.core ((ito : Int) + 1)).in_ m) cut))) := by
  have hy : Vw.node x1.n ((ito : Int) + 1) := ⟨by omega, by omega⟩
  have hst := hG.st _ hy
  have hout := hG.out _ hy
  have hvat : VwAt (pj (ito + 1) C) w g (x1.core ((ito : Int) + 1)) := h.p.mem ito g (fun h => h) hg
  have hok : Vw.InOk (x1.core ((ito : Int) + 1)) m := by
    refine ⟨by rw [hst.me]; exact hto, ⟨hm.frm.1, ?_⟩, ?_, ?_, hm.view, hm.normal.2, ⟨hm.at_.1, by have := hm.at_.2; omega⟩, hm.small⟩
    · have := hm.frm.2; rw [hst.n]; exact this
    · rw [hst.me]; intro e; exact hm.ne (e.trans hto.symm)
    · rw [hst.shard]; exact hm.shard
  obtain ⟨G1, hact⟩ := Vw.Act.in_ hG.gi hst hout m hm hto
  have hfew := Vw.in_few hG.gi hst hvat.right hout m hm hto
  have hrep' : EMsg.rep (Im (pj (ito + 1) C)) w cs m := EMsg.mono hrep fun k hk _ => ⟨rfl, pj_im (by omega) hk⟩
  refine (vw_In w hvat m cs hrep' hok hm.kind (by rw [hout.1]; decide) (by rw [hout.2.1]; decide) (by rw [hout.2.2]; decide)).mono ?_
  rintro e w' ⟨a1, n1, c1, a2, n2, c2, a3, n3, c3, e1, t⟩
  obtain ⟨C2, m2, k2, o2⟩ := h.takes hg t
  refine ⟨a1, n1, c1, a2, n2, c2, a3, n3, c3, e1, Lib.hid ⟨fun b hb hc => (KpA.im k2 hb hc).1, ?_⟩⟩
  refine (vw_gact hG hs hml hi hact hfew cut w' m2 o2).mono ?_
  rintro e w'' ⟨e2, e3⟩
  exact ⟨e2, GrTo.trans k2 e3⟩
end Go.Proofs.Ytmmgnbdngpkfcaa

namespace Go.Proofs.Ytmmgnbdngpkfcaa
open Go.RowKit
set_option linter.unusedVariables false
set_option linter.unusedSimpArgs false

/-- what is inside a block -/
def codeIn : Code → Code
  | .block _ c => c
  | c => c
def codeTh : Code → Code
  | .cond _ a _ => a
  | c => c
def codeEl : Code → Code
  | .cond _ _ b => b
  | c => c
noncomputable def spM : Code := codeTh (codeTl (codeEl (codeTl (codeIn (codeTl spP4)))))
noncomputable def spR19 : Code := codeTh (codeTl (codeTl (codeTl (codeTl (codeTl spM)))))
set_option maxRecDepth 1000000 in
set_option maxHeartbeats 0 in
theorem vw_spR19 (C0 : Col) (w0 : World) (gg p ito : Nat) (cut : Int) (x1 xF : Vw.Gr) (K : Nat) (C7 : Col) (L7 : GrL) (w7 : World) (m : Vw.Msg) (la : Option Addr) (ln lc : Nat) (ea : Option Addr) (en ec : Nat)
    (M7 : RowKit.Hid (GrM C7 w7 gg (toGx x1) L7)) (K7 : RowKit.Hid (KpA C0 w0 C7 w7)) (hx5 : x1.n ≤ 5)
    (P7 : RowKit.Hid (Im C7 p ∧ w7.heap[p]? = some (.cells #[.int .i64 m.kind, .int .i64 m.frm, .int .i64 ((ito : Int) + 1), .int .i64 m.shard, .int .i64 m.view, .int .i64 m.normal, .int .i64 m.at_, .int .i64 m.commit, .int .i64 m.id, .int .i64 m.err, .slice la ln lc, .slice ea en ec] 89 (0, 0)))) (Hrep : RowKit.Hid (EMsg.rep (Im C7) w7 [.int .i64 m.kind, .int .i64 m.frm, .int .i64 ((ito : Int) + 1), .int .i64 m.shard, .int .i64 m.view, .int .i64 m.normal, .int .i64 m.at_, .int .i64 m.commit, .int .i64 m.id, .int .i64 m.err, .slice la ln lc, .slice ea en ec] m))
    (HGo : RowKit.Hid (∃ G, Vw.GrOk G x1 K ∧ x1.sure.length ≤ 2000 ∧ x1.mail.length ≤ 100000000000 ∧ Vw.MsgOk G m ∧ m.to_ = (ito : Int) + 1)) (hitn : ito < x1.n)
    (HDo : RowKit.Hid (xF = Vw.grDo x1 ((ito : Int) + 1) ((x1.core ((ito : Int) + 1)).in_ m) cut)) {u1 u2 u3 u4 u6 u8 u9 aA aB aC aD aE aF aG aH aI aJ aK aL aM aN aO aP aQ aR aS aT aU aV aW aX aY aZ bA bB bC bD bE bF bG bH bI bJ bK bL bM bN bO bP bQ bR bS bT bU bV bW bX bY bZ cA cB cC cD cE cF cG cH cI cJ cK cL cM cN cO cP cQ cR cS cT cU cV cW cX cY cZ dA dB dC dD dE dF dG dH dI dJ dK dL dM dN dO dP dQ dR dS dT dU dV dW dX dY dZ eA eB eC eD eE eF eG eH eI eJ eK eL eM eN eO eP eQ eR eS eT eU eV eW eX eY eZ fA fB fC fD fE fF fG fH fI fJ fK fL fM : Value} :
    Code.wp Try.prog spR19 (Exit.inBlock 0 (bodyPost Try.prog Try.f65 fun e w' => e = .returned (.tuple #[]) ∧ GrTo C0 w0 w' gg (toGx xF))) ⟨#[.pointer (some ⟨gg, 0, none⟩), u1, u2, u3, u4, .int .i64 cut, u6, .pointer (some ⟨p, 0, none⟩), u8, u9, aA, aB, aC, aD, aE, aF, aG, aH, aI, aJ, aK, aL, aM, aN, aO, aP, aQ, aR, aS, aT, aU, aV, aW, aX, aY, aZ, bA, bB, bC, bD, bE, bF, bG, bH, bI, bJ, bK, bL, bM, bN, bO, bP, bQ, bR, bS, bT, bU, bV, bW, bX, bY, bZ, cA, cB, cC, cD, cE, cF, cG, cH, cI, cJ, cK, cL, cM, cN, cO, cP, cQ, cR, cS, cT, cU, cV, cW, cX, cY, cZ, dA, dB, dC, dD, dE, dF, dG, dH, dI, dJ, dK, dL, dM, dN, dO, dP, dQ, dR, dS, dT, dU, dV, dW, dX, dY, dZ, eA, eB, eC, eD, eE, eF, eG, eH, eI, eJ, eK, eL, eM, eN, eO, eP, eQ, eR, eS, eT, eU, eV, eW, eX, eY, eZ, fA, fB, fC, fD, fE, fF, fG, fH, fI, fJ, fK, fL, fM], []⟩ w7 := by
  obtain ⟨cb, co, cc, g, hg, hcvE, hcb, hc3, hc4, v0, hvat, hcf⟩ := M7.out.coreAt hitn
  change w7.cell? ⟨cb, co + ito, none⟩ = _ at v0
  obtain ⟨n, hn⟩ : ∃ n, n = x1.n := ⟨_, rfl⟩
  have y3 : w7.cell? ⟨gg, 3, none⟩ = some (.slice (some ⟨cb, co, none⟩) n cc) := by rw [hn, ← show L7.cv = .slice (some ⟨cb, co, none⟩) x1.n cc from hcvE]; exact M7.out.c3
  have x0 : w7.cell? ⟨p, 0, none⟩ = some (.int .i64 m.kind) := by simp [World.cell?, P7.out.2]
  have xx1 : w7.cell? ⟨p, 1, none⟩ = some (.int .i64 m.frm) := by simp [World.cell?, P7.out.2]
  have x2 : w7.cell? ⟨p, 2, none⟩ = some (.int .i64 ((ito : Int) + 1)) := by simp [World.cell?, P7.out.2]
  have x3 : w7.cell? ⟨p, 3, none⟩ = some (.int .i64 m.shard) := by simp [World.cell?, P7.out.2]
  have x4 : w7.cell? ⟨p, 4, none⟩ = some (.int .i64 m.view) := by simp [World.cell?, P7.out.2]
  have x5 : w7.cell? ⟨p, 5, none⟩ = some (.int .i64 m.normal) := by simp [World.cell?, P7.out.2]
  have x6 : w7.cell? ⟨p, 6, none⟩ = some (.int .i64 m.at_) := by simp [World.cell?, P7.out.2]
  have x7 : w7.cell? ⟨p, 7, none⟩ = some (.int .i64 m.commit) := by simp [World.cell?, P7.out.2]
  have x8 : w7.cell? ⟨p, 8, none⟩ = some (.int .i64 m.id) := by simp [World.cell?, P7.out.2]
  have x9 : w7.cell? ⟨p, 9, none⟩ = some (.int .i64 m.err) := by simp [World.cell?, P7.out.2]
  have x10 : w7.cell? ⟨p, 10, none⟩ = some (.slice la ln lc) := by simp [World.cell?, P7.out.2]
  have x11 : w7.cell? ⟨p, 11, none⟩ = some (.slice ea en ec) := by simp [World.cell?, P7.out.2]
  have hsub : IntKind.i64.wrap ((ito : Int) + 1 - 1) = (ito : Int) := by rw [IntWalk.i64_in _ (by omega)]; omega
  have hsub2 : IntKind.i64.wrap (ito : Int) = (ito : Int) := IntWalk.i64_in _ (by omega)
  have hile : ito < n := by omega
  have hile2 : (ito : Int) < (n : Int) := by omega
  have hbD : Below w7.heap.size w7 w7.drew := (Below.refl _ _).drew
  have HIn : RowKit.Hid (Calls Try.prog 102 #[.pointer (some ⟨g, 0, none⟩), .agg #[.int .i64 m.kind, .int .i64 m.frm, .int .i64 ((ito : Int) + 1), .int .i64 m.shard, .int .i64 m.view, .int .i64 m.normal, .int .i64 m.at_, .int .i64 m.commit, .int .i64 m.id, .int .i64 m.err, .slice la ln lc, .slice ea en ec]] w7.drew fun e w' => ∃ a1 n1 c1 a2 n2 c2 a3 n3 c3, e = .returned (.agg #[.slice a1 n1 c1, .slice a2 n2 c2, .slice a3 n3 c3]) ∧ w'.cell? ⟨p, 2, none⟩ = some (.int .i64 ((ito : Int) + 1)) ∧
      RowKit.Hid (Calls Try.prog 66 #[.pointer (some ⟨gg, 0, none⟩), .int .i64 ito, .agg #[.slice a1 n1 c1, .slice a2 n2 c2, .slice a3 n3 c3], .int .i64 cut] w' fun e w'' => e = .returned (.tuple #[]) ∧ GrTo C0 w0 w'' gg (toGx xF))) := Lib.hid (by
    obtain ⟨G, hGo, hsu, hml, hmo, hito⟩ := HGo.out
    refine (vw_gin hGo hsu hml w7.drew (M7.out.below hbD) m hmo ito hito hitn [.int .i64 m.kind, .int .i64 m.frm, .int .i64 ((ito : Int) + 1), .int .i64 m.shard, .int .i64 m.view, .int .i64 m.normal, .int .i64 m.at_, .int .i64 m.commit, .int .i64 m.id, .int .i64 m.err, .slice la ln lc, .slice ea en ec] (EMsg.mono Hrep.out fun b hb _ => ⟨rfl, hb⟩) cut hg).mono ?_
    rintro e w' ⟨a1, n1, c1, a2, n2, c2, a3, n3, c3, rfl, hh⟩
    have hpz : p < w7.heap.size := (Array.getElem?_eq_some_iff.1 P7.out.2).1
    refine ⟨a1, n1, c1, a2, n2, c2, a3, n3, c3, rfl, (cell_keep (hh.out.1 p P7.out.1 hpz)).trans x2, Lib.hid (hh.out.2.mono ?_)⟩
    rintro e w'' ⟨e1, e2⟩
    refine ⟨e1, ?_⟩
    rw [HDo.out]
    exact GrTo.trans (K7.out.trans (KpA.below M7.out hbD)) e2)
  clear hg hcvE hcb hc3 hc4 hvat hcf hn hbD
  conv => arg 2; whnf
  go_wp2_with fail
  go_region_law ((go_simp; first
      | (go_at_call 102; refine HIn.out.mono ?_; rintro e w8 ⟨a1, n1, c1, a2, n2, c2, a3, n3, c3, rfl, z2, HD⟩)
      | (go_at_call 66; refine HD.out.mono ?_; rintro e w9 ⟨rfl, hto⟩)))
  all_goals
    have HTo := Lib.hid hto
    clear hto
    go_wp2_with fail
    refine bodyPost_end (v := .tuple #[]) (by simp [results, Try.results65, go_sem]) rfl ?_
    exact ⟨rfl, HTo.out⟩
end Go.Proofs.Ytmmgnbdngpkfcaa

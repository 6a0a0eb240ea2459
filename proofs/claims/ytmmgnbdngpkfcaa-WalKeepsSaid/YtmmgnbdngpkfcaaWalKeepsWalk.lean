
/-
  The law WalKeeps, walked.
-/
import Derived.Test.YtmmgnbdngpkfcaaWalK
import Derived.Deep.LoopGhost
import Derived.Outline
namespace Go.Proofs.Ytmmgnbdngpkfcaa
open Go.RowKit
set_option linter.unusedVariables false

theorem b_Open_none {B gd : Nat} {D D' : Dk.Dsk} {er : Int} (w : World) (h : DkB B w gd D) (ha : 0 ≤ D.acts ∧ D.acts ≤ 8000000000000000000) (hL : Wl.Ok (Wl.picks D).1) (hR : Wl.openL D = (D', none, er)) :
    Calls Try.prog 32 #[.pointer (some ⟨gd, 0, none⟩)] w fun e w' => e = .returned (.tuple #[.pointer none, .int .i64 er]) ∧ Below B w w' := by
  have hsz := h.size
  obtain ⟨F, h1, h2, h3⟩ := h
  refine (wal_Open w.heap.size w rfl h1 h2 ha hL).mono ?_
  rw [hR]
  rintro e w' ⟨F', g1, g2, g3, g4, rfl⟩
  exact ⟨rfl, g4.below hsz h3⟩
theorem KM.below {M : Nat → Prop} {w w' : World} {p8 p9 : Nat} {m : Wl.Md} {ot : List (BitVec 8)} {vs vn v9 : Value} (h : KM M w p8 p9 m ot vs vn v9) (hb : Below w.heap.size w w') : KM M w' p8 p9 m ot vs vn v9 :=
  h.only (S := fun _ => False) (Below.only hb) (fun _ _ h => h) (fun _ h => h) fun k hk => Nat.lt_of_lt_of_le (h.lt k hk) hb.size
/-- what holds at the loop's head -/
def KRel (B B1 p8 p9 : Nat) (w : World) (i gl : Nat) (un : Bool) (wr : World) : Prop :=
  ∃ M D L m ot vs vn v9, KM M wr p8 p9 m ot vs vn v9 ∧ LgX M B1 wr gl B1 D L ∧ Wl.KSim D L m un ot i ∧ Below B w wr ∧ (∀ k, M k → B1 ≤ k)

/-- what holds behind a step of the log -/
def KJoin (B B1 p8 p9 : Nat) (w : World) (i : Nat) (dd : Bool) (l u dv ev : Value) (wx : World) : Prop :=
  ∃ gl un e M D L m ot vs vn v9, l = .pointer (some ⟨gl, 0, none⟩) ∧ u = .bool un ∧ dv = .bool dd ∧ ev = .int .i64 e ∧ Wl.okE dd e ∧ KM M wx p8 p9 m ot vs vn v9 ∧ LgX M B1 wx gl B1 D L ∧ Wl.KSim D L m un ot i ∧ Below B w wx ∧ (∀ k, M k → B1 ≤ k) ∧ (L.dead = false → L.state = m.state ∧ L.notes = m.notes)
/-- a note is put behind the model's -/
def KApp (M : Nat → Prop) (p8 p9 : Nat) (w6 : World) (vs : Value) (sf : Nat) (ns : List (List (BitVec 8))) (wx : World) : Prop :=
  ∃ vn', wx.heap[p8]? = some (.cells #[vs, vn', .int .i64 sf] 76 (0, 0)) ∧ Nts (fun k => (M k ∧ k ≠ p8 ∧ k ≠ p9) ∨ w6.heap.size ≤ k) wx vn' ns ∧ Only (· = p8) w6 wx
theorem Own.nts {te : TypeId} {base : Nat} {p : Nat → Prop} {w : World} {v : Value} {l : List (List (BitVec 8))} (h : Own (EOk p EBytes) te base w v l) (hp : ∀ k, base ≤ k → p k) : Nts p w v l := by
  rcases h with ⟨rfl, rfl⟩ | ⟨g, cap, cur, rfl, hg, hh, h1, h2, h3, h4⟩
  · exact Nts.nil _ _
  · refine ⟨some ⟨g, 0, none⟩, cap, rfl, h1, h2, fun k x hx => ?_⟩
    obtain ⟨cs, hr, hc⟩ := h4 k x hx
    refine ⟨g, 0, rfl, hp g hg, cs, EBytes.mono (w' := w) hr fun k hk _ => ⟨rfl, hk.2⟩, fun j v hj => ?_⟩
    have := hc j v hj
    have e : (EOk p EBytes).sz = EBytes.sz := rfl
    rw [e] at this
    simp [World.cell?, hh, this]
theorem ti_okb (p : Nat → Prop) : ElemInfo Try.prog 50 49 (EOk p EBytes).sz 24 := ti_byts
theorem sl_okb {ok p : Nat → Prop} {w : World} {a : Option Addr} {l : List (List (BitVec 8))} (h : Sl EBytes (fun k => ok k ∧ p k) w a l) : Sl (EOk p EBytes) ok w a l := by
  intro k x hx
  obtain ⟨b, o, e, hb, cs, hr, hc⟩ := h k x hx
  exact ⟨b, o, e, hb.1, cs, hr, hc⟩

/-- what an opening comes to behind a loss of power, or without one -/
def KOpn (D1 : Dk.Dsk) (L : Wl.Lg) (m : Wl.Md) (un : Bool) (ot : List (BitVec 8)) (K4 : Bool) (i : Nat) : Prop :=
  Wl.Ok (Wl.picks D1).1 ∧ (0 ≤ D1.acts ∧ D1.acts ≤ 8000000000000000000) ∧ ∃ D' r e, Wl.openL D1 = (D', r, e) ∧
    ((r = none ∧ e = 40) ∨ (r = none ∧ e = 2 ∧ Wl.KSim D' L m un ot (i + 1)) ∨
      ∃ L', r = some L' ∧ e = 0 ∧ Wl.Ok L' ∧ (un = true → K4 = true) ∧ Wl.KSim D' L' ⟨L'.state, L'.notes, if K4 = true then L'.notes.length else m.safe⟩ false ot (i + 1) ∧ ((L'.state = m.state ∧ ∃ j, m.safe ≤ j ∧ j ≤ m.notes.length ∧ L'.notes = m.notes.take j) ∨ (un = true ∧ K4 = true ∧ L'.state = ot ∧ L'.notes = [])))
theorem kopn_crash {D : Dk.Dsk} {L : Wl.Lg} {m : Wl.Md} {un : Bool} {ot : List (BitVec 8)} {i : Nat} (h : Wl.KSim D L m un ot i) (hi : i ≤ 60) (hD : Dk.Ok D) (ks : List Int) (fu : Int) : KOpn (Dk.fuse (Dk.crash D ks) fu) L m un ot true i := by
  obtain ⟨D', r, e, h1, h2, h3⟩ := Wl.k_crash h (by omega) hD ks fu
  have hac := h.acts
  refine ⟨h2, ?_, D', r, e, h1, ?_⟩
  · show 0 ≤ D.acts ∧ D.acts ≤ _
    omega
  · rcases h3 with h3 | h3 | ⟨L', h3, h4, h5, h6, h7⟩
    · exact .inl h3
    · exact .inr (.inl h3)
    · refine .inr (.inr ⟨L', h3, h4, h6.ok (by omega), fun _ => rfl, by rw [if_pos rfl]; exact h6, ?_⟩)
      rcases h7 with h7 | ⟨h7, h8⟩
      · exact .inl h7
      · exact .inr ⟨h7, rfl, h8⟩
theorem kopn_up {D : Dk.Dsk} {L : Wl.Lg} {m : Wl.Md} {un : Bool} {ot : List (BitVec 8)} {i : Nat} (h : Wl.KSim D L m un ot i) (hi : i ≤ 60) (hD : Dk.Ok D) (hup : D.down = false) : KOpn D L m un ot false i := by
  obtain ⟨h1, h2, h3, h4, h5⟩ := Wl.k_open h (by omega) hD hup
  have hac := h.acts
  have hok := h.ok (by omega)
  refine ⟨Wl.Ok.of_open h1 hok, by omega, D, some L, 0, h1, .inr (.inr ⟨L, rfl, rfl, hok, (fun h => by rw [h2] at h; cases h), ?_, .inl ⟨h4, m.notes.length, h.ms, Nat.le_refl _, by rw [List.take_length]; exact h5⟩⟩)⟩
  rw [if_neg (by decide), h4, h5, ← h2]
  exact h.next
theorem take_eq {l ns : List (List (BitVec 8))} {j q : Nat} (h : ns = l.take j) (hj : j ≤ l.length) (hq : q ≤ l.length) : (ns == l.take q) = decide (q = j) := by
  subst h
  rw [Bool.eq_iff_iff, beq_iff_eq, decide_eq_true_iff]
  constructor
  · intro e
    have := congrArg List.length e
    rw [List.length_take, List.length_take, Nat.min_eq_left hj, Nat.min_eq_left hq] at this
    omega
  · rintro rfl; rfl
/-- 'x[:i]', whatever the elements are -/
theorem slice_tG {α : Type} {E : Enc α} {P : Program} {t te : TypeId} {bytes : Nat} (ti : ElemInfo P t te E.sz bytes) {ok : Nat → Prop} {w : World} {a : Option Addr} {n c i : Nat} {l : List α} (h : Sl E ok w a l) (hm : n = l.length) (hi : i ≤ n) (hn : n ≤ c) :
    ∃ a', (∀ (W : World), (Instr.slice t (.slice a n c) none (some (.int .i64 i)) none).run P W = .ok (.slice a' i c) W) ∧ Sl E ok w a' (l.take i) := by
  obtain ⟨i0, z, hi0, hz, hsz, hby, hzc⟩ := ti.info
  refine ⟨if c = 0 then a else a.map (·.add (0 * E.sz)), fun W => ?_, ?_⟩
  · have e3 : (i : Int) ≤ (c : Int) := by omega
    simp [Instr.slice, run_underlying ti.under, Instr.sliceBounds, run_sliceBound, sizeOf, typeInfo, hi0, e3]
  · have := h.cut (c := c) (i := 0) (j := i) (Nat.zero_le _) (by omega) (by omega) (decide (c = 0)) (by simp; omega)
    simp only [decide_eq_true_eq, List.drop_zero, Nat.sub_zero] at this
    exact this
/-- what the statement holds while it looks for what the log is -/
def KLook (M : Nat → Prop) (B B1 p8 p9 pc : Nat) (K : Int) (K4 : Bool) (w : World) (gm : Nat) (D' : Dk.Dsk) (L' : Wl.Lg) (m m3 : Wl.Md) (ot : List (BitVec 8)) (v9 : Value) (f : Bool) (wx : World) : Prop :=
  ∃ vs vn, KM M wx p8 p9 m3 ot vs vn v9 ∧ LgX M B1 wx gm B1 D' L' ∧ Below B w wx ∧ wx.cell? ⟨pc, 0, none⟩ = some (.int .i64 K) ∧ (f = false → m3 = m) ∧ (f = true → m3.state = L'.state ∧ m3.notes = L'.notes ∧ (K4 = false → m3.safe = m.safe))

set_option maxRecDepth 100000 in
set_option maxHeartbeats 12800000 in
theorem law_WalKeeps (room : Int) (a1 : Option Addr) (c1 : Nat) (ts : List KOp) (w : World) (hr : -9223372036854775808 ≤ room ∧ room ≤ 9223372036854775807)
    (hs1 : Sl EKOp (fun _ => True) w a1 ts) (hc1 : ts.length ≤ c1) (hm1 : c1 ≤ maxLen) :
    Calls Try.prog 9 #[.int .i64 room, .slice a1 ts.length c1] w fun e w' => e = .returned (.bool true) ∧ Below w.heap.size w w' := by
  obtain ⟨B, hB⟩ : ∃ B, B = w.heap.size := ⟨_, rfl⟩
  rw [← hB]
  have HB := Lib.hid hB.symm
  obtain ⟨nT, hnT⟩ : ∃ n, n = ts.length := ⟨_, rfl⟩
  rw [← hnT] at hc1 ⊢
  have Hs1 := Lib.hid hs1
  have HnT := Lib.hid hnT
  clear hB hs1 hnT
  unfold maxLen at hm1
  obtain ⟨hz1, hz2⟩ := Wl.open_zero room
  by_cases hlow : room < 14
  · obtain ⟨D1, e1⟩ := hz2 hlow
    have E1 := Lib.hid e1
    have h15 : decide (room < 15) = true := by simp; omega
    clear e1 hz1 hz2 hlow
    go_enter Try.func9, Try.ntmps9
    go_wp2_with fail
    refine (law17_head w).mono ?_
    rintro e w1 ⟨rfl, hb1⟩
    rw [HB.out] at hb1
    go_wp2_with fail
    refine (b_New room w1.heap.size w1 rfl hr).mono ?_
    rintro e w2 ⟨rfl, h2, hb2⟩
    have hB1 : B ≤ w1.heap.size := by rw [← HB.out]; exact hb1.size
    have hb2 := hb1.trans (hb2.mono hB1)
    go_wp2_with fail
    refine (b_Open_none w2 h2 (by show (0 : Int) ≤ 0 ∧ (0 : Int) ≤ _; decide) (by rw [show (Wl.picks (Dk.new room)).1 = ⟨0, [], [], false⟩ from rfl]; exact Wl.ok_of (by decide) (by decide) (fun n hn => by cases hn) (by decide)) E1.out).mono ?_
    rintro e w3 ⟨rfl, hb3⟩
    have hb3 := hb2.trans (hb3.mono hB1)
    clear h2 hb2
    go_wp2_with fail
    go_ret
    exact ⟨rfl, hb3⟩
  · obtain ⟨D1, e1, u1, k1⟩ := hz1 (by omega)
    have E1 := Lib.hid e1
    have U1 := Lib.hid u1
    have K1 := Lib.hid k1
    clear e1 u1 k1 hz1 hz2 hlow
    go_enter Try.func9, Try.ntmps9
    go_wp2_with fail
    refine (law17_head w).mono ?_
    rintro e w1 ⟨rfl, hb1⟩
    rw [HB.out] at hb1
    obtain ⟨B1, hB1e⟩ : ∃ x, x = w1.heap.size := ⟨_, rfl⟩
    have hB1 : B ≤ B1 := by rw [hB1e, ← HB.out]; exact hb1.size
    have HB1 := Lib.hid hB1e
    clear hB1e
    go_wp2_with fail
    refine (b_New room B1 w1 HB1.out.symm hr).mono ?_
    rintro e w2 ⟨rfl, h2, hb2⟩
    have hb2 := hb1.trans (hb2.mono hB1)
    go_wp2_with fail
    refine (b_Open' w2 h2 (by show (0 : Int) ≤ 0 ∧ (0 : Int) ≤ _; decide) Wl.ok_one' E1.out).mono ?_
    rintro e w3 ⟨gl, rfl, h3, hb3⟩
    have hb3 := hb2.trans (hb3.mono hB1)
    clear h2 hb2
    obtain ⟨p8, hp8⟩ : ∃ p, p = w3.heap.size := ⟨_, rfl⟩
    obtain ⟨w4, hw4⟩ : ∃ x, x = w3.alloc (.cells #[.slice none 0 0, .slice none 0 0, .int .i64 0] 76) := ⟨_, rfl⟩
    obtain ⟨w5, hw5⟩ : ∃ x, x = w4.alloc (.cells #[.slice none 0 0, .slice none 0 0, .int .i64 0] 76) := ⟨_, rfl⟩
    have hs4 : w4.heap.size = p8 + 1 := by rw [hw4, hp8]; simp
    have hb34 : Below w3.heap.size w3 w4 := by rw [hw4]; exact alloc_below _ _
    have hb45 : Below w4.heap.size w4 w5 := by rw [hw5]; exact alloc_below _ _
    have hh8 : w4.heap[p8]? = some (.cells #[.slice none 0 0, .slice none 0 0, .int .i64 0] 76 (0, 0)) := by rw [hw4, hp8]; exact heap_alloc_new w3 _
    have hh9 : w5.heap[p8 + 1]? = some (.cells #[.slice none 0 0, .slice none 0 0, .int .i64 0] 76 (0, 0)) := by rw [hw5, ← hs4]; exact heap_alloc_new w4 _
    have hh85 : w5.heap[p8]? = some (.cells #[.slice none 0 0, .slice none 0 0, .int .i64 0] 76 (0, 0)) := by rw [hb45.block p8 (by omega)]; exact hh8
    have hkm : KM (fun k => k = p8 ∨ k = p8 + 1) w5 p8 (p8 + 1) ⟨[], [], 0⟩ [] (.slice none 0 0) (.slice none 0 0) (.slice none 0 0) := by
      refine ⟨hh85, Byt.nil _ _, Nts.nil _ _, hh9, Byt.nil _ _, .inl rfl, .inr rfl, by omega, fun k hk => ?_⟩
      have h6 : w5.heap.size = p8 + 2 := by rw [hw5]; simp; omega
      omega
    have hlx : LgX (fun k => k = p8 ∨ k = p8 + 1) B1 w5 gl B1 D1 ⟨1, [], [], false⟩ := (h3.x fun k hk => by omega).keep (hb34.trans (hb45.mono (by omega)))
    have hsim : Wl.KSim D1 ⟨1, [], [], false⟩ ⟨[], [], 0⟩ false [] 0 := ⟨⟨by decide, (fun n hn => by cases hn), Nat.le_refl _⟩, by decide, by decide, (fun n hn => by cases hn), Nat.le_refl _, by decide, by rw [K1.out]; decide, Nat.le_refl _, .inl ⟨rfl, U1.out⟩⟩
    have hBp : B1 ≤ p8 := by rw [hp8]; exact h3.size
    have hrel0 : KRel B B1 p8 (p8 + 1) w 0 gl false w5 := ⟨_, _, _, _, _, _, _, _, hkm, hlx, hsim, hb3.trans ((hb34.trans (hb45.mono (by omega))).mono (Nat.le_trans hB1 (by rw [← hp8]; exact hBp))), fun k hk => by omega⟩
    have Hrel0 := Lib.hid hrel0
    obtain ⟨p9, hp9⟩ : ∃ p, p = p8 + 1 := ⟨_, rfl⟩
    rw [← hp9] at Hrel0
    have hne89 : p8 ≠ p9 := by omega
    have q0 : w4.cell? ⟨p8, 0, none⟩ = some (.slice none 0 0) := by simp [World.cell?, hh8]
    have q1 : w4.cell? ⟨p8, 1, none⟩ = some (.slice none 0 0) := by simp [World.cell?, hh8]
    have q2 : w4.cell? ⟨p8, 2, none⟩ = some (.int .i64 0) := by simp [World.cell?, hh8]
    clear hkm hlx hsim hrel0 hh8 hh9 hh85 hb34 hb45 hb3 h3
    go_upto_region 8 with fail
    rw [← hw4, ← hp8]
    clear hw4 hp8
    go_upto_region 9 with fail
    rw [← hw5, ← hp9]
    clear hw5 hs4 hp9 q0 q1 q2
    go_wp2_with fail
    go_loopg [6, 10, 11] nT (fun gn l u i wr => ∃ (k gl : Nat) (un : Bool), RowKit.Hid (gn = nT - k) ∧ k ≤ nT ∧ k ≤ 60 ∧ i = .int .i64 k ∧ l = .pointer (some ⟨gl, 0, none⟩) ∧ u = .bool un ∧ KRel B B1 p8 p9 w k gl un wr)
    case atStart => exact ⟨0, gl, false, Lib.hid rfl, Nat.zero_le _, by decide, rfl, rfl, rfl, Hrel0.out⟩
    case round =>
      clear Hrel0
      obtain ⟨k, gk, un, hgn, hk, hk60, rfl, rfl, rfl, hkr⟩ := hrel
      have HKR := Lib.hid hkr
      clear hkr
      by_cases hlt : k < nT ∧ k < 60
      · have hki : (k : Int) < (nT : Int) := by omega
        have hkj : (k : Int) < 60 := by omega
        obtain ⟨M, D, L, m, ot, vs, vn, v9, hkm, hlx, hsim, hb, hMB⟩ := HKR.out
        have hkT : k < ts.length := by rw [← HnT.out]; exact hlt.1
        obtain ⟨b6, o6, aB, cB, aK, cK, rfl, hb6, p0, p1, p2, p3, hKr, hNr, hcB, hmB, hsB, hcK, hmK, hsK⟩ := kop_at Hs1.out HB.out hb k hkT
        obtain ⟨⟨K, N, d, ks⟩, hx⟩ : ∃ x, x = ts[k] := ⟨_, rfl⟩
        rw [← hx] at p0 p1 p2 p3 hKr hNr hcB hsB hcK hsK
        dsimp only at p0 p1 p2 p3 hKr hNr hcB hsB hcK hsK
        obtain ⟨nd, hnd⟩ : ∃ n, n = d.length := ⟨_, rfl⟩
        obtain ⟨nk, hnk⟩ : ∃ n, n = ks.length := ⟨_, rfl⟩
        rw [← hnd] at p2 hcB
        rw [← hnk] at p3 hcK
        unfold maxLen at hmB hmK
        have Hnd := Lib.hid hnd
        have Hnk := Lib.hid hnk
        have HsB := Lib.hid hsB
        have HsK := Lib.hid hsK
        have Hkm := Lib.hid hkm
        have Hlx := Lib.hid hlx
        have Hsim := Lib.hid hsim
        have Hb := Lib.hid hb
        have HMB := Lib.hid hMB
        clear hx hnd hnk hsB hsK hkm hlx hsim hMB HKR hkT
        obtain ⟨pc, hpc⟩ : ∃ p, p = wr.heap.size := ⟨_, rfl⟩
        obtain ⟨wq, hwq⟩ : ∃ x, x = wr.alloc (.cells #[.int .i64 K, .int .i64 N, .slice aB nd cB, .slice aK nk cK] 78) := ⟨_, rfl⟩
        have hbq : Below wr.heap.size wr wq := by rw [hwq]; exact alloc_below _ _
        have hhq : wq.heap[pc]? = some (.cells #[.int .i64 K, .int .i64 N, .slice aB nd cB, .slice aK nk cK] 78 (0, 0)) := by rw [hwq, hpc]; exact heap_alloc_new wr _
        have k0 : wq.cell? ⟨pc, 0, none⟩ = some (.int .i64 K) := by simp [World.cell?, hhq]
        have k1 : wq.cell? ⟨pc, 1, none⟩ = some (.int .i64 N) := by simp [World.cell?, hhq]
        have k2 : wq.cell? ⟨pc, 2, none⟩ = some (.slice aB nd cB) := by simp [World.cell?, hhq]
        have k3 : wq.cell? ⟨pc, 3, none⟩ = some (.slice aK nk cK) := by simp [World.cell?, hhq]
        have hzq : wq.heap.size = pc + 1 := by rw [hwq, hpc]; simp
        have Hpc := Lib.hid hpc
        clear hb hhq
        go_upto_region 14 with fail
        rw [← hwq, ← hpc]
        clear hwq hpc
        have hszr : B ≤ wr.heap.size := Nat.le_trans hB1 Hlx.out.size
        by_cases hbig : 500 < nd
        · as_aux_lemma =>
            have hbig' : (500 : Int) < (nd : Int) := by omega
            go_wp2_with fail
            go_roundg (nT - (k + 1))
            case measure => rw [hgn.out]; omega
            case rel => exact ⟨k + 1, gk, un, Lib.hid rfl, by omega, by omega, by go_num, rfl, rfl, M, D, L, m, ot, vs, vn, v9, Hkm.out.below hbq, Hlx.out.keep hbq, Hsim.out.next, Hb.out.trans (hbq.mono hszr), HMB.out⟩
        · have hbig' : (nd : Int) ≤ 500 := by omega
          have hd5 : d.length ≤ 500 := by rw [← Hnd.out]; omega
          go_wp2_with fail
          refine (x_Dead wq (Hlx.out.keep hbq)).mono ?_
          rintro e wt ⟨rfl, rfl⟩
          obtain ⟨dd, hdd⟩ : ∃ b, b = L.dead := ⟨_, rfl⟩
          rw [← hdd]
          have Hdd := Lib.hid hdd
          clear hdd
          have Hk0 := Lib.hid k0
          have hpcs : pc < wq.heap.size := by omega
          go_upto_block 2 with fail
          go_cut [6, 10, 13, 14] from 39 to 227 (fun l u dv ev wx => KJoin B B1 p8 p9 w (k + 1) dd l u dv ev wx)
          case first =>
            by_cases hK0 : K = 0
            · as_aux_lemma =>
                -- CASE0 BEGIN
                subst hK0
                obtain ⟨D2, L2, e2, ea, eok, esim, elive⟩ := Wl.k_append Hsim.out Hlx.out.ok d hd5
                rw [← Hdd.out] at eok esim elive
                have hsB5 : RB wq aB nd d := ⟨Hnd.out, (keep_low (by decide) HsB.out (Hb.out.trans (hbq.mono hszr))).any (by decide)⟩
                have hacts := Hsim.out.acts
                have hok := Hsim.out.ok (by omega)
                have Ea := Lib.hid ea
                have Eok := Lib.hid eok
                have Esim := Lib.hid esim
                have Elive := Lib.hid elive
                have Hok := Lib.hid hok
                clear ea eok esim elive hok
                go_wp2_with fail
                refine (ref_Copy_at wq.heap.size aB nd cB d wq rfl hsB5 (by omega)).mono ?_
                rintro e w5 ⟨v5, rfl, ho5, hb5⟩
                obtain ⟨a5, c5, rfl, hc5, hm5, hr5, ho5'⟩ := ho5.shape nd Hnd.out
                have hzr5 : wr.heap.size ≤ wq.heap.size := hbq.size
                have hb05 : Below wr.heap.size wr w5 := hbq.trans (hb5.mono hzr5)
                obtain ⟨M1, hM1⟩ : ∃ M1 : Nat → Prop, M1 = fun k => M k ∨ (wr.heap.size ≤ k ∧ k < w5.heap.size) := ⟨_, rfl⟩
                have hx5 : LgX M1 B1 w5 gk B1 D L := Hlx.out.grow ((Below.only (S := M) hb05)) fun k hk => by rw [hM1] at hk; rcases hk with hk | hk; exact .inl hk; exact .inr hk.1
                have hlt5 : ∀ k, M1 k → k < w5.heap.size := fun k hk => by
                  rw [hM1] at hk
                  rcases hk with hk | hk
                  · exact Nat.lt_of_lt_of_le (Hkm.out.lt k hk) hb05.size
                  · exact hk.2
                have hk5 : KM M1 w5 p8 p9 m ot vs vn v9 := Hkm.out.only (S := fun _ => False) (Below.only hb05) (fun _ _ h => h) (fun k hk => by rw [hM1]; exact .inl hk) hlt5
                have hs5 : Sl EU8 (fun k => M1 k ∨ k < B1) w5 a5 d := by
                  intro q x hx
                  obtain ⟨b, o, e, hb, cs, hcs, hc⟩ := ho5'.slB q x hx
                  have hb0 : cs = [.int .u8 (bv x)] := hcs
                  refine ⟨b, o, e, ?_, cs, hcs, hc⟩
                  rw [hb0] at hc
                  have := cell_lt (hc 0 _ rfl)
                  rw [hM1]
                  exact .inl (.inr ⟨by omega, this⟩)
                have hpcM : M1 pc := by rw [hM1]; right; have := Hpc.out; have := hb5.size; omega
                have hMB1 : ∀ k, M1 k → B1 ≤ k := fun k hk => by
                  rw [hM1] at hk
                  rcases hk with hk | hk
                  · exact HMB.out k hk
                  · have := Hlx.out.size; omega
                have HMB1 := Lib.hid hMB1
                have HpcM := Lib.hid hpcM
                have Hk5 := Lib.hid hk5
                have Hlt5 := Lib.hid hlt5
                have hbB5 : Below B w w5 := Hb.out.trans (hb05.mono hszr)
                have k25 := cell_thru k2 hb5
                clear hM1 hMB1 hpcM hk5 hlt5 ho5 ho5' hr5 hb05 hsB5
                go_wp2_with fail
                refine (x_LAppend a5 nd c5 d w5 hx5 Hlt5.out (by omega) Hok.out Hnd.out (by omega) hs5 Ea.out).mono ?_
                rintro e w6 ⟨rfl, hx6, hb6', ho6⟩
                have hbB6 := hbB5.trans (hb6'.mono hB1)
                have hk6 := Hk5.out.only ho6 (fun k hk h => h hk) (fun k hk => hk) (fun k hk => Nat.lt_of_lt_of_le (Hlt5.out k hk) ho6.size)
                have k26 : w6.cell? ⟨pc, 2, none⟩ = some (.slice aB nd cB) := by rw [cell_keep (ho6.block pc (Hlt5.out pc HpcM.out) (fun h => h HpcM.out))]; exact k25
                have Hk6 := Lib.hid hk6
                have Hx6 := Lib.hid hx6
                clear hx5 hs5 hbB5 hb6' ho6 k25 hk6 hx6
                have hcomb : (e2 = 0 ∧ dd = false) ∨ (e2 = 2 ∧ dd = false) ∨ (e2 = 2 ∧ dd = true) ∨ (e2 = 40 ∧ dd = false) := by
                  rcases Eok.out with ⟨h1, h2⟩ | ⟨h1, h2 | h2 | h2⟩
                  · exact .inr (.inr (.inl ⟨h2, h1⟩))
                  · exact .inl ⟨h2, h1⟩
                  · exact .inr (.inl ⟨h2, h1⟩)
                  · exact .inr (.inr (.inr ⟨h2, h1⟩))
                have hjoin : ∀ wx M2 vn2, KM M2 wx p8 p9 (Wl.grown m (e2 == 0 || (!dd && e2 == 2)) d) ot vs vn2 v9 → LgX M2 B1 wx gk B1 D2 L2 → Below B w wx → (∀ k, M2 k → B1 ≤ k) → KJoin B B1 p8 p9 w (k + 1) dd (.pointer (some ⟨gk, 0, none⟩)) (.bool un) (.bool dd) (.int .i64 e2) wx :=
                  fun wx M2 vn2 h1 h2 h3 h4 => ⟨gk, un, e2, M2, D2, L2, _, ot, vs, vn2, v9, rfl, rfl, rfl, rfl, Eok.out, h1, h2, Esim.out, h3, h4, Elive.out⟩
                have Hjoin := Lib.hid hjoin
                clear hjoin
                have hcomb2 : (e2 == 0 || (!dd && e2 == 2)) = true ∨ ((e2 == 0 || (!dd && e2 == 2)) = false ∧ ((e2 = 2 ∧ dd = true) ∨ (e2 = 40 ∧ dd = false))) := by
                  rcases hcomb with ⟨rfl, rfl⟩ | ⟨rfl, rfl⟩ | ⟨rfl, rfl⟩ | ⟨rfl, rfl⟩
                  · exact .inl rfl
                  · exact .inl rfl
                  · exact .inr ⟨rfl, .inl ⟨rfl, rfl⟩⟩
                  · exact .inr ⟨rfl, .inr ⟨rfl, rfl⟩⟩
                obtain ⟨gg, hgg⟩ : ∃ g, g = (e2 == 0 || (!dd && e2 == 2)) := ⟨_, rfl⟩
                rw [← hgg] at Hjoin hcomb2
                have Hgg := Lib.hid hgg
                have Hcomb := Lib.hid hcomb
                clear hgg hcomb hcomb2
                go_upto_region 45 with fail
                go_cut [147] from 39 to 227 (fun s wx => s = .bool gg ∧ wx = w6)
                case first =>
                  rcases Hcomb.out with ⟨rfl, rfl⟩ | ⟨rfl, rfl⟩ | ⟨rfl, rfl⟩ | ⟨rfl, rfl⟩
                  all_goals
                    go_wp2_with fail
                    go_meet
                    exact ⟨by rw [Hgg.out]; rfl, rfl⟩
                obtain ⟨hs147, hwc⟩ := hcut
                subst hs147
                rw [hwc]
                clear hwc
                cases gg
                · go_wp2_with fail
                  go_meet
                  exact Hjoin.out _ _ _ Hk6.out Hx6.out hbB6 HMB1.out
                · have c1 := Hk6.out.c1
                  have cf := Hk6.out.f8
                  obtain ⟨an, cn, rfl, hcn, hmn, hsn⟩ := Hk6.out.n8
                  obtain ⟨nm, hnm⟩ : ∃ n, n = m.notes.length := ⟨_, rfl⟩
                  rw [← hnm] at c1 hcn
                  have hnm60 : nm ≤ 60 := by rw [hnm]; have := Hsim.out.sm.many; omega
                  have Hsn := Lib.hid hsn
                  have Hnm := Lib.hid hnm
                  clear hsn hnm
                  obtain ⟨PP, hPP⟩ : ∃ PP : Nat → Prop, PP = fun k => (M1 k ∧ k ≠ p8 ∧ k ≠ p9) ∨ w6.heap.size ≤ k := ⟨_, rfl⟩
                  have hPn : ∀ k, w6.heap.size ≤ k → PP k := fun k hk => by rw [hPP]; exact .inr hk
                  have hPo : ∀ k, (M1 k ∧ k ≠ p8 ∧ k ≠ p9) → PP k := fun k hk => by rw [hPP]; exact .inl hk
                  have hsl1 : Sl (EOk PP EBytes) (fun b => some b ≠ (Value.slice (some ⟨w6.drew.heap.size, 0, none⟩) 0 0).ownBlock) (w6.drew.alloc (.cells #[] 49)) an m.notes :=
                    sl_okb (Hsn.out.mono (by decide) fun k hk hlt => ⟨heap_alloc_old w6.drew _ hlt, by simp [Value.ownBlock]; omega, hPo k hk⟩)
                  have hoe : Own (EOk PP EBytes) 49 w6.heap.size (w6.drew.alloc (.cells #[] 49)) (.slice (some ⟨w6.drew.heap.size, 0, none⟩) 0 0) [] := own_empty (EOk PP EBytes) 49 w6.drew (by show 0 < EBytes.sz; decide)
                  have Hoe := Lib.hid hoe
                  have c1m : (w6.alloc (.cells #[] 49)).cell? ⟨p8, 1, none⟩ = some (.slice an nm cn) := cell_thru c1 (alloc_below _ _)
                  have k2m : (w6.alloc (.cells #[] 49)).cell? ⟨pc, 2, none⟩ = some (.slice aB nd cB) := cell_thru k26 (alloc_below _ _)
                  clear hoe
                  have HPP := Lib.hid hPP
                  have HPn := Lib.hid hPn
                  have Hsl1 := Lib.hid hsl1
                  have hB6 : B ≤ w6.heap.size := Nat.le_trans hB1 Hx6.out.size
                  have hp86 : p8 < w6.heap.size := Hk6.out.lt p8 Hk6.out.m8
                  have hpc8 : pc ≠ p8 := fun e => by have := Hpc.out; have := Hkm.out.lt p8 Hkm.out.m8; omega
                  clear hPP hPn hPo hsl1
                  go_upto_region 46 with fail
                  go_region_law (first
                    | ((rw [if_pos (by simp [Region.wanted])]); (refine step_app (l2 := m.notes) (m := nm) (base := w6.heap.size) (EOk PP EBytes) (by rfl) (by rfl) (by rfl) (ti_okb PP) Hoe.out Hnm.out Hsl1.out (by rw [← Hnm.out]; simp [maxLen]; omega) (by rw [← Hnm.out]; simp; omega) (by simp) ?_; intro v4 w4 ho4 hg4 hv4 hb4; have hbx4 : Below w6.heap.size w6 w4 := (((Below.refl w6.heap.size w6).drew).alloc (Nat.le_refl _) _).trans hb4; have kk4 := cell_thru k26 hbx4; have hrB4 : RB w4 aB nd d := ⟨Hnd.out, (keep_low (by decide) HsB.out (hbB6.trans (hbx4.mono hB6))).any (by decide)⟩))
                    | (go_simp; go_at_call 41; refine (ref_Copy_at w4.heap.size aB nd cB d _ (by rfl) (by exact hrB4) (by omega)).mono ?_; rintro e w7 ⟨v7, rfl, ho7, hb7⟩; obtain ⟨a7, c7, rfl, hc7, hm7, _, ho7'⟩ := ho7.shape nd Hnd.out; have hbx7 : Below w6.heap.size w6 w7 := hbx4.trans (hb7.mono hbx4.size); have ho47 := (ho4.below hb7).below (alloc_below w7 (.cells #[.slice a7 nd c7] 49)))
                    | ((rw [if_pos (by simp [Region.wanted])]); (refine step_app (l2 := [d]) (m := 1) (base := w6.heap.size) (EOk PP EBytes) (by rfl) (by rfl) (by rfl) (ti_okb PP) ho47 rfl (sl_one (cs := #[.slice a7 nd c7]) (heap_alloc_new w7 _) ⟨a7, c7, by rw [Hnd.out], by rw [← Hnd.out]; exact hc7, hm7, ho7'.slB.mono (by decide) fun q hq hlt => ⟨heap_alloc_old w7 _ hlt, fun e => by have := (ho4.lt q e.symm).2; omega, HPn.out q (Nat.le_trans hbx4.size hq)⟩⟩ ((ho4.below hb7).fresh)) (by rw [List.nil_append, ← Hnm.out]; simp [maxLen]; omega) (by rw [List.nil_append, ← Hnm.out]; simp; omega) (Nat.le_trans hbx7.size (by simp)) ?_; intro v8 w8 ho8 hg8 hv8 hb8; have hbx8 : Below w6.heap.size w6 w8 := (hbx7.trans ((alloc_below w7 (.cells #[.slice a7 nd c7] 49)).mono hbx7.size)).trans hb8; have c18 := cell_thru c1 hbx8; have cf8 := (hbx8.frozen (p := ⟨p8, 1, none⟩) hp86).trans (cf 1); obtain ⟨a8, c8, rfl, hc8, hm8, _, ho8'⟩ := ho8.shape (nm + 1) (by rw [List.nil_append, List.length_append, ← Hnm.out]; rfl))))
                  all_goals
                    go_wp2_with fail
                    go_meet
                    have hh8 : w8.heap[p8]? = _ := (hbx8.block p8 hp86).trans Hk6.out.h8
                    have hho : Only (· = p8) w8 (w8.setCell ⟨p8, 1, none⟩ (.slice a8 (nm + 1) c8)) := Only.setCell (S := (· = p8)) (Only.refl _ _) (p := ⟨p8, 1, none⟩) (.inl rfl) _
                    have hset := heap_set hh8 1 (.slice a8 (nm + 1) c8)
                    rw [List.nil_append] at ho8'
                    have hnts := (ho8'.nts HPn.out).mono (ok' := fun k => (M1 k ∧ k ≠ p8 ∧ k ≠ p9) ∨ w6.heap.size ≤ k) (w' := w8.setCell ⟨p8, 1, none⟩ (.slice a8 (nm + 1) c8)) fun k hk hlt => by
                      rw [HPP.out] at hk
                      exact ⟨hho.block k hlt (by rintro rfl; rcases hk with hk | hk; exact hk.2.1 rfl; omega), hk⟩
                    have ho68 : Only (· = p8) w6 (w8.setCell ⟨p8, 1, none⟩ (.slice a8 (nm + 1) c8)) := (Below.only (S := (· = p8)) hbx8).trans hho fun _ _ h => h
                    obtain ⟨M2, hM2⟩ : ∃ M2 : Nat → Prop, M2 = fun k => M1 k ∨ (w6.heap.size ≤ k ∧ k < w8.heap.size) := ⟨_, rfl⟩
                    have hszx : (w8.setCell ⟨p8, 1, none⟩ (.slice a8 (nm + 1) c8)).heap.size = w8.heap.size := by simp
                    have hlt2 : ∀ k, M2 k → k < (w8.setCell ⟨p8, 1, none⟩ (.slice a8 (nm + 1) c8)).heap.size := fun k hk => by
                      rw [hM2] at hk
                      rw [hszx]
                      rcases hk with hk | hk
                      · exact Nat.lt_of_lt_of_le (Hk6.out.lt k hk) hbx8.size
                      · exact hk.2
                    have hk68 : KM M2 w8 p8 p9 m ot vs _ v9 := Hk6.out.only (S := fun _ => False) (Below.only hbx8) (fun _ _ h => h) (fun k hk => by rw [hM2]; exact .inl hk) (fun k hk => by have := hlt2 k hk; rw [hszx] at this; exact this)
                    have hkx : KM M2 (w8.setCell ⟨p8, 1, none⟩ (.slice a8 (nm + 1) c8)) p8 p9 { m with notes := m.notes ++ [d] } ot vs (.slice a8 (nm + 1) c8) v9 :=
                      hk68.set8 hho hset (hk68.s8.mono fun k hk hlt => ⟨hho.block k hlt hk.2.1, hk⟩) (hnts.mono fun k hk hlt => ⟨rfl, by
                        rw [hszx] at hlt
                        rw [hM2]
                        rcases hk with hk | hk
                        · exact ⟨.inl hk.1, hk.2⟩
                        · have := Hk6.out.lt p9 Hk6.out.m9; exact ⟨.inr ⟨hk, hlt⟩, by omega, by omega⟩⟩)
                    have hxx : LgX M2 B1 (w8.setCell ⟨p8, 1, none⟩ (.slice a8 (nm + 1) c8)) gk B1 D2 L2 := Hx6.out.grow (ho68.mono fun k hk => by subst hk; exact Hk6.out.m8) fun k hk => by rw [hM2] at hk; rcases hk with hk | hk; exact .inl hk; exact .inr hk.1
                    exact Hjoin.out _ M2 _ hkx hxx (hbB6.trans (ho68.below hB6 fun k hk => by subst hk; exact Nat.le_trans hB1 (HMB1.out _ Hk6.out.m8))) fun k hk => by
                      rw [hM2] at hk
                      rcases hk with hk | hk
                      · exact HMB1.out k hk
                      · exact Nat.le_trans Hx6.out.size hk.1
                -- CASE0 END
            · have hk0 : (K == 0) = false := by simpa using hK0
              by_cases hK1 : K = 1
              · as_aux_lemma =>
                  -- CASE1 BEGIN
                  subst hK1
                  obtain ⟨D2, L2, e2, ea, eok, esim, elive⟩ := Wl.k_sync Hsim.out Hlx.out.ok
                  rw [← Hdd.out] at eok
                  have hacts := Hsim.out.acts
                  have hturn := Hsim.out.lturn
                  have Ea := Lib.hid ea
                  have Eok := Lib.hid eok
                  have Esim := Lib.hid esim
                  have Elive := Lib.hid elive
                  clear ea eok esim elive
                  have hxq := Hlx.out.keep hbq
                  have hkq := Hkm.out.below hbq
                  have hbBq := Hb.out.trans (hbq.mono hszr)
                  go_wp2_with fail
                  refine (x_LSync wq hxq hkq.lt (by omega) (by omega) Ea.out).mono ?_
                  rintro e w6 ⟨rfl, hx6, hb6', ho6⟩
                  have hbB6 := hbBq.trans (hb6'.mono hB1)
                  have hk6 := hkq.only ho6 (fun k hk h => h hk) (fun k hk => hk) (fun k hk => Nat.lt_of_lt_of_le (hkq.lt k hk) ho6.size)
                  have Hk6 := Lib.hid hk6
                  have Hx6 := Lib.hid hx6
                  clear hxq hkq hbBq hb6' ho6 hk6 hx6
                  have c1 := Hk6.out.c1
                  have cf := Hk6.out.f8
                  have c2 := Hk6.out.c2
                  obtain ⟨an, cn, rfl, hcn, hmn, hsn⟩ := Hk6.out.n8
                  obtain ⟨nm, hnm⟩ : ∃ n, n = m.notes.length := ⟨_, rfl⟩
                  rw [← hnm] at c1 hcn
                  have Hsn := Lib.hid hsn
                  have Hnm := Lib.hid hnm
                  clear hsn hnm
                  rcases Eok.out with ⟨h1, h2⟩ | ⟨h1, h2 | h2 | h2⟩
                  · have Eok2 := Lib.hid Eok.out
                    subst h1
                    subst h2
                    go_wp2_with fail
                    go_meet
                    exact ⟨gk, un, 2, M, D2, L2, m, ot, vs, _, v9, rfl, rfl, rfl, rfl, Eok.out, Hk6.out, Hx6.out, Esim.out, hbB6, HMB.out, Elive.out⟩
                  · subst h1
                    subst h2
                    go_wp2_with fail
                    go_meet
                    have hset := heap_set Hk6.out.h8 2 (.int .i64 nm)
                    have hho : Only (· = p8) w6 (w6.setCell ⟨p8, 2, none⟩ (.int .i64 nm)) := Only.setCell (S := (· = p8)) (Only.refl _ _) (p := ⟨p8, 2, none⟩) (.inl rfl) _
                    have hkx : KM M (w6.setCell ⟨p8, 2, none⟩ (.int .i64 nm)) p8 p9 (Wl.safed m true) ot vs (.slice an m.notes.length cn) v9 :=
                      Hk6.out.set8 hho (by rw [Hnm.out]; rw [Hnm.out] at hset; exact hset) (Hk6.out.s8.mono fun k hk hlt => ⟨hho.block k hlt hk.2.1, hk⟩) (Hk6.out.n8.mono fun k hk hlt => ⟨hho.block k hlt hk.2.1, hk⟩)
                    exact ⟨gk, un, 0, M, D2, L2, Wl.safed m true, ot, vs, _, v9, rfl, rfl, rfl, rfl, Eok.out, hkx, Hx6.out.grow (hho.mono fun k hk => by subst hk; exact Hk6.out.m8) (fun k hk => .inl hk), Esim.out, hbB6.trans (hho.below (Nat.le_trans hB1 Hx6.out.size) fun k hk => by subst hk; exact Nat.le_trans hB1 (HMB.out _ Hk6.out.m8)), HMB.out, Elive.out⟩
                  · subst h1
                    subst h2
                    go_wp2_with fail
                    go_meet
                    exact ⟨gk, un, 2, M, D2, L2, m, ot, vs, _, v9, rfl, rfl, rfl, rfl, Eok.out, Hk6.out, Hx6.out, Esim.out, hbB6, HMB.out, Elive.out⟩
                  · subst h1
                    subst h2
                    go_wp2_with fail
                    go_meet
                    exact ⟨gk, un, 40, M, D2, L2, m, ot, vs, _, v9, rfl, rfl, rfl, rfl, Eok.out, Hk6.out, Hx6.out, Esim.out, hbB6, HMB.out, Elive.out⟩
                  -- CASE1 END
              · have hk1' : (K == 1) = false := by simpa using hK1
                by_cases hK2 : K = 2
                · as_aux_lemma =>
                    -- CASE2 BEGIN
                    subst hK2
                    obtain ⟨D2, L2, e2, ea, eok, esim, elive⟩ := Wl.k_check Hsim.out (by omega) Hlx.out.ok d hd5
                    rw [← Hdd.out] at eok esim
                    have hsB5 : RB wq aB nd d := ⟨Hnd.out, (keep_low (by decide) HsB.out (Hb.out.trans (hbq.mono hszr))).any (by decide)⟩
                    have hacts := Hsim.out.acts
                    have hok := Hsim.out.ok (by omega)
                    have Ea := Lib.hid ea
                    have Eok := Lib.hid eok
                    have Esim := Lib.hid esim
                    have Elive := Lib.hid elive
                    have Hok := Lib.hid hok
                    clear ea eok esim elive hok
                    have hzr5 : wr.heap.size ≤ wq.heap.size := hbq.size
                    go_wp2_with fail
                    refine (ref_Copy_at wq.heap.size aB nd cB d wq rfl hsB5 (by omega)).mono ?_
                    rintro e w5 ⟨v5, rfl, ho5, hb5⟩
                    obtain ⟨a5, c5, rfl, hc5, hm5, hr5, ho5'⟩ := ho5.shape nd Hnd.out
                    have hb05 : Below wr.heap.size wr w5 := hbq.trans (hb5.mono hzr5)
                    obtain ⟨M1, hM1⟩ : ∃ M1 : Nat → Prop, M1 = fun k => M k ∨ (wr.heap.size ≤ k ∧ k < w5.heap.size) := ⟨_, rfl⟩
                    have hx5 : LgX M1 B1 w5 gk B1 D L := Hlx.out.grow ((Below.only (S := M) hb05)) fun k hk => by rw [hM1] at hk; rcases hk with hk | hk; exact .inl hk; exact .inr hk.1
                    have hlt5 : ∀ k, M1 k → k < w5.heap.size := fun k hk => by
                      rw [hM1] at hk
                      rcases hk with hk | hk
                      · exact Nat.lt_of_lt_of_le (Hkm.out.lt k hk) hb05.size
                      · exact hk.2
                    have hk5 : KM M1 w5 p8 p9 m ot vs vn v9 := Hkm.out.only (S := fun _ => False) (Below.only hb05) (fun _ _ h => h) (fun k hk => by rw [hM1]; exact .inl hk) hlt5
                    have hpcM : M1 pc := by rw [hM1]; right; have := Hpc.out; have := hb5.size; omega
                    have hMB1 : ∀ k, M1 k → B1 ≤ k := fun k hk => by
                      rw [hM1] at hk
                      rcases hk with hk | hk
                      · exact HMB.out k hk
                      · have := Hlx.out.size; omega
                    have HMB1 := Lib.hid hMB1
                    have HpcM := Lib.hid hpcM
                    have Hk5 := Lib.hid hk5
                    have Hlt5 := Lib.hid hlt5
                    have hbB5 : Below B w w5 := Hb.out.trans (hb05.mono hszr)
                    have k25 := cell_thru k2 hb5
                    have hs5 := hr5.2
                    clear hM1 hMB1 hpcM hk5 hlt5 ho5 ho5' hb05 hsB5
                    go_wp2_with fail
                    refine (x_LCheck a5 nd c5 d w5 hx5 Hlt5.out (by omega) Hok.out Hnd.out (by omega) hs5 Ea.out).mono ?_
                    rintro e w6 ⟨rfl, hx6, hb6', ho6⟩
                    have hbB6 := hbB5.trans (hb6'.mono hB1)
                    have hk6 := Hk5.out.only ho6 (fun k hk h => h hk) (fun k hk => hk) (fun k hk => Nat.lt_of_lt_of_le (Hlt5.out k hk) ho6.size)
                    have k26 : w6.cell? ⟨pc, 2, none⟩ = some (.slice aB nd cB) := by rw [cell_keep (ho6.block pc (Hlt5.out pc HpcM.out) (fun h => h HpcM.out))]; exact k25
                    clear hx5 hs5 hbB5 hb6' ho6 k25
                    have hB6 : B ≤ w6.heap.size := Nat.le_trans hB1 hx6.size
                    have hsB6 : RB w6 aB nd d := ⟨Hnd.out, (keep_low (by decide) HsB.out hbB6).any (by decide)⟩
                    go_wp2_with fail
                    refine (ref_Copy_at w6.heap.size aB nd cB d w6 rfl hsB6 (by omega)).mono ?_
                    rintro e w7 ⟨v7, rfl, ho7, hb7⟩
                    obtain ⟨a7, c7, rfl, hc7, hm7, hr7, ho7'⟩ := ho7.shape nd Hnd.out
                    obtain ⟨pn, hpn⟩ : ∃ p, p = w7.heap.size := ⟨_, rfl⟩
                    obtain ⟨w8, hw8⟩ : ∃ x, x = w7.alloc (.cells #[.slice a7 nd c7, .slice none 0 0, .int .i64 0] 76) := ⟨_, rfl⟩
                    have hb78 : Below w7.heap.size w7 w8 := by rw [hw8]; exact alloc_below _ _
                    have hh8 : w8.heap[pn]? = some (.cells #[.slice a7 nd c7, .slice none 0 0, .int .i64 0] 76 (0, 0)) := by rw [hw8, hpn]; exact heap_alloc_new w7 _
                    have hb68 : Below w6.heap.size w6 w8 := hb7.trans (hb78.mono hb7.size)
                    obtain ⟨M2, hM2⟩ : ∃ M2 : Nat → Prop, M2 = fun k => M1 k ∨ (w6.heap.size ≤ k ∧ k < w8.heap.size) := ⟨_, rfl⟩
                    have hlt8 : ∀ k, M2 k → k < w8.heap.size := fun k hk => by
                      rw [hM2] at hk
                      rcases hk with hk | hk
                      · exact Nat.lt_of_lt_of_le (hk6.lt k hk) hb68.size
                      · exact hk.2
                    have hx8 : LgX M2 B1 w8 gk B1 D2 L2 := hx6.grow (Below.only (S := M1) hb68) fun k hk => by rw [hM2] at hk; rcases hk with hk | hk; exact .inl hk; exact .inr hk.1
                    have hk8 : KM M2 w8 p8 p9 m ot vs vn v9 := hk6.only (S := fun _ => False) (Below.only hb68) (fun _ _ h => h) (fun k hk => by rw [hM2]; exact .inl hk) hlt8
                    have hbB8 : Below B w w8 := hbB6.trans (hb68.mono hB6)
                    have hMB2 : ∀ k, M2 k → B1 ≤ k := fun k hk => by
                      rw [hM2] at hk
                      rcases hk with hk | hk
                      · exact HMB1.out k hk
                      · have := hx6.size; omega
                    have hp8l := hk6.lt p8 hk6.m8
                    have hp9l := hk6.lt p9 hk6.m9
                    have hby8 : Byt (fun k => M2 k ∧ k ≠ p8 ∧ k ≠ p9) w8 (.slice a7 nd c7) d := by
                      refine ⟨a7, c7, by rw [Hnd.out], by rw [← Hnd.out]; exact hc7, hm7, ?_⟩
                      intro q x hx
                      obtain ⟨b, o, e, hb, cs, hcs, hc⟩ := ho7'.slB q x hx
                      have hb0 : cs = [.int .u8 (bv x)] := hcs
                      have hcb := hc 0 (.int .u8 (bv x)) (by rw [hb0]; rfl)
                      have hbl := cell_lt hcb
                      refine ⟨b, o, e, ⟨by rw [hM2]; exact .inr ⟨hb, Nat.lt_of_lt_of_le hbl hb78.size⟩, by omega, by omega⟩, cs, hcs, fun j v hj => ?_⟩
                      rw [cell_keep (hb78.block b hbl)]; exact hc j v hj
                    have n0 : w8.cell? ⟨pn, 0, none⟩ = some (.slice a7 nd c7) := by simp [World.cell?, hh8]
                    have n1 : w8.cell? ⟨pn, 1, none⟩ = some (.slice none 0 0) := by simp [World.cell?, hh8]
                    have n2 : w8.cell? ⟨pn, 2, none⟩ = some (.int .i64 0) := by simp [World.cell?, hh8]
                    have Hk8 := Lib.hid hk8
                    have Hx8 := Lib.hid hx8
                    have HMB2 := Lib.hid hMB2
                    have Hby8 := Lib.hid hby8
                    have HB8 : B ≤ w8.heap.size := Nat.le_trans hB1 hx8.size
                    clear hM2 hlt8 hx8 hk8 hMB2 hby8 hh8 hb78 hb68 hk6 hx6 ho7 ho7' hr7 hsB6 k26 hb7 hbB6
                    have c0 := Hk8.out.c0
                    have c1 := Hk8.out.c1
                    have c2 := Hk8.out.c2
                    have cf := Hk8.out.f8
                    have d0 := Hk8.out.d0
                    have d1 := Hk8.out.d1
                    have d2 := Hk8.out.d2
                    have df := Hk8.out.f9
                    obtain ⟨as_, cs_, rfl, hcs, hms, hss⟩ := Hk8.out.s8
                    obtain ⟨an, cn, rfl, hcn, hmn, hsn⟩ := Hk8.out.n8
                    obtain ⟨a9_, c9_, rfl, hc9, hm9, hs9⟩ := Hk8.out.s9
                    clear hss hsn hs9
                    go_upto_region 54 with fail
                    rw [← hw8, ← hpn]
                    clear hw8 hpn
                    rcases Eok.out with ⟨h1, h2⟩ | ⟨h1, h2 | h2 | h2⟩
                    · subst h1
                      subst h2
                      go_wp2_with fail
                      go_meet
                      have hs := Esim.out
                      rw [show (un || (!true && (2 : Int) == 2)) = un by cases un <;> rfl] at hs
                      exact ⟨gk, un, 2, M2, D2, L2, m, ot, _, _, _, rfl, rfl, rfl, rfl, Eok.out, Hk8.out, Hx8.out, hs, hbB8, HMB2.out, Elive.out⟩
                    · subst h1
                      subst h2
                      go_wp2_with fail
                      go_meet
                      have hset := heap_set (heap_set (heap_set Hk8.out.h8 0 (.slice a7 nd c7)) 1 (.slice none 0 0)) 2 (.int .i64 0)
                      have hho : Only (· = p8) w8 (((w8.setCell ⟨p8, 0, none⟩ (.slice a7 nd c7)).setCell ⟨p8, 1, none⟩ (.slice none 0 0)).setCell ⟨p8, 2, none⟩ (.int .i64 0)) := ((Only.setCell (S := (· = p8)) (Only.refl _ _) (p := ⟨p8, 0, none⟩) (.inl rfl) _).setCell (p := ⟨p8, 1, none⟩) (.inl rfl) _).setCell (p := ⟨p8, 2, none⟩) (.inl rfl) _
                      have hs := Esim.out
                      rw [show (un || (!false && (0 : Int) == 2)) = un by cases un <;> rfl] at hs
                      exact ⟨gk, un, 0, M2, D2, L2, ⟨d, [], 0⟩, ot, _, _, _, rfl, rfl, rfl, rfl, Eok.out, Hk8.out.set8 hho hset (Hby8.out.mono fun k hk hlt => ⟨hho.block k hlt hk.2.1, hk⟩) (Nts.nil _ _), Hx8.out.grow (hho.mono fun k hk => by subst hk; exact Hk8.out.m8) (fun k hk => .inl hk), hs, hbB8.trans (hho.below HB8 fun k hk => by subst hk; exact Nat.le_trans hB1 (HMB2.out _ Hk8.out.m8)), HMB2.out, Elive.out⟩
                    · subst h1
                      subst h2
                      go_wp2_with fail
                      go_meet
                      have hset := heap_set (heap_set (heap_set Hk8.out.h9 0 (.slice a7 nd c7)) 1 (.slice none 0 0)) 2 (.int .i64 0)
                      have hho : Only (· = p9) w8 (((w8.setCell ⟨p9, 0, none⟩ (.slice a7 nd c7)).setCell ⟨p9, 1, none⟩ (.slice none 0 0)).setCell ⟨p9, 2, none⟩ (.int .i64 0)) := ((Only.setCell (S := (· = p9)) (Only.refl _ _) (p := ⟨p9, 0, none⟩) (.inl rfl) _).setCell (p := ⟨p9, 1, none⟩) (.inl rfl) _).setCell (p := ⟨p9, 2, none⟩) (.inl rfl) _
                      have hs := Esim.out
                      rw [show (un || (!false && (2 : Int) == 2)) = true by cases un <;> rfl] at hs
                      exact ⟨gk, true, 2, M2, D2, L2, m, d, _, _, _, rfl, rfl, rfl, rfl, Eok.out, Hk8.out.set9 hho hset (Hby8.out.mono fun k hk hlt => ⟨hho.block k hlt hk.2.2, hk⟩), Hx8.out.grow (hho.mono fun k hk => by subst hk; exact Hk8.out.m9) (fun k hk => .inl hk), hs, hbB8.trans (hho.below HB8 fun k hk => by subst hk; exact Nat.le_trans hB1 (HMB2.out _ Hk8.out.m9)), HMB2.out, Elive.out⟩
                    · subst h1
                      subst h2
                      go_wp2_with fail
                      go_meet
                      have hs := Esim.out
                      rw [show (un || (!false && (40 : Int) == 2)) = un by cases un <;> rfl] at hs
                      exact ⟨gk, un, 40, M2, D2, L2, m, ot, _, _, _, rfl, rfl, rfl, rfl, Eok.out, Hk8.out, Hx8.out, hs, hbB8, HMB2.out, Elive.out⟩
                    -- CASE2 END
                · have hk2' : (K == 2) = false := by simpa using hK2
                  by_cases hK3 : K = 3
                  · as_aux_lemma =>
                      -- CASE3 BEGIN
                      subst hK3
                      have hxq := Hlx.out.keep hbq
                      have hkq := Hkm.out.below hbq
                      have hbBq := Hb.out.trans (hbq.mono hszr)
                      go_wp2_with fail
                      refine (x_Fuse N wq hxq hNr.2).mono ?_
                      rintro e w6 ⟨rfl, hx6, hb6', ho6⟩
                      have hbB6 := hbBq.trans (hb6'.mono hB1)
                      have hk6 := hkq.only ho6 (fun k hk h => h hk) (fun k hk => hk) (fun k hk => Nat.lt_of_lt_of_le (hkq.lt k hk) ho6.size)
                      have Hk6 := Lib.hid hk6
                      have Hx6 := Lib.hid hx6
                      clear hxq hkq hbBq hb6' ho6 hk6 hx6
                      go_wp2_with fail
                      go_roundg (nT - (k + 1))
                      case measure => rw [hgn.out]; omega
                      case rel => exact ⟨k + 1, gk, un, Lib.hid rfl, by omega, by omega, by go_num, rfl, rfl, M, _, L, m, ot, vs, vn, v9, Hk6.out, Hx6.out, Wl.k_fuse Hsim.out N, hbB6, HMB.out⟩
                      -- CASE3 END
                  · have hk3' : (K == 3) = false := by simpa using hK3
                    have hbBq := Hb.out.trans (hbq.mono hszr)
                    obtain ⟨M1, hM1⟩ : ∃ M1 : Nat → Prop, M1 = fun k => M k ∨ k = pc := ⟨_, rfl⟩
                    have hxq : LgX M1 B1 wq gk B1 D L := Hlx.out.grow ((Below.only (S := M) hbq)) fun k hk => by
                      rw [hM1] at hk
                      rcases hk with hk | hk
                      · exact .inl hk
                      · exact .inr (by rw [hk, Hpc.out]; exact Nat.le_refl _)
                    have hkq : KM M1 wq p8 p9 m ot vs vn v9 := Hkm.out.only (S := fun _ => False) (Below.only hbq) (fun _ _ h => h) (fun k hk => by rw [hM1]; exact .inl hk) fun k hk => by
                      rw [hM1] at hk
                      rcases hk with hk | hk
                      · exact Nat.lt_of_lt_of_le (Hkm.out.lt k hk) hbq.size
                      · omega
                    have hpcM : M1 pc := by rw [hM1]; exact .inr rfl
                    have hMB1 : ∀ k, M1 k → B1 ≤ k := fun k hk => by
                      rw [hM1] at hk
                      rcases hk with hk | hk
                      · exact HMB.out k hk
                      · have := Hlx.out.size; have := Hpc.out; omega
                    have HMB1 := Lib.hid hMB1
                    have HpcM := Lib.hid hpcM
                    have Hxq := Lib.hid hxq
                    have Hkq := Lib.hid hkq
                    clear hxq hkq hM1 hMB1 hpcM
                    obtain ⟨K4, hK4⟩ : ∃ b : Bool, b = (K == 4) := ⟨_, rfl⟩
                    have HK4 := Lib.hid hK4
                    clear hK4
                    go_upto_if 63 with fail
                    go_cut [12] from 39 to 227 (fun o wx => ∃ D1, o = .pointer (some ⟨pc, 0, none⟩) ∧ wx.cell? ⟨pc, 0, none⟩ = some (.int .i64 K) ∧ KM M1 wx p8 p9 m ot vs vn v9 ∧ LgX M1 B1 wx gk B1 D1 L ∧ Below B w wx ∧ KOpn D1 L m un ot K4 k)
                    case first =>
                      by_cases hK4' : K = 4
                      · as_aux_lemma =>
                          -- CASE4 BEGIN
                          subst hK4'
                          have hfu : RowKit.wrap64 (N - 2) ≤ 9223372036854775807 := by
                            unfold RowKit.wrap64; omega
                          have Hfu := Lib.hid hfu
                          clear hfu
                          have hsK : Sl EInt (fun k => M1 k ∨ k < B1) wq aK ks := HsK.out.mono (by decide) fun k hk hlt => ⟨hbBq.block k hk, .inr (Nat.lt_of_lt_of_le hk hB1)⟩
                          have HsK1 := Lib.hid hsK
                          clear hsK
                          go_wp2_with fail
                          refine (x_Crash aK nk cK ks wq Hxq.out Hkq.out.lt Hnk.out HsK1.out).mono ?_
                          rintro e w6 ⟨rfl, hx6, hb6', ho6⟩
                          have hbB6 := hbBq.trans (hb6'.mono hB1)
                          have hk6 := Hkq.out.only ho6 (fun k hk h => h hk) (fun k hk => hk) (fun k hk => Nat.lt_of_lt_of_le (Hkq.out.lt k hk) ho6.size)
                          have k06 : w6.cell? ⟨pc, 0, none⟩ = some (.int .i64 4) := by rw [cell_keep (ho6.block pc hpcs (fun h => h HpcM.out))]; exact Hk0.out
                          have k16 : w6.cell? ⟨pc, 1, none⟩ = some (.int .i64 N) := by rw [cell_keep (ho6.block pc hpcs (fun h => h HpcM.out))]; exact k1
                          have hpc6 : pc < w6.heap.size := Nat.lt_of_lt_of_le hpcs ho6.size
                          have Hk06 := Lib.hid k06
                          have Hk6 := Lib.hid hk6
                          have Hx6 := Lib.hid hx6
                          clear hb6' ho6 k06 hk6 hx6
                          go_wp2_with fail
                          refine (x_Fuse (RowKit.wrap64 (N - 2)) w6 Hx6.out Hfu.out).mono ?_
                          rintro e w7 ⟨rfl, hx7, hb7', ho7⟩
                          have hbB7 := hbB6.trans (hb7'.mono hB1)
                          have hk7 := Hk6.out.only ho7 (fun k hk h => h hk) (fun k hk => hk) (fun k hk => Nat.lt_of_lt_of_le (Hk6.out.lt k hk) ho7.size)
                          have k07 : w7.cell? ⟨pc, 0, none⟩ = some (.int .i64 4) := by rw [cell_keep (ho7.block pc hpc6 (fun h => h HpcM.out))]; exact Hk06.out
                          have Hk07 := Lib.hid k07
                          have Hk7 := Lib.hid hk7
                          have Hx7 := Lib.hid hx7
                          clear hb7' ho7 k07 hk7 hx7
                          go_wp2_with fail
                          go_meet
                          exact ⟨_, rfl, Hk07.out, Hk7.out, Hx7.out, hbB7, by rw [HK4.out]; exact kopn_crash Hsim.out hk60 Hlx.out.ok ks _⟩
                          -- CASE4 END
                      · as_aux_lemma =>
                          -- CASE5 BEGIN
                          have hk4' : (K == 4) = false := by simpa using hK4'
                          have hdown : D.down = true ∨ D.down = false := by cases D.down <;> simp
                          have Hdown := Lib.hid hdown
                          clear hdown
                          go_wp2_with fail
                          refine (x_Down wq Hxq.out).mono ?_
                          rintro e wt ⟨rfl, rfl⟩
                          rcases Hdown.out with hd | hd
                          · rw [hd]
                            go_wp2_with fail
                            go_roundg (nT - (k + 1))
                            case measure => rw [hgn.out]; omega
                            case rel => exact ⟨k + 1, gk, un, Lib.hid rfl, by omega, by omega, by go_num, rfl, rfl, M1, D, L, m, ot, vs, vn, v9, Hkq.out, Hxq.out, Hsim.out.next, hbBq, HMB1.out⟩
                          · rw [hd]
                            go_wp2_with fail
                            go_meet
                            exact ⟨D, rfl, Hk0.out, Hkq.out, Hxq.out, hbBq, by rw [HK4.out, hk4']; exact kopn_up Hsim.out hk60 Hlx.out.ok hd⟩
                          -- CASE5 END
                    case rest =>
                      as_aux_lemma =>
                        -- CASE6 BEGIN
                        obtain ⟨wj, hwj⟩ : ∃ x, x = wc := ⟨_, rfl⟩
                        subst hwj
                        obtain ⟨D1, rfl, k0j, hkj, hxj, hbBj, hokp, hacp, D', r, er, hop, htri⟩ := hcut
                        have Hkj := Lib.hid hkj
                        have Hxj := Lib.hid hxj
                        have Hokp := Lib.hid hokp
                        have Hop := Lib.hid hop
                        have Hk0j := Lib.hid k0j
                        clear hkj hxj hokp hop k0j
                        go_wp2_with fail
                        rcases htri with ⟨rfl, rfl⟩ | ⟨rfl, rfl, hsim2⟩ | ⟨L', rfl, rfl, hok2, hunK, hsim2, hcase⟩
                        · refine (x_Open_none wj Hxj.out Hkj.out.lt hacp Hokp.out Hop.out).mono ?_
                          rintro e w6 ⟨rfl, hx6, hb6', ho6⟩
                          have hbB6 := hbBj.trans (hb6'.mono hB1)
                          clear hx6 hb6' ho6
                          go_wp2_with fail
                          go_ret
                          exact ⟨rfl, hbB6⟩
                        · have Hsim2 := Lib.hid hsim2
                          clear hsim2
                          refine (x_Open_none wj Hxj.out Hkj.out.lt hacp Hokp.out Hop.out).mono ?_
                          rintro e w6 ⟨rfl, hx6, hb6', ho6⟩
                          have hbB6 := hbBj.trans (hb6'.mono hB1)
                          have hk6 := Hkj.out.only ho6 (fun k hk h => h hk) (fun k hk => hk) (fun k hk => Nat.lt_of_lt_of_le (Hkj.out.lt k hk) ho6.size)
                          have Hk6 := Lib.hid hk6
                          have Hx6 := Lib.hid hx6
                          clear hx6 hb6' ho6 hk6
                          go_wp2_with fail
                          go_roundg (nT - (k + 1))
                          case measure => rw [hgn.out]; omega
                          case rel => exact ⟨k + 1, gk, un, Lib.hid rfl, by omega, by omega, by go_num, rfl, rfl, M1, D', L, m, ot, vs, vn, v9, Hk6.out, Hx6.out, Hsim2.out, hbB6, HMB1.out⟩
                        · have Hsim2 := Lib.hid hsim2
                          have Hok2 := Lib.hid hok2
                          have Hcase := Lib.hid hcase
                          have HunK := Lib.hid hunK
                          clear hsim2 hok2 hcase hunK
                          refine (x_Open_some wj Hxj.out Hkj.out.lt hacp Hokp.out Hop.out).mono ?_
                          rintro e w6 ⟨gm, rfl, hx6, hb6', ho6⟩
                          have hbB6 := hbBj.trans (hb6'.mono hB1)
                          have hk6 := Hkj.out.only ho6 (fun k hk h => h hk) (fun k hk => hk) (fun k hk => Nat.lt_of_lt_of_le (Hkj.out.lt k hk) ho6.size)
                          have k06 : w6.cell? ⟨pc, 0, none⟩ = some (.int .i64 K) := by rw [cell_keep (ho6.block pc (Hkj.out.lt pc HpcM.out) (fun h => h HpcM.out))]; exact Hk0j.out
                          have Hk06 := Lib.hid k06
                          have Hk6 := Lib.hid hk6
                          have Hx6 := Lib.hid hx6
                          clear hb6' ho6 k06 hk6 hx6 Hop Hokp
                          have d0 := Hk6.out.d0
                          obtain ⟨a9_, c9_, rfl, hc9, hm9, hs9⟩ := Hk6.out.s9
                          obtain ⟨n9, hn9⟩ : ∃ n, n = ot.length := ⟨_, rfl⟩
                          have hn95 : n9 ≤ 500 := by rw [hn9]; exact Hsim.out.otl
                          have hr9 : RB w6 a9_ n9 ot := ⟨hn9, hs9.any (by decide)⟩
                          have Hr9 := Lib.hid hr9
                          rw [← hn9] at d0 hc9
                          have Hn9 := Lib.hid hn9
                          clear hs9 hr9 hn9
                          go_upto_region 29 with fail
                          go_cut [18] from 39 to 227 (fun s wx => ∃ f, s = .bool f ∧ Below w6.heap.size w6 wx ∧ f = (un && (L'.state == ot && L'.notes.isEmpty)))
                          case first =>
                            cases un
                            · go_wp2_with fail
                              go_meet
                              exact ⟨_, rfl, Below.refl _ _, rfl⟩
                            · go_wp2_with fail
                              refine (x_is a9_ n9 c9_ ot none 0 0 [] w6 Hx6.out Hok2.out Hr9.out ⟨rfl, Sl.nil _ _ _ _⟩ (by omega) (by omega)).mono ?_
                              rintro e wt ⟨rfl, hbt⟩
                              go_wp2_with fail
                              go_meet
                              exact ⟨_, rfl, hbt, rfl⟩
                          obtain ⟨wk, hwk⟩ : ∃ x, x = wc := ⟨_, rfl⟩
                          subst hwk
                          obtain ⟨f, rfl, hbk, hf⟩ := hcut
                          have k0k : wk.cell? ⟨pc, 0, none⟩ = some (.int .i64 K) := by rw [hbk.cell (p := ⟨pc, 0, none⟩) (Hk6.out.lt pc HpcM.out)]; exact Hk06.out
                          have hkk := Hk6.out.below hbk
                          have hxk := Hx6.out.keep hbk
                          have hbBk := hbB6.trans (hbk.mono (Nat.le_trans hB1 Hx6.out.size))
                          have Hk0k := Lib.hid k0k
                          have Hkk := Lib.hid hkk
                          have Hxk := Lib.hid hxk
                          have Hf := Lib.hid hf
                          clear k0k hkk hxk hbk hf Hk6 Hx6 Hk06 d0 hbB6
                          have hp8c : p8 < pc := by have := Hkm.out.lt p8 Hkm.out.m8; have := Hpc.out; omega
                          have hp9c : p9 < pc := by have := Hkm.out.lt p9 Hkm.out.m9; have := Hpc.out; omega
                          have Hp8c := Lib.hid hp8c
                          have Hp9c := Lib.hid hp9c
                          clear hp8c hp9c
                          go_upto_if 94 with fail
                          go_cut [18] from 39 to 227 (fun s wx => ∃ m3, s = .bool f ∧ KLook M1 B B1 p8 p9 pc K K4 w gm D' L' m m3 ot (.slice a9_ ot.length c9_) f wx)
                          case first =>
                            cases f
                            · go_wp2_with fail
                              go_meet
                              exact ⟨m, rfl, _, _, Hkk.out, Hxk.out, hbBk, Hk0k.out, fun _ => rfl, fun h => by cases h⟩
                            · have c0 := Hkk.out.c0
                              have c1 := Hkk.out.c1
                              have c2 := Hkk.out.c2
                              have cf := Hkk.out.f8
                              have d0 := Hkk.out.d0
                              have d1 := Hkk.out.d1
                              have d2 := Hkk.out.d2
                              have df := Hkk.out.f9
                              obtain ⟨as_, cs_, rfl, hcs, hms, hss⟩ := Hkk.out.s8
                              obtain ⟨an, cn, rfl, hcn, hmn, hsn⟩ := Hkk.out.n8
                              clear hss hsn
                              go_wp2_with fail
                              go_meet
                              have hff := Hf.out.symm
                              simp only [Bool.and_eq_true, List.isEmpty_iff] at hff
                              obtain ⟨hu, he, hn⟩ := hff
                              have he := beq_iff_eq.1 he
                              have hset := heap_set (heap_set (heap_set Hkk.out.h8 0 (.slice a9_ ot.length c9_)) 1 (.slice none 0 0)) 2 (.int .i64 0)
                              have hho : Only (· = p8) wk (((wk.setCell ⟨p8, 0, none⟩ (.slice a9_ ot.length c9_)).setCell ⟨p8, 1, none⟩ (.slice none 0 0)).setCell ⟨p8, 2, none⟩ (.int .i64 0)) := ((Only.setCell (S := (· = p8)) (Only.refl _ _) (p := ⟨p8, 0, none⟩) (.inl rfl) _).setCell (p := ⟨p8, 1, none⟩) (.inl rfl) _).setCell (p := ⟨p8, 2, none⟩) (.inl rfl) _
                              have hpl := Hkk.out.lt pc HpcM.out
                              exact ⟨⟨ot, [], 0⟩, rfl, _, _, Hkk.out.set8 hho hset (Hkk.out.s9.mono fun k hk hlt => ⟨hho.block k hlt hk.2.1, hk⟩) (Nts.nil _ _), Hxk.out.grow (hho.mono fun k hk => by subst hk; exact Hkk.out.m8) (fun k hk => .inl hk), hbBk.trans (hho.below (Nat.le_trans hB1 Hxk.out.size) fun k hk => by subst hk; exact Nat.le_trans hB1 (HMB1.out _ Hkk.out.m8)), by rw [cell_keep (hho.block pc hpl (by have := Hp8c.out; omega))]; exact Hk0k.out, fun h => (by cases h), fun _ => ⟨he.symm, hn.symm, fun h => by have := HunK.out hu; rw [h] at this; cases this⟩⟩
                          obtain ⟨wm, hwm⟩ : ∃ x, x = wc := ⟨_, rfl⟩
                          subst hwm
                          obtain ⟨m3, rfl, hlook⟩ := hcut
                          have Hlook := Lib.hid hlook
                          obtain ⟨vs3, vn3, hk3, hx3, hb3, k03, hm3, hm3'⟩ := hlook
                          have c1 := hk3.c1
                          obtain ⟨an, cn, rfl, hcn, hmn, hsn⟩ := hk3.n8
                          obtain ⟨nm, hnm⟩ : ∃ n, n = m3.notes.length := ⟨_, rfl⟩
                          rw [← hnm] at c1
                          have hnmb : nm ≤ 100 := by
                            rw [hnm]
                            have h1 := Hsim.out.sm.many
                            have h2 := Hsim2.out.lmany
                            cases f
                            · rw [hm3 rfl]; omega
                            · rw [(hm3' rfl).2.1]; omega
                          obtain ⟨g0, hg0⟩ : ∃ g0, g0 = if f = false then nm + 1 else 0 := ⟨_, rfl⟩
                          have Hg0 := Lib.hid hg0
                          have hm3n : f = false → nm = m.notes.length := fun h => by rw [hnm, hm3 h]
                          have Hm3n := Lib.hid hm3n
                          clear hk3 hx3 hb3 k03 hm3 hm3' hcn hmn hsn hnm hg0 Hkk Hxk Hk0k hbBk Hr9 hm3n
                          have Hgo := Lib.hid hgn
                          clear hgn
                          obtain ⟨wo, rfl⟩ : ∃ x : World, x = wr := ⟨_, rfl⟩
                          go_wp2_with fail
                          go_loopg [18, 19] g0 (fun gn s n wx => ∃ (fb : Bool) (ni : Int) (m3 : Wl.Md), s = .bool fb ∧ n = .int .i64 ni ∧ (-1 ≤ ni ∧ ni ≤ 1000) ∧ RowKit.Hid (KLook M1 B B1 p8 p9 pc K K4 w gm D' L' m m3 ot (.slice a9_ ot.length c9_) fb wx) ∧ RowKit.Hid (fb = true → gn = 0) ∧ RowKit.Hid (fb = false → ∃ q : Nat, ni = q ∧ gn = q + 1 ∧ q ≤ m.notes.length ∧ L'.state = m.state ∧ ∃ j, m.safe ≤ j ∧ j ≤ q ∧ L'.notes = m.notes.take j))
                          case atStart =>
                            refine ⟨f, nm, m3, rfl, rfl, by omega, Hlook, Lib.hid fun h => by rw [Hg0.out, h]; rfl, Lib.hid fun h => ?_⟩
                            subst h
                            refine ⟨nm, rfl, by rw [Hg0.out]; rfl, by rw [Hm3n.out rfl]; exact Nat.le_refl _, ?_⟩
                            rcases Hcase.out with ⟨h1, j, h2, h3, h4⟩ | ⟨h1, h2, h3, h4⟩
                            · exact ⟨h1, j, h2, by rw [Hm3n.out rfl]; exact h3, h4⟩
                            · have := Hf.out; rw [h1, h3, h4] at this; simp at this
                          case round =>
                            clear Hlook Hg0 Hm3n c1 hnmb
                            obtain ⟨fb, ni, m4, rfl, rfl, hni, hlk, hfe, hfo⟩ := hrel
                            obtain ⟨vs4, vn4, hk4, hx4, hb4, k04, hm4, hm4'⟩ := hlk.out
                            have c0 := hk4.c0
                            have c1 := hk4.c1
                            have c2 := hk4.c2
                            obtain ⟨as4, cs4, rfl, hcs4, hms4, hss4⟩ := hk4.s8
                            obtain ⟨an4, cn4, rfl, hcn4, hmn4, hsn4⟩ := hk4.n8
                            unfold maxLen at hms4 hmn4
                            cases fb
                            · obtain ⟨q, rfl, hgq, hq, hst, j, hj1, hj2, hj3⟩ := hfo.out rfl
                              have hmm : m = m4 := (hm4 rfl).symm
                              subst hmm
                              obtain ⟨nn, hnn⟩ : ∃ n, n = m.notes.length := ⟨_, rfl⟩
                              obtain ⟨ns, hns⟩ : ∃ n, n = m.state.length := ⟨_, rfl⟩
                              rw [← hnn] at c1 hcn4 hq
                              rw [← hns] at c0 hcs4
                              have hge : (m.safe : Int) ≤ (q : Int) := by omega
                              have hnn6 : nn ≤ 60 := by rw [hnn]; have := Hsim.out.sm.many; omega
                              have hns5 : ns ≤ 500 := by rw [hns]; exact Hsim.out.sm.state
                              have hval : (L'.state == m.state && L'.notes == m.notes.take q) = decide (q = j) := by rw [hst, take_eq hj3 (by rw [← hnn]; omega) (by rw [← hnn]; exact hq)]; simp
                              obtain ⟨at4, hcutT, hsT⟩ := slice_tG ti_byts (i := q) hsn4 hnn hq hcn4
                              have c4f := hk4.f8 1
                              have Hval := Lib.hid hval
                              have HsT := Lib.hid hsT
                              have Hnn := Lib.hid hnn
                              have Hns := Lib.hid hns
                              have Hk4 := Lib.hid hk4
                              have Hx4 := Lib.hid hx4
                              have Hb4 := Lib.hid hb4
                              have Hk04 := Lib.hid k04
                              have Hss4 := Lib.hid hss4
                              have Hst := Lib.hid hst
                              have Hj3 := Lib.hid hj3
                              have Hgq := Lib.hid hgq
                              clear hlk hfe hfo hk4 hx4 hb4 k04 hm4 hm4' hss4 hsn4 hnn hns hst hj3 hgq hval hsT
                              go_upto_region 35 with fail
                              go_region_held3 (fun W => W.cell? ⟨p8, 0, none⟩ = some (.slice as4 ns cs4) ∧ W.cell? ⟨p8, 1, none⟩ = some (.slice an4 nn cn4)) (first | go_keep | exact ⟨cell_thru c0 hbt, cell_thru c1 hbt⟩)
                                ((first
                                  | (go_at_call 33
                                     refine (x_is as4 ns cs4 m.state at4 q cn4 (m.notes.take q) _ (Hx4.out.keep ((Below.refl _ _).drew)) Hok2.out ⟨Hns.out, (Hss4.out.any (by decide)).below (by decide) ((Below.refl _ _).drew)⟩ ⟨by rw [List.length_take, ← Hnn.out]; omega, (HsT.out.any (by decide)).below (by decide) ((Below.refl _ _).drew)⟩ (by omega) (by omega)).mono ?_
                                     rintro e wt ⟨rfl, hbt⟩
                                     have hbt := (Below.refl _ _).drew.trans hbt)))
                              rw [Hval.out]
                              have hkt := Hk4.out.below hbt
                              have hxt := Hx4.out.keep hbt
                              have hpl := Hk4.out.lt pc HpcM.out
                              have hbBt := Hb4.out.trans (hbt.mono (Nat.le_trans hB1 Hx4.out.size))
                              have k0t : wt.cell? ⟨pc, 0, none⟩ = some (.int .i64 K) := cell_thru Hk04.out hbt
                              have c1t := cell_thru c1 hbt
                              have cft := hkt.f8 1
                              have Hkt := Lib.hid hkt
                              have Hxt := Lib.hid hxt
                              have HbBt := Lib.hid hbBt
                              have Hk0t := Lib.hid k0t
                              clear hkt hxt hbBt k0t c0 c1 c2 c4f hge
                              by_cases hqj : q = j
                              · have e1 : decide (q = j) = true := by simpa using hqj
                                rw [e1]
                                have Hqj := Lib.hid hqj
                                clear hqj e1
                                go_wp2_with fail
                                go_roundg 0
                                case measure => rw [Hgq.out]; omega
                                case rel =>
                                  have hset := heap_set Hkt.out.h8 1 (.slice at4 q cn4)
                                  have hho : Only (· = p8) wt (wt.setCell ⟨p8, 1, none⟩ (.slice at4 q cn4)) := Only.setCell (S := (· = p8)) (Only.refl _ _) (p := ⟨p8, 1, none⟩) (.inl rfl) _
                                  have hsT' : Sl EBytes (fun k => M1 k ∧ k ≠ p8 ∧ k ≠ p9) wt at4 (m.notes.take q) := HsT.out.below (by decide) hbt
                                  have hlq : (m.notes.take q).length = q := by rw [List.length_take, ← Hnn.out]; omega
                                  have hnts : Nts (fun k => M1 k ∧ k ≠ p8 ∧ k ≠ p9) wt (.slice at4 q cn4) (m.notes.take q) := ⟨at4, cn4, by rw [hlq], by omega, by unfold maxLen; omega, hsT'⟩
                                  exact ⟨true, (q : Int) - 1, ⟨m.state, m.notes.take q, m.safe⟩, rfl, by go_num, by omega, Lib.hid ⟨_, _, Hkt.out.set8 (m' := ⟨m.state, m.notes.take q, m.safe⟩) hho hset (Hkt.out.s8.mono fun k hk hlt => ⟨hho.block k hlt hk.2.1, hk⟩) (hnts.mono fun k hk hlt => ⟨hho.block k hlt hk.2.1, hk⟩), Hxt.out.grow (hho.mono fun k hk => by subst hk; exact Hkt.out.m8) (fun k hk => .inl hk), HbBt.out.trans (hho.below (Nat.le_trans hB1 Hxt.out.size) fun k hk => by subst hk; exact Nat.le_trans hB1 (HMB1.out _ Hkt.out.m8)), by rw [cell_keep (hho.block pc (Hkt.out.lt pc HpcM.out) (by have := Hp8c.out; omega))]; exact Hk0t.out, fun h => (by cases h), fun _ => ⟨Hst.out.symm, by rw [Hj3.out, Hqj.out], fun _ => rfl⟩⟩, Lib.hid fun _ => rfl, Lib.hid fun h => by cases h⟩
                              · have e1 : decide (q = j) = false := by simpa using hqj
                                rw [e1]
                                have hjq : j + 1 ≤ q := by omega
                                clear hqj e1
                                go_wp2_with fail
                                go_roundg q
                                case measure => rw [Hgq.out]; omega
                                case rel => exact ⟨false, (q : Int) - 1, m, rfl, by go_num, by omega, Lib.hid ⟨_, _, Hkt.out, Hxt.out, HbBt.out, Hk0t.out, fun _ => rfl, fun h => by cases h⟩, Lib.hid fun h => (by cases h), Lib.hid fun _ => ⟨q - 1, by omega, by omega, by rw [← Hnn.out]; omega, Hst.out, j, hj1, by omega, Hj3.out⟩⟩
                            · as_aux_lemma =>
                                -- CASE7 BEGIN
                                obtain ⟨g1, g2, g3⟩ := hm4' rfl
                                have hk4f := hk4.f8 2
                                have hpl := hk4.lt pc HpcM.out
                                have hmk : ∀ wx (sf : Nat), KM M1 wx p8 p9 ⟨m4.state, m4.notes, sf⟩ ot (.slice as4 m4.state.length cs4) (.slice an4 m4.notes.length cn4) (.slice a9_ ot.length c9_) → LgX M1 B1 wx gm B1 D' L' → Below B w wx → sf = (if K4 = true then L'.notes.length else m.safe) → KRel B B1 p8 p9 w (k + 1) gm false wx := fun wx sf h1 h2 h3 h4 => by
                                  refine ⟨M1, D', L', ⟨m4.state, m4.notes, sf⟩, ot, _, _, _, h1, h2, ?_, h3, HMB1.out⟩
                                  rw [g1, g2, h4]
                                  exact Hsim2.out
                                have hrel : K ≠ 4 → KRel B B1 p8 p9 w (k + 1) gm false wr := fun hne => hmk wr m4.safe hk4 hx4 hb4 (by
                                  have e4 : K4 = false := by rw [HK4.out]; simpa using hne
                                  rw [g3 e4, e4]; rfl)
                                have hrel4 : K = 4 → KRel B B1 p8 p9 w (k + 1) gm false (wr.setCell ⟨p8, 2, none⟩ (.int .i64 m4.notes.length)) := fun he => by
                                  have hset := heap_set hk4.h8 2 (.int .i64 m4.notes.length)
                                  have hho : Only (· = p8) wr (wr.setCell ⟨p8, 2, none⟩ (.int .i64 m4.notes.length)) := Only.setCell (S := (· = p8)) (Only.refl _ _) (p := ⟨p8, 2, none⟩) (.inl rfl) _
                                  refine hmk _ m4.notes.length (hk4.set8 (m' := ⟨m4.state, m4.notes, m4.notes.length⟩) hho hset (hk4.s8.mono fun k hk hlt => ⟨hho.block k hlt hk.2.1, hk⟩) (hk4.n8.mono fun k hk hlt => ⟨hho.block k hlt hk.2.1, hk⟩)) (hx4.grow (hho.mono fun k hk => by subst hk; exact hk4.m8) (fun k hk => .inl hk)) (hb4.trans (hho.below (Nat.le_trans hB1 hx4.size) fun k hk => by subst hk; exact Nat.le_trans hB1 (HMB1.out _ hk4.m8))) ?_
                                  rw [HK4.out, he, g2]; rfl
                                have Hrel := Lib.hid hrel
                                have Hrel4 := Lib.hid hrel4
                                clear hlk hfe hfo hk4 hx4 hb4 hm4 hm4' hss4 hsn4 c0 g1 g2 g3 hmk hrel hrel4
                                by_cases hK : K = 4
                                · subst hK
                                  by_cases hc : (m4.safe : Int) ≤ ni
                                  all_goals
                                    go_wp2_with fail
                                    go_roundg (nT - (k + 1))
                                    case measure => rw [Hgo.out.out]; omega
                                    case rel => exact ⟨k + 1, gm, false, Lib.hid rfl, by omega, by omega, by go_num, rfl, rfl, Hrel4.out (by trivial)⟩
                                · by_cases hc : (m4.safe : Int) ≤ ni
                                  all_goals
                                    go_wp2_with fail
                                    go_roundg (nT - (k + 1))
                                    case measure => rw [Hgo.out.out]; omega
                                    case rel => exact ⟨k + 1, gm, false, Lib.hid rfl, by omega, by omega, by go_num, rfl, rfl, Hrel.out hK⟩
                                -- CASE7 END
                        -- CASE6 END
          · as_aux_lemma =>
              -- REST BEGIN
              obtain ⟨wj, hwj⟩ : ∃ x, x = wc := ⟨_, rfl⟩
              subst hwj
              obtain ⟨gl2, un2, e2, M2, D2, L2, m2, ot2, vs2, vn2, v92, rfl, rfl, rfl, rfl, eok, hkm2, hlx2, hsim2, hb2, hMB2, hlive2⟩ := hcut
              have hdead : L2.dead = true ∨ L2.dead = false := by cases L2.dead <;> simp
              have hok2 := hsim2.ok (by omega)
              have Eok := Lib.hid eok
              have Hkm2 := Lib.hid hkm2
              have Hlx2 := Lib.hid hlx2
              have Hsim2 := Lib.hid hsim2
              have Hlive2 := Lib.hid hlive2
              have Hok2 := Lib.hid hok2
              have Hdead := Lib.hid hdead
              have hrel : ∀ wx, Below wj.heap.size wj wx → KRel B B1 p8 p9 w (k + 1) gl2 un2 wx := fun wx hbx => ⟨M2, D2, L2, m2, ot2, vs2, vn2, v92, hkm2.below hbx, hlx2.keep hbx, hsim2, hb2.trans (hbx.mono (Nat.le_trans hB1 hlx2.size)), hMB2⟩
              have Hrel := Lib.hid hrel
              clear eok hkm2 hlx2 hsim2 hMB2 hlive2 hok2 hdead hrel k0 k1 k2 k3 p0 p1 p2 p3
              have c0 := Hkm2.out.c0
              have c1 := Hkm2.out.c1
              obtain ⟨as_, cs_, rfl, hcs, hms, hss⟩ := Hkm2.out.s8
              obtain ⟨an, cn, rfl, hcn, hmn, hsn⟩ := Hkm2.out.n8
              obtain ⟨nm, hnm⟩ : ∃ n, n = m2.notes.length := ⟨_, rfl⟩
              obtain ⟨nst, hnst⟩ : ∃ n, n = m2.state.length := ⟨_, rfl⟩
              rw [← hnm] at c1 hcn
              rw [← hnst] at c0 hcs
              have hnm60 : nm ≤ 61 := by rw [hnm]; have := Hsim2.out.sm.many; omega
              have hnst5 : nst ≤ 500 := by rw [hnst]; exact Hsim2.out.sm.state
              have hrs : RB wj as_ nst m2.state := ⟨hnst, hss.any (by decide)⟩
              have hrn : RS EBytes wj an nm m2.notes := ⟨hnm, hsn.any (by decide)⟩
              have Hrs := Lib.hid hrs
              have Hrn := Lib.hid hrn
              clear hnm hnst hss hsn hrs hrn
              have hcomb : (dd = true ∧ e2 = 2) ∨ (dd = false ∧ e2 = 0) ∨ (dd = false ∧ e2 = 2) ∨ (dd = false ∧ e2 = 40) := by
                rcases Eok.out with ⟨h1, h2⟩ | ⟨h1, h2 | h2 | h2⟩
                · exact .inl ⟨h1, h2⟩
                · exact .inr (.inl ⟨h1, h2⟩)
                · exact .inr (.inr (.inl ⟨h1, h2⟩))
                · exact .inr (.inr (.inr ⟨h1, h2⟩))
              have Hcomb := Lib.hid hcomb
              clear hcomb
              go_upto_region 61 with fail
              go_cut [215] from 39 to 227 (fun s wx => s = .bool false ∧ wx = wj)
              case first =>
                rcases Hcomb.out with ⟨rfl, rfl⟩ | ⟨rfl, rfl⟩ | ⟨rfl, rfl⟩ | ⟨rfl, rfl⟩
                all_goals
                  go_wp2_with fail
                  go_meet
                  exact ⟨rfl, rfl⟩
              obtain ⟨hs215, hwd⟩ := hcut
              subst hs215
              rw [hwd]
              clear hwd
              go_wp2_with fail
              refine (x_Dead wj Hlx2.out).mono ?_
              rintro e wt ⟨rfl, rfl⟩
              rcases Hdead.out with hd | hd
              · rw [hd]
                go_wp2_with fail
                go_roundg (nT - (k + 1))
                case measure => rw [hgn.out]; omega
                case rel => exact ⟨k + 1, gl2, un2, Lib.hid rfl, by omega, by omega, by go_num, rfl, rfl, Hrel.out _ (Below.refl _ _)⟩
              · rw [hd]
                have heq : (L2.state == m2.state && L2.notes == m2.notes) = true := by
                  obtain ⟨h1, h2⟩ := Hlive2.out hd
                  rw [h1, h2]; simp
                have Heq := Lib.hid heq
                clear heq hd
                go_wp2_with fail
                refine (x_is as_ nst cs_ m2.state an nm cn m2.notes wj Hlx2.out Hok2.out Hrs.out Hrn.out (by omega) (by omega)).mono ?_
                rw [Heq.out]
                rintro e wt ⟨rfl, hbt⟩
                have Hrt := Lib.hid (Hrel.out _ hbt)
                go_wp2_with fail
                go_roundg (nT - (k + 1))
                case measure => rw [hgn.out]; omega
                case rel => exact ⟨k + 1, gl2, un2, Lib.hid rfl, by omega, by omega, by go_num, rfl, rfl, Hrt.out⟩
              -- REST END
      · obtain ⟨M, D, L, m, ot, vs, vn, v9, hkm, hlx, hsim, hb, hMB⟩ := HKR.out
        have Hb := Lib.hid hb
        clear hkm hlx hsim hb hMB HKR
        by_cases h1 : k < nT
        · have h1' : (k : Int) < (nT : Int) := by omega
          have h2' : ¬ ((k : Int) < 60) := by omega
          go_wp2_with fail
          go_ret
          exact ⟨rfl, Hb.out⟩
        · have h1' : ¬ ((k : Int) < (nT : Int)) := by omega
          go_wp2_with fail
          go_ret
          exact ⟨rfl, Hb.out⟩
end Go.Proofs.Ytmmgnbdngpkfcaa

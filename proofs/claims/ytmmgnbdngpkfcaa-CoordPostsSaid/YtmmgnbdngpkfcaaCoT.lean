
/-
  A transaction beside memory of the statement's own; the statement's head.
-/
import Derived.Test.YtmmgnbdngpkfcaaCoL
namespace Go.Proofs.Ytmmgnbdngpkfcaa
open Go.RowKit
set_option linter.unusedVariables false

/-- a transaction whose blocks lie from B on, ahead of S -/
def TxB (B S : Nat) (w : World) (g : Nat) (T : Co.Tx) : Prop :=
  ∃ vm ov, TxA B w g vm ov T ∧ g < S ∧ vm < S ∧ S ≤ w.heap.size ∧ ∀ a n c, ov = .slice a n c → Sl ECOp (fun k => k < S ∧ k ≠ g ∧ k ≠ vm) w a T.ops
section
variable {B S g : Nat} {w w' : World} {T : Co.Tx}
theorem TxB.right (h : TxB B S w g T) : Co.Right T := by
  obtain ⟨vm, ov, h1, _⟩ := h
  exact h1.right
theorem TxB.size (h : TxB B S w g T) : S ≤ w.heap.size := by
  obtain ⟨vm, ov, h1, h2, h3, h4, _⟩ := h
  exact h4
theorem TxB.low (h : TxB B S w g T) : B ≤ S := by
  obtain ⟨vm, ov, h1, h2, h3, h4, _⟩ := h
  have := h1.hg
  omega
theorem TxB.keep (h : TxB B S w g T) (hb : Below S w w') : TxB B S w' g T := by
  obtain ⟨vm, ov, h1, h2, h3, h4, h5⟩ := h
  obtain ⟨a, c, rfl, g2, g3, g4⟩ := h1.ops
  have h6 := h5 a _ c rfl
  exact ⟨vm, _, ⟨(hb.block g h2).trans h1.row, ⟨a, c, rfl, g2, g3, h6.mono (by decide) fun k hk _ => ⟨hb.block k hk.1, hk.2⟩⟩, h1.map.keep (hb.block vm h3), h1.hg, h1.hv, h1.ne, h1.right⟩, h2, h3, Nat.le_trans h4 hb.size, fun a' n' c' e => by
    injection e with e1 e2 e3
    subst e1
    exact h6.mono (by decide) fun k hk _ => ⟨hb.block k hk.1, hk⟩⟩
theorem TxA.tb {vm : Nat} {ov : Value} (h : TxA B w g vm ov T) : TxB B w.heap.size w g T := by
  obtain ⟨a, c, rfl, g2, g3, g4⟩ := h.ops
  refine ⟨vm, _, h, h.lt, h.map.lt, Nat.le_refl _, fun a' n' c' e => ?_⟩
  injection e with e1 e2 e3
  subst e1
  intro k x hx
  obtain ⟨b, o, e, hb, cs, hr, hc⟩ := g4 k x hx
  refine ⟨b, o, e, ⟨?_, hb⟩, cs, hr, hc⟩
  obtain ⟨rfl, _⟩ := cop_rep hr
  exact cell_lt (hc 0 _ rfl)
/-- behind a call that turns it -/
theorem TxB.turn {vm : Nat} {ov : Value} {T' : Co.Tx} (h2 : g < S) (h3 : vm < S) (h4 : S ≤ w.heap.size) (h5 : ∀ a n c, ov = .slice a n c → Sl ECOp (fun k => k < S ∧ k ≠ g ∧ k ≠ vm) w a T.ops) (h : TxA B w' g vm ov T') (ho : Only (fun k => k = g ∨ k = vm) w w') (he : T'.ops = T.ops) :
    TxB B S w' g T' ∧ Only (fun k => B ≤ k ∧ k < S) w w' := by
  refine ⟨⟨vm, ov, h, h2, h3, Nat.le_trans h4 ho.size, fun a n c e => ?_⟩, ho.mono fun k hk => ?_⟩
  · rw [he]
    exact (h5 a n c e).mono (by decide) fun k hk hlt => ⟨ho.block k hlt fun h => by rcases h with h | h; exact hk.2.1 h; exact hk.2.2 h, hk⟩
  · have := h.hg
    have := h.hv
    rcases hk with rfl | rfl <;> omega
end
namespace Co
theorem goA_ops (T : Tx) (s f : Int) : (goA T s f).ops = T.ops := rfl
theorem goR_ops (T : Tx) (f : Int) : (goR T f).ops = T.ops := by
  unfold goR
  dsimp only
  split
  · rfl
  · split <;> rfl
theorem nextT_ops (T : Tx) : (nextT T).ops = T.ops := by
  unfold nextT
  split <;> rfl
theorem fail_ops (T : Tx) : (fail T).ops = T.ops := rfl
theorem got_ops (T : Tx) (a : An) : (got T a).ops = T.ops := by
  unfold got
  dsimp only
  split
  · split <;> rfl
  · split
    · rfl
    · exact goR_ops _ _
theorem inT_ops (T : Tx) (a : An) : (inT T a).ops = T.ops := by
  unfold inT
  dsimp only
  split
  · exact nextT_ops T
  · split
    · split
      · exact nextT_ops T
      · rw [goR_ops]; exact nextT_ops T
    · split
      · rw [got_ops]; exact nextT_ops T
      · split
        · exact nextT_ops T
        · split
          · exact nextT_ops T
          · split
            · split
              · rw [fail_ops]; exact nextT_ops T
              · rw [goA_ops]; exact nextT_ops T
            · split
              · split
                · rw [fail_ops]; exact nextT_ops T
                · exact nextT_ops T
              · split
                · rw [goA_ops]; exact nextT_ops T
                · rw [goA_ops]; exact nextT_ops T
theorem tick_ops (T : Tx) : (tick T).ops = T.ops := by
  unfold tick
  split <;> rfl
end Co

theorem b_CNext {B S g : Nat} {T : Co.Tx} (w : World) (h : TxB B S w g T) :
    Calls Try.prog 19 #[.pointer (some ⟨g, 0, none⟩)] w fun e w' => ∃ aw cw ar cr, e = .returned (.tuple #[.agg #[.int .i64 (Co.nextA T).1.shard, .int .i64 (Co.nextA T).1.kind, .int .i64 (Co.nextA T).1.txn, .int .i64 (Co.nextA T).1.home, .int .i64 (Co.nextA T).1.start, .slice aw (Co.nextA T).1.writes.length cw, .slice ar (Co.nextA T).1.reads.length cr, .int .i64 (Co.nextA T).1.e.t, .bool (Co.nextA T).1.e.c, .int .i64 (Co.nextA T).1.e.a], .bool (Co.nextA T).2]) ∧ (Co.nextA T).1.reads.length ≤ 12 ∧ TxB B S w' g (Co.nextT T) ∧ Only (fun k => B ≤ k ∧ k < S) w w' := by
  obtain ⟨vm, ov, h1, h2, h3, h4, h5⟩ := h
  refine (co_Next w.heap.size w rfl h1).mono ?_
  rintro e w' ⟨wv, rv, rfl, ho1, ho2, hl1, hl2, hT, ho⟩
  obtain ⟨aw, cw, rfl, _, _, _, _⟩ := ho1.shape _ rfl
  obtain ⟨ar, cr, rfl, _, _, _, _⟩ := ho2.shape _ rfl
  obtain ⟨g1, g2⟩ := TxB.turn h2 h3 h4 h5 hT (ho.mono fun k hk => .inl hk) (Co.nextT_ops T)
  exact ⟨aw, cw, ar, cr, rfl, hl2, g1, g2⟩
theorem b_CIn {B S g : Nat} {T : Co.Tx} (a : Co.An) (av : Option Addr) (n c : Nat) (w : World) (h : TxB B S w g T) (hn : n = a.vals.length) (hc : n ≤ c ∧ c ≤ maxLen) (hs : Sl EInt (fun k => S ≤ k) w av a.vals) (hat : T.at_ ≤ 3 ∨ (T.stage ≠ 1 ∧ T.stage ≠ 4 ∧ T.stage ≠ 7)) (hst : 0 ≤ T.stage ∧ T.stage ≤ 8) :
    Calls Try.prog 20 #[.pointer (some ⟨g, 0, none⟩), .agg #[.int .i64 a.err, .slice av n c, .int .i64 a.at_, .int .i64 a.by_, .int .i64 a.home, .int .i64 a.e.t, .bool a.e.c, .int .i64 a.e.a]] w fun e w' => e = .returned (.tuple #[]) ∧ TxB B S w' g (Co.inT T a) ∧ Only (fun k => B ≤ k ∧ k < S) w w' := by
  obtain ⟨vm, ov, h1, h2, h3, h4, h5⟩ := h
  refine (co_In a av n c w h1 hn hc (hs.mono (by decide) fun k hk _ => ⟨rfl, by omega, by omega⟩) hat hst).mono ?_
  rintro e w' ⟨rfl, hT, ho⟩
  exact ⟨rfl, TxB.turn h2 h3 h4 h5 hT ho (Co.inT_ops T a)⟩
theorem b_CTick {B S g : Nat} {T : Co.Tx} (w : World) (h : TxB B S w g T) (hw : T.waited ≤ 999) :
    Calls Try.prog 23 #[.pointer (some ⟨g, 0, none⟩)] w fun e w' => e = .returned (.tuple #[]) ∧ TxB B S w' g (Co.tick T) ∧ Only (fun k => B ≤ k ∧ k < S) w w' := by
  obtain ⟨vm, ov, h1, h2, h3, h4, h5⟩ := h
  refine (co_Tick w h1 hw).mono ?_
  rintro e w' ⟨rfl, hT, ho⟩
  exact ⟨rfl, TxB.turn h2 h3 h4 h5 hT (ho.mono fun k hk => .inl hk) (Co.tick_ops T)⟩
theorem b_COver {B S g : Nat} {T : Co.Tx} (w : World) (h : TxB B S w g T) :
    Calls Try.prog 18 #[.pointer (some ⟨g, 0, none⟩)] w fun e w' => e = .returned (.bool (T.stage == 8)) ∧ w = w' := by
  obtain ⟨vm, ov, h1, h2⟩ := h
  exact co_Over w h1
theorem b_CDoubt {B S g : Nat} {T : Co.Tx} (w : World) (h : TxB B S w g T) :
    Calls Try.prog 22 #[.pointer (some ⟨g, 0, none⟩)] w fun e w' => e = .returned (.bool (T.doubt && T.res == 0)) ∧ w = w' := by
  obtain ⟨vm, ov, h1, h2⟩ := h
  exact co_Doubt w h1
theorem b_CResult {B S g : Nat} {T : Co.Tx} (w : World) (h : TxB B S w g T) :
    Calls Try.prog 21 #[.pointer (some ⟨g, 0, none⟩)] w fun e w' => ∃ v, e = .returned (.tuple #[.int .i64 T.res, v]) ∧ Own ECOp 47 w.heap.size w' v (Co.told T) ∧ Below w.heap.size w w' := by
  obtain ⟨vm, ov, h1, h2⟩ := h
  exact co_Result w.heap.size w rfl h1
theorem b_CNew (id : Int) (a : Option Addr) (n c : Nat) (l : List Co.Op) (ser : Bool) (sh pat : Int) (B : Nat) (w : World) (hB : B = w.heap.size) (hs : Sl ECOp (fun _ => True) w a l) (hn : n = l.length) (hc : n ≤ c) (h12 : n ≤ 12) (hk : ∀ o ∈ l, 0 ≤ o.2.1 ∧ o.2.1 ≤ 15) :
    Calls Try.prog 17 #[.int .i64 id, .slice a n c, .bool ser, .int .i64 sh, .int .i64 pat] w fun e w' => ∃ g, e = .returned (.pointer (some ⟨g, 0, none⟩)) ∧ TxB B w'.heap.size w' g (Co.new id l ser sh pat) ∧ Below B w w' := by
  refine (co_New id a n c l ser sh pat B w hB hs hn hc h12 hk).mono ?_
  rintro e w' ⟨g, vm, ov, rfl, h1, h2⟩
  exact ⟨g, rfl, h1.tb, h2⟩
theorem size_ask' : (Try.prog.info? 37).map (·.size) = some 10 := by kernel_rfl
set_option maxRecDepth 4096 in
set_option maxHeartbeats 1600000 in
theorem b_CNext_nil (w : World) :
    Calls Try.prog 19 #[.pointer none] w fun e w' => e = .returned (.tuple #[.agg #[.int .i64 0, .int .i64 0, .int .i64 0, .int .i64 0, .int .i64 0, .slice none 0 0, .slice none 0 0, .int .i64 0, .bool false, .int .i64 0], .bool false]) ∧ Below w.heap.size w w' := by
  obtain ⟨w1, hw1⟩ : ∃ x, x = w.alloc (.cells #[.int .i64 0, .int .i64 0, .int .i64 0, .int .i64 0, .int .i64 0, .slice none 0 0, .slice none 0 0, .int .i64 0, .bool false, .int .i64 0] 37) := ⟨_, rfl⟩
  have hh1 : w1.heap[w.heap.size]? = some (.cells #[.int .i64 0, .int .i64 0, .int .i64 0, .int .i64 0, .int .i64 0, .slice none 0 0, .slice none 0 0, .int .i64 0, .bool false, .int .i64 0] 37 (0, 0)) := by rw [hw1]; exact heap_alloc_new w _
  have hb1 : Below w.heap.size w w1 := by rw [hw1]; exact alloc_below _ _
  obtain ⟨q, hq⟩ : ∃ q, q = w.heap.size := ⟨_, rfl⟩
  rw [← hq] at hh1 hb1 ⊢
  have z0 : w1.cell? ⟨q, 0, none⟩ = some (.int .i64 0) := by simp [World.cell?, hh1]
  have z1 : w1.cell? ⟨q, 1, none⟩ = some (.int .i64 0) := by simp [World.cell?, hh1]
  have z2 : w1.cell? ⟨q, 2, none⟩ = some (.int .i64 0) := by simp [World.cell?, hh1]
  have z3 : w1.cell? ⟨q, 3, none⟩ = some (.int .i64 0) := by simp [World.cell?, hh1]
  have z4 : w1.cell? ⟨q, 4, none⟩ = some (.int .i64 0) := by simp [World.cell?, hh1]
  have z5 : w1.cell? ⟨q, 5, none⟩ = some (.slice none 0 0) := by simp [World.cell?, hh1]
  have z6 : w1.cell? ⟨q, 6, none⟩ = some (.slice none 0 0) := by simp [World.cell?, hh1]
  have z7 : w1.cell? ⟨q, 7, none⟩ = some (.int .i64 0) := by simp [World.cell?, hh1]
  have z8 : w1.cell? ⟨q, 8, none⟩ = some (.bool false) := by simp [World.cell?, hh1]
  have z9 : w1.cell? ⟨q, 9, none⟩ = some (.int .i64 0) := by simp [World.cell?, hh1]
  have zf : ∀ o, w1.frozen? ⟨q, o, none⟩ = false := fun o => by simp [World.frozen?, hh1]
  have Hh1 := Lib.hid hh1
  have Hb1 := Lib.hid hb1
  clear hh1 hb1
  go_enter Try.func19, Try.ntmps19
  go_upto_region 1 with fail
  rw [← hw1, ← hq]
  clear hw1 hq
  go_wp2_with fail
  have hgen : ∀ (tm : Array Value) (v0 v1 v2 v3 v4 v5 v6 v7 v8 v9 : Value), tm.getD 2 undef = .pointer (some ⟨q, 0, none⟩) → tm.getD 3 undef = .bool false → #[v0, v1, v2, v3, v4, v5, v6, v7, v8, v9] = #[.int .i64 0, .int .i64 0, .int .i64 0, .int .i64 0, .int .i64 0, .slice none 0 0, .slice none 0 0, .int .i64 0, .bool false, .int .i64 0] →
      bodyPost Try.prog Try.f19 (fun e w' => e = .returned (.tuple #[.agg #[.int .i64 0, .int .i64 0, .int .i64 0, .int .i64 0, .int .i64 0, .slice none 0 0, .slice none 0 0, .int .i64 0, .bool false, .int .i64 0], .bool false]) ∧ Below q w w') .ret ⟨tm, []⟩ ((((((((((w1.setCell ⟨q, 0, none⟩ v0).setCell ⟨q, 1, none⟩ v1).setCell ⟨q, 2, none⟩ v2).setCell ⟨q, 3, none⟩ v3).setCell ⟨q, 4, none⟩ v4).setCell ⟨q, 5, none⟩ v5).setCell ⟨q, 6, none⟩ v6).setCell ⟨q, 7, none⟩ v7).setCell ⟨q, 8, none⟩ v8).setCell ⟨q, 9, none⟩ v9) := fun tm v0 v1 v2 v3 v4 v5 v6 v7 v8 v9 hp h3 hrow => by
    refine bodyPost_ret (v := .tuple #[.agg #[v0, v1, v2, v3, v4, v5, v6, v7, v8, v9], .bool false]) ?_ rfl ?_
    · rw [results_cell2 Try.results19 tm _ q 37 #[v0, v1, v2, v3, v4, v5, v6, v7, v8, v9] (0, 0) _ hp (ask_fin Hh1.out v0 v1 v2 v3 v4 v5 v6 v7 v8 v9) Try.underlying37 rfl size_ask', h3]
    · exact ⟨by rw [hrow], ask_below Hb1.out (Nat.le_refl _) v0 v1 v2 v3 v4 v5 v6 v7 v8 v9⟩
  refine hgen _ _ _ _ _ _ _ _ _ _ _ ?_ ?_ ?_
  · rfl
  · rfl
  · rfl
end Go.Proofs.Ytmmgnbdngpkfcaa

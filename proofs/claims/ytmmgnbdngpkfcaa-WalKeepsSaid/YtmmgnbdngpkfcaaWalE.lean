
/-
  A log's calls: Turn, Dead, State, Sync.
  A log's calls: Append, Check.
  A log's call: Check.
-/
import Derived.Test.YtmmgnbdngpkfcaaWalC
import Derived.Deep.RegionLaw
namespace Go.Proofs.Ytmmgnbdngpkfcaa
open Go.RowKit
set_option linter.unusedVariables false

/-- a log and its disk -/
structure LgD (F G : Nat → Prop) (w : World) (gl gd : Nat) (D : Dk.Dsk) (L : Wl.Lg) (vs vn : Value) : Prop where
  dk : DkAt F w gd D
  ok : Dk.Ok D
  lg : LgM G w gl gd L vs vn
  dis : ∀ k, F k → ¬ G k
/-- what a log's call comes to -/
def LogIs (w : World) (F G : Nat → Prop) (gl gd : Nat) (R : Dk.Dsk × Wl.Lg × Int) (e : Ending) (w' : World) : Prop :=
  e = .returned (.int .i64 R.2.2) ∧ ∃ F' G' vs vn, LgD F' G' w' gl gd R.1 R.2.1 vs vn ∧ (∀ k, F' k ∨ G' k → (F k ∨ G k) ∨ w.heap.size ≤ k) ∧ Only (fun k => F k ∨ G k) w w'
section
variable {F G : Nat → Prop} {w w' : World} {gl gd : Nat} {D : Dk.Dsk} {L : Wl.Lg} {vs vn : Value}
theorem LgD.keep (h : LgD F G w gl gd D L vs vn) (hb : Below w.heap.size w w') : LgD F G w' gl gd D L vs vn := ⟨h.dk.keep hb, h.ok, h.lg.keep hb, h.dis⟩
theorem LgD.same {R : Dk.Dsk × Wl.Lg × Int} {e : Int} (h : LgD F G w gl gd D L vs vn) (hb : Below w.heap.size w w') (hR : R = (D, L, e)) : LogIs w F G gl gd R (.returned (.int .i64 e)) w' := by
  subst hR
  exact ⟨rfl, F, G, vs, vn, h.keep hb, fun k hk => .inl hk, Below.only hb⟩
/-- the disk has turned -/
theorem LgD.turn {F' : Nat → Prop} {D' : Dk.Dsk} (h : LgD F G w gl gd D L vs vn) (ht : Turns F w F' w') (ha : DkAt F' w' gd D') (hok : Dk.Ok D') : LgD F' G w' gl gd D' L vs vn :=
  ⟨ha, hok, h.lg.only ht.only fun k hg hf => h.dis k hf hg, fun k hf hg => by
    rcases ht.foot k hf with h1 | h1
    · exact h.dis k h1 hg
    · have := h.lg.lt k hg; omega⟩
theorem LgD.noted {L' : Wl.Lg} (h : LgD F G w gl gd D L vs vn) (hl : LgM G w' gl gd L' vs vn) (ho : Only (· = gl) w w') : LgD F G w' gl gd D L' vs vn :=
  ⟨h.dk.only ho fun k hf hg => by subst hg; exact h.dis k hf h.lg.gg, h.ok, hl, h.dis⟩
end

theorem wal_Turn {G : Nat → Prop} {gl gd : Nat} {L : Wl.Lg} {vs vn : Value} (w : World) (h : LgM G w gl gd L vs vn) :
    Calls Try.prog 34 #[.pointer (some ⟨gl, 0, none⟩)] w fun e w' => e = .returned (.int .i64 L.turn) ∧ w = w' := by
  have c1 := h.c1
  go_enter Try.func34, Try.ntmps34
  go_wp2_with fail
  go_ret
  exact ⟨rfl, rfl⟩
theorem wal_Turn_nil (w : World) :
    Calls Try.prog 34 #[.pointer none] w fun e w' => e = .returned (.int .i64 0) ∧ w = w' := by
  go_enter Try.func34, Try.ntmps34
  go_wp2_with fail
  go_ret
  exact ⟨rfl, rfl⟩
theorem wal_Dead {G : Nat → Prop} {gl gd : Nat} {L : Wl.Lg} {vs vn : Value} (w : World) (h : LgM G w gl gd L vs vn) :
    Calls Try.prog 40 #[.pointer (some ⟨gl, 0, none⟩)] w fun e w' => e = .returned (.bool L.dead) ∧ w = w' := by
  have c4 := h.c4
  go_enter Try.func40, Try.ntmps40
  go_wp2_with fail
  go_ret
  exact ⟨rfl, rfl⟩
theorem wal_Dead_nil (w : World) :
    Calls Try.prog 40 #[.pointer none] w fun e w' => e = .returned (.bool false) ∧ w = w' := by
  go_enter Try.func40, Try.ntmps40
  go_wp2_with fail
  go_ret
  exact ⟨rfl, rfl⟩

/-- what slices.Clone makes of nothing -/
theorem clone_none (c : Nat) (w : World) :
    Calls Try.prog 76 #[.slice none 0 c] w fun e w' => e = .returned (.slice none 0 0) ∧ w = w' := by
  have heq := Lib.run_eql_slice_nil (P := Try.prog) w 49 5 none 0 c 0 0 Try.underlying49
  go_enter Try.func76, Try.ntmps76
  go_wp2_with fail
  go_ret
  exact ⟨rfl, rfl⟩
theorem clone_sl {ok : Nat → Prop} (a : Option Addr) (n c : Nat) (l : List (BitVec 8)) (B : Nat) (w : World) (hB : w.heap.size = B) (hs : Sl EU8 ok w a l) (hn : n = l.length) (hl : n ≤ 140737488355328) :
    Calls Try.prog 76 #[.slice a n c] w fun e w' => ∃ v', e = .returned v' ∧ Own EU8 5 B w' v' l ∧ Below B w w' := by
  subst hB
  cases a with
  | none =>
    have hl0 : l = [] := by
      cases l with
      | nil => rfl
      | cons x r => obtain ⟨b, o, e, _⟩ := hs 0 x rfl; cases e
    subst hl0
    subst hn
    refine (clone_none c w).mono ?_
    rintro e w' ⟨rfl, rfl⟩
    exact ⟨_, rfl, Own.nil _ _ _ _, Below.refl _ _⟩
  | some ad => exact clone_some ad n c l w ⟨hn, hs.any (by decide)⟩ hl

theorem Own.u8_block {te : TypeId} {base : Nat} {w w' : World} {v : Value} {l : List (BitVec 8)} (h : Own EU8 te base w v l) (hb : ∀ x, v.ownBlock = some x → w'.heap[x]? = w.heap[x]?) : Own EU8 te base w' v l := by
  rcases h with h | ⟨g, cap, cur, hv, hg, hh, h1, h2, h3, h4⟩
  · exact .inl h
  · refine .inr ⟨g, cap, cur, hv, hg, by rw [hb g (by rw [hv]; rfl)]; exact hh, h1, h2, h3, fun k y hk => ?_⟩
    obtain ⟨cs, hr, hc⟩ := h4 k y hk
    exact ⟨cs, hr, hc⟩
/-- bytes of one's own, with their value -/
def EVal : Enc (Value × List (BitVec 8)) where
  sz := 1
  rep ok w cs x := cs = [x.1] ∧ Own EU8 5 0 w x.1 x.2 ∧ ∀ b, x.1.ownBlock = some b → ok b
  len h := by rw [h.1]; rfl
  one h := by
    intro u hu
    rw [h.1] at hu
    simp only [List.mem_singleton] at hu
    subst hu
    obtain ⟨a, c, e, _⟩ := h.2.1.sl
    rw [e]; rfl
  mono h hk := ⟨h.1, h.2.1.u8_block fun x hx => (hk x (h.2.2 x hx) (h.2.1.lt x hx).2).1, fun b hb => (hk b (h.2.2 b hb) (h.2.1.lt b hb).2).2⟩
/-- bytes that lie apart from each other -/
def Apart (B : Nat) (ps : List (Value × List (BitVec 8))) : Prop :=
  (∀ p ∈ ps, ∀ x, p.1.ownBlock = some x → B ≤ x) ∧ ps.Pairwise fun p q => ∀ x, p.1.ownBlock = some x → q.1.ownBlock ≠ some x
theorem Apart.snoc {B : Nat} {ps : List (Value × List (BitVec 8))} (h : Apart B ps) (q : Value × List (BitVec 8)) (hq : ∀ x, q.1.ownBlock = some x → B ≤ x ∧ ∀ p ∈ ps, p.1.ownBlock ≠ some x) : Apart B (ps ++ [q]) := by
  refine ⟨fun p hp x hx => ?_, ?_⟩
  · rcases List.mem_append.1 hp with hp | hp
    · exact h.1 p hp x hx
    · rw [List.mem_singleton] at hp; subst hp; exact (hq x hx).1
  · rw [List.pairwise_append]
    refine ⟨h.2, List.pairwise_singleton _ _, fun p hp r hr x hx => ?_⟩
    rw [List.mem_singleton] at hr
    subst hr
    exact fun e => (hq x e).2 p hp hx
theorem ti_val : ElemInfo Try.prog 50 49 EVal.sz 24 := ti_byts
theorem Own.vlt {te : TypeId} {base : Nat} {w : World} {v : Value} {ps : List (Value × List (BitVec 8))} (h : Own EVal te base w v ps) : ∀ p ∈ ps, ∀ x, p.1.ownBlock = some x → x < w.heap.size ∧ v.ownBlock ≠ some x := by
  intro p hp x hx
  rcases h with ⟨_, rfl⟩ | ⟨g, cap, cur, hv, hg, hh, h1, h2, h3, h4⟩
  · cases hp
  · obtain ⟨k, hk, e⟩ := List.getElem_of_mem hp
    obtain ⟨cs, hr, hc⟩ := h4 k p (by rw [← e]; exact List.getElem?_eq_getElem hk)
    refine ⟨(hr.2.1.lt x hx).2, fun e2 => ?_⟩
    rw [hv] at e2
    simp only [Value.ownBlock, Option.some.injEq] at e2
    exact hr.2.2 x hx e2.symm

/-- what State tells -/
def StateIs (B : Nat) (w : World) (L : Wl.Lg) (e : Ending) (w' : World) : Prop :=
  ∃ v1 v2 ps, e = .returned (.tuple #[v1, v2]) ∧ Own EU8 5 B w' v1 L.state ∧ Own EVal 49 B w' v2 ps ∧ ps.map (·.2) = L.notes ∧ Apart B ps ∧ Below B w w'
theorem wal_State_nil (w : World) :
    Calls Try.prog 39 #[.pointer none] w fun e w' => e = .returned (.tuple #[.slice none 0 0, .slice none 0 0]) ∧ w = w' := by
  go_enter Try.func39, Try.ntmps39
  go_wp2_with fail
  refine bodyPost_ret (v := .tuple #[.slice none 0 0, .slice none 0 0]) (by simp [results, Try.results39, go_sem]) rfl ?_
  exact ⟨rfl, rfl⟩
set_option maxRecDepth 100000 in
set_option maxHeartbeats 3200000 in
theorem wal_State {G : Nat → Prop} {gl gd : Nat} {L : Wl.Lg} {vs vn : Value} (B : Nat) (w : World) (hB : w.heap.size = B) (h : LgM G w gl gd L vs vn) (hL : Wl.Ok L) :
    Calls Try.prog 39 #[.pointer (some ⟨gl, 0, none⟩)] w fun e w' => StateIs B w L e w' := by
  obtain ⟨aS, cS, hvs, hcS, hmS, hsS⟩ := h.st
  obtain ⟨aN, cN, hvn, hcN, hmN, hsN, hoN⟩ := h.ns.shape L.notes.length rfl
  obtain ⟨nS, hnS⟩ : ∃ n, n = L.state.length := ⟨_, rfl⟩
  obtain ⟨nN, hnN⟩ : ∃ n, n = L.notes.length := ⟨_, rfl⟩
  have hnN1 : nN ≤ 89478486 := by rw [hnN]; exact hL.many
  have hnS1 : nS ≤ 65500 := by rw [hnS]; exact hL.state
  have hnote := hL.note
  have k2 := h.c2
  have k3 := h.c3
  rw [hvs, ← hnS] at k2
  rw [hvn, ← hnN] at k3
  have hglB : gl < B := by have := h.lt gl h.gg; omega
  have HB := Lib.hid hB
  have HnS := Lib.hid hnS
  have HnN := Lib.hid hnN
  have Hnote := Lib.hid hnote
  have HsS := Lib.hid hsS
  have HsN := Lib.hid hsN
  clear hvs hvn hnS hnN hnote hL hsS hsN hoN h hB
  go_enter Try.func39, Try.ntmps39
  go_wp2_with fail
  go_loopw [4, 14] (fun v i wr => ∃ (k : Nat) (ps : List (Value × List (BitVec 8))), k ≤ nN ∧ i = .int .i64 k ∧ Own EVal 49 B wr v ps ∧ ps.map (·.2) = L.notes.take k ∧ Apart B ps ∧ Below B w wr) (fun _ i _ => nN - (intOf i).toNat)
  case atStart => exact ⟨0, [], Nat.zero_le _, rfl, Own.nil _ _ _ _, rfl, ⟨fun p hp => (by cases hp), List.Pairwise.nil⟩, Below.refl _ _⟩
  case round =>
    obtain ⟨k, ps, hk, rfl, ho, hps, hap, hbr⟩ := hrel
    have hsr : B ≤ wr.heap.size := by rw [← HB.out]; exact hbr.size
    have j2 : wr.cell? ⟨gl, 2, none⟩ = some (.slice aS nS cS) := by rw [hbr.cell (p := ⟨gl, 2, none⟩) hglB]; exact k2
    by_cases hlt : k < nN
    · have hki : (k : Int) < (nN : Int) := by omega
      have hkf : k < L.notes.length := by rw [← HnN.out]; exact hlt
      obtain ⟨b6, o6, rfl, -, cs, hr6, hc6⟩ := HsN.out.2 k L.notes[k] (List.getElem?_eq_getElem hkf)
      obtain ⟨d, hx⟩ : ∃ x, x = L.notes[k] := ⟨_, rfl⟩
      have hdn : d.length ≤ 65536 := Hnote.out d (by rw [hx]; exact List.getElem_mem hkf)
      rw [← hx] at hr6
      obtain ⟨a7, c7, rfl, h71, h72, h73⟩ := hr6
      have p1 : w.cell? ⟨b6, o6 + k, none⟩ = some (.slice a7 d.length c7) := by simpa [EBytes, ESlice, EOk] using hc6 0 _ rfl
      have s1 : wr.cell? ⟨b6, o6 + k, none⟩ = some (.slice a7 d.length c7) := by rw [hbr.cell (p := ⟨b6, o6 + k, none⟩) (by have := cell_lt p1; rw [HB.out] at this; exact this)]; exact p1
      have h74 : Sl EU8 (fun _ => True) wr a7 d := h73.mono (by decide) fun q hq hlt => ⟨hbr.block q (by rw [HB.out] at hlt; exact hlt), trivial⟩
      obtain ⟨dl, hdl⟩ : ∃ n, n = d.length := ⟨_, rfl⟩
      rw [← hdl] at s1 hdn
      have hstep : L.notes.take (k + 1) = L.notes.take k ++ [d] := by
        rw [List.take_add_one, List.getElem?_eq_getElem hkf, ← hx, Option.toList_some]
      have hpl : ps.length ≤ 89478486 := by
        have := congrArg List.length hps
        rw [List.length_map, List.length_take] at this
        omega
      have Hstep := Lib.hid hstep
      have Hdl := Lib.hid hdl
      have Hps := Lib.hid hps
      have Hap := Lib.hid hap
      have Hpl := Lib.hid hpl
      clear hstep hx hc6 p1 hdl hkf h71 h72 h73 hps hap hpl
      go_wp2_with fail
      refine (clone_sl _ _ _ d _ _ rfl h74 Hdl.out (by omega)).mono ?_
      rintro e w8 ⟨v8, rfl, ho8, hb8⟩
      obtain ⟨a8, c8, rfl, hc8, hm8, hr8, ho8'⟩ := ho8.shape dl Hdl.out
      have hs8 : B ≤ w8.heap.size := Nat.le_trans hsr hb8.size
      obtain ⟨w9, hw9⟩ : ∃ x, x = w8.alloc (.cells #[.slice a8 dl c8] 49) := ⟨_, rfl⟩
      have hb9 : Below w8.heap.size w8 w9 := by rw [hw9]; exact alloc_below _ _
      have hh9 : w9.heap[w8.heap.size]? = some (.cells #[.slice a8 dl c8] 49 (0, 0)) := by rw [hw9]; exact heap_alloc_new w8 _
      have ho89 : Own EVal 49 B w9 u4 ps := ho.keep fun q hq => by rw [hb9.block q (Nat.lt_of_lt_of_le hq hb8.size), hb8.block q hq]
      have hsl9 : Sl EVal (fun b => some b ≠ u4.ownBlock) w9 (some ⟨w8.heap.size, 0, none⟩) [(.slice a8 dl c8, d)] := by
        refine sl_one hh9 ⟨rfl, (ho8'.below hb9).base (Nat.zero_le _), fun b hb e => ?_⟩ fun e => ?_
        · have h1 := (ho8'.lt b hb).1
          have h2 := (ho.lt b e.symm).2
          omega
        · have h2 := (ho.lt _ e.symm).2
          have := hb8.size
          omega
      have hbr9 : Below B w w9 := hbr.trans ((hb8.mono hsr).trans (hb9.mono hs8))
      have hnew : ∀ x, (Value.slice a8 dl c8).ownBlock = some x → B ≤ x ∧ ∀ p ∈ ps, p.1.ownBlock ≠ some x := fun x hx => ⟨Nat.le_trans hsr (ho8'.lt x hx).1, fun p hp e => by
        have h1 := (ho8'.lt x hx).1
        have h2 := (ho.vlt p hp x e).1
        omega⟩
      have Hnew := Lib.hid hnew
      have Hb9 := Lib.hid (Nat.le_trans hs8 hb9.size)
      clear hh9 hnew ho8 hr8 hb9 hb8
      go_wp2_with (first
        | (rw [← hw9]
           refine wpList_app EVal (l2 := [(.slice a8 dl c8, d)]) rfl rfl (by rfl) (by rfl) ti_val ho89 rfl hsl9 (by have := Hpl.out; unfold maxLen; rw [List.length_singleton]; omega) (by have := Hpl.out; rw [List.length_singleton]; omega) Hb9.out ?_
           intro v10 w10 ho10 hg10 hv10 hb10))
      refine ⟨⟨k + 1, ps ++ [(.slice a8 dl c8, d)], by omega, by go_num, ho10, ?_, Hap.out.snoc _ Hnew.out, hbr9.trans hb10⟩, by simp [intOf]; omega⟩
      rw [List.map_append, Hps.out, Hstep.out]
      rfl
    · obtain rfl : k = nN := by omega
      have hpsN : ps.map (·.2) = L.notes := by rw [hps, HnN.out, List.take_length]
      have hsS : Sl EU8 (fun _ => True) wr aS L.state := HsS.out.mono (by decide) fun q hq hlt => ⟨hbr.block q (by rw [HB.out] at hlt; exact hlt), trivial⟩
      have HpsN := Lib.hid hpsN
      have Hap := Lib.hid hap
      clear hps hpsN hap
      go_wp2_with fail
      refine (clone_sl _ _ _ L.state _ _ rfl hsS HnS.out (by omega)).mono ?_
      rintro e w8 ⟨v8, rfl, ho8, hb8⟩
      go_wp2_with fail
      refine bodyPost_ret (v := .tuple #[v8, u4]) (by simp [results, Try.results39, go_sem]) rfl ?_
      exact ⟨v8, u4, ps, rfl, ho8.base hsr, ho.keep fun q hq => hb8.block q hq, HpsN.out, Hap.out, hbr.trans (hb8.mono hsr)⟩

set_option maxRecDepth 100000 in
theorem wal_Sync {F G : Nat → Prop} {gl gd : Nat} {D : Dk.Dsk} {L : Wl.Lg} {vs vn : Value} (w : World) (h : LgD F G w gl gd D L vs vn) (ha : 0 ≤ D.acts ∧ D.acts ≤ 8000000000000000000) (ht : L.turn ≤ 1099511627777) :
    Calls Try.prog 36 #[.pointer (some ⟨gl, 0, none⟩)] w fun e w' => LogIs w F G gl gd (Wl.sync D L) e w' := by
  obtain ⟨R, hR⟩ : ∃ R, R = Wl.sync D L := ⟨_, rfl⟩
  rw [← hR]
  have kr := wal_right w h.lg
  have c0 := h.lg.c0
  have c1 := h.lg.c1
  cases hd : L.dead
  · rw [hd] at kr
    have hR1 : R = ((Dk.flush D (Wl.tp L.turn)).1, Wl.note L (Dk.flush D (Wl.tp L.turn)).2, (Dk.flush D (Wl.tp L.turn)).2) := by rw [hR]; unfold Wl.sync; rw [if_neg (by rw [hd]; decide)]
    have HR := Lib.hid hR1
    have Ha := Lib.hid ha
    have hdr := h.keep (drew_below w)
    obtain ⟨tn, htn⟩ : ∃ t, t = L.turn := ⟨_, rfl⟩
    rw [← htn] at c1 ht
    have Htn := Lib.hid htn
    obtain ⟨T, hT⟩ : ∃ x, x = Wl.tp L.turn := ⟨_, rfl⟩
    have hT2 : T = Wl.tp tn := by rw [hT, htn]
    have HT := Lib.hid hT
    have HT2 := Lib.hid hT2
    clear hR hR1 hd ha htn hT hT2
    go_enter Try.func36, Try.ntmps36
    go_wp2_with fail
    refine kr.mono ?_
    clear kr
    rintro e w1 ⟨rfl, rfl⟩
    go_wp2_with fail
    go_region_held3 (fun W => W.cell? ⟨gl, 0, none⟩ = some (.pointer (some ⟨gd, 0, none⟩)) ∧ W.cell? ⟨gl, 1, none⟩ = some (.int .i64 tn)) (first | go_keep | exact ⟨h2.lg.c0, h2.lg.c1.trans (by rw [Htn.out])⟩ | exact ⟨h3.lg.c0, h3.lg.c1.trans (by rw [Htn.out]; rfl)⟩)
      ((first
        | (go_at_call 81; refine (wal_tape tn _ (by omega)).mono ?_; rw [← HT2.out]; rintro e wt ⟨rfl, rfl⟩)
        | (go_at_call 31; refine (disk_Flush gd D T _ hdr.dk hdr.ok ⟨Ha.out.1, by have := Ha.out.2; omega⟩).mono ?_; rintro e w2 ⟨rfl, hA, hO⟩; have h2 := hdr.turn ⟨hO, fun k hk => .inl hk⟩ hA (Dk.ok_flush h.ok T))
        | (go_at_call 85; refine (wal_note _ _ h2.lg).mono ?_; rintro e w3 ⟨rfl, hl3, ho3⟩; have h3 := h2.noted hl3 ho3)))
    all_goals
      go_wp2_with fail
      go_ret
      rw [HR.out, ← HT.out]
      refine ⟨rfl, F, G, vs, vn, h3, fun k hk => .inl hk, ?_⟩
      exact ((Below.only (drew_below w)).trans (hO.mono fun k hk => .inl hk) fun _ _ h => h).trans (ho3.mono fun k hk => by subst hk; exact .inr h.lg.gg) fun _ _ h => h
  · rw [hd] at kr
    have hR1 : R = (D, L, 2) := by rw [hR]; unfold Wl.sync; rw [if_pos hd]
    have HR := Lib.hid hR1
    clear hR hR1 hd ha
    go_enter Try.func36, Try.ntmps36
    go_wp2_with fail
    refine kr.mono ?_
    clear kr
    rintro e w1 ⟨rfl, rfl⟩
    go_wp2_with fail
    go_ret
    exact h.same (Below.refl _ _) HR.out
theorem wal_Sync_nil (w : World) :
    Calls Try.prog 36 #[.pointer none] w fun e w' => e = .returned (.int .i64 1) ∧ w = w' := by
  go_enter Try.func36, Try.ntmps36
  go_wp2_with fail
  refine (wal_right_nil _).mono ?_
  rintro e w1 ⟨rfl, rfl⟩
  go_wp2_with fail
  go_ret
  exact ⟨rfl, rfl⟩
end Go.Proofs.Ytmmgnbdngpkfcaa

namespace Go.Proofs.Ytmmgnbdngpkfcaa
open Go.RowKit
set_option linter.unusedVariables false

theorem DkAt.flt {F : Nat → Prop} {w : World} {g : Nat} {D : Dk.Dsk} (h : DkAt F w g D) : ∀ k, F k → k < w.heap.size := by
  obtain ⟨vs, os, hm⟩ := h
  exact hm.flt
section
variable {F G : Nat → Prop} {gl gd : Nat} {D : Dk.Dsk} {L : Wl.Lg} {vs vn : Value}
theorem LgD.push {w2 w6 w7 : World} {v7 : Value} {b : List (BitVec 8)} (h : LgD F G w2 gl gd D L vs vn) (hb6 : Below w2.heap.size w2 w6) (ho7 : Own (EOk (fun k => (G k ∨ w2.heap.size ≤ k) ∧ k ≠ gl) EBytes) 49 0 w7 v7 (L.notes ++ [b])) (hg : w6.grownBy w7 vn.ownBlock)
    (hv : v7.ownBlock = vn.ownBlock ∨ ∃ g, v7.ownBlock = some g ∧ w6.heap.size ≤ g) :
    LgD F (fun k => G k ∨ (w2.heap.size ≤ k ∧ k < w7.heap.size)) (w7.setCell ⟨gl, 3, none⟩ v7) gl gd D { L with notes := L.notes ++ [b] } vs v7 ∧ Only G w2 (w7.setCell ⟨gl, 3, none⟩ v7) := by
  have hgl := h.lg.lt gl h.lg.gg
  have h67 : Only (fun k => vn.ownBlock = some k) w6 w7 := grown_only hg
  have hset : Only (· = gl) w7 (w7.setCell ⟨gl, 3, none⟩ v7) := Only.setCell (S := (· = gl)) (Only.refl _ _) (p := ⟨gl, 3, none⟩) (.inl rfl) _
  have hO : Only (fun k => vn.ownBlock = some k ∨ k = gl) w2 (w7.setCell ⟨gl, 3, none⟩ v7) := ((Below.only hb6).trans (h67.mono fun k hk => .inl hk) fun _ _ h => h).trans (hset.mono fun k hk => .inr hk) fun _ _ h => h
  have hOG : Only G w2 (w7.setCell ⟨gl, 3, none⟩ v7) := hO.mono fun k hk => by
    rcases hk with hk | rfl
    · exact (h.lg.gn k hk).1
    · exact h.lg.gg
  have s67 := h67.size
  have s6 := hb6.size
  have hv7 : ∀ k, k < w2.heap.size → vn.ownBlock ≠ some k → v7.ownBlock ≠ some k := fun k hk hn e => by
    rcases hv with e2 | ⟨g, e2, hg2⟩
    · rw [e2] at e; exact hn e
    · rw [e2] at e; injection e with e; omega
  refine ⟨⟨h.dk.only hOG fun k hf hg => h.dis k hf hg, h.ok, ⟨?_, ?_, ?_, .inl h.lg.gg, fun x hx => ?_, fun k hk => ?_⟩, fun k hf hg => ?_⟩, hOG⟩
  · have h1 : w7.heap[gl]? = some (.cells (lgCells gd L vs vn) 145 (0, 0)) := by
      rw [h67.block gl (by omega) (fun e => (h.lg.gn gl e).2 rfl), hb6.block gl hgl]; exact h.lg.heap
    have h2 := heap_set h1 3 v7
    rw [lg_set_notes gd L vs vn v7 (L.notes ++ [b])] at h2
    exact h2
  · exact h.lg.st.mono fun k hk hlt => ⟨hO.block k hlt (fun e => by rcases e with e | e; exact hk.2.2 e; exact hk.2.1 e), .inl hk.1, hk.2.1, hv7 k hlt hk.2.2⟩
  · refine ho7.ok_only hset (fun k hk hlt => ⟨hk.2, ?_, hk.2⟩) fun k hk e => ?_
    · rcases hk.1 with h1 | h1
      · exact .inl h1
      · exact .inr ⟨h1, hlt⟩
    · subst e
      exact hv7 k hgl (fun e2 => (h.lg.gn k e2).2 rfl) hk
  · rcases hv with e2 | ⟨g, e2, hg2⟩
    · rw [e2] at hx; exact ⟨.inl (h.lg.gn x hx).1, (h.lg.gn x hx).2⟩
    · have hlt := (ho7.lt x hx).2
      rw [e2] at hx; injection hx with hx; subst hx
      exact ⟨.inr ⟨by omega, hlt⟩, by omega⟩
  · have e : (w7.setCell ⟨gl, 3, none⟩ v7).heap.size = w7.heap.size := by simp [World.setCell]
    rw [e]
    rcases hk with hk | hk
    · have := h.lg.lt k hk; omega
    · exact hk.2
  · rcases hg with hg | hg
    · exact h.dis k hf hg
    · have := h.dk.flt k hf; omega
theorem wal_Append_nil (a : Option Addr) (n c : Nat) (w : World) :
    Calls Try.prog 35 #[.pointer none, .slice a n c] w fun e w' => e = .returned (.int .i64 1) ∧ w = w' := by
  go_enter Try.func35, Try.ntmps35
  go_wp2_with fail
  refine (wal_right_nil _).mono ?_
  rintro e w1 ⟨rfl, rfl⟩
  go_wp2_with fail
  go_ret
  exact ⟨rfl, rfl⟩
theorem wal_Check_nil (a : Option Addr) (n c : Nat) (w : World) :
    Calls Try.prog 37 #[.pointer none, .slice a n c] w fun e w' => e = .returned (.int .i64 1) ∧ w = w' := by
  go_enter Try.func37, Try.ntmps37
  go_wp2_with fail
  refine (wal_right_nil _).mono ?_
  rintro e w1 ⟨rfl, rfl⟩
  go_wp2_with fail
  go_ret
  exact ⟨rfl, rfl⟩

set_option maxRecDepth 100000 in
set_option maxHeartbeats 3200000 in
theorem wal_Append (a : Option Addr) (n c : Nat) (b : List (BitVec 8)) (w : World) (h : LgD F G w gl gd D L vs vn) (ha : 0 ≤ D.acts ∧ D.acts ≤ 8000000000000000000) (hL : Wl.Ok L) (hn : n = b.length) (hnl : n ≤ 140737488355328) (hs : Sl EU8 (fun k => ¬ F k ∧ ¬ G k) w a b) :
    Calls Try.prog 35 #[.pointer (some ⟨gl, 0, none⟩), .slice a n c] w fun e w' => LogIs w F G gl gd (Wl.append D L b) e w' := by
  obtain ⟨R, hR⟩ : ∃ R, R = Wl.append D L b := ⟨_, rfl⟩
  rw [← hR]
  have kr := wal_right w h.lg
  have Hn := Lib.hid hn
  have Hs := Lib.hid hs
  have HL := Lib.hid hL
  have Ha := Lib.hid ha
  cases hd : L.dead
  · rw [hd] at kr
    by_cases hlong : 65536 < n
    · have hR1 : R = (D, L, 3) := by rw [hR]; unfold Wl.append; rw [if_neg (by rw [hd]; decide), if_pos (by rw [← hn]; exact hlong)]
      have HR := Lib.hid hR1
      clear hR hR1 hd ha hn hs hL
      go_enter Try.func35, Try.ntmps35
      go_wp2_with fail
      refine kr.mono ?_
      clear kr
      rintro e w1 ⟨rfl, rfl⟩
      go_wp2_with fail
      refine (frame_Encode_long 2 _ _ _ _ (by decide) hlong).mono ?_
      rintro e w1 ⟨rfl, hb1⟩
      go_wp2_with fail
      go_ret
      exact h.same hb1 HR.out
    · obtain ⟨T, hT⟩ : ∃ x, x = Wl.tp L.turn := ⟨_, rfl⟩
      obtain ⟨eb, heb⟩ : ∃ x, x = Frm.enc 2 b := ⟨_, rfl⟩
      have hR1 : R = if (Dk.app D T eb).2 ≠ 0 then ((Dk.app D T eb).1, Wl.note L (Dk.app D T eb).2, (Dk.app D T eb).2) else ((Dk.app D T eb).1, { L with notes := L.notes ++ [b] }, 0) := by
        rw [hR, hT, heb]; unfold Wl.append; rw [if_neg (by rw [hd]; decide), if_neg (by rw [← hn]; exact hlong)]
      have HR := Lib.hid hR1
      obtain ⟨tn, htn⟩ : ∃ t, t = L.turn := ⟨_, rfl⟩
      have htl : tn ≤ 1099511627776 := by rw [htn]; exact hL.turn
      have hT2 : T = Wl.tp tn := by rw [hT, htn]
      have hebl : eb.length ≤ 65548 := by rw [heb, Frm.enc_len]; omega
      have Hebl := Lib.hid hebl
      have HT2 := Lib.hid hT2
      have Htn := Lib.hid htn
      have Heb := Lib.hid heb
      have hnl2 : n ≤ 65536 := by omega
      clear hR hR1 hd ha hn hs hL hT hT2 htn heb hebl hlong hnl
      go_enter Try.func35, Try.ntmps35
      go_wp2_with fail
      refine kr.mono ?_
      clear kr
      rintro e w1 ⟨rfl, rfl⟩
      go_wp2_with fail
      refine (frame_Encode_ok 2 _ _ _ b _ (by decide) hnl2 ⟨Hn.out, Hs.out.any (by decide)⟩).mono ?_
      rintro e w1 ⟨v1, rfl, ho1, hb1⟩
      rw [← Heb.out] at ho1
      obtain ⟨nx, hnx⟩ : ∃ k, k = eb.length := ⟨_, rfl⟩
      obtain ⟨a1, c1x, rfl, hc1, hm1, hr1, ho1'⟩ := ho1.shape nx hnx
      have h1 := h.keep hb1
      have hdr := h1.keep (drew_below w1)
      have c0 := h1.lg.c0
      have c1 := h1.lg.c1
      rw [← Htn.out] at c1
      have hsx : Sl EU8 (fun k => ¬ F k) w1.drew a1 eb := ho1'.slB.mono (by decide) fun q hq hlt => ⟨rfl, fun hf => by have := h.dk.flt q hf; omega⟩
      have Hnx := Lib.hid hnx
      have Hsx := Lib.hid hsx
      clear hnx hr1 ho1 ho1' hsx
      obtain ⟨er, her⟩ : ∃ e, e = (Dk.app D T eb).2 := ⟨_, rfl⟩
      rw [← her] at HR
      have Her := Lib.hid her
      clear her
      go_upto_region 7 with fail
      go_cut [8] (fun s wx => s = .int .i64 er ∧ ∃ F', LgD F' G wx gl gd (Dk.app D T eb).1 (Wl.note L er) vs vn ∧ (∀ k, F' k → F k ∨ w.heap.size ≤ k) ∧ Only (fun k => F k ∨ G k) w wx)
      case first =>
        go_region_held3 (fun W => W.cell? ⟨gl, 0, none⟩ = some (.pointer (some ⟨gd, 0, none⟩)) ∧ W.cell? ⟨gl, 1, none⟩ = some (.int .i64 tn)) (first | go_keep | exact ⟨h2.lg.c0, h2.lg.c1.trans (by rw [Htn.out])⟩ | exact ⟨h3.lg.c0, h3.lg.c1.trans (by rw [Htn.out]; rfl)⟩)
          ((first
            | (go_at_call 81; refine (wal_tape tn _ (by omega)).mono ?_; rw [← HT2.out]; rintro e wt ⟨rfl, rfl⟩)
            | (go_at_call 30; refine (disk_Append gd D T _ _ _ eb _ hdr.dk hdr.ok ⟨Ha.out.1, by have := Ha.out.2; omega⟩ Hnx.out Hsx.out (by have := Hebl.out; omega)).mono ?_; rw [← Her.out]; rintro e w2 ⟨rfl, F2, hA, hO⟩; have h2 := hdr.turn hO hA (Dk.ok_app h.ok T eb))
            | (go_at_call 85; refine (wal_note _ _ h2.lg).mono ?_; rintro e w3 ⟨rfl, hl3, ho3⟩; have h3 := h2.noted hl3 ho3)))
        all_goals
          go_wp2_with fail
          go_meet
          have hs1 := hb1.size
          refine ⟨rfl, F2, h3, fun k hk => ?_, ?_⟩
          · rcases hO.foot k hk with h4 | h4
            · exact .inl h4
            · exact .inr (Nat.le_trans hs1 h4)
          · exact ((Below.only (hb1.trans ((drew_below w1).mono hs1))).trans (hO.only.mono fun k hk => .inl hk) fun _ _ h => h).trans (ho3.mono fun k hk => by subst hk; exact .inr h.lg.gg) fun _ _ h => h
      obtain ⟨rfl, F2, h2, hft, hO2⟩ := hcut
      clear c0 c1 hdr h1
      by_cases he : er = 0
      · subst he
        rw [Wl.note_zero] at h2
        rw [if_neg (by decide)] at HR
        obtain ⟨aN, cN, hvn, hcN, hmN, hsN, hoN⟩ := h2.lg.ns.shape L.notes.length rfl
        obtain ⟨nN, hnN⟩ : ∃ n, n = L.notes.length := ⟨_, rfl⟩
        have hnN1 : nN ≤ 89478486 := by rw [hnN]; exact HL.out.many
        have c3 := h2.lg.c3
        have cf := h2.lg.cf
        have cz := h2.lg.heap
        rw [hvn, ← hnN] at c3
        obtain ⟨wd, hwd⟩ : ∃ x, x = wc.drew := ⟨_, rfl⟩
        have hbd : Below wc.heap.size wc wd := by rw [hwd]; exact drew_below wc
        have h2d := h2.keep hbd
        have hsd : Sl EU8 (fun _ => True) wd a b := Hs.out.mono (by decide) fun q hq hlt => ⟨by rw [hbd.block q (Nat.lt_of_lt_of_le hlt hO2.size)]; exact hO2.block q hlt fun e => by rcases e with e | e; exact hq.1 e; exact hq.2 e, trivial⟩
        have hkeep3 : ∀ W, Below wd.heap.size wd W → W.cell? ⟨gl, 3, none⟩ = some (.slice aN nN cN) := fun W hb => by
          have e := hb.cell (p := ⟨gl, 3, none⟩) (h2d.lg.lt gl h2d.lg.gg)
          rw [e, h2d.lg.c3, hvn, hnN]
        have Hk3 := Lib.hid hkeep3
        have Hvn := Lib.hid hvn
        have HnN := Lib.hid hnN
        have Hsd := Lib.hid hsd
        have Hbd := Lib.hid hbd
        have Hwd := Lib.hid hwd
        clear hwd hvn hnN hsN hoN hkeep3 hsd hbd
        go_upto_region 10 with fail
        have k3d := Hk3.out _ (Below.refl _ _)
        have k3w : wc.drew.cell? ⟨gl, 3, none⟩ = some (.slice aN nN cN) := by rw [← Hwd.out]; exact k3d
        go_region_law ((first
            | (go_simp
               go_at_call 76
               rw [← Hwd.out]
               refine (clone_sl _ _ _ b _ _ rfl Hsd.out Hn.out (by omega)).mono ?_
               rintro e w5 ⟨v5, rfl, ho5, hb5⟩
               obtain ⟨a5, c5, rfl, hc5, hm5, hr5, ho5'⟩ := ho5.shape n Hn.out
               have hb6 : Below wd.heap.size wd (w5.alloc (.cells #[.slice a5 n c5] 49)) := hb5.alloc hb5.size _
               have k5 := Hk3.out _ hb5
               have k6 := Hk3.out _ hb6)
            | (rw [if_pos (by simp [Region.wanted])]
               obtain ⟨w6, hw6⟩ : ∃ x, x = w5.alloc (.cells #[.slice a5 n c5] 49) := ⟨_, rfl⟩
               have hh6 : w6.heap[w5.heap.size]? = some (.cells #[.slice a5 n c5] 49 (0, 0)) := by rw [hw6]; exact heap_alloc_new w5 _
               have hb56 : Below w5.heap.size w5 w6 := by rw [hw6]; exact alloc_below _ _
               rw [← hw6] at hb6 ⊢
               have hown6 : Own (EOk (fun k => (G k ∨ wd.heap.size ≤ k) ∧ k ≠ gl) EBytes) 49 0 w6 (.slice aN nN cN) L.notes := by
                 have := h2d.lg.ns.ok_only (p' := fun k => (G k ∨ wd.heap.size ≤ k) ∧ k ≠ gl) (Below.only (S := fun _ => False) hb6) (fun k hk _ => ⟨fun h => h, .inl hk.1, hk.2⟩) fun _ _ h => h
                 rw [Hvn.out, ← HnN.out] at this
                 exact this
               have hsl6 : Sl (EOk (fun k => (G k ∨ wd.heap.size ≤ k) ∧ k ≠ gl) EBytes) (fun q => some q ≠ (Value.slice aN nN cN).ownBlock) w6 (some ⟨w5.heap.size, 0, none⟩) [b] := by
                 have hgl := h2d.lg.lt gl h2d.lg.gg
                 have hvlt : ∀ x, (Value.slice aN nN cN).ownBlock = some x → x < wd.heap.size := fun x hx => h2d.lg.lt x (h2d.lg.gn x (by rw [Hvn.out, ← HnN.out]; exact hx)).1
                 refine sl_one hh6 ⟨a5, c5, by rw [← Hn.out], by rw [← Hn.out]; exact hc5, hm5, ho5'.slB.mono (by decide) fun q hq hlt => ⟨hb56.block q hlt, fun e => ?_, .inr hq, by omega⟩⟩ fun e => ?_
                 · have := hvlt q e.symm; omega
                 · have := hvlt _ e.symm; have := hb5.size; omega
               refine step_app (l2 := [b]) (m := 1) (EOk (fun k => (G k ∨ wd.heap.size ≤ k) ∧ k ≠ gl) EBytes) (by rfl) (by rfl) (by rfl) ti_byts hown6 (by rfl) hsl6 (by rw [← HnN.out, List.length_singleton]; unfold maxLen; omega) (by rw [← HnN.out, List.length_singleton]; omega) (Nat.zero_le _) ?_
               intro v7 w7 ho7 hg7 hv7 hb7
               obtain ⟨a7, c7, rfl, hc7, hm7, hr7, ho7'⟩ := ho7.shape (nN + 1) (by rw [List.length_append, HnN.out]; rfl)
               have hVn : Value.slice aN nN cN = vn := by rw [Hvn.out, ← HnN.out]
               rw [hVn] at hg7 hv7
               obtain ⟨h8, hO8⟩ := h2d.push hb6 ho7' hg7 hv7
               have hz7 : w7.heap[gl]? = wd.heap[gl]? := by
                 have hgl := h2d.lg.lt gl h2d.lg.gg
                 rw [hg7.block gl (Nat.lt_of_lt_of_le hgl hb6.size) (fun e => (h2d.lg.gn gl e.symm).2 rfl), hb6.block gl hgl]
               have hk7 : w7.cell? ⟨gl, 3, none⟩ = some (.slice aN nN cN) := by
                 rw [cell_keep hz7]; exact Hk3.out _ (Below.refl _ _)
               have hf7 : w7.frozen? ⟨gl, 3, none⟩ = false := by
                 have := h2d.lg.heap
                 simp [World.frozen?, hz7, this])))
        all_goals
          go_wp2_with fail
          go_ret
          rw [HR.out]
          refine ⟨rfl, F2, _, vs, _, h8, fun k hk => ?_, ?_⟩
          · rcases hk with hk | hk | hk
            · rcases hft k hk with h4 | h4
              · exact .inl (.inl h4)
              · exact .inr h4
            · exact .inl (.inr hk)
            · exact .inr (Nat.le_trans hO2.size (Nat.le_trans Hbd.out.size hk.1))
          · exact (hO2.trans (Below.only Hbd.out) fun _ _ h => h).trans (hO8.mono fun k hk => .inr hk) fun _ _ h => h
      · have he2 : (er != 0) = true := by simpa using he
        rw [if_pos he] at HR
        clear he
        go_wp2_with fail
        go_ret
        rw [HR.out]
        exact ⟨rfl, F2, G, vs, vn, h2, fun k hk => by
          rcases hk with hk | hk
          · rcases hft k hk with h4 | h4
            · exact .inl (.inl h4)
            · exact .inr h4
          · exact .inl (.inr hk), hO2⟩
  · rw [hd] at kr
    have hR1 : R = (D, L, 2) := by rw [hR]; unfold Wl.append; rw [if_pos hd]
    have HR := Lib.hid hR1
    clear hR hR1 hd ha hn hs hL
    go_enter Try.func35, Try.ntmps35
    go_wp2_with fail
    refine kr.mono ?_
    clear kr
    rintro e w1 ⟨rfl, rfl⟩
    go_wp2_with fail
    go_ret
    exact h.same (Below.refl _ _) HR.out
end
end Go.Proofs.Ytmmgnbdngpkfcaa

namespace Go.Proofs.Ytmmgnbdngpkfcaa
open Go.RowKit
set_option linter.unusedVariables false

section
variable {F G : Nat → Prop} {gl gd : Nat} {D : Dk.Dsk} {L : Wl.Lg} {vs vn : Value}
/-- another state, and no notes -/
theorem LgD.fresh {w w5 : World} {v5 : Value} {st : List (BitVec 8)} (h : LgD F G w gl gd D L vs vn) (hb5 : Below w.heap.size w w5) (ho5 : Own EU8 5 w.heap.size w5 v5 st) :
    LgD F (fun k => G k ∨ (w.heap.size ≤ k ∧ k < w5.heap.size)) ((w5.setCell ⟨gl, 2, none⟩ v5).setCell ⟨gl, 3, none⟩ (.slice none 0 0)) gl gd D (Wl.fresh L st) v5 (.slice none 0 0) ∧ Only (· = gl) w ((w5.setCell ⟨gl, 2, none⟩ v5).setCell ⟨gl, 3, none⟩ (.slice none 0 0)) := by
  have hgl := h.lg.lt gl h.lg.gg
  have hset : Only (· = gl) w5 ((w5.setCell ⟨gl, 2, none⟩ v5).setCell ⟨gl, 3, none⟩ (.slice none 0 0)) := (Only.setCell (S := (· = gl)) (Only.refl _ _) (p := ⟨gl, 2, none⟩) (.inl rfl) _).setCell (p := ⟨gl, 3, none⟩) (.inl rfl) _
  have hO : Only (· = gl) w ((w5.setCell ⟨gl, 2, none⟩ v5).setCell ⟨gl, 3, none⟩ (.slice none 0 0)) := (Below.only hb5).trans hset fun _ _ h => h
  have hsz : ((w5.setCell ⟨gl, 2, none⟩ v5).setCell ⟨gl, 3, none⟩ (.slice none 0 0)).heap.size = w5.heap.size := by simp [World.setCell]
  refine ⟨⟨h.dk.only hO fun k hf hg => by subst hg; exact h.dis k hf h.lg.gg, h.ok, ⟨?_, ?_, Own.nil _ _ _ _, .inl h.lg.gg, fun x hx => by simp [Value.ownBlock] at hx, fun k hk => ?_⟩, fun k hf hg => ?_⟩, hO⟩
  · have h1 : w5.heap[gl]? = some (.cells (lgCells gd L vs vn) 145 (0, 0)) := by rw [hb5.block gl hgl]; exact h.lg.heap
    have h2 := heap_set (heap_set h1 2 v5) 3 (.slice none 0 0)
    rw [lg_set_state gd L vs vn v5 st, lg_set_notes _ _ _ _ _ []] at h2
    exact h2
  · obtain ⟨a', c', e, g1, g2, g3⟩ := ho5.byt
    exact ⟨a', c', e, g1, g2, g3.mono (by decide) fun q hq hlt => ⟨hset.block q hlt (by have := hq.1; omega), .inr hq, by have := hq.1; omega, by simp [Value.ownBlock]⟩⟩
  · rw [hsz]
    rcases hk with hk | hk
    · have := h.lg.lt k hk; have := hb5.size; omega
    · exact hk.2
  · rcases hg with hg | hg
    · exact h.dis k hf hg
    · have := h.dk.flt k hf; omega

set_option maxRecDepth 100000 in
set_option maxHeartbeats 3200000 in
theorem wal_Check (a : Option Addr) (n c : Nat) (st : List (BitVec 8)) (w : World) (h : LgD F G w gl gd D L vs vn) (ha : 0 ≤ D.acts ∧ D.acts ≤ 8000000000000000000) (hL : Wl.Ok L) (hn : n = st.length) (hnl : n ≤ 65500 ∨ 65516 < n) (hs : Sl EU8 (fun k => True) w a st) :
    Calls Try.prog 37 #[.pointer (some ⟨gl, 0, none⟩), .slice a n c] w fun e w' => LogIs w F G gl gd (Wl.check D L st) e w' := by
  obtain ⟨R, hR⟩ : ∃ R, R = Wl.check D L st := ⟨_, rfl⟩
  rw [← hR]
  have kr := wal_right w h.lg
  have Hn := Lib.hid hn
  have Hs := Lib.hid hs
  have HL := Lib.hid hL
  have Ha := Lib.hid ha
  cases hd : L.dead
  · rw [hd] at kr
    by_cases hlong : 65516 < n
    · have hR1 : R = (D, L, 3) := by rw [hR]; unfold Wl.check; rw [if_neg (by rw [hd]; decide), if_pos (by rw [← hn]; exact hlong)]
      have HR := Lib.hid hR1
      have hlong' : (65516 : Int) < (n : Int) := by omega
      clear hR hR1 hd ha hn hs hL hnl
      go_enter Try.func37, Try.ntmps37
      go_wp2_with fail
      refine kr.mono ?_
      clear kr
      rintro e w1 ⟨rfl, rfl⟩
      go_wp2_with fail
      go_ret
      exact h.same (Below.refl _ _) HR.out
    · have hlong' : (n : Int) ≤ 65500 := by omega
      obtain ⟨Q, hQ⟩ : ∃ x, x = Wl.lay D (Wl.fresh L st) := ⟨_, rfl⟩
      have hR1 : R = if Q.2.2 = 0 then Q else (Q.1, { Q.2.1 with state := L.state, notes := L.notes }, Q.2.2) := by
        rw [hR, hQ]; unfold Wl.check; rw [if_neg (by rw [hd]; decide), if_neg (by rw [← hn]; exact hlong)]
      have HR := Lib.hid hR1
      have hLf : Wl.Ok (Wl.fresh L st) := ⟨hL.turn, by show st.length ≤ 65500; rw [← hn]; omega, fun n hn => (by cases hn), by show (Frm.encs (Wl.nfs [])).length ≤ 1073741824; simp [Wl.nfs, Frm.encs]⟩
      have HLf := Lib.hid hLf
      have HQ := Lib.hid hQ
      have hQn : Q.2.1.turn = Q.2.1.turn := rfl
      obtain ⟨aS, cS, hvs, hcS, hmS, hsS⟩ := h.lg.st
      obtain ⟨aN, cN, hvn, hcN, hmN, hsN, hoN⟩ := h.lg.ns.shape L.notes.length rfl
      obtain ⟨nS, hnS⟩ : ∃ k, k = L.state.length := ⟨_, rfl⟩
      obtain ⟨nN, hnN⟩ : ∃ k, k = L.notes.length := ⟨_, rfl⟩
      rw [← hnS] at hvs
      rw [← hnN] at hvn
      have k2 := h.lg.c2
      have k3 := h.lg.c3
      rw [hvs] at k2
      rw [hvn] at k3
      have Hvs := Lib.hid hvs
      have Hvn := Lib.hid hvn
      have hnl2 : n ≤ 65500 := by omega
      clear hR hR1 hd ha hn hs hL hnl hlong hLf hQ hQn hvs hvn hsS hsN hoN hnS hnN
      go_enter Try.func37, Try.ntmps37
      go_wp2_with fail
      refine kr.mono ?_
      clear kr
      rintro e w1 ⟨rfl, rfl⟩
      go_wp2_with fail
      go_quiet (fail)
      obtain ⟨w1, hw1⟩ : ∃ x, x = w.drewN nq := ⟨_, rfl⟩
      have hb1 : Below w.heap.size w w1 := by rw [hw1]; exact below_drewN (Below.refl _ _) nq
      have h1 := h.keep hb1
      have hs1 : Sl EU8 (fun _ => True) w1 a st := Hs.out.below (by decide) hb1
      have cz := h1.lg.heap
      rw [← hw1]
      clear hw1 k2 k3
      go_wp2_with fail
      refine (clone_sl _ _ _ st _ _ rfl hs1 Hn.out (by omega)).mono ?_
      rintro e w5 ⟨v5, rfl, ho5, hb5⟩
      obtain ⟨a5, c5, rfl, hc5, hm5, hr5, ho5'⟩ := ho5.shape n Hn.out
      obtain ⟨h6, hO6⟩ := h1.fresh hb5 ho5'
      have hz5 : w5.heap[gl]? = some (.cells (lgCells gd L vs vn) 145 (0, 0)) := by rw [hb5.block gl (h1.lg.lt gl h1.lg.gg)]; exact cz
      have k2 : w5.cell? ⟨gl, 2, none⟩ = some vs := by simp [World.cell?, hz5, lgCells]
      have k3 : w5.cell? ⟨gl, 3, none⟩ = some vn := by simp [World.cell?, hz5, lgCells]
      have kf : ∀ o, w5.frozen? ⟨gl, o, none⟩ = false := fun o => by simp [World.frozen?, hz5]
      rw [Hvs.out] at k2
      rw [Hvn.out] at k3
      obtain ⟨w6, hw6⟩ : ∃ x, x = (w5.setCell ⟨gl, 2, none⟩ (.slice a5 n c5)).setCell ⟨gl, 3, none⟩ (.slice none 0 0) := ⟨_, rfl⟩
      rw [← hw6] at h6 hO6
      clear hz5 hr5 ho5 cz
      go_wp2_with fail
      rw [← hw6]
      clear hw6 k2 k3 kf
      refine (wal_lay w6.heap.size w6 rfl h6.dk h6.ok Ha.out h6.lg h6.dis HLf.out).mono ?_
      rw [← HQ.out]
      rintro e w7 ⟨rfl, F7, g1, g2, g3, g4, g5, g6⟩
      obtain ⟨er, her⟩ : ∃ e, e = Q.2.2 := ⟨_, rfl⟩
      rw [← her] at HR ⊢
      have s1 := hb1.size
      have s6 := hO6.size
      have Her := Lib.hid her
      clear her
      have hO7 : Only (fun k => F k ∨ k = gl) w w7 := ((Below.only hb1).trans (hO6.mono fun k hk => .inr hk) fun _ _ h => h).trans g6 fun _ _ h => h
      have hO7G : Only (fun k => F k ∨ G k) w w7 := hO7.mono fun k hk => by
        rcases hk with hk | rfl
        · exact .inl hk
        · exact .inr h.lg.gg
      by_cases he : er = 0
      · subst he
        rw [if_pos rfl] at HR
        have Hg3 := Lib.hid g3
        clear g3
        go_wp2_with fail
        go_ret
        refine ⟨by rw [HR.out, ← Her.out]; rfl, F7, _, _, _, ⟨by rw [HR.out]; exact g1, by rw [HR.out]; exact g2, by rw [HR.out]; exact Hg3.out, g4⟩, fun k hk => ?_, hO7G⟩
        rcases hk with hk | hk | hk
        · rcases g5 k hk with h4 | h4
          · exact .inl (.inl h4)
          · exact .inr (Nat.le_trans s1 (Nat.le_trans s6 h4))
        · exact .inl (.inr hk)
        · exact .inr (Nat.le_trans s1 hk.1)
      · have he2 : (er != 0) = true := by simpa using he
        rw [if_neg he] at HR
        have q2 := g3.c2
        have q3 := g3.c3
        have qf := g3.cf
        have Hg3 := Lib.hid g3
        clear g3 he
        go_wp2_with fail
        go_ret
        have hset : Only (· = gl) w7 ((w7.setCell ⟨gl, 2, none⟩ (.slice aS nS cS)).setCell ⟨gl, 3, none⟩ (.slice aN nN cN)) := (Only.setCell (S := (· = gl)) (Only.refl _ _) (p := ⟨gl, 2, none⟩) (.inl rfl) _).setCell (p := ⟨gl, 3, none⟩) (.inl rfl) _
        have hO8 : Only (fun k => F k ∨ k = gl) w ((w7.setCell ⟨gl, 2, none⟩ (.slice aS nS cS)).setCell ⟨gl, 3, none⟩ (.slice aN nN cN)) := hO7.trans (hset.mono fun k hk => .inr hk) fun _ _ h => h
        rw [← Hvs.out, ← Hvn.out] at hset hO8 ⊢
        have hG7 : ∀ k, F7 k → ¬ G k := fun k hf hg => g4 k hf (.inl hg)
        refine ⟨by rw [HR.out]; rfl, F7, G, vs, vn, ⟨by rw [HR.out]; exact g1.only hset fun k hf hk => by subst hk; exact hG7 k hf h.lg.gg, by rw [HR.out]; exact g2, ⟨?_, ?_, ?_, h.lg.gg, h.lg.gn, fun k hk => Nat.lt_of_lt_of_le (h.lg.lt k hk) hO8.size⟩, hG7⟩, fun k hk => ?_, hO8.mono fun k hk => ?_⟩
        · rw [HR.out]
          have h2 := heap_set (heap_set Hg3.out.heap 2 vs) 3 vn
          rw [lg_set_state _ _ _ _ _ L.state, lg_set_notes _ _ _ _ _ L.notes] at h2
          exact h2
        · rw [HR.out]
          exact h.lg.st.mono fun k hk hlt => ⟨hO8.block k hlt (fun e => by rcases e with e | e; exact h.dis k e hk.1; exact hk.2.1 e), hk⟩
        · rw [HR.out]
          refine h.lg.ns.ok_only hO8 (fun k hk hlt => ⟨fun e => ?_, hk⟩) fun k hk e => ?_
          · rcases e with e | e
            · exact h.dis k e hk.1
            · exact hk.2 e
          · rcases e with e | e
            · exact h.dis k e (h.lg.gn k hk).1
            · exact (h.lg.gn k hk).2 e
        · rcases hk with hk | hk
          · rcases g5 k hk with h4 | h4
            · exact .inl (.inl h4)
            · exact .inr (Nat.le_trans s1 (Nat.le_trans s6 h4))
          · exact .inl (.inr hk)
        · rcases hk with hk | rfl
          · exact .inl hk
          · exact .inr h.lg.gg
  · rw [hd] at kr
    have hR1 : R = (D, L, 2) := by rw [hR]; unfold Wl.check; rw [if_pos hd]
    have HR := Lib.hid hR1
    clear hR hR1 hd ha hn hs hL hnl
    go_enter Try.func37, Try.ntmps37
    go_wp2_with fail
    refine kr.mono ?_
    clear kr
    rintro e w1 ⟨rfl, rfl⟩
    go_wp2_with fail
    go_ret
    exact h.same (Below.refl _ _) HR.out
end
end Go.Proofs.Ytmmgnbdngpkfcaa

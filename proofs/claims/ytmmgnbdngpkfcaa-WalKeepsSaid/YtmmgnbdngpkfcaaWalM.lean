
/-
  A log in memory.
  A log's small parts: tape, note, right; the frames of a tape in blocks of their own.
  A log's parts: head, and what a tape has (load).
  What a tape has: load.
-/
import Derived.Test.YtmmgnbdngpkfcaaWalP
import Derived.Test.YtmmgnbdngpkfcaaDiskHead
import Derived.Test.YtmmgnbdngpkfcaaFrameAll
import Derived.Test.YtmmgnbdngpkfcaaBtsRef
import Derived.Test.YtmmgnbdngpkfcaaBtsRNum
namespace Go.Proofs.Ytmmgnbdngpkfcaa
open Go.RowKit
set_option linter.unusedVariables false

/-- what is held besides lies within p -/
def EOk {α : Type} (p : Nat → Prop) (E : Enc α) : Enc α where
  sz := E.sz
  rep ok w cs x := E.rep (fun b => ok b ∧ p b) w cs x
  len h := E.len h
  one h := E.one h
  mono h hk := E.mono h fun k hk1 hlt => ⟨(hk k hk1.1 hlt).1, (hk k hk1.1 hlt).2, hk1.2⟩
theorem EOk.out {α : Type} {p : Nat → Prop} {E : Enc α} {ok : Nat → Prop} {w : World} {cs : List Value} {x : α} (h : (EOk p E).rep ok w cs x) : E.rep ok w cs x :=
  E.mono (w' := w) h fun k hk _ => ⟨rfl, hk.1⟩
theorem Own.of_ok {α : Type} {p : Nat → Prop} {E : Enc α} {te : TypeId} {base : Nat} {w : World} {v : Value} {l : List α} (h : Own (EOk p E) te base w v l) : Own E te base w v l := by
  rcases h with h | ⟨g, cap, cur, hv, hg, hh, h1, h2, h3, h4⟩
  · exact .inl h
  · refine .inr ⟨g, cap, cur, hv, hg, hh, h1, h2, h3, fun k x hx => ?_⟩
    obtain ⟨cs, hr, hc⟩ := h4 k x hx
    exact ⟨cs, EOk.out hr, hc⟩
theorem Own.ok_only {α : Type} {p p' : Nat → Prop} {E : Enc α} {te : TypeId} {base : Nat} {w w' : World} {v : Value} {l : List α} {S : Nat → Prop} (h : Own (EOk p E) te base w v l) (ho : Only S w w') (hp : ∀ k, p k → k < w.heap.size → ¬ S k ∧ p' k) (hv : ∀ k, v.ownBlock = some k → ¬ S k) : Own (EOk p' E) te base w' v l := by
  rcases h with h | ⟨g, cap, cur, hv', hg, hh, h1, h2, h3, h4⟩
  · exact .inl h
  · refine .inr ⟨g, cap, cur, hv', hg, ?_, h1, h2, h3, fun k x hx => ?_⟩
    · rw [ho.block g (Array.getElem?_eq_some_iff.1 hh).1 (hv g (by rw [hv']; rfl))]; exact hh
    · obtain ⟨cs, hr, hc⟩ := h4 k x hx
      exact ⟨cs, E.mono (w' := w') hr fun j hj hlt => ⟨ho.block j hlt (hp j hj.2 hlt).1, hj.1, (hp j hj.2 hlt).2⟩, hc⟩
/-- bytes somewhere within ok -/
def Byt (ok : Nat → Prop) (w : World) (v : Value) (l : List (BitVec 8)) : Prop := ∃ a c, v = .slice a l.length c ∧ l.length ≤ c ∧ c ≤ maxLen ∧ Sl EU8 ok w a l
theorem Byt.mono {ok ok' : Nat → Prop} {w w' : World} {v : Value} {l : List (BitVec 8)} (h : Byt ok w v l) (hb : ∀ k, ok k → k < w.heap.size → w'.heap[k]? = w.heap[k]? ∧ ok' k) : Byt ok' w' v l := by
  obtain ⟨a, c, rfl, h1, h2, h3⟩ := h
  exact ⟨a, c, rfl, h1, h2, h3.mono (by decide) hb⟩
theorem Byt.nil (ok : Nat → Prop) (w : World) : Byt ok w (.slice none 0 0) [] := ⟨none, 0, rfl, Nat.le_refl _, by unfold maxLen; omega, Sl.nil _ _ _ _⟩
theorem Own.byt {te : TypeId} {base : Nat} {w : World} {v : Value} {l : List (BitVec 8)} (h : Own EU8 te base w v l) : Byt (fun k => base ≤ k ∧ k < w.heap.size) w v l := by
  obtain ⟨a, c, rfl, h1, h2, h3, h4⟩ := h.shape l.length rfl
  exact ⟨a, c, rfl, h1, h2, fun k x hx => by
    obtain ⟨b, o, e, hb, cs, hr, hc⟩ := h4.slB k x hx
    refine ⟨b, o, e, ⟨hb, ?_⟩, cs, hr, hc⟩
    obtain rfl : cs = [.int .u8 (bv x)] := hr
    exact cell_lt (hc 0 _ rfl)⟩

def lgCells (gd : Nat) (L : Wl.Lg) (vs vn : Value) : Array Value := #[.pointer (some ⟨gd, 0, none⟩), .int .i64 L.turn, vs, vn, .bool L.dead]
/-- a log: its blocks are within G -/
structure LgM (G : Nat → Prop) (w : World) (gl gd : Nat) (L : Wl.Lg) (vs vn : Value) : Prop where
  heap : w.heap[gl]? = some (.cells (lgCells gd L vs vn) 145 (0, 0))
  st : Byt (fun k => G k ∧ k ≠ gl ∧ vn.ownBlock ≠ some k) w vs L.state
  ns : Own (EOk (fun k => G k ∧ k ≠ gl) EBytes) 49 0 w vn L.notes
  gg : G gl
  gn : ∀ x, vn.ownBlock = some x → G x ∧ x ≠ gl
  lt : ∀ k, G k → k < w.heap.size
section
variable {G : Nat → Prop} {w w' : World} {gl gd : Nat} {L : Wl.Lg} {vs vn : Value}
theorem LgM.c0 (h : LgM G w gl gd L vs vn) : w.cell? ⟨gl, 0, none⟩ = some (.pointer (some ⟨gd, 0, none⟩)) := by simp [World.cell?, h.heap, lgCells]
theorem LgM.c1 (h : LgM G w gl gd L vs vn) : w.cell? ⟨gl, 1, none⟩ = some (.int .i64 L.turn) := by simp [World.cell?, h.heap, lgCells]
theorem LgM.c2 (h : LgM G w gl gd L vs vn) : w.cell? ⟨gl, 2, none⟩ = some vs := by simp [World.cell?, h.heap, lgCells]
theorem LgM.c3 (h : LgM G w gl gd L vs vn) : w.cell? ⟨gl, 3, none⟩ = some vn := by simp [World.cell?, h.heap, lgCells]
theorem LgM.c4 (h : LgM G w gl gd L vs vn) : w.cell? ⟨gl, 4, none⟩ = some (.bool L.dead) := by simp [World.cell?, h.heap, lgCells]
theorem LgM.cf (h : LgM G w gl gd L vs vn) (o : Nat) : w.frozen? ⟨gl, o, none⟩ = false := by simp [World.frozen?, h.heap]
theorem LgM.only {S : Nat → Prop} (h : LgM G w gl gd L vs vn) (ho : Only S w w') (hS : ∀ k, G k → ¬ S k) : LgM G w' gl gd L vs vn :=
  ⟨(ho.block gl (h.lt gl h.gg) (hS gl h.gg)).trans h.heap, h.st.mono fun k hk hlt => ⟨ho.block k hlt (hS k hk.1), hk⟩, h.ns.ok_only ho (fun k hk hlt => ⟨hS k hk.1, hk⟩) fun k hk => hS k (h.gn k hk).1, h.gg, h.gn, fun k hk => Nat.lt_of_lt_of_le (h.lt k hk) ho.size⟩
theorem LgM.keep (h : LgM G w gl gd L vs vn) (hb : Below w.heap.size w w') : LgM G w' gl gd L vs vn := h.only (S := fun _ => False) (Below.only hb) fun _ _ h => h
/-- its own block is written -/
theorem LgM.self {L' : Wl.Lg} (h : LgM G w gl gd L vs vn) (ho : Only (· = gl) w w') (hh : w'.heap[gl]? = some (.cells (lgCells gd L' vs vn) 145 (0, 0))) (hs : L'.state = L.state) (hn : L'.notes = L.notes) : LgM G w' gl gd L' vs vn :=
  ⟨hh, by rw [hs]; exact h.st.mono fun k hk hlt => ⟨ho.block k hlt hk.2.1, hk⟩, by rw [hn]; exact h.ns.ok_only ho (fun k hk hlt => ⟨hk.2, hk⟩) fun k hk => (h.gn k hk).2, h.gg, h.gn, fun k hk => Nat.lt_of_lt_of_le (h.lt k hk) ho.size⟩
end
theorem lg_set_turn (gd : Nat) (L : Wl.Lg) (vs vn : Value) (t : Nat) : (lgCells gd L vs vn).setIfInBounds 1 (.int .i64 t) = lgCells gd { L with turn := t } vs vn := rfl
theorem lg_set_state (gd : Nat) (L : Wl.Lg) (vs vn v : Value) (s : List (BitVec 8)) : (lgCells gd L vs vn).setIfInBounds 2 v = lgCells gd { L with state := s } v vn := rfl
theorem lg_set_notes (gd : Nat) (L : Wl.Lg) (vs vn v : Value) (ns : List (List (BitVec 8))) : (lgCells gd L vs vn).setIfInBounds 3 v = lgCells gd { L with notes := ns } vs v := rfl
theorem lg_set_dead (gd : Nat) (L : Wl.Lg) (vs vn : Value) (d : Bool) : (lgCells gd L vs vn).setIfInBounds 4 (.bool d) = lgCells gd { L with dead := d } vs vn := rfl

/-- a disk and a log on it -/
structure Both (B : Nat) (F G : Nat → Prop) (w : World) (gl gd : Nat) (D : Dk.Dsk) (L : Wl.Lg) : Prop where
  dk : DkOwn B F w gd D
  lg : ∃ vs vn, LgM G w gl gd L vs vn
  dis : ∀ k, F k → ¬ G k
  gb : ∀ k, G k → B ≤ k
theorem Both.keep {B : Nat} {F G : Nat → Prop} {w w' : World} {gl gd : Nat} {D : Dk.Dsk} {L : Wl.Lg} (h : Both B F G w gl gd D L) (hb : Below w.heap.size w w') : Both B F G w' gl gd D L := by
  obtain ⟨vs, vn, hm⟩ := h.lg
  exact ⟨h.dk.keep hb, ⟨vs, vn, hm.keep hb⟩, h.dis, h.gb⟩
theorem Both.size {B : Nat} {F G : Nat → Prop} {w : World} {gl gd : Nat} {D : Dk.Dsk} {L : Wl.Lg} (h : Both B F G w gl gd D L) : B ≤ w.heap.size := h.dk.size
end Go.Proofs.Ytmmgnbdngpkfcaa

namespace Go.Proofs.Ytmmgnbdngpkfcaa
open Go.RowKit
set_option linter.unusedVariables false

theorem i64_and1 (n : Int) : bits .and .i64 n 1 = n % 2 := by
  have h : bits .and .i64 n 1 = IntKind.i64.wrap ((BitVec.ofInt 64 n &&& BitVec.ofInt 64 1).toNat : Int) := rfl
  rw [h]
  have : (BitVec.ofInt 64 n &&& BitVec.ofInt 64 1).toNat = (BitVec.ofInt 64 n).toNat % 2 := by
    rw [BitVec.toNat_and]
    exact Nat.and_two_pow_sub_one_eq_mod _ 1
  rw [this, BitVec.toNat_ofInt, IntKind.wrap_i64]
  omega
attribute [go_sem] i64_and1

theorem wal_tape (n : Nat) (w : World) (hn : n ≤ 4611686018427387904) :
    Calls Try.prog 81 #[.int .i64 n] w fun e w' => e = .returned (.int .i64 (Wl.tp n)) ∧ w = w' := by
  have e : (n : Int) % 2 = Wl.tp n := by unfold Wl.tp; omega
  have He := Lib.hid e
  clear e
  go_enter Try.func81, Try.ntmps81
  go_wp2_with fail
  rw [He.out]
  go_ret
  exact ⟨rfl, rfl⟩

theorem wal_right {G : Nat → Prop} {gl gd : Nat} {L : Wl.Lg} {vs vn : Value} (w : World) (h : LgM G w gl gd L vs vn) :
    Calls Try.prog 83 #[.pointer (some ⟨gl, 0, none⟩)] w fun e w' => e = .returned (.int .i64 (if L.dead = true then 2 else 0)) ∧ w = w' := by
  have c4 := h.c4
  cases hd : L.dead
  · rw [hd] at c4
    clear hd
    go_enter Try.func83, Try.ntmps83
    go_wp2_with fail
    go_ret
    exact ⟨rfl, rfl⟩
  · rw [hd] at c4
    clear hd
    go_enter Try.func83, Try.ntmps83
    go_wp2_with fail
    go_ret
    exact ⟨rfl, rfl⟩
theorem wal_right_nil (w : World) :
    Calls Try.prog 83 #[.pointer none] w fun e w' => e = .returned (.int .i64 1) ∧ w = w' := by
  go_enter Try.func83, Try.ntmps83
  go_wp2_with fail
  go_ret
  exact ⟨rfl, rfl⟩

theorem LgM.noted {G : Nat → Prop} {w : World} {gl gd : Nat} {L : Wl.Lg} {vs vn : Value} (h : LgM G w gl gd L vs vn) (e : Int) (b : Bool) (hb : b = (L.dead || (e == 2))) :
    LgM G (w.setCell ⟨gl, 4, none⟩ (.bool b)) gl gd (Wl.note L e) vs vn ∧ Only (· = gl) w (w.setCell ⟨gl, 4, none⟩ (.bool b)) := by
  have ho : Only (· = gl) w (w.setCell ⟨gl, 4, none⟩ (.bool b)) := Only.setCell (S := (· = gl)) (Only.refl _ _) (p := ⟨gl, 4, none⟩) (.inl rfl) _
  refine ⟨h.self ho ?_ rfl rfl, ho⟩
  have h2 := heap_set h.heap 4 (.bool b)
  rw [lg_set_dead] at h2
  rw [hb] at h2
  rw [hb]
  exact h2
theorem wal_note {G : Nat → Prop} {gl gd : Nat} {L : Wl.Lg} {vs vn : Value} (e : Int) (w : World) (h : LgM G w gl gd L vs vn) :
    Calls Try.prog 85 #[.pointer (some ⟨gl, 0, none⟩), .int .i64 e] w fun x w' => x = .returned (.int .i64 e) ∧ LgM G w' gl gd (Wl.note L e) vs vn ∧ Only (· = gl) w w' := by
  have c4 := h.c4
  have cf := h.cf
  cases hd : L.dead
  · have hn := h.noted e (e == 2) (by rw [hd]; rfl)
    rw [hd] at c4
    have Hn := Lib.hid hn
    clear hd hn
    go_enter Try.func85, Try.ntmps85
    go_wp2_with fail
    go_ret
    exact ⟨rfl, Hn.out⟩
  · have hn := h.noted e true (by rw [hd]; rfl)
    rw [hd] at c4
    have Hn := Lib.hid hn
    clear hd hn
    go_enter Try.func85, Try.ntmps85
    go_wp2_with fail
    go_ret
    exact ⟨rfl, Hn.out⟩

abbrev OwnG (B base : Nat) (w : World) (v : Value) (fs : List (Int × List (BitVec 8))) : Prop := Own (EOk (fun b => B ≤ b) EFrame) 150 base w v fs

set_option maxHeartbeats 3200000 in
theorem frame_ScanIn (B : Nat) (a : Option Addr) (n c : Nat) (l : List (BitVec 8)) (w : World) (hB : w.heap.size = B) (hr : RB w a n l) (hnc : n ≤ c) (hcm : c ≤ maxLen) (hl : n ≤ 1099511627776) :
    Calls Try.prog 115 #[.slice a n c] w fun e w' => ∃ v, e = .returned (.tuple #[v, .int .i64 (Frm.scan l).upto, .int .i64 (Frm.scan l).err]) ∧ OwnG B B w' v (Frm.scan l).fs ∧ Below B w w' := by
  obtain ⟨rfl, hs⟩ := hr
  obtain ⟨sc, hsc⟩ : ∃ s, s = Frm.scan l := ⟨_, rfl⟩
  rw [← hsc]
  subst hB
  have Hsc := Lib.hid hsc
  clear hsc
  go_enter Try.func115, Try.ntmps115
  go_wp2
  go_loopw [5, 6] (fun v i wr => ∃ (k : Nat) (out : List (Int × List (BitVec 8))), k ≤ l.length ∧ i = .int .i64 k ∧ OwnG w.heap.size w.heap.size wr v out ∧ 12 * out.length ≤ k ∧ sc = ⟨out ++ (Frm.scan (l.drop k)).fs, k + (Frm.scan (l.drop k)).upto, (Frm.scan (l.drop k)).err⟩ ∧ Below w.heap.size w wr) (fun _ i _ => l.length - (intOf i).toNat)
  case atStart => exact ⟨0, [], Nat.zero_le _, rfl, Own.nil _ _ _ _, Nat.le_refl _, by rw [Hsc.out]; simp, Below.refl _ _⟩
  case round =>
    obtain ⟨k, out, hk, rfl, ho, hol, hinv, hb⟩ := hrel
    have Hinv := Lib.hid hinv
    clear hinv
    by_cases hlt : k < l.length
    · have hsr : SB wr a l := hs.below (by decide) hb
      obtain ⟨a1, hrun, r1⟩ := slice_l ti_bytes (c := c) (i := k) ⟨rfl, hsr⟩ (by omega) hnc
      have hki : (k : Int) ≤ (l.length : Int) := by omega
      go_wp2_with fail
      refine (frame_Decode wr.heap.size _ _ _ (l.drop k) _ (by rfl) r1 (by omega) (by omega)).mono ?_
      rintro e w3 ⟨a3, c3, rfl, hs3, hc3, hm3, hb3⟩
      obtain ⟨g, hg⟩ : ∃ g, g = Frm.dec (l.drop k) := ⟨_, rfl⟩
      have Hg := Lib.hid hg
      rw [← hg] at hs3 hc3 ⊢
      clear hg
      obtain ⟨kd, dt, nn, er⟩ := g
      dsimp only at hs3 hc3 ⊢
      obtain ⟨w4, hw4⟩ : ∃ x, x = w3.alloc (.cells #[.int .i64 kd, .slice a3 dt.length c3] 150) := ⟨_, rfl⟩
      have hf4 : FrAt wr.heap.size w4 w3.heap.size kd dt := by subst hw4; exact frAt_first hb3.size hs3 hc3 hm3
      have hb4 : Below wr.heap.size wr w4 := by subst hw4; exact hb3.alloc hb3.size _
      have hbw4 := hb.trans (hb4.mono hb.size)
      go_upto_region 5 with fail
      rw [← hw4]
      clear hw4
      by_cases he : er = 0
      · subst he
        obtain ⟨a4, c4, p1, p2, p3, p4, p5, p6⟩ := hf4.at
        have hs4 : Sl EU8 (fun b => wr.heap.size ≤ b) w4 a4 dt := by
          obtain ⟨_, a', c', hh, hs', _⟩ := hf4
          have e1 : w4.cell? ⟨w3.heap.size, 1, none⟩ = some (.slice a' dt.length c') := by simp [World.cell?, hh]
          rw [p2] at e1
          simp only [Option.some.injEq, Value.slice.injEq, true_and] at e1
          rw [e1.1]; exact hs'
        have hfine := Frm.dec_fine (l.drop k) (by rw [← Hg.out])
        rw [← Hg.out] at hfine
        simp only [List.length_drop] at hfine
        obtain ⟨f1, f2, f3, f4, f5, f6⟩ := hfine
        have ho4 := ho.below hb4
        clear f6 p3
        obtain ⟨w5, hw5⟩ : ∃ x, x = w4.alloc (.cells #[.int .i64 kd, .slice a4 dt.length c4] 150) := ⟨_, rfl⟩
        have hb5 : Below w4.heap.size w4 w5 := by subst hw5; exact (Below.refl _ _).alloc (Nat.le_refl _) _
        have hh5 : w5.heap[w4.heap.size]? = some (.cells #[.int .i64 kd, .slice a4 dt.length c4] 150 (0, 0)) := by subst hw5; exact heap_alloc_new w4 _
        have ho5 := ho4.below hb5
        have hsl : Sl (EOk (fun b => w.heap.size ≤ b) EFrame) (fun b => some b ≠ (u5).ownBlock) w5 (some ⟨w4.heap.size, 0, none⟩) [(kd, dt)] := by
          refine sl_one hh5 (frame_mk ⟨by omega, by omega⟩ p5 p6 ((hs4.below (by decide) hb5).mono (by decide) fun b hb' _ => ⟨rfl, ?_, by have := hb.size; omega⟩)) ?_
          · intro e; have := (ho.lt _ e.symm).2; omega
          · intro e; have := (ho.lt _ e.symm).2; have := hb4.size; omega
        have hbw5 := hbw4.trans (hb5.mono hbw4.size)
        have hex : w5 = w4.alloc (.cells #[.int .i64 kd, .slice a4 dt.length c4] 150) := hw5
        go_wp2_with (first
          | (rw [← hex]
             refine wpList_app (EOk (fun b => w.heap.size ≤ b) EFrame) (l2 := [(kd, dt)]) rfl rfl (by rfl) (by rfl) ti_frames ho5 rfl hsl (by unfold maxLen; simp; omega) (by simp; omega) hbw5.size ?_
             intro v6 w6 ho6 hg6 hv6 hb6))
        refine ⟨⟨k + (12 + dt.length), out ++ [(kd, dt)], by omega, by go_num, ho6, by simp; omega, ?_, hbw5.trans hb6⟩, ?_⟩
        · have hst := Frm.scan_step (l := l) (out := out) (k := k) hlt (by rw [← Hsc.out]; exact Hinv.out) (by rw [← Hg.out])
          rw [← Hg.out, ← Hsc.out] at hst
          simp only [f4] at hst
          exact hst
        · simp [intOf]; omega
      · have hb1 := Frm.scan_bad (l := l.drop k) (by simp; omega) (by rw [← Hg.out]; exact he)
        rw [← Hg.out] at hb1
        have Hb1 := Lib.hid hb1
        have ho4 := ho.below hb4
        clear hb1 hf4
        go_wp2
        refine bodyPost_ret (v := .tuple #[u5, .int .i64 k, .int .i64 er]) (by simp [results, Try.results115, go_sem]) rfl ?_
        rw [Hinv.out, Hb1.out]
        refine ⟨u5, by simp, by simpa using ho4, hbw4⟩
    · have hkl : k = l.length := by omega
      subst hkl
      have Hz := Lib.hid (show l.drop l.length = [] by simp)
      go_wp2
      refine bodyPost_ret (v := .tuple #[u5, .int .i64 l.length, .int .i64 0]) (by simp [results, Try.results115, go_sem]) rfl ?_
      rw [Hinv.out, Hz.out, Frm.scan_nil]
      exact ⟨u5, by simp, by simpa using ho, hb⟩

end Go.Proofs.Ytmmgnbdngpkfcaa

namespace Go.Proofs.Ytmmgnbdngpkfcaa
open Go.RowKit
set_option linter.unusedVariables false

/-- 'x[i:]', whatever the elements are -/
theorem slice_lG {α : Type} {E : Enc α} {P : Program} {t te : TypeId} {bytes : Nat} (ti : ElemInfo P t te E.sz bytes) {ok : Nat → Prop} {w : World} {a : Option Addr} {n c i : Nat} {l : List α} (h : Sl E ok w a l) (hm : n = l.length) (hi : i ≤ n) (hn : n ≤ c) :
    ∃ a', (∀ (W : World), (Instr.slice t (.slice a n c) (some (.int .i64 i)) none none).run P W = .ok (.slice a' (n - i) (c - i)) W) ∧ Sl E ok w a' (l.drop i) := by
  obtain ⟨i0, z, hi0, hz, hsz, hby, hzc⟩ := ti.info
  refine ⟨if c = i then a else a.map (·.add (i * E.sz)), fun W => ?_, ?_⟩
  · have e3 : (n : Int) ≤ (c : Int) := by omega
    have e4 : (i : Int) ≤ (n : Int) := by omega
    simp [Instr.slice, run_underlying ti.under, Instr.sliceBounds, run_sliceBound, sizeOf, typeInfo, hi0, hsz, hi]
  · have := h.cut (c := c) (i := i) (j := n) hi (by omega) (by omega) (decide (c = i)) (by simp; omega)
    simp only [decide_eq_true_eq] at this
    rw [List.take_of_length_le (by rw [List.length_drop]; omega)] at this
    exact this

set_option maxRecDepth 100000 in
set_option maxHeartbeats 6400000 in
theorem wal_head (t m : Nat) (a : Option Addr) (n c : Nat) (st : List (BitVec 8)) (B : Nat) (w : World) (hB : w.heap.size = B) (ht : t ≤ 4611686018427387904) (hm : m ≤ 4611686018427387904) (hr : RB w a n st) (hl : (Wl.hdata t m st).length ≤ 65536) :
    Calls Try.prog 119 #[.int .i64 t, .int .i64 m, .slice a n c] w fun e w' => ∃ v, e = .returned (.tuple #[v, .int .i64 0]) ∧ Own EU8 5 B w' v (Frm.enc 1 (Wl.hdata t m st)) ∧ Below B w w' := by
  obtain ⟨hn, hs⟩ := hr
  obtain ⟨w1, hw1⟩ : ∃ x, x = w.alloc (.cells #[.slice none 0 0, .int .i64 0] 158) := ⟨_, rfl⟩
  have hb1 : Below B w w1 := by subst hw1; subst hB; exact (Below.refl _ _).alloc (Nat.le_refl _) _
  have ha1 : WrAt w1 B (.slice none 0 0) [] := by subst hw1; subst hB; exact wr_new w
  have HB := Lib.hid hB
  have Hn := Lib.hid hn
  have hhd : Wl.hdata t m st = [BitVec.ofNat 8 (Wl.front (BitVec.ofNat 64 t) (BitVec.ofNat 64 m)).length] ++ Wl.front (BitVec.ofNat 64 t) (BitVec.ofNat 64 m) ++ st := by unfold Wl.hdata; simp
  have hfl := Wl.front_len (BitVec.ofNat 64 t) (BitVec.ofNat 64 m)
  have hfd : Wl.front (BitVec.ofNat 64 t) (BitVec.ofNat 64 m) = Bts.pack ([] ++ Bts.num (BitVec.ofNat 64 t) ++ Bts.num (BitVec.ofNat 64 m)) := by unfold Wl.front; rw [List.nil_append]
  have hbl := Wl.num_len_le (BitVec.ofNat 64 t)
  have hbl2 := Wl.num_len_le (BitVec.ofNat 64 m)
  obtain ⟨fr, hfr⟩ : ∃ f, f = Wl.front (BitVec.ofNat 64 t) (BitVec.ofNat 64 m) := ⟨_, rfl⟩
  obtain ⟨hd, hhd2⟩ : ∃ f, f = Wl.hdata t m st := ⟨_, rfl⟩
  rw [← hfr] at hhd hfl hfd
  rw [← hhd2] at hhd hl ⊢
  obtain ⟨fl, hflen⟩ : ∃ k, k = fr.length := ⟨_, rfl⟩
  rw [← hflen] at hhd hfl
  obtain ⟨nt, hnt⟩ : ∃ x, x = Bts.num (BitVec.ofNat 64 t) := ⟨_, rfl⟩
  obtain ⟨nm, hnm⟩ : ∃ x, x = Bts.num (BitVec.ofNat 64 m) := ⟨_, rfl⟩
  rw [← hnt] at hbl hfd
  rw [← hnm] at hbl2 hfd
  have hlen : 1 + fl + n ≤ 65536 := by
    have := congrArg List.length hhd
    rw [List.length_append, List.length_append, List.length_singleton, ← hflen, ← hn] at this
    omega
  have Hhd := Lib.hid hhd
  have Hfd := Lib.hid hfd
  have Hfl := Lib.hid hflen
  have Hnt := Lib.hid hnt
  have Hnm := Lib.hid hnm
  clear hhd hhd2 hfd hfr hflen hn hnt hnm
  go_enter Try.func119, Try.ntmps119
  go_upto_region 2 with fail
  rw [← hw1]
  clear hw1 hB
  go_wp2_with fail
  refine (bits_Num B _ [] (BitVec.ofNat 64 t) _ ha1 (by decide)).mono ?_
  rintro e w2 ⟨rfl, v2, ha2, ht2⟩
  rw [← Hnt.out] at ha2
  have hB1 : B ≤ w1.heap.size := Nat.le_of_lt ha1.lt
  have hb2 := hb1.trans (ht2.below hB1 (Nat.le_refl _) (by simp [Value.ownBlock]))
  clear ha1 ht2 hb1 hB1
  go_wp2_with fail
  refine (bits_Num B _ _ (BitVec.ofNat 64 m) _ ha2 (by rw [List.nil_append]; omega)).mono ?_
  rintro e w3 ⟨rfl, v3, ha3, ht3⟩
  rw [← Hnm.out] at ha3
  have hB2 : B ≤ w2.heap.size := Nat.le_of_lt ha2.lt
  have hb3 := hb2.trans (ht3.below hB2 (Nat.le_refl _) fun b hb => by have := (ha2.own b hb).1; omega)
  clear ha2 ht3 hb2 hB2
  go_wp2_with fail
  refine (bits_Bytes w3.heap.size B _ _ _ rfl ha3 (by rw [List.nil_append, List.length_append]; omega)).mono ?_
  rintro e w4 ⟨v4, rfl, ho4, hb4⟩
  rw [← Hfd.out] at ho4
  obtain ⟨a4, c4, rfl, hc4, hm4, hr4, ho4'⟩ := ho4.shape fl Hfl.out
  have hB3 : B ≤ w3.heap.size := Nat.le_of_lt ha3.lt
  have hbB4 := hb3.trans (hb4.mono hB3)
  have hB4 := hbB4.size
  rw [HB.out] at hB4
  obtain ⟨w5, hw5⟩ : ∃ x, x = w4.alloc (.cells #[.int .u8 (bv (BitVec.ofNat 8 fl))] 5) := ⟨_, rfl⟩
  have ho5 : Own EU8 5 w4.heap.size w5 (.slice (some ⟨w4.heap.size, 0, none⟩) 1 1) [BitVec.ofNat 8 fl] := by rw [hw5]; exact own_u8 _ _ _
  have hb5 : Below w4.heap.size w4 w5 := by rw [hw5]; exact alloc_below _ _
  have hs5 : Sl EU8 (fun b => some b ≠ (Value.slice (some ⟨w4.heap.size, 0, none⟩) 1 1).ownBlock) w5 a4 fr := ho4'.slB.mono (by decide) fun q hq hlt => ⟨hb5.block q hlt, by simp [Value.ownBlock]; omega⟩
  have hsw : ∀ W, Below B w W → Sl EU8 (fun b => b < B) W a st := fun W h q x hx => by
    obtain ⟨b, o, e, hb, cs, hcs, hc⟩ := hs q x hx
    obtain rfl : cs = [.int .u8 (bv x)] := hcs
    have hlt : b < B := by have := cell_lt (hc 0 _ rfl); rw [HB.out] at this; exact this
    refine ⟨b, o, e, hlt, _, rfl, fun j u hj => ?_⟩
    rw [h.cell (p := ⟨b, o + (q * EU8.sz + j), none⟩) hlt]
    exact hc j u hj
  clear ho4 hb3 ha3
  go_wp2_with (first
    | (rw [← hw5]
       refine wpList_app EU8 (l2 := fr) (m := fl) rfl rfl (by rfl) (by rfl) ti_bytes ho5 Hfl.out hs5 (by rw [List.length_singleton, ← Hfl.out]; unfold maxLen; omega) (by rw [List.length_singleton, ← Hfl.out]; omega) hb5.size ?_
       intro v6 w6 ho6 hg6 hv6 hb6
       have hbw6 : Below B w w6 := hbB4.trans ((hb5.trans hb6).mono hB4)
       have hs6 : Sl EU8 (fun b => some b ≠ v6.ownBlock) w6 a st := (hsw _ hbw6).mono (by decide) fun q hq hlt => ⟨rfl, fun e => by have := (ho6.lt q e.symm).1; omega⟩)
    | (refine wpList_app EU8 (l2 := st) (m := n) rfl rfl (by rfl) (by rfl) ti_bytes ho6 Hn.out hs6 (by rw [List.length_append, List.length_singleton, ← Hfl.out, ← Hn.out]; unfold maxLen; omega) (by rw [List.length_append, List.length_singleton, ← Hfl.out, ← Hn.out]; omega) (Nat.le_trans hb5.size hb6.size) ?_
       intro v7 w7 ho7 hg7 hv7 hb7
       rw [← Hhd.out] at ho7
       have hbw7 : Below B w w7 := hbB4.trans (((hb5.trans hb6).trans hb7).mono hB4)
       obtain ⟨a7, c7, rfl, hc7, hm7, hr7, ho7'⟩ := ho7.shape hd.length rfl))
  refine (frame_Encode_ok 1 _ _ _ hd _ (by decide) hl hr7).mono ?_
  rintro e w8 ⟨v8, rfl, ho8, hb8⟩
  have hB7 := hbw7.size
  rw [HB.out] at hB7
  go_wp2_with fail
  refine bodyPost_ret (v := .tuple #[v8, .int .i64 0]) (by simp [results, Try.results119, go_sem]) rfl ?_
  exact ⟨v8, rfl, ho8.base hB7, hbw7.trans (hb8.mono hB7)⟩
end Go.Proofs.Ytmmgnbdngpkfcaa

namespace Go.Proofs.Ytmmgnbdngpkfcaa
open Go.RowKit
set_option linter.unusedVariables false

theorem Sl.low {ok : Nat → Prop} {w : World} {a : Option Addr} {l : List (BitVec 8)} (h : Sl EU8 ok w a l) : Sl EU8 (fun b => ok b ∧ b < w.heap.size) w a l := fun k x hx => by
  obtain ⟨b, o, e, hb, cs, hr, hc⟩ := h k x hx
  refine ⟨b, o, e, ⟨hb, ?_⟩, cs, hr, hc⟩
  obtain rfl : cs = [.int .u8 (bv x)] := hr
  exact cell_lt (hc 0 _ rfl)
/-- what a loading hands back -/
def LoadIs (B : Nat) (w : World) (r : Option Wl.Ld) (e : Ending) (w' : World) : Prop :=
  Below B w w' ∧ match r with
    | none => e = .returned (.tuple #[.int .i64 0, .slice none 0 0, .slice none 0 0, .int .i64 0, .bool false])
    | some x => ∃ vs vn, e = .returned (.tuple #[.int .i64 x.turn, vs, vn, .int .i64 x.upto, .bool true]) ∧ Byt (fun k => B ≤ k ∧ vn.ownBlock ≠ some k) w' vs x.state ∧ Own (EOk (fun k => B ≤ k) EBytes) 49 B w' vn x.notes
theorem loadIs_none {B : Nat} {w w' : World} {r : Option Wl.Ld} (h : r = none) (hb : Below B w w') : LoadIs B w r (.returned (.tuple #[.int .i64 0, .slice none 0 0, .slice none 0 0, .int .i64 0, .bool false])) w' := by
  subst h
  exact ⟨hb, rfl⟩
theorem ti_byts : ElemInfo Try.prog 50 49 EBytes.sz 24 := ElemInfo.mk' (z := .slice none 0 0) Try.underlying50 (by kernel_rfl) rfl (by decide)

set_option maxRecDepth 100000 in
set_option maxHeartbeats 6400000 in
theorem wal_load (B : Nat) (a : Option Addr) (n c : Nat) (l : List (BitVec 8)) (w : World) (hB : w.heap.size = B) (hr : RB w a n l) (hnc : n ≤ c) (hcm : c ≤ maxLen) (hl : n ≤ 4194304) :
    Calls Try.prog 80 #[.slice a n c] w fun e w' => LoadIs B w (Wl.load l) e w' := by
  obtain ⟨r, hrr⟩ : ∃ r, r = Wl.load l := ⟨_, rfl⟩
  rw [← hrr]
  have hup := (Frm.scan_tells l.length l (Nat.le_refl _))
  have hlen : n = l.length := hr.1
  obtain ⟨sc, hsc⟩ : ∃ s, s = Frm.scan l := ⟨_, rfl⟩
  have hload : r = Wl.loadS sc := by rw [hrr, hsc]; unfold Wl.load; rfl
  rw [← hsc] at hup
  obtain ⟨-, hu2, hu3, hu4⟩ := hup
  have HB := Lib.hid hB
  have Hsc := Lib.hid hsc
  clear hrr hsc hB
  obtain ⟨fs, up, er⟩ := sc
  dsimp only at hu2 hu3 hu4
  have hlen0 : fs.length ≤ 349526 := by omega
  have hup : up ≤ 4194304 := by omega
  have Hload := Lib.hid hload
  have Hu3 := Lib.hid hu3
  have Hlen0 := Lib.hid hlen0
  clear hu2 hu4 hload hu3 hlen hlen0
  go_enter Try.func80, Try.ntmps80
  go_wp2_with fail
  refine (frame_ScanIn B _ _ _ l _ HB.out hr hnc hcm (by omega)).mono ?_
  rintro e w1 ⟨v, rfl, ho, hb⟩
  rw [← Hsc.out] at ho ⊢
  dsimp only at ho ⊢
  obtain ⟨n1, hn1⟩ : ∃ k, k = fs.length := ⟨_, rfl⟩
  obtain ⟨a1, c1, rfl, hc1, hm1, hs1, ho1⟩ := ho.shape n1 hn1
  obtain ⟨-, hs1⟩ := hs1
  clear ho
  rcases fs with _ | ⟨⟨kd, dt⟩, fs⟩
  · obtain rfl : n1 = 0 := hn1
    go_wp2_with fail
    go_quiet (fail)
    go_wp2_with fail
    refine bodyPost_ret (v := .tuple #[.int .i64 0, .slice none 0 0, .slice none 0 0, .int .i64 0, .bool false]) (by simp [results, Try.results80, go_sem]) rfl ?_
    exact loadIs_none (by rw [Hload.out]; exact Wl.loadS_none rfl) (below_drewN hb _)
  · have hn1p : ¬ ((n1 : Int) = 0) := by rw [hn1]; simp; omega
    have hn1b : ((n1 : Int) == 0) = false := by simpa using hn1p
    have Hn1p := Lib.hid hn1p
    clear hn1p
    have hn1q : (0 : Int) < (n1 : Int) := by have := Hn1p.out; omega
    have hn1l : n1 ≤ 349526 := by rw [hn1]; exact Hlen0.out
    obtain ⟨b, o, rfl, -, cs, hr0, hc0⟩ := hs1 0 (kd, dt) rfl
    have hr0 : EFrame.rep (fun b => True ∧ B ≤ b) w1 cs (kd, dt) := hr0
    obtain ⟨a2, c2, rfl, hc2, hm2, hs2⟩ := frame_rep hr0
    have k0 : w1.cell? ⟨b, o, none⟩ = some (.int .i64 kd) := by simpa [EFrame, EPair, EInt, EBytes, ESlice, EOk] using hc0 0 _ rfl
    have k1 : w1.cell? ⟨b, o + 1, none⟩ = some (.slice a2 dt.length c2) := by simpa [EFrame, EPair, EInt, EBytes, ESlice, EOk] using hc0 1 _ rfl
    have Hn1 := Lib.hid hn1
    clear hc0 hr0 hn1
    dsimp only at hs2 hc2
    have hdt : dt.length ≤ 65536 := (Hu3.out (kd, dt) (by simp)).2
    obtain ⟨n2, hn2⟩ : ∃ k, k = dt.length := ⟨_, rfl⟩
    rw [← hn2] at k1 hc2 hdt
    have Hs1 := Lib.hid hs1
    have Ho1 := Lib.hid ho1
    have Hr := Lib.hid hr
    clear hs1 ho1 hr
    by_cases hk : kd = 1
    · subst hk
      rcases dt with _ | ⟨n8, d⟩
      · obtain rfl : n2 = 0 := hn2
        clear hs2
        go_wp2_with fail
        go_quiet (fail)
        go_wp2_with fail
        refine bodyPost_ret (v := .tuple #[.int .i64 0, .slice none 0 0, .slice none 0 0, .int .i64 0, .bool false]) (by simp [results, Try.results80, go_sem]) rfl ?_
        exact loadIs_none (by rw [Hload.out]; exact Wl.loadS_none rfl) (below_drewN hb _)
      · have hn2q : (0 : Int) < (n2 : Int) := by rw [hn2, List.length_cons]; omega
        have hn2b : ((n2 : Int) == 0) = false := by rw [beq_eq_false_iff_ne]; omega
        obtain ⟨b2, o2, rfl, k2⟩ := SB.at hs2 0 (by simp)
        rw [Nat.add_zero] at k2
        obtain ⟨nn, hnn⟩ : ∃ k, k = n8.toNat := ⟨_, rfl⟩
        have hbv : bv n8 = (nn : Int) := by rw [hnn]; rfl
        have hnn8 : nn < 256 := by rw [hnn]; exact n8.isLt
        simp only [List.getElem_cons_zero] at k2
        rw [hbv] at k2
        have hdl : n2 = d.length + 1 := by rw [hn2]; rfl
        have Hnn := Lib.hid hnn
        have Hdl := Lib.hid hdl
        have Hn2 := Lib.hid hn2
        have Hs2 := Lib.hid hs2
        clear hnn hbv hdl hn2 hs2
        by_cases hbig : n2 ≤ nn
        · have hbig' : (n2 : Int) ≤ (nn : Int) := by omega
          have hbig2 : decide ((n2 : Int) ≤ (nn : Int)) = true := by simpa using hbig'
          have hlt : d.length < n8.toNat := by have := Hdl.out; have := Hnn.out; omega
          have Hlt := Lib.hid hlt
          clear hlt hbig
          go_wp2_with fail
          go_quiet (fail)
          go_wp2_with fail
          refine bodyPost_ret (v := .tuple #[.int .i64 0, .slice none 0 0, .slice none 0 0, .int .i64 0, .bool false]) (by simp [results, Try.results80, go_sem]) rfl ?_
          exact loadIs_none (by rw [Hload.out]; exact Wl.loadS_none (by unfold Wl.loadF; simp only; rw [if_neg (by decide)]; unfold Wl.loadH; rw [if_pos Hlt.out])) (below_drewN hb _)
        · have hbig' : (nn : Int) < (n2 : Int) := by omega
          have hbig2 : decide ((n2 : Int) ≤ (nn : Int)) = false := by simpa using hbig'
          have hd1 : nn ≤ d.length := by have := Hdl.out; omega
          obtain ⟨a5, hrun1, r5⟩ := slice_lh (P := Try.prog) ti_bytes (a := some ⟨b2, o2, none⟩) (n := n2) (c := c2) (i := 1) (j := nn + 1) (l := n8 :: d) (w := w1) ⟨Hn2.out, Hs2.out.any (by decide)⟩ (by omega) (by omega) hc2
          obtain ⟨fb, hfb⟩ : ∃ f, f = d.take nn := ⟨_, rfl⟩
          have e5 : ((n8 :: d).drop 1).take (nn + 1 - 1) = fb := by rw [hfb]; simp
          have e6 : nn + 1 - 1 = nn := by omega
          have e7 : (((nn + 1 : Nat)) : Int) = (nn : Int) + 1 := by omega
          have e8 : ((1 : Nat) : Int) = 1 := rfl
          rw [e5, e6] at r5
          rw [e6, e7, e8] at hrun1
          have hfbl : nn = fb.length := r5.1
          have Hfb := Lib.hid hfb
          have Hfbl := Lib.hid hfbl
          have Hd1 := Lib.hid hd1
          have Hr5 := Lib.hid r5
          clear hbig e5 e6 e7 e8 hfb hfbl hd1 r5
          go_wp2_with fail
          go_quiet (fail)
          have hbq := below_drewN hb nq
          obtain ⟨w2, hw2⟩ : ∃ x, x = w1.drewN nq := ⟨_, rfl⟩
          have hb12 : Below w1.heap.size w1 w2 := by rw [hw2]; exact below_drewN (Below.refl _ _) nq
          have j0 : w2.cell? ⟨b, o, none⟩ = some (.int .i64 1) := cell_thru k0 hb12
          have j1 : w2.cell? ⟨b, o + 1, none⟩ = some (.slice (some ⟨b2, o2, none⟩) n2 c2) := cell_thru k1 hb12
          have j2 : w2.cell? ⟨b2, o2, none⟩ = some (.int .u8 nn) := cell_thru k2 hb12
          have r5 : RB w2 a5 nn fb := Hr5.out.below hb12
          rw [← hw2] at hbq ⊢
          clear hw2 k0 k1 k2
          have Hb12 := Lib.hid hb12
          clear hb12
          go_wp2_with fail
          refine (bits_Read w2.heap.size _ _ _ fb _ rfl r5 (by omega)).mono ?_
          rintro e w3 ⟨g, rfl, hg, hR, hb3⟩
          clear r5
          have hB2 : B ≤ w2.heap.size := by rw [← HB.out]; exact hbq.size
          have hbw3 := hbq.trans (hb3.mono hB2)
          have hB3 : B ≤ w3.heap.size := Nat.le_trans hB2 hb3.size
          obtain ⟨q1, hq1⟩ : ∃ q, q = Bts.numR fb ⟨0, 0⟩ := ⟨_, rfl⟩
          obtain ⟨q2, hq2⟩ : ∃ q, q = Bts.numR fb q1.2 := ⟨_, rfl⟩
          obtain ⟨X, hX⟩ : ∃ k, k = q1.1.toNat := ⟨_, rfl⟩
          obtain ⟨Y, hY⟩ : ∃ k, k = q2.1.toNat := ⟨_, rfl⟩
          have eX : bv q1.1 = (X : Int) := by rw [hX]; rfl
          have eY : bv q2.1 = (Y : Int) := by rw [hY]; rfl
          obtain ⟨E, hE⟩ : ∃ e, e = Bts.endR fb q2.2 := ⟨_, rfl⟩
          have hXl : X < 18446744073709551616 := by rw [hX]; exact q1.1.isLt
          have hYl : Y < 18446744073709551616 := by rw [hY]; exact q2.1.isLt
          have hform : Wl.loadF ((1, n8 :: d) :: fs) = if E ≠ 0 ∨ 1099511627776 < X ∨ X < 1 ∨ fs.length < Y then none else some (X, d.drop nn) := by
            unfold Wl.loadF
            simp only [ne_eq, not_true_eq_false, if_false]
            unfold Wl.loadH
            rw [← Hnn.out, if_neg (by have := Hd1.out; omega), ← Hfb.out, ← hq1, ← hq2, ← hE, ← hX, ← hY]
          have Hform := Lib.hid hform
          have Hq1 := Lib.hid hq1
          have Hq2 := Lib.hid hq2
          have HE := Lib.hid hE
          have HeX := Lib.hid eX
          have HeY := Lib.hid eY
          clear hform hX hY eX eY hq1 hq2 hE
          have hfbl : fb.length ≤ 1099511627776 := by rw [← Hfbl.out]; omega
          have Hfbl2 := Lib.hid hfbl
          clear hfbl
          go_wp2_with fail
          refine (bits_RNum g fb _ _ hR Hfbl2.out).mono ?_
          rw [← Hq1.out, HeX.out]
          rintro e w4 ⟨rfl, hR4, ho4⟩
          clear hR
          have hbw4 := hbw3.trans (ho4.below hB3 fun k hk => by subst hk; exact Nat.le_trans hB2 hg)
          have hB4 : B ≤ w4.heap.size := Nat.le_trans hB3 ho4.size
          go_wp2_with fail
          refine (bits_RNum g fb _ _ hR4 Hfbl2.out).mono ?_
          rw [← Hq2.out, HeY.out]
          rintro e w5 ⟨rfl, hR5, ho5⟩
          clear hR4
          have hg3 : w2.heap.size ≤ g := hg
          have hbw5 := hbw4.trans (ho5.below hB4 fun k hk => by subst hk; exact Nat.le_trans hB2 hg)
          have hB5 : B ≤ w5.heap.size := Nat.le_trans hB4 ho5.size
          have hb25 : Below w2.heap.size w2 w5 := by
            refine hb3.trans ((ho4.trans ho5 fun _ _ h => h).below hb3.size fun k hk => by subst hk; exact hg)
          have Ho4 := Lib.hid ho4
          have Ho5 := Lib.hid ho5
          have Hb3 := Lib.hid hb3
          clear ho4 ho5 hb3
          have i0 : w5.cell? ⟨b, o, none⟩ = some (.int .i64 1) := cell_thru j0 hb25
          have i1 : w5.cell? ⟨b, o + 1, none⟩ = some (.slice (some ⟨b2, o2, none⟩) n2 c2) := cell_thru j1 hb25
          clear j0 j1 j2
          have hfsl : n1 = fs.length + 1 := by rw [Hn1.out]; rfl
          have Hfsl := Lib.hid hfsl
          clear hfsl
          go_wp2_with fail
          refine (bits_End g fb _ _ hR5 Hfbl2.out).mono ?_
          rw [← HE.out]
          rintro e w6 ⟨rfl, hb6⟩
          clear hR5
          have hbw6 := hbw5.trans (hb6.mono hB5)
          have h0 : w6.cell? ⟨b, o, none⟩ = some (.int .i64 1) := cell_thru i0 hb6
          have h1 : w6.cell? ⟨b, o + 1, none⟩ = some (.slice (some ⟨b2, o2, none⟩) n2 c2) := cell_thru i1 hb6
          have hb26 : Below w2.heap.size w2 w6 := hb25.trans (hb6.mono hb25.size)
          clear i0 i1 hb6 hb25
          have hnone : (E ≠ 0 ∨ 1099511627776 < X ∨ X < 1 ∨ fs.length < Y) → LoadIs B w r (.returned (.tuple #[.int .i64 0, .slice none 0 0, .slice none 0 0, .int .i64 0, .bool false])) w6 := fun h =>
            loadIs_none (by rw [Hload.out]; exact Wl.loadS_none (by rw [Hform.out, if_pos h])) hbw6
          have Hnone := Lib.hid hnone
          clear hnone
          have hw1 : IntKind.u64.wrap ((n1 : Int) - 1) = (n1 : Int) - 1 := by rw [IntKind.wrap_u64]; omega
          have hw2 : bv (BitVec.ofInt 64 ((n1 : Int) - 1)) = (n1 : Int) - 1 := by rw [← wrap64u]; exact hw1
          by_cases hE0 : E = 0
          · subst hE0
            by_cases hx1 : 1099511627776 < X
            · have hx1' : (1099511627776 : Int) < (X : Int) := by omega
              go_wp2_with fail
              refine bodyPost_ret (v := .tuple #[.int .i64 0, .slice none 0 0, .slice none 0 0, .int .i64 0, .bool false]) (by simp [results, Try.results80, go_sem]) rfl ?_
              exact Hnone.out (.inr (.inl hx1))
            · have hx1' : (X : Int) ≤ 1099511627776 := by omega
              by_cases hx2 : X < 1
              · obtain rfl : X = 0 := by omega
                go_wp2_with fail
                refine bodyPost_ret (v := .tuple #[.int .i64 0, .slice none 0 0, .slice none 0 0, .int .i64 0, .bool false]) (by simp [results, Try.results80, go_sem]) rfl ?_
                exact Hnone.out (.inr (.inr (.inl (by decide))))
              · have hx2' : (1 : Int) ≤ (X : Int) := by omega
                by_cases hy : fs.length < Y
                · have hy' : (n1 : Int) - 1 < (Y : Int) := by have := Hfsl.out; omega
                  have Hy := Lib.hid hy
                  clear hy
                  go_wp2_with fail
                  refine bodyPost_ret (v := .tuple #[.int .i64 0, .slice none 0 0, .slice none 0 0, .int .i64 0, .bool false]) (by simp [results, Try.results80, go_sem]) rfl ?_
                  exact Hnone.out (.inr (.inr (.inr Hy.out)))
                · have hy' : (Y : Int) ≤ (n1 : Int) - 1 := by have := Hfsl.out; omega
                  have hr1 : r = some ⟨X, d.drop nn, fs.map (·.2), up⟩ := by
                    rw [Hload.out, Wl.loadS_some (t := X) (s := d.drop nn) (by rw [Hform.out, if_neg (by omega)])]
                    rfl
                  obtain ⟨m1, hm⟩ : ∃ k, k = n1 - 1 := ⟨_, rfl⟩
                  have hmf : m1 = fs.length := by have := Hfsl.out; omega
                  obtain ⟨a6, hrun2, hs6⟩ := slice_lG (P := Try.prog) (E := EOk (fun b => B ≤ b) EFrame) ti_frames Hs1.out Hn1.out (i := 1) (by have := Hfsl.out; omega) hc1
                  have hs6 : Sl (EOk (fun b => B ≤ b) EFrame) (fun _ => True) w1 a6 fs := hs6
                  obtain ⟨a9, hrun3, hs9⟩ := slice_lG (P := Try.prog) (E := EU8) ti_bytes Hs2.out.low Hn2.out (i := nn + 1) (by omega) hc2
                  have e8 : ((1 : Nat) : Int) = 1 := rfl
                  have e9 : (((nn + 1 : Nat)) : Int) = (nn : Int) + 1 := by omega
                  rw [e8, ← hm] at hrun2
                  rw [e9] at hrun3
                  obtain ⟨m2, hm2'⟩ : ∃ k, k = n2 - (nn + 1) := ⟨_, rfl⟩
                  rw [← hm2'] at hrun3
                  have hs9 : Sl EU8 (fun b => (True ∧ B ≤ b) ∧ b < w1.heap.size) w1 a9 (d.drop nn) := hs9
                  have hm2d : m2 = (d.drop nn).length := by rw [List.length_drop]; have := Hdl.out; omega
                  have hc9 : m2 ≤ c2 - (nn + 1) := by omega
                  have hb16 : Below w1.heap.size w1 w6 := Hb12.out.trans (hb26.mono Hb12.out.size)
                  have hs16 := hb16.size
                  have hml : m1 ≤ 349526 := by omega
                  have Hr1 := Lib.hid hr1
                  have Hmf := Lib.hid hmf
                  have Hs6 := Lib.hid hs6
                  have Hs9 := Lib.hid hs9
                  have Hm2d := Lib.hid hm2d
                  have Hy := Lib.hid hy
                  have hB6 : B ≤ w6.heap.size := by rw [← HB.out]; exact hbw6.size
                  have HB6 := Lib.hid hB6
                  clear hB6 hr1 hm hmf hs6 hs9 hm2d e8 e9 hm2' hy
                  go_wp2_with fail
                  go_loopw [14, 97] (fun v i wr => ∃ k : Nat, k ≤ m1 ∧ i = .int .i64 k ∧ Own (EOk (fun b => B ≤ b) EBytes) 49 w6.heap.size wr v ((fs.take k).map (·.2)) ∧ Below w6.heap.size w6 wr) (fun _ i _ => m1 - (intOf i).toNat)
                  case atStart => exact ⟨0, Nat.zero_le _, rfl, Own.nil _ _ _ _, Below.refl _ _⟩
                  case round =>
                    obtain ⟨k, hk, rfl, ho, hbr⟩ := hrel
                    have hb1r : Below w1.heap.size w1 wr := hb16.trans (hbr.mono hs16)
                    have hs6r := hbr.size
                    by_cases hlt : k < m1
                    · have hki : (k : Int) < (m1 : Int) := by omega
                      have hkf : k < fs.length := by rw [← Hmf.out]; exact hlt
                      obtain ⟨b6, o6, rfl, -, cs, hr6, hc6⟩ := Hs6.out k fs[k] (List.getElem?_eq_getElem hkf)
                      obtain ⟨x, hx⟩ : ∃ x, x = fs[k] := ⟨_, rfl⟩
                      have Hx := Lib.hid hx
                      rw [← hx] at hr6
                      clear hx
                      obtain ⟨kk, dk⟩ := x
                      have hr6 : EFrame.rep (fun b => True ∧ B ≤ b) w1 cs (kk, dk) := hr6
                      obtain ⟨a7, c7, rfl, h71, h72, h73⟩ := frame_rep hr6
                      dsimp only at h71 h73
                      have p1 : w1.cell? ⟨b6, o6 + k * 2, none⟩ = some (.int .i64 kk) := by simpa [EFrame, EPair, EInt, EBytes, ESlice, EOk] using hc6 0 _ rfl
                      have p2 : w1.cell? ⟨b6, o6 + k * 2 + 1, none⟩ = some (.slice a7 dk.length c7) := by
                        have := hc6 1 _ rfl
                        rw [Nat.add_assoc]; exact this
                      have s1 : wr.cell? ⟨b6, o6 + k * 2, none⟩ = some (.int .i64 kk) := cell_thru p1 hb1r
                      have s2 : wr.cell? ⟨b6, o6 + k * 2 + 1, none⟩ = some (.slice a7 dk.length c7) := cell_thru p2 hb1r
                      have h74 := h73.low
                      obtain ⟨dl, hdl2⟩ : ∃ k, k = dk.length := ⟨_, rfl⟩
                      rw [← hdl2] at s2 h71
                      obtain ⟨w7, hw7⟩ : ∃ x, x = wr.alloc (.cells #[.int .i64 kk, .slice a7 dl c7] 150) := ⟨_, rfl⟩
                      obtain ⟨w8, hw8⟩ : ∃ x, x = w7.alloc (.cells #[.slice a7 dl c7] 49) := ⟨_, rfl⟩
                      have hb7 : Below wr.heap.size wr w7 := by rw [hw7]; exact alloc_below _ _
                      have hb8 : Below w7.heap.size w7 w8 := by rw [hw8]; exact alloc_below _ _
                      have hb78 : Below wr.heap.size wr w8 := hb7.trans (hb8.mono hb7.size)
                      have ho8 := ho.below hb78
                      have hh8 : w8.heap[w7.heap.size]? = some (.cells #[.slice a7 dl c7] 49 (0, 0)) := by rw [hw8]; exact heap_alloc_new w7 _
                      have hb18 : Below w1.heap.size w1 w8 := hb1r.trans (hb78.mono hb1r.size)
                      have hsl8 : Sl (EOk (fun b => B ≤ b) EBytes) (fun b => some b ≠ u14.ownBlock) w8 (some ⟨w7.heap.size, 0, none⟩) [dk] := by
                        refine sl_one hh8 ?_ ?_
                        · refine ⟨a7, c7, by rw [hdl2], by rw [← hdl2]; exact h71, h72, h74.mono (by decide) fun q hq hlt => ⟨hb18.block q hlt, ?_, hq.1.2⟩⟩
                          intro e; have := (ho.lt q e.symm).1; have := hq.2; omega
                        · intro e; have := (ho.lt _ e.symm).2; have := hb7.size; omega
                      have e7 : w7.heap.size = wr.heap.size + 1 := by rw [hw7]; simp
                      rw [e7] at hsl8
                      have hex : w8 = (wr.alloc (.cells #[.int .i64 kk, .slice a7 dl c7] 150)).alloc (.cells #[.slice a7 dl c7] 49) := by rw [hw8, hw7]
                      have hlen : ((fs.take k).map (·.2)).length ≤ 349526 := by rw [List.length_map, List.length_take]; omega
                      have Hlen := Lib.hid hlen
                      have Hbr8 := Lib.hid (Nat.le_trans hs6r hb78.size)
                      have Ho := Lib.hid ho
                      have Hkf := Lib.hid hkf
                      clear e7 hw8 hw7 p1 p2 hc6 hr6 h73 h74 hlen ho hh8 hdl2
                      go_wp2_with (first
                        | (rw [← hex]
                           refine wpList_app (EOk (fun b => B ≤ b) EBytes) (l2 := [dk]) rfl rfl (by rfl) (by rfl) ti_byts ho8 rfl hsl8 (by have := Hlen.out; unfold maxLen; rw [List.length_singleton]; omega) (by have := Hlen.out; rw [List.length_singleton]; omega) Hbr8.out ?_
                           intro v9 w9 ho9 hg9 hv9 hb9))
                      refine ⟨⟨k + 1, by omega, by go_num, ?_, hbr.trans ((hb78.mono hs6r).trans hb9)⟩, by simp [intOf]; omega⟩
                      rw [List.take_add_one, List.getElem?_eq_getElem Hkf.out, ← Hx.out, Option.toList_some, List.map_append]
                      exact ho9
                    · obtain rfl : k = m1 := by omega
                      have ho : Own (EOk (fun b => B ≤ b) EBytes) 49 w6.heap.size wr u14 (fs.map (·.2)) := by
                        have e : fs.take k = fs := by rw [Hmf.out]; exact List.take_length
                        rw [e] at ho; exact ho
                      have l0 : wr.cell? ⟨b, o, none⟩ = some (.int .i64 1) := by rw [hbr.cell (p := ⟨b, o, none⟩) (cell_lt h0)]; exact h0
                      have l1 : wr.cell? ⟨b, o + 1, none⟩ = some (.slice (some ⟨b2, o2, none⟩) n2 c2) := by rw [hbr.cell (p := ⟨b, o + 1, none⟩) (cell_lt h1)]; exact h1
                      clear h0 h1
                      have Ho := Lib.hid ho
                      clear ho
                      go_wp2_with fail
                      go_quiet (fail)
                      go_wp2_with fail
                      refine bodyPost_ret (v := .tuple #[.int .i64 X, .slice a9 m2 (c2 - (nn + 1)), u14, .int .i64 up, .bool true]) (by simp [results, Try.results80, go_sem]) rfl ?_
                      have hbz : Below wr.heap.size wr (wr.drewN nq) := below_drewN (Below.refl _ _) nq
                      refine ⟨(hbw6.trans (hbr.mono HB6.out)).trans (hbz.mono (Nat.le_trans HB6.out hs6r)), ?_⟩
                      rw [Hr1.out]
                      refine ⟨_, _, rfl, ⟨a9, c2 - (nn + 1), by rw [← Hm2d.out], by rw [← Hm2d.out]; exact hc9, Nat.le_trans (Nat.sub_le _ _) hm2, (Hs9.out.mono (by decide) fun q hq hlt => ⟨(hb1r.trans (hbz.mono hb1r.size)).block q hlt, hq.1.2, ?_⟩)⟩, (Ho.out.below hbz).base HB6.out⟩
                      intro e; have := (Ho.out.lt q e).1; have := hq.2; omega
          · have hE1 : (E != 0) = true := by simpa using hE0
            have HE0 := Lib.hid hE0
            clear hE0
            go_wp2_with fail
            refine bodyPost_ret (v := .tuple #[.int .i64 0, .slice none 0 0, .slice none 0 0, .int .i64 0, .bool false]) (by simp [results, Try.results80, go_sem]) rfl ?_
            exact Hnone.out (.inl HE0.out)
    · have hk2 : (kd != 1) = true := by simpa using hk
      have Hk := Lib.hid hk
      have Hn2 := Lib.hid hn2
      clear hk hn2
      go_wp2_with fail
      go_quiet (fail)
      go_wp2_with fail
      refine bodyPost_ret (v := .tuple #[.int .i64 0, .slice none 0 0, .slice none 0 0, .int .i64 0, .bool false]) (by simp [results, Try.results80, go_sem]) rfl ?_
      exact loadIs_none (by rw [Hload.out]; exact Wl.loadS_none (by unfold Wl.loadF; simp only; rw [if_pos Hk.out])) (below_drewN hb _)
end Go.Proofs.Ytmmgnbdngpkfcaa


/-
  The reference's disk: its tapes, and what they hold now.
-/
import Derived.Test.YtennjoegjghlaaaDiskApartWalk
namespace Go.Proofs.Ytennjoegjghlaaa
open Go.RowKit
set_option linter.unusedVariables false

namespace Dk
/-- what of a tape is safe, and what came since, as the reference has it -/
def rsafe (x : Tp) : List (BitVec 8) := if x.fresh = true then x.old else x.b.take x.safe
def rmore (x : Tp) : List (BitVec 8) := if x.fresh = true then x.b else x.b.drop x.safe
theorem rnow (x : Tp) : (if x.fresh = true then [] else rsafe x) ++ rmore x = x.b := by
  unfold rsafe rmore
  cases x.fresh <;> simp
/-- what was cleared has nothing safe -/
def Fr (D : Dsk) : Prop := ∀ i, (D.t i).fresh = true → (D.t i).safe = 0
theorem fr_new (r : Int) : Fr (new r) := fun i h => rfl
theorem fr_act {D : Dsk} (h : Fr D) : Fr (act D).1 := by unfold act; split <;> exact h
theorem fr_setT {D : Dsk} (h : Fr D) (t : Nat) (x : Tp) (hx : x.fresh = true → x.safe = 0) : Fr (setT D t x) := fun i => by
  by_cases hi : i = t
  · subst hi; simp only [setT, upd_same]; exact hx
  · simp only [setT, upd_other _ _ _ _ hi]; exact h i
theorem fr_app {D : Dsk} (h : Fr D) (t : Int) (b : List (BitVec 8)) : Fr (app D t b).1 := by
  unfold app
  split
  · exact h
  · split
    · exact h
    · exact fr_act (fr_setT h _ _ (h t.toNat))
theorem fr_clear {D : Dsk} (h : Fr D) (t : Int) : Fr (clear D t).1 := by
  unfold clear
  split
  · exact h
  · exact fr_act (fr_setT h _ _ fun _ => rfl)
theorem fr_flush {D : Dsk} (h : Fr D) (t : Int) : Fr (flush D t).1 := by
  unfold flush
  split
  · exact h
  · split
    · exact fr_act h
    · exact fr_setT (fr_act h) _ _ fun h => by simp [flushT] at h
theorem fr_crash {D : Dsk} (h : Fr D) (ks : List Int) : Fr (crash D ks) := fun i hi => by simp [crash, crashT] at hi
theorem fr_fuse {D : Dsk} (h : Fr D) (n : Int) : Fr (fuse D n) := h
/-- the reference's disk's cells -/
def rcells (vs us : Nat → Value) (D : Dsk) : Array Value :=
  #[vs 0, .bool (D.t 0).fresh, us 0, vs 1, .bool (D.t 1).fresh, us 1, vs 2, .bool (D.t 2).fresh, us 2, vs 3, .bool (D.t 3).fresh, us 3, .int .i64 D.room, .int .i64 D.acts, .int .i64 D.fuse, .bool D.down]
theorem rget_s {t : Nat} (h : t < 4) (vs us : Nat → Value) (D : Dsk) : (rcells vs us D)[t * 3]? = some (vs t) := by rcases four h with rfl | rfl | rfl | rfl <;> rfl
theorem rget_c {t : Nat} (h : t < 4) (vs us : Nat → Value) (D : Dsk) : (rcells vs us D)[t * 3 + 1]? = some (.bool (D.t t).fresh) := by rcases four h with rfl | rfl | rfl | rfl <;> rfl
theorem rget_m {t : Nat} (h : t < 4) (vs us : Nat → Value) (D : Dsk) : (rcells vs us D)[t * 3 + 2]? = some (us t) := by rcases four h with rfl | rfl | rfl | rfl <;> rfl
theorem rset_s {t : Nat} (h : t < 4) (vs us : Nat → Value) (D : Dsk) (v : Value) : (rcells vs us D).setIfInBounds (t * 3) v = rcells (upd vs t v) us D := by rcases four h with rfl | rfl | rfl | rfl <;> rfl
theorem rset_c {t : Nat} (h : t < 4) (vs us : Nat → Value) (D : Dsk) (f : Bool) : (rcells vs us D).setIfInBounds (t * 3 + 1) (.bool f) = rcells vs us (setT D t { D.t t with fresh := f }) := by rcases four h with rfl | rfl | rfl | rfl <;> rfl
theorem rset_m {t : Nat} (h : t < 4) (vs us : Nat → Value) (D : Dsk) (v : Value) : (rcells vs us D).setIfInBounds (t * 3 + 2) v = rcells vs (upd us t v) D := by rcases four h with rfl | rfl | rfl | rfl <;> rfl
theorem rset_acts (vs us : Nat → Value) (D : Dsk) (n : Int) : (rcells vs us D).setIfInBounds 13 (.int .i64 n) = rcells vs us { D with acts := n } := rfl
theorem rset_fuse (vs us : Nat → Value) (D : Dsk) (n : Int) : (rcells vs us D).setIfInBounds 14 (.int .i64 n) = rcells vs us { D with fuse := n } := rfl
theorem rset_down (vs us : Nat → Value) (D : Dsk) (f : Bool) : (rcells vs us D).setIfInBounds 15 (.bool f) = rcells vs us { D with down := f } := rfl
theorem rcells_congr {vs us vs' us' : Nat → Value} {D D' : Dsk} (h1 : ∀ i, i < 4 → vs i = vs' i) (h2 : ∀ i, i < 4 → us i = us' i) (h3 : ∀ i, i < 4 → (D.t i).fresh = (D'.t i).fresh) (h4 : D.room = D'.room) (h5 : D.acts = D'.acts) (h6 : D.fuse = D'.fuse) (h7 : D.down = D'.down) : rcells vs us D = rcells vs' us' D' := by
  unfold rcells
  rw [h1 0 (by decide), h1 1 (by decide), h1 2 (by decide), h1 3 (by decide), h2 0 (by decide), h2 1 (by decide), h2 2 (by decide), h2 3 (by decide), h3 0 (by decide), h3 1 (by decide), h3 2 (by decide), h3 3 (by decide), h4, h5, h6, h7]
end Dk

/-- bytes that can be read, the value given -/
def Bt (ok : Nat → Prop) (w : World) (v : Value) (l : List (BitVec 8)) : Prop := ∃ a c, v = .slice a l.length c ∧ l.length ≤ c ∧ c ≤ maxLen ∧ Sl EU8 ok w a l
theorem Bt.mono {ok ok' : Nat → Prop} {w w' : World} {v : Value} {l : List (BitVec 8)} (h : Bt ok w v l) (hb : ∀ k, ok k → k < w.heap.size → w'.heap[k]? = w.heap[k]? ∧ ok' k) : Bt ok' w' v l := by
  obtain ⟨a, c, rfl, h1, h2, h3⟩ := h
  exact ⟨a, c, rfl, h1, h2, h3.mono (by decide) hb⟩
theorem Bt.below {ok : Nat → Prop} {w w' : World} {v : Value} {l : List (BitVec 8)} (h : Bt ok w v l) (hb : Below w.heap.size w w') : Bt ok w' v l := h.mono fun k hk hlt => ⟨hb.block k hlt, hk⟩
theorem Bt.nil (ok : Nat → Prop) (w : World) : Bt ok w (.slice none 0 0) [] := ⟨none, 0, rfl, Nat.le_refl _, by unfold maxLen; omega, Sl.nil _ _ _ _⟩
theorem Own.bt {te : TypeId} {base : Nat} {w : World} {v : Value} {l : List (BitVec 8)} (h : Own EU8 te base w v l) : Bt (fun k => base ≤ k) w v l := by
  obtain ⟨a, c, rfl, h1, h2, h3, h4⟩ := h.shape l.length rfl
  exact ⟨a, c, rfl, h1, h2, h4.slB⟩
/-- the slices of the reference's disk -/
structure RfM (ok : Nat → Prop) (w : World) (vs us : Nat → Value) (D : Dk.Dsk) : Prop where
  sa : ∀ i, i < 4 → Bt ok w (vs i) (Dk.rsafe (D.t i))
  mo : ∀ i, i < 4 → Bt ok w (us i) (Dk.rmore (D.t i))
theorem RfM.mono {ok ok' : Nat → Prop} {w w' : World} {vs us : Nat → Value} {D : Dk.Dsk} (h : RfM ok w vs us D) (hb : ∀ k, ok k → k < w.heap.size → w'.heap[k]? = w.heap[k]? ∧ ok' k) : RfM ok' w' vs us D :=
  ⟨fun i hi => (h.sa i hi).mono hb, fun i hi => (h.mo i hi).mono hb⟩

set_option maxHeartbeats 800000 in
theorem ref16_Now (a1 : Option Addr) (n1 c1 : Nat) (ls : List (BitVec 8)) (f : Bool) (a2 : Option Addr) (n2 c2 : Nat) (lm : List (BitVec 8)) (B : Nat) (w : World) (hB : w.heap.size = B) (h1 : RB w a1 n1 ls) (h2 : RB w a2 n2 lm) (hl1 : n1 ≤ 1099511627776) (hl2 : n2 ≤ 1099511627776) :
    Calls Try.prog 31 #[.agg #[.slice a1 n1 c1, .bool f, .slice a2 n2 c2]] w fun e w' => ∃ v, e = .returned v ∧ Own EU8 5 B w' v ((if f = true then [] else ls) ++ lm) ∧ Below B w w' := by
  subst hB
  obtain ⟨rfl, hs1⟩ := h1
  obtain ⟨rfl, hs2⟩ := h2
  obtain ⟨w1, hw1⟩ : ∃ x, x = w.alloc (.cells #[.slice a1 ls.length c1, .bool f, .slice a2 lm.length c2] 49) := ⟨_, rfl⟩
  have hb1 : Below w.heap.size w w1 := by rw [hw1]; exact alloc_below _ _
  have hh1 : w1.heap[w.heap.size]? = some (.cells #[.slice a1 ls.length c1, .bool f, .slice a2 lm.length c2] 49 (0, 0)) := by rw [hw1]; exact heap_alloc_new w _
  obtain ⟨s, hs⟩ : ∃ s, s = w.heap.size := ⟨_, rfl⟩
  rw [← hs] at hb1 hh1
  have Hs := Lib.hid hs
  have z0 : w1.cell? ⟨s, 0, none⟩ = some (.slice a1 ls.length c1) := by simp [World.cell?, hh1]
  have z1 : w1.cell? ⟨s, 1, none⟩ = some (.bool f) := by simp [World.cell?, hh1]
  have z2 : w1.cell? ⟨s, 2, none⟩ = some (.slice a2 lm.length c2) := by simp [World.cell?, hh1]
  have hs11 : Sl EU8 (fun _ => True) w1 a1 ls := hs1.below (by decide) (by rw [← hs]; exact hb1)
  have hw1s := cell_lt z0
  have hs21 : Sl EU8 (fun _ => True) w1 a2 lm := hs2.below (by decide) (by rw [← hs]; exact hb1)
  obtain ⟨w2, hw2⟩ : ∃ x, x = w1.alloc (.cells #[] 5) := ⟨_, rfl⟩
  have hb2 : Below w1.heap.size w1 w2 := by rw [hw2]; exact alloc_below _ _
  have hbs2 : Below s w w2 := hb1.trans (hb2.mono (by have := cell_lt z0; omega))
  have ho2 : Own EU8 5 s w2 (.slice (some ⟨w1.heap.size, 0, none⟩) 0 0) [] := by rw [hw2]; exact (own_empty EU8 5 w1 (by decide)).base (by have := cell_lt z0; omega)
  have y0 := cell_thru z0 hb2
  have y1 := cell_thru z1 hb2
  have y2 := cell_thru z2 hb2
  have hs12 : Sl EU8 (fun b => some b ≠ (Value.slice (some ⟨w1.heap.size, 0, none⟩) 0 0).ownBlock) w2 a1 ls :=
    hs11.mono (by decide) fun k _ hk => ⟨hb2.block k hk, by simp [Value.ownBlock]; omega⟩
  have hs22 : Sl EU8 (fun b => some b ≠ (Value.slice (some ⟨w1.heap.size, 0, none⟩) 0 0).ownBlock) w2 a2 lm :=
    hs21.mono (by decide) fun k _ hk => ⟨hb2.block k hk, by simp [Value.ownBlock]; omega⟩
  rw [← hs]
  clear hs hb1 hh1 z0 z1 z2 hs11 hs21 hs1 hs2
  go_enter Try.func31, Try.ntmps31
  go_upto_region 1 with fail
  rw [← hw1, ← Hs.out]
  have Hw2 := Lib.hid hw2
  clear hw1 hw2
  go_upto_region 2 with fail
  rw [← Hw2.out]
  clear Hw2
  cases f
  · go_wp2_with (refine wpList_app EU8 rfl rfl rfl rfl ti_bytes ho2 rfl hs12 ?_ ?_ ?_ ?_)
    · simp only [List.length_nil, Nat.zero_add, maxLen]; omega
    · simp only [List.length_nil, Nat.zero_add]; omega
    · have := hb2.size; omega
    · intro v' w' ho hg hv hb
      have hsz2 := hb2.size
      have y2' : w'.cell? ⟨s, 2, none⟩ = some (.slice a2 lm.length c2) := (cell_keep (hg.block s (by omega) (by simp [Value.ownBlock]; omega))).trans y2
      have hs23 : Sl EU8 (fun b => some b ≠ v'.ownBlock) w' a2 lm := hs22.mono (by decide) fun k h1 hk => ⟨hg.block k hk (fun e => h1 e), fun e => by
        rcases hv with h3 | ⟨g, h3, h4⟩
        · rw [h3] at e; exact h1 e
        · rw [h3] at e; injection e with e; omega⟩
      have hsz3 := hb.size
      clear hs12 hs22 y2 hg hv ho2
      go_wp2_with (refine wpList_app EU8 rfl rfl rfl rfl ti_bytes ho rfl hs23 ?_ ?_ ?_ ?_)
      · simp only [maxLen]; omega
      · omega
      · omega
      · intro v3 w3 ho3 hg3 hv3 hb3
        go_wp2
        go_ret
        exact ⟨_, rfl, ho3, (hbs2.trans hb).trans hb3⟩
  · go_wp2_with (refine wpList_app EU8 rfl rfl rfl rfl ti_bytes ho2 rfl hs22 ?_ ?_ ?_ ?_)
    · simp only [List.length_nil, Nat.zero_add, maxLen]; omega
    · simp only [List.length_nil, Nat.zero_add]; omega
    · have := hb2.size; omega
    · intro v' w' ho hg hv hb
      go_wp2
      go_ret
      exact ⟨_, rfl, ho, hbs2.trans hb⟩

theorem rcell_facts {w : World} {g te : Nat} {fr : Nat × Nat} {vs us : Nat → Value} {D : Dk.Dsk} (h : w.heap[g]? = some (.cells (Dk.rcells vs us D) te fr)) :
    w.cell? ⟨g, 0, none⟩ = some (vs 0) ∧ w.cell? ⟨g, 1, none⟩ = some (.bool (D.t 0).fresh) ∧ w.cell? ⟨g, 2, none⟩ = some (us 0) ∧ w.cell? ⟨g, 3, none⟩ = some (vs 1) ∧ w.cell? ⟨g, 4, none⟩ = some (.bool (D.t 1).fresh) ∧ w.cell? ⟨g, 5, none⟩ = some (us 1) ∧ w.cell? ⟨g, 6, none⟩ = some (vs 2) ∧ w.cell? ⟨g, 7, none⟩ = some (.bool (D.t 2).fresh) ∧ w.cell? ⟨g, 8, none⟩ = some (us 2) ∧ w.cell? ⟨g, 9, none⟩ = some (vs 3) ∧ w.cell? ⟨g, 10, none⟩ = some (.bool (D.t 3).fresh) ∧ w.cell? ⟨g, 11, none⟩ = some (us 3) ∧ w.cell? ⟨g, 12, none⟩ = some (.int .i64 D.room) ∧ w.cell? ⟨g, 13, none⟩ = some (.int .i64 D.acts) ∧ w.cell? ⟨g, 14, none⟩ = some (.int .i64 D.fuse) ∧ w.cell? ⟨g, 15, none⟩ = some (.bool D.down) := by
  refine ⟨?_, ?_, ?_, ?_, ?_, ?_, ?_, ?_, ?_, ?_, ?_, ?_, ?_, ?_, ?_, ?_⟩ <;> simp [World.cell?, h, Dk.rcells]
def rnil : Nat → Value := fun _ => .slice none 0 0
theorem rf_new (ok : Nat → Prop) (w : World) (r : Int) : RfM ok w rnil rnil (Dk.new r) := ⟨fun i hi => Bt.nil _ _, fun i hi => Bt.nil _ _⟩
set_option maxHeartbeats 800000 in
theorem ref16_New (r : Int) (w : World) (hr : -9223372036854775808 ≤ r ∧ r ≤ 9223372036854775807) :
    Calls Try.prog 27 #[.int .i64 r] w fun e w' => e = .returned (.agg (Dk.rcells rnil rnil (Dk.new r))) ∧ Below w.heap.size w w' := by
  by_cases h0 : r < 0
  · have h0' : decide (r < 0) = true := by simpa using h0
    have hn : (Dk.new r).room = 0 := by show min (max r 0) 4194304 = 0; omega
    have Hn := Lib.hid hn
    clear hn h0
    go_enter Try.func27, Try.ntmps27
    go_wp2_with fail
    rw [show (#[Value.slice none 0 0, .bool false, .slice none 0 0, .slice none 0 0, .bool false, .slice none 0 0, .slice none 0 0, .bool false, .slice none 0 0, .slice none 0 0, .bool false, .slice none 0 0, .int .i64 0, .int .i64 0, .int .i64 0, .bool false] : Array Value) = Dk.rcells rnil rnil (Dk.new r) by unfold Dk.rcells; rw [Hn.out]; rfl]
    have hh := heap_alloc_new w (.cells (Dk.rcells rnil rnil (Dk.new r)) 52)
    have hb := alloc_below w (.cells (Dk.rcells rnil rnil (Dk.new r)) 52)
    obtain ⟨wz, hwz⟩ : ∃ x, x = w.alloc (.cells (Dk.rcells rnil rnil (Dk.new r)) 52) := ⟨_, rfl⟩
    rw [← hwz] at hh hb ⊢
    refine bodyPost_ret (v := .agg (Dk.rcells rnil rnil (Dk.new r))) (results_cell_row Try.results27 _ wz w.heap.size 52 _ (0, 0) _ rfl hh Try.underlying52 rfl (by kernel_rfl)) rfl ?_
    exact ⟨rfl, hb⟩
  · have h0' : decide (r < 0) = false := by simpa using h0
    by_cases h1 : 4194304 < r
    · have h1' : decide (4194304 < r) = true := by simpa using h1
      have hn : (Dk.new r).room = 4194304 := by show min (max r 0) 4194304 = 4194304; omega
      have Hn := Lib.hid hn
      clear hn h0 h1
      go_enter Try.func27, Try.ntmps27
      go_wp2_with fail
      rw [show (#[Value.slice none 0 0, .bool false, .slice none 0 0, .slice none 0 0, .bool false, .slice none 0 0, .slice none 0 0, .bool false, .slice none 0 0, .slice none 0 0, .bool false, .slice none 0 0, .int .i64 4194304, .int .i64 0, .int .i64 0, .bool false] : Array Value) = Dk.rcells rnil rnil (Dk.new r) by unfold Dk.rcells; rw [Hn.out]; rfl]
      have hh := heap_alloc_new w (.cells (Dk.rcells rnil rnil (Dk.new r)) 52)
      have hb := alloc_below w (.cells (Dk.rcells rnil rnil (Dk.new r)) 52)
      obtain ⟨wz, hwz⟩ : ∃ x, x = w.alloc (.cells (Dk.rcells rnil rnil (Dk.new r)) 52) := ⟨_, rfl⟩
      rw [← hwz] at hh hb ⊢
      refine bodyPost_ret (v := .agg (Dk.rcells rnil rnil (Dk.new r))) (results_cell_row Try.results27 _ wz w.heap.size 52 _ (0, 0) _ rfl hh Try.underlying52 rfl (by kernel_rfl)) rfl ?_
      exact ⟨rfl, hb⟩
    · have h1' : decide (4194304 < r) = false := by simpa using h1
      have hn : (Dk.new r).room = r := by show min (max r 0) 4194304 = r; omega
      have Hn := Lib.hid hn
      clear hn h0 h1
      go_enter Try.func27, Try.ntmps27
      go_wp2_with fail
      rw [show (#[Value.slice none 0 0, .bool false, .slice none 0 0, .slice none 0 0, .bool false, .slice none 0 0, .slice none 0 0, .bool false, .slice none 0 0, .slice none 0 0, .bool false, .slice none 0 0, .int .i64 r, .int .i64 0, .int .i64 0, .bool false] : Array Value) = Dk.rcells rnil rnil (Dk.new r) by unfold Dk.rcells; rw [Hn.out]; rfl]
      have hh := heap_alloc_new w (.cells (Dk.rcells rnil rnil (Dk.new r)) 52)
      have hb := alloc_below w (.cells (Dk.rcells rnil rnil (Dk.new r)) 52)
      obtain ⟨wz, hwz⟩ : ∃ x, x = w.alloc (.cells (Dk.rcells rnil rnil (Dk.new r)) 52) := ⟨_, rfl⟩
      rw [← hwz] at hh hb ⊢
      refine bodyPost_ret (v := .agg (Dk.rcells rnil rnil (Dk.new r))) (results_cell_row Try.results27 _ wz w.heap.size 52 _ (0, 0) _ rfl hh Try.underlying52 rfl (by kernel_rfl)) rfl ?_
      exact ⟨rfl, hb⟩
end Go.Proofs.Ytennjoegjghlaaa

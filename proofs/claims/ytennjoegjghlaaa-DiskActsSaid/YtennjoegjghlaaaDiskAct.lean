
/-
  Two disks side by side: the program's and the reference's; bytes that are turned in place.
-/
import Derived.Test.YtennjoegjghlaaaDiskDoA
import Derived.Test.YtennjoegjghlaaaDiskNil
namespace Go.Proofs.Ytennjoegjghlaaa
open Go.RowKit
set_option linter.unusedVariables false

/-- a block of bytes, whatever they are -/
def Bx (w : World) (g n : Nat) : Prop := ∃ (cs : Array Value) (te : Nat), w.heap[g]? = some (.cells cs te (0, 0)) ∧ ∀ i, i < n → ∃ x : BitVec 8, cs[i]? = some (.int .u8 (bv x))
theorem Bx.cell {w : World} {g n : Nat} (h : Bx w g n) {i : Nat} (hi : i < n) : ∃ x : BitVec 8, w.cell? ⟨g, i, none⟩ = some (.int .u8 (bv x)) := by
  obtain ⟨cs, te, hh, hc⟩ := h
  obtain ⟨x, hx⟩ := hc i hi
  exact ⟨x, by simp [World.cell?, hh, hx]⟩
theorem Bx.free {w : World} {g n : Nat} (h : Bx w g n) (i : Nat) : w.frozen? ⟨g, i, none⟩ = false := by
  obtain ⟨cs, te, hh, hc⟩ := h
  simp [World.frozen?, hh]
theorem Bx.set {w : World} {g n : Nat} (h : Bx w g n) (i : Nat) (x : BitVec 8) : Bx (w.setCell ⟨g, i, none⟩ (.int .u8 (bv x))) g n := by
  obtain ⟨cs, te, hh, hc⟩ := h
  refine ⟨_, te, heap_set hh i _, fun j hj => ?_⟩
  rw [Array.getElem?_setIfInBounds]
  split
  · rename_i e
    subst e
    obtain ⟨y, hy⟩ := hc _ hj
    rw [if_pos (Array.getElem?_eq_some_iff.1 hy).1]
    exact ⟨x, rfl⟩
  · exact hc j hj
theorem Own.bx {te : TypeId} {base : Nat} {w : World} {v : Value} {l : List (BitVec 8)} (h : Own EU8 te base w v l) :
    (l = [] ∧ ∃ a c, v = .slice a 0 c) ∨ ∃ g c, v = .slice (some ⟨g, 0, none⟩) l.length c ∧ base ≤ g ∧ Bx w g l.length := by
  rcases h with h | ⟨g, cap, cur, hv, hg, hh, h1, h2, h3, h4⟩
  · exact .inl ⟨h.2, none, 0, h.1⟩
  · refine .inr ⟨g, cap, hv, hg, cur, te, hh, fun i hi => ?_⟩
    obtain ⟨cs, hr, hc⟩ := h4 i l[i] (List.getElem?_eq_getElem hi)
    obtain rfl : cs = [.int .u8 (bv l[i])] := hr
    have := hc 0 _ rfl
    exact ⟨l[i], by simpa [EU8] using this⟩

structure ActsM (B L : Nat) (F : Nat → Prop) (w : World) (g gw : Nat) (D D' : Dk.Dsk) (vs us : Nat → Value) : Prop where
  d : DkOwn B F w g D
  row : w.heap[gw]? = some (.cells (Dk.rcells vs us D') 52 (0, 0))
  nf : ¬ F gw
  bw : B ≤ gw
  rf : RfM (fun k => ¬ F k ∧ k ≠ gw ∧ k < L) w vs us D'
  ll : L ≤ w.heap.size
section
variable {B L : Nat} {F : Nat → Prop} {w w' : World} {g gw : Nat} {D D' : Dk.Dsk} {vs us : Nat → Value}
theorem ActsM.glt (h : ActsM B L F w g gw D D' vs us) : gw < w.heap.size := (Array.getElem?_eq_some_iff.1 h.row).1
theorem ActsM.keep (h : ActsM B L F w g gw D D' vs us) (hb : Below w.heap.size w w') : ActsM B L F w' g gw D D' vs us :=
  ⟨h.d.keep hb, (hb.block gw h.glt).trans h.row, h.nf, h.bw, h.rf.mono fun k hk hlt => ⟨hb.block k hlt, hk⟩, Nat.le_trans h.ll hb.size⟩
theorem ActsM.turn {F' : Nat → Prop} {Dn : Dk.Dsk} (h : ActsM B L F w g gw D D' vs us) (ht : Turns F w F' w') (ha : DkAt F' w' g Dn) (hok : Dk.Ok Dn) : ActsM B L F' w' g gw Dn D' vs us ∧ Below B w w' := by
  obtain ⟨h1, h2⟩ := h.d.turn ht ha hok
  refine ⟨⟨h1, (ht.only.block gw h.glt h.nf).trans h.row, fun hf => ?_, h.bw, h.rf.mono fun k hk hlt => ⟨ht.only.block k hlt hk.1, fun hf => ?_, hk.2⟩, Nat.le_trans h.ll ht.only.size⟩, h2⟩
  · rcases ht.foot gw hf with h3 | h3
    · exact h.nf h3
    · have := h.glt; omega
  · rcases ht.foot k hf with h3 | h3
    · exact hk.1 h3
    · omega
theorem ActsM.only {S : Nat → Prop} (h : ActsM B L F w g gw D D' vs us) (ho : Only S w w') (hS : ∀ k, S k → L ≤ k ∧ ¬ F k ∧ k ≠ gw) : ActsM B L F w' g gw D D' vs us :=
  ⟨⟨h.d.at_.only ho fun k hf hs => (hS k hs).2.1 hf, h.d.ok, h.d.base⟩, (ho.block gw h.glt fun hs => (hS gw hs).2.2 rfl).trans h.row, h.nf, h.bw,
    h.rf.mono fun k hk hlt => ⟨ho.block k hlt fun hs => by have := (hS k hs).1; omega, hk⟩, Nat.le_trans h.ll ho.size⟩
theorem ActsM.up (h : ActsM B L F w g gw D D' vs us) : ActsM B w.heap.size F w g gw D D' vs us :=
  ⟨h.d, h.row, h.nf, h.bw, h.rf.mono fun k hk hlt => ⟨rfl, hk.1, hk.2.1, hlt⟩, Nat.le_refl _⟩
theorem ActsM.s (h : ActsM B L F w g gw D D' vs us) {t : Nat} (ht : t < 4) : w.cell? ⟨gw, t * 3, none⟩ = some (vs t) := by simp [World.cell?, h.row, Dk.rget_s ht]
theorem ActsM.c (h : ActsM B L F w g gw D D' vs us) {t : Nat} (ht : t < 4) : w.cell? ⟨gw, t * 3 + 1, none⟩ = some (.bool (D'.t t).fresh) := by simp [World.cell?, h.row, Dk.rget_c ht]
theorem ActsM.m (h : ActsM B L F w g gw D D' vs us) {t : Nat} (ht : t < 4) : w.cell? ⟨gw, t * 3 + 2, none⟩ = some (us t) := by simp [World.cell?, h.row, Dk.rget_m ht]
theorem ActsM.acts (h : ActsM B L F w g gw D D' vs us) : w.cell? ⟨gw, 13, none⟩ = some (.int .i64 D'.acts) := by simp [World.cell?, h.row, Dk.rcells]
theorem ActsM.down (h : ActsM B L F w g gw D D' vs us) : w.cell? ⟨gw, 15, none⟩ = some (.bool D'.down) := by simp [World.cell?, h.row, Dk.rcells]
end

/-- no byte lies among the reference's disk's cells -/
theorem rcells_nou8 {ok : Nat → Prop} {w : World} {vs us : Nat → Value} {D : Dk.Dsk} (h : RfM ok w vs us D) (i : Nat) (x : Int) : (Dk.rcells vs us D)[i]? ≠ some (.int .u8 x) := by
  intro e
  obtain ⟨a0, c0, e0, _⟩ := h.sa 0 (by decide)
  obtain ⟨a1, c1, e1, _⟩ := h.sa 1 (by decide)
  obtain ⟨a2, c2, e2, _⟩ := h.sa 2 (by decide)
  obtain ⟨a3, c3, e3, _⟩ := h.sa 3 (by decide)
  obtain ⟨b0, d0, f0, _⟩ := h.mo 0 (by decide)
  obtain ⟨b1, d1, f1, _⟩ := h.mo 1 (by decide)
  obtain ⟨b2, d2, f2, _⟩ := h.mo 2 (by decide)
  obtain ⟨b3, d3, f3, _⟩ := h.mo 3 (by decide)
  unfold Dk.rcells at e
  rw [e0, e1, e2, e3, f0, f1, f2, f3] at e
  have hi := (Array.getElem?_eq_some_iff.1 e).1
  have hi' : i < 16 := hi
  have : i = 0 ∨ i = 1 ∨ i = 2 ∨ i = 3 ∨ i = 4 ∨ i = 5 ∨ i = 6 ∨ i = 7 ∨ i = 8 ∨ i = 9 ∨ i = 10 ∨ i = 11 ∨ i = 12 ∨ i = 13 ∨ i = 14 ∨ i = 15 := by omega
  rcases this with rfl | rfl | rfl | rfl | rfl | rfl | rfl | rfl | rfl | rfl | rfl | rfl | rfl | rfl | rfl | rfl <;> simp at e
/-- bytes lie apart from the reference's disk -/
theorem Bt.apart {ok ok' : Nat → Prop} {w w' : World} {vs us : Nat → Value} {D : Dk.Dsk} {gw te : Nat} {fr : Nat × Nat} {v : Value} {l : List (BitVec 8)} (h : Bt ok w v l) (hr : w.heap[gw]? = some (.cells (Dk.rcells vs us D) te fr)) (hm : RfM ok' w vs us D) (ho : Only (· = gw) w w') : Bt (fun _ => True) w' v l := by
  obtain ⟨a, c, rfl, h1, h2, h3⟩ := h
  refine ⟨a, c, rfl, h1, h2, fun k x hx => ?_⟩
  obtain ⟨b, o, rfl, hb, cs, hrep, hc⟩ := h3 k x hx
  obtain rfl : cs = [.int .u8 (bv x)] := hrep
  have h0 := hc 0 _ rfl
  have hne : b ≠ gw := by
    rintro rfl
    simp only [World.cell?, hr] at h0
    exact rcells_nou8 hm _ _ (by simpa using h0)
  refine ⟨b, o, rfl, trivial, [.int .u8 (bv x)], rfl, fun j v hj => ?_⟩
  have h4 := hc j v hj
  rw [← h4]
  exact cell_keep (ho.block b (cell_lt h0) hne)

theorem only_setRow (w : World) (g : Nat) (C : Array Value) : Only (· = g) w (w.setRow g C) :=
  ⟨rfl, rfl, rfl, by simp [World.setRow], fun k _ hk => setRow_other w g k C hk⟩
/-- the reference's disk is put into its place -/
theorem acts_put {B L : Nat} {F : Nat → Prop} {w4 w5 w7 : World} {g gw : Nat} {D D' : Dk.Dsk} {vs us vs' us' : Nat → Value} (h : ActsM B L F w4 g gw D D vs us)
    (hM : RfM (fun k => (¬ F k ∧ k ≠ gw) ∨ w4.heap.size ≤ k) w5 vs' us' D') (hb : Below w4.heap.size w4 w5)
    (hw : w7 = ((w5.alloc (.cells zrow 52)).setRow w5.heap.size (Dk.rcells vs' us' D')).setRow gw (Dk.rcells vs' us' D')) :
    ActsM B w5.heap.size F w7 g gw D D' vs' us' ∧ Below B w4 w7 ∧ Only (· = gw) w5 w7 ∧
    (w5.alloc (.cells zrow 52)).heap[w5.heap.size]? = some (.cells zrow 52 (0, 0)) ∧
    ((w5.alloc (.cells zrow 52)).setRow w5.heap.size (Dk.rcells vs' us' D')).heap[w5.heap.size]? = some (.cells (Dk.rcells vs' us' D') 52 (0, 0)) ∧
    ((w5.alloc (.cells zrow 52)).setRow w5.heap.size (Dk.rcells vs' us' D')).heap[gw]? = some (.cells (Dk.rcells vs us D) 52 (0, 0)) := by
  have hg4 := h.glt
  have hs5 := hb.size
  have a1 : (w5.alloc (.cells zrow 52)).heap[w5.heap.size]? = some (.cells zrow 52 (0, 0)) := heap_alloc_new w5 _
  have a2 := setRow_heap _ _ zrow (Dk.rcells vs' us' D') _ _ a1
  have b5 : Below w5.heap.size w5 ((w5.alloc (.cells zrow 52)).setRow w5.heap.size (Dk.rcells vs' us' D')) := below_setRow (alloc_below w5 _) (Nat.le_refl _) _
  have a3 : ((w5.alloc (.cells zrow 52)).setRow w5.heap.size (Dk.rcells vs' us' D')).heap[gw]? = some (.cells (Dk.rcells vs us D) 52 (0, 0)) := by
    rw [b5.block gw (by omega), hb.block gw hg4]; exact h.row
  have o7 : Only (· = gw) ((w5.alloc (.cells zrow 52)).setRow w5.heap.size (Dk.rcells vs' us' D')) w7 := by rw [hw]; exact only_setRow _ _ _
  have o57 : Only (· = gw) w5 w7 := (Below.only (S := (· = gw)) b5).trans o7 fun _ _ h => h
  have o47 : Only (· = gw) w4 w7 := (Below.only (S := (· = gw)) hb).trans o57 fun _ _ h => h
  refine ⟨⟨⟨h.d.at_.only o47 fun k hf hk => h.nf (by rw [← hk]; exact hf), h.d.ok, h.d.base⟩, by rw [hw]; exact setRow_heap _ _ _ _ _ _ a3, h.nf, h.bw, hM.mono fun k hk hlt => ?_, o57.size⟩, o47.below h.d.size fun k hk => by rw [hk]; exact h.bw, o57, a1, a2, a3⟩
  rcases hk with hk | hk
  · exact ⟨o57.block k hlt hk.2, hk.1, hk.2, hlt⟩
  · have hkg : k ≠ gw := by omega
    exact ⟨o57.block k hlt hkg, fun hf => by have := h.d.flt k hf; omega, hkg, hlt⟩

theorem Bt.none {ok ok' : Nat → Prop} {w w' : World} {v : Value} (h : Bt ok w v []) : Bt ok' w' v [] := by
  obtain ⟨a, c, rfl, h1, h2, _⟩ := h
  exact ⟨a, c, rfl, h1, h2, Sl.nil _ _ _ _⟩
/-- behind the step: both disks are alike, and so are the answers -/
def ActSw (B g gw : Nat) (w : World) (R : Dk.Dsk × List (BitVec 8) × Int) (vs us : Nat → Value) (vb v12 v13 : Value) (wx : World) : Prop :=
  v13 = .int .i64 R.2.2 ∧ Bt (fun _ => True) wx v12 R.2.1 ∧ Bt (fun _ => True) wx vb R.2.1 ∧ Below B w wx ∧ ∃ (L : Nat) (F : Nat → Prop), ActsM B L F wx g gw R.1 R.1 vs us
theorem Dk.read_len {D : Dk.Dsk} (h : Dk.Ok D) (t : Int) : (Dk.read D t).1.length ≤ 4194304 := by
  unfold Dk.read
  split
  · simp
  · have h1 := h.len t.toNat
    have h2 := h.room1
    show (D.t t.toNat).b.length ≤ 4194304
    omega

namespace Dk
theorem act_acts (D : Dsk) (h : 0 ≤ D.acts) : 0 ≤ (act D).1.acts ∧ (act D).1.acts ≤ D.acts + 1 := by
  unfold act
  split
  · exact ⟨h, by show D.acts ≤ D.acts + 1; omega⟩
  · exact ⟨by show 0 ≤ D.acts + 1; omega, Int.le_refl _⟩
theorem dstep_acts (D : Dsk) (o : DStep) (h : 0 ≤ D.acts) : 0 ≤ (dstep D o).1.acts ∧ (dstep D o).1.acts ≤ D.acts + 1 := by
  have h1 : D.acts ≤ D.acts + 1 := by omega
  unfold dstep
  split
  · exact ⟨h, h1⟩
  split
  · exact ⟨h, h1⟩
  split
  · unfold app
    split
    · exact ⟨h, h1⟩
    split
    · exact ⟨h, h1⟩
    · exact act_acts (setT D _ _) h
  split
  · unfold clear
    split
    · exact ⟨h, h1⟩
    · exact act_acts (setT D _ _) h
  split
  · unfold flush
    split
    · exact ⟨h, h1⟩
    split
    · exact act_acts D h
    · exact act_acts D h
  split
  · exact ⟨h, h1⟩
  · exact ⟨h, h1⟩
theorem dstep_fr {D : Dsk} (h : Fr D) (o : DStep) : Fr (dstep D o).1 := by
  unfold dstep
  split
  · exact fr_fuse h _
  split
  · exact fr_crash h _
  split
  · exact fr_app h _ _
  split
  · exact fr_clear h _
  split
  · exact fr_flush h _
  split
  · exact h
  · exact h
end Dk
end Go.Proofs.Ytennjoegjghlaaa

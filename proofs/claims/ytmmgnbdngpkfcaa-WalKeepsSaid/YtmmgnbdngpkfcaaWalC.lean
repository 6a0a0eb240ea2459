
/-
  Laying a state: the memory while it is laid, and the three steps.
  Laying a state: the walk.
-/
import Derived.Test.YtmmgnbdngpkfcaaWalM
namespace Go.Proofs.Ytmmgnbdngpkfcaa
open Go.RowKit
set_option linter.unusedVariables false

namespace Dk
theorem acts_act (D : Dsk) : D.acts ≤ (act D).1.acts ∧ (act D).1.acts ≤ D.acts + 1 := by
  unfold act
  split
  · exact ⟨Int.le_refl _, by simp only; omega⟩
  · exact ⟨by simp only; omega, Int.le_refl _⟩
theorem acts_app (D : Dsk) (t : Int) (b : List (BitVec 8)) : D.acts ≤ (app D t b).1.acts ∧ (app D t b).1.acts ≤ D.acts + 1 := by
  unfold app
  split
  · exact ⟨Int.le_refl _, by simp only; omega⟩
  · split
    · exact ⟨Int.le_refl _, by simp only; omega⟩
    · exact acts_act (setT D t.toNat { D.t t.toNat with b := (D.t t.toNat).b ++ b })
theorem acts_clear (D : Dsk) (t : Int) : D.acts ≤ (clear D t).1.acts ∧ (clear D t).1.acts ≤ D.acts + 1 := by
  unfold clear
  split
  · exact ⟨Int.le_refl _, by simp only; omega⟩
  · exact acts_act (setT D t.toNat (clearT (D.t t.toNat)))
theorem acts_flush (D : Dsk) (t : Int) : D.acts ≤ (flush D t).1.acts ∧ (flush D t).1.acts ≤ D.acts + 1 := by
  unfold flush
  split
  · exact ⟨Int.le_refl _, by simp only; omega⟩
  · split
    · exact acts_act D
    · exact acts_act D
end Dk

structure LayM (w : World) (F0 F G : Nat → Prop) (gl gd pl pt pb pa : Nat) (oa : Obj) (W : World) (D : Dk.Dsk) (L : Wl.Lg) (vs vn : Value) (t : Int) (vb : Value) (bb : List (BitVec 8)) : Prop where
  dk : DkAt F W gd D
  ok : Dk.Ok D
  lg : LgM G W gl gd L vs vn
  dis : ∀ k, F k → ¬ G k
  cl : W.heap[pl]? = some (.cells #[.pointer (some ⟨gl, 0, none⟩)] 60 (0, 0))
  ct : W.heap[pt]? = some (.cells #[.int .i64 t] 3 (0, 0))
  cb : W.heap[pb]? = some (.cells #[vb] 49 (0, 0))
  ca : W.heap[pa]? = some oa
  bt : Byt (fun k => ¬ F k ∧ k ≠ gl) W vb bb
  nf : ∀ k, (k = pl ∨ k = pt ∨ k = pb ∨ k = pa) → ¬ F k ∧ k ≠ gl
  only : Only (fun k => F0 k ∨ k = gl) w W
  foot : ∀ k, F k → F0 k ∨ w.heap.size ≤ k
section
variable {w : World} {F0 F F' G : Nat → Prop} {gl gd pl pt pb pa : Nat} {oa : Obj} {W W' : World} {D D' : Dk.Dsk} {L L' : Wl.Lg} {vs vn : Value} {t : Int} {vb : Value} {bb : List (BitVec 8)}
theorem LayM.kl (h : LayM w F0 F G gl gd pl pt pb pa oa W D L vs vn t vb bb) : W.cell? ⟨pl, 0, none⟩ = some (.pointer (some ⟨gl, 0, none⟩)) := by simp [World.cell?, h.cl]
theorem LayM.kt (h : LayM w F0 F G gl gd pl pt pb pa oa W D L vs vn t vb bb) : W.cell? ⟨pt, 0, none⟩ = some (.int .i64 t) := by simp [World.cell?, h.ct]
theorem LayM.kb (h : LayM w F0 F G gl gd pl pt pb pa oa W D L vs vn t vb bb) : W.cell? ⟨pb, 0, none⟩ = some vb := by simp [World.cell?, h.cb]
theorem LayM.ngl (h : LayM w F0 F G gl gd pl pt pb pa oa W D L vs vn t vb bb) : ¬ F gl := fun hf => h.dis gl hf h.lg.gg
theorem LayM.turn (h : LayM w F0 F G gl gd pl pt pb pa oa W D L vs vn t vb bb) (ht : Turns F W F' W') (ha : DkAt F' W' gd D') (hok : Dk.Ok D') : LayM w F0 F' G gl gd pl pt pb pa oa W' D' L vs vn t vb bb := by
  have lt : ∀ {k : Nat} {o : Obj}, W.heap[k]? = some o → k < W.heap.size := fun e => (Array.getElem?_eq_some_iff.1 e).1
  have nf' : ∀ k, k < W.heap.size → ¬ F k → ¬ F' k := fun k hk hn hf => by
    rcases ht.foot k hf with h1 | h1
    · exact hn h1
    · omega
  refine ⟨ha, hok, h.lg.only ht.only fun k hg hf => h.dis k hf hg, fun k hf hg => ?_, ?_, ?_, ?_, ?_, ?_, fun k hk => ?_, h.only.trans ht.only fun k hk hf => ?_, fun k hf => ?_⟩
  · exact nf' k (h.lg.lt k hg) (fun hf0 => h.dis k hf0 hg) hf
  · rw [ht.only.block pl (lt h.cl) (h.nf pl (.inl rfl)).1]; exact h.cl
  · rw [ht.only.block pt (lt h.ct) (h.nf pt (.inr (.inl rfl))).1]; exact h.ct
  · rw [ht.only.block pb (lt h.cb) (h.nf pb (.inr (.inr (.inl rfl)))).1]; exact h.cb
  · rw [ht.only.block pa (lt h.ca) (h.nf pa (.inr (.inr (.inr rfl)))).1]; exact h.ca
  · exact h.bt.mono fun k hk hlt => ⟨ht.only.block k hlt hk.1, nf' k hlt hk.1, hk.2⟩
  · have hk2 : k < W.heap.size := by
      rcases hk with rfl | rfl | rfl | rfl
      · exact lt h.cl
      · exact lt h.ct
      · exact lt h.cb
      · exact lt h.ca
    exact ⟨nf' k hk2 (h.nf k hk).1, (h.nf k hk).2⟩
  · rcases h.foot k hf with h1 | h1
    · exact .inl h1
    · omega
  · rcases ht.foot k hf with h1 | h1
    · exact h.foot k h1
    · exact .inr (Nat.le_trans h.only.size h1)
theorem LayM.noted (h : LayM w F0 F G gl gd pl pt pb pa oa W D L vs vn t vb bb) (hl : LgM G W' gl gd L' vs vn) (ho : Only (· = gl) W W') : LayM w F0 F G gl gd pl pt pb pa oa W' D L' vs vn t vb bb := by
  have lt : ∀ {k : Nat} {o : Obj}, W.heap[k]? = some o → k < W.heap.size := fun e => (Array.getElem?_eq_some_iff.1 e).1
  refine ⟨h.dk.only ho fun k hf hg => by subst hg; exact h.ngl hf, h.ok, hl, h.dis, ?_, ?_, ?_, ?_, ?_, h.nf, h.only.trans ho fun k _ hk => .inr hk, h.foot⟩
  · rw [ho.block pl (lt h.cl) (h.nf pl (.inl rfl)).2]; exact h.cl
  · rw [ho.block pt (lt h.ct) (h.nf pt (.inr (.inl rfl))).2]; exact h.ct
  · rw [ho.block pb (lt h.cb) (h.nf pb (.inr (.inr (.inl rfl)))).2]; exact h.cb
  · rw [ho.block pa (lt h.ca) (h.nf pa (.inr (.inr (.inr rfl)))).2]; exact h.ca
  · exact h.bt.mono fun k hk hlt => ⟨ho.block k hlt hk.2, hk⟩
theorem LayM.keep (h : LayM w F0 F G gl gd pl pt pb pa oa W D L vs vn t vb bb) (hb : Below W.heap.size W W') : LayM w F0 F G gl gd pl pt pb pa oa W' D L vs vn t vb bb :=
  h.turn (F' := F) ⟨Below.only hb, fun k hk => .inl hk⟩ (h.dk.keep hb) h.ok
end
theorem drew_below (W : World) : Below W.heap.size W W.drew := (Below.refl _ _).drew

section
variable {w : World} {F0 F G : Nat → Prop} {gl gd pl pt pb pa : Nat} {oa : Obj} {D : Dk.Dsk} {L : Wl.Lg} {vs vn : Value} {t : Int} {vb : Value} {bb : List (BitVec 8)}
set_option maxRecDepth 100000 in
theorem lay_one (W : World) (h : LayM w F0 F G gl gd pl pt pb pa oa W D L vs vn t vb bb) (ha : 0 ≤ D.acts ∧ D.acts ≤ 9000000000000000000) :
    Calls Try.prog 120 #[.pointer (some ⟨pl, 0, none⟩), .pointer (some ⟨pt, 0, none⟩)] W fun e W' => e = .returned (.int .i64 (Dk.clear D t).2) ∧ ∃ F', LayM w F0 F' G gl gd pl pt pb pa oa W' (Dk.clear D t).1 L vs vn t vb bb := by
  have kl := h.kl
  have kt := h.kt
  have c0 := h.lg.c0
  have hd := h.dk.keep (drew_below W)
  have Ha := Lib.hid ha
  clear ha
  go_enter Try.func120, Try.ntmps120
  go_wp2_with fail
  go_region_held3 (fun W => W.cell? ⟨pl, 0, none⟩ = some (.pointer (some ⟨gl, 0, none⟩)) ∧ W.cell? ⟨pt, 0, none⟩ = some (.int .i64 t) ∧ W.cell? ⟨gl, 0, none⟩ = some (.pointer (some ⟨gd, 0, none⟩))) (first | go_keep | exact ⟨h1.kl, h1.kt, h1.lg.c0⟩)
    ((first
      | (go_at_call 29; refine (disk_Clear gd D t _ hd h.ok Ha.out).mono ?_; rintro e w1 ⟨rfl, hA, hO⟩; have h1 := (h.keep (drew_below W)).turn ⟨hO, fun k hk => .inl hk⟩ hA (Dk.ok_clear h.ok t))))
  all_goals
    go_wp2_with fail
    go_ret
    exact ⟨rfl, F, h1⟩

set_option maxRecDepth 100000 in
theorem lay_two (W : World) (h : LayM w F0 F G gl gd pl pt pb pa oa W D L vs vn t vb bb) (ha : 0 ≤ D.acts ∧ D.acts ≤ 9000000000000000000) (hl : bb.length ≤ 140737488355328) :
    Calls Try.prog 121 #[.pointer (some ⟨pl, 0, none⟩), .pointer (some ⟨pt, 0, none⟩), .pointer (some ⟨pb, 0, none⟩)] W fun e W' => e = .returned (.int .i64 (Dk.app D t bb).2) ∧ ∃ F', LayM w F0 F' G gl gd pl pt pb pa oa W' (Dk.app D t bb).1 L vs vn t vb bb := by
  have kl := h.kl
  have kt := h.kt
  have kb := h.kb
  have c0 := h.lg.c0
  have hd := h.dk.keep (drew_below W)
  have h2 := h.keep (drew_below W)
  obtain ⟨ab, cb, hvb, hcb, hmb, hsb⟩ := h2.bt
  have hsb2 : Sl EU8 (fun k => ¬ F k) W.drew ab bb := hsb.mono (by decide) fun k hk _ => ⟨rfl, hk.1⟩
  obtain ⟨nb, hnb⟩ : ∃ n, n = bb.length := ⟨_, rfl⟩
  rw [← hnb] at hvb
  rw [hvb] at kb
  have Hvb := Lib.hid hvb
  have Hnb := Lib.hid hnb
  have Ha := Lib.hid ha
  have HL := Lib.hid hl
  clear ha hvb hnb hsb hl
  go_enter Try.func121, Try.ntmps121
  go_wp2_with fail
  go_region_held3 (fun W => W.cell? ⟨pl, 0, none⟩ = some (.pointer (some ⟨gl, 0, none⟩)) ∧ W.cell? ⟨pt, 0, none⟩ = some (.int .i64 t) ∧ W.cell? ⟨pb, 0, none⟩ = some (.slice ab nb cb) ∧ W.cell? ⟨gl, 0, none⟩ = some (.pointer (some ⟨gd, 0, none⟩))) (first | go_keep | exact ⟨h1.kl, h1.kt, (h1.kb).trans (by rw [Hvb.out]), h1.lg.c0⟩)
    ((first
      | (go_at_call 30; refine (disk_Append gd D t _ _ _ bb _ hd h.ok Ha.out Hnb.out hsb2 HL.out).mono ?_; rintro e w1 ⟨rfl, F', hA, hO⟩; have h1 := h2.turn hO hA (Dk.ok_app h.ok t bb))))
  all_goals
    go_wp2_with fail
    go_ret
    exact ⟨rfl, F', h1⟩

set_option maxRecDepth 100000 in
theorem lay_three (W : World) (h : LayM w F0 F G gl gd pl pt pb pa oa W D L vs vn t vb bb) (ha : 0 ≤ D.acts ∧ D.acts ≤ 9000000000000000000) :
    Calls Try.prog 122 #[.pointer (some ⟨pl, 0, none⟩), .pointer (some ⟨pt, 0, none⟩)] W fun e W' => e = .returned (.int .i64 (Dk.flush D t).2) ∧ ∃ F', LayM w F0 F' G gl gd pl pt pb pa oa W' (Dk.flush D t).1 L vs vn t vb bb := by
  have kl := h.kl
  have kt := h.kt
  have c0 := h.lg.c0
  have hd := h.dk.keep (drew_below W)
  have Ha := Lib.hid ha
  clear ha
  go_enter Try.func122, Try.ntmps122
  go_wp2_with fail
  go_region_held3 (fun W => W.cell? ⟨pl, 0, none⟩ = some (.pointer (some ⟨gl, 0, none⟩)) ∧ W.cell? ⟨pt, 0, none⟩ = some (.int .i64 t) ∧ W.cell? ⟨gl, 0, none⟩ = some (.pointer (some ⟨gd, 0, none⟩))) (first | go_keep | exact ⟨h1.kl, h1.kt, h1.lg.c0⟩)
    ((first
      | (go_at_call 31; refine (disk_Flush gd D t _ hd h.ok Ha.out).mono ?_; rintro e w1 ⟨rfl, hA, hO⟩; have h1 := (h.keep (drew_below W)).turn ⟨hO, fun k hk => .inl hk⟩ hA (Dk.ok_flush h.ok t))))
  all_goals
    go_wp2_with fail
    go_ret
    exact ⟨rfl, F, h1⟩
end
end Go.Proofs.Ytmmgnbdngpkfcaa

namespace Go.Proofs.Ytmmgnbdngpkfcaa
open Go.RowKit
set_option linter.unusedVariables false

def LayIs (w : World) (F0 G : Nat → Prop) (gl gd : Nat) (R : Dk.Dsk × Wl.Lg × Int) (vs vn : Value) (e : Ending) (w' : World) : Prop :=
  e = .returned (.int .i64 R.2.2) ∧ ∃ F', DkAt F' w' gd R.1 ∧ Dk.Ok R.1 ∧ LgM G w' gl gd R.2.1 vs vn ∧ (∀ k, F' k → ¬ G k) ∧ (∀ k, F' k → F0 k ∨ w.heap.size ≤ k) ∧ Only (fun k => F0 k ∨ k = gl) w w'
theorem own_ne {α : Type} {E : Enc α} {te te' : TypeId} {base : Nat} {w : World} {v : Value} {l : List α} {pb : Nat} {cs : Array Value} {fr : Nat × Nat} (h : Own E te base w v l) (hh : w.heap[pb]? = some (.cells cs te' fr)) (hne : te ≠ te') : ∀ x, v.ownBlock = some x → x ≠ pb := by
  intro x hx e
  subst e
  rcases h with ⟨rfl, _⟩ | ⟨g, cap, cur, rfl, hg, hh2, _⟩
  · simp [Value.ownBlock] at hx
  · simp only [Value.ownBlock, Option.some.injEq] at hx
    subst hx
    rw [hh] at hh2
    injection hh2 with hh2
    injection hh2 with _ h3 _
    exact hne h3.symm

namespace Wl
/-- how far it has been laid -/
def StepAt (D : Dk.Dsk) (T : Int) (bb : Byt) : Nat → Dk.Dsk → Prop
  | 0, E => E = D
  | 1, E => (Dk.clear D T).2 = 0 ∧ E = (Dk.clear D T).1
  | 2, E => (Dk.clear D T).2 = 0 ∧ (Dk.app (Dk.clear D T).1 T bb).2 = 0 ∧ E = (Dk.app (Dk.clear D T).1 T bb).1
  | _, E => (Dk.clear D T).2 = 0 ∧ (Dk.app (Dk.clear D T).1 T bb).2 = 0 ∧ (Dk.flush (Dk.app (Dk.clear D T).1 T bb).1 T).2 = 0 ∧ E = (Dk.flush (Dk.app (Dk.clear D T).1 T bb).1 T).1
theorem StepAt.acts {D E : Dk.Dsk} {T : Int} {bb : Byt} {k : Nat} (h : StepAt D T bb k E) (hk : k ≤ 3) : D.acts ≤ E.acts ∧ E.acts ≤ D.acts + 3 := by
  have h1 := Dk.acts_clear D T
  have h2 := Dk.acts_app (Dk.clear D T).1 T bb
  have h3 := Dk.acts_flush (Dk.app (Dk.clear D T).1 T bb).1 T
  match k, hk with
  | 0, _ => obtain rfl : E = D := h; omega
  | 1, _ => obtain ⟨_, rfl⟩ := h; omega
  | 2, _ => obtain ⟨_, _, rfl⟩ := h; omega
  | 3, _ => obtain ⟨_, _, _, rfl⟩ := h; omega
theorem lay_e1 (D : Dk.Dsk) (L : Lg) (h : (Dk.clear D (tp (L.turn + 1))).2 ≠ 0) : lay D L = ((Dk.clear D (tp (L.turn + 1))).1, note L (Dk.clear D (tp (L.turn + 1))).2, (Dk.clear D (tp (L.turn + 1))).2) := by
  unfold lay; rw [if_pos h]
theorem lay_e2 (D : Dk.Dsk) (L : Lg) (h1 : (Dk.clear D (tp (L.turn + 1))).2 = 0) (h : (Dk.app (Dk.clear D (tp (L.turn + 1))).1 (tp (L.turn + 1)) (layB L)).2 ≠ 0) : lay D L = ((Dk.app (Dk.clear D (tp (L.turn + 1))).1 (tp (L.turn + 1)) (layB L)).1, note L (Dk.app (Dk.clear D (tp (L.turn + 1))).1 (tp (L.turn + 1)) (layB L)).2, (Dk.app (Dk.clear D (tp (L.turn + 1))).1 (tp (L.turn + 1)) (layB L)).2) := by
  unfold lay; rw [if_neg (by rw [h1]; decide), if_pos h]
theorem lay_e3 (D : Dk.Dsk) (L : Lg) (h1 : (Dk.clear D (tp (L.turn + 1))).2 = 0) (h2 : (Dk.app (Dk.clear D (tp (L.turn + 1))).1 (tp (L.turn + 1)) (layB L)).2 = 0) (h : (Dk.flush (Dk.app (Dk.clear D (tp (L.turn + 1))).1 (tp (L.turn + 1)) (layB L)).1 (tp (L.turn + 1))).2 ≠ 0) :
    lay D L = ((Dk.flush (Dk.app (Dk.clear D (tp (L.turn + 1))).1 (tp (L.turn + 1)) (layB L)).1 (tp (L.turn + 1))).1, note L (Dk.flush (Dk.app (Dk.clear D (tp (L.turn + 1))).1 (tp (L.turn + 1)) (layB L)).1 (tp (L.turn + 1))).2, (Dk.flush (Dk.app (Dk.clear D (tp (L.turn + 1))).1 (tp (L.turn + 1)) (layB L)).1 (tp (L.turn + 1))).2) := by
  unfold lay; rw [if_neg (by rw [h1]; decide), if_neg (by rw [h2]; decide), if_pos h]
theorem lay_e4 (D : Dk.Dsk) (L : Lg) (h1 : (Dk.clear D (tp (L.turn + 1))).2 = 0) (h2 : (Dk.app (Dk.clear D (tp (L.turn + 1))).1 (tp (L.turn + 1)) (layB L)).2 = 0) (h : (Dk.flush (Dk.app (Dk.clear D (tp (L.turn + 1))).1 (tp (L.turn + 1)) (layB L)).1 (tp (L.turn + 1))).2 = 0) :
    lay D L = ((Dk.flush (Dk.app (Dk.clear D (tp (L.turn + 1))).1 (tp (L.turn + 1)) (layB L)).1 (tp (L.turn + 1))).1, { L with turn := L.turn + 1 }, 0) := by
  unfold lay; rw [if_neg (by rw [h1]; decide), if_neg (by rw [h2]; decide), if_neg (by rw [h]; decide)]
end Wl

section
variable {F G : Nat → Prop} {gl gd : Nat} {D : Dk.Dsk} {L : Wl.Lg} {vs vn : Value}
theorem LayM.is {w W : World} {F' : Nat → Prop} {pl pt pb pa : Nat} {oa : Obj} {E : Dk.Dsk} {L' : Wl.Lg} {t : Int} {vb : Value} {bb : List (BitVec 8)} {R : Dk.Dsk × Wl.Lg × Int} {e : Int} (h : LayM w F F' G gl gd pl pt pb pa oa W E L' vs vn t vb bb) (hR : R = (E, L', e)) : LayIs w F G gl gd R vs vn (.returned (.int .i64 e)) W := by
  subst hR
  exact ⟨rfl, F', h.dk, h.ok, h.lg, h.dis, h.foot, h.only⟩
set_option maxRecDepth 100000 in
set_option maxHeartbeats 6400000 in
theorem wal_lay (B : Nat) (w : World) (hB : w.heap.size = B) (hd : DkAt F w gd D) (hok : Dk.Ok D) (ha : 0 ≤ D.acts ∧ D.acts ≤ 8000000000000000000) (hl : LgM G w gl gd L vs vn) (hdis : ∀ k, F k → ¬ G k) (hL : Wl.Ok L) :
    Calls Try.prog 82 #[.pointer (some ⟨gl, 0, none⟩)] w fun e w' => LayIs w F G gl gd (Wl.lay D L) vs vn e w' := by
  obtain ⟨R, hR⟩ : ∃ R, R = Wl.lay D L := ⟨_, rfl⟩
  rw [← hR]
  have HR := Lib.hid hR
  have HB := Lib.hid hB
  obtain ⟨w1, hw1⟩ : ∃ x, x = w.alloc (.cells #[.pointer (some ⟨gl, 0, none⟩)] 60) := ⟨_, rfl⟩
  have hb1 : Below B w w1 := by rw [← hB, hw1]; exact alloc_below _ _
  have hsz1 : w1.heap.size = B + 1 := by rw [hw1]; simp [hB]
  have hp1 : w1.heap[B]? = some (.cells #[.pointer (some ⟨gl, 0, none⟩)] 60 (0, 0)) := by rw [← hB, hw1]; exact heap_alloc_new w _
  have hl1 : LgM G w1 gl gd L vs vn := hl.keep (by rw [hB]; exact hb1)
  obtain ⟨aS, cS, hvs, hcS, hmS, hsS⟩ := hl1.st
  obtain ⟨aN, cN, hvn, hcN, hmN, hsN, hoN⟩ := hl1.ns.shape L.notes.length rfl
  obtain ⟨nS, hnS⟩ : ∃ n, n = L.state.length := ⟨_, rfl⟩
  obtain ⟨nN, hnN⟩ : ∃ n, n = L.notes.length := ⟨_, rfl⟩
  obtain ⟨tn, htn⟩ : ∃ n, n = L.turn := ⟨_, rfl⟩
  have htn1 : tn ≤ 1099511627776 := by rw [htn]; exact hL.turn
  have hnN1 : nN ≤ 89478486 := by rw [hnN]; exact hL.many
  have hhl := hL.hlen
  have hall := hL.all
  have hnote := hL.note
  have k0 : w1.cell? ⟨B, 0, none⟩ = some (.pointer (some ⟨gl, 0, none⟩)) := by simp [World.cell?, hp1]
  have k1 := hl1.c1
  have k2 := hl1.c2
  have k3 := hl1.c3
  rw [hvs, ← hnS] at k2
  rw [hvn, ← hnN] at k3
  rw [← htn] at k1 hhl
  rw [← hnN] at hhl
  have hrS : RB w1 aS nS L.state := ⟨hnS, hsS.any (by decide)⟩
  have hglB : gl < B + 1 := by have := hl1.lt gl hl1.gg; omega
  obtain ⟨t1, ht1⟩ : ∃ k, k = tn + 1 := ⟨_, rfl⟩
  rw [← ht1] at hhl
  have hwr : IntKind.i64.wrap ((tn : Int) + 1) = (t1 : Int) := by rw [IntWalk.i64_in _ (by omega)]; omega
  have ht1l : t1 ≤ 1099511627777 := by omega
  have Ht1 := Lib.hid ht1
  clear ht1
  obtain ⟨hb, hhb⟩ : ∃ x, x = Frm.enc 1 (Wl.hdata t1 nN L.state) := ⟨_, rfl⟩
  have hhbl : hb.length ≤ 65546 := by rw [hhb, Frm.enc_len]; omega
  obtain ⟨nb, hnb⟩ : ∃ n, n = hb.length := ⟨_, rfl⟩
  rw [← hnb] at hhbl
  have Hhb := Lib.hid hhb
  have Hnb := Lib.hid hnb
  clear hnb
  have Hvs := Lib.hid hvs
  have Hvn := Lib.hid hvn
  have HnS := Lib.hid hnS
  have HnN := Lib.hid hnN
  have Htn := Lib.hid htn
  have HhL := Lib.hid hhl
  have Hall := Lib.hid hall
  have Hnote := Lib.hid hnote
  have HLt := Lib.hid hL
  have Hsz1 := Lib.hid hsz1
  have HsN := Lib.hid hsN
  have HoN := Lib.hid hoN
  have Hl1 := Lib.hid hl1
  have Hl := Lib.hid hl
  have Hd := Lib.hid hd
  have Hok := Lib.hid hok
  have Ha := Lib.hid ha
  have Hdis := Lib.hid hdis
  have Hp1 := Lib.hid hp1
  clear hR hvs hvn hnS hnN htn hhl hall hnote hL hsS hsN hoN hl hd hok ha hdis hp1
  have hkeep : ∀ W : World, Below (B + 1) w1 W → (W.cell? ⟨B, 0, none⟩ = some (.pointer (some ⟨gl, 0, none⟩)) ∧ W.cell? ⟨gl, 1, none⟩ = some (.int .i64 tn) ∧ W.cell? ⟨gl, 2, none⟩ = some (.slice aS nS cS) ∧ W.cell? ⟨gl, 3, none⟩ = some (.slice aN nN cN)) := fun W h => by
    exact ⟨by rw [h.cell (p := ⟨B, 0, none⟩) (by simp)]; exact k0, by rw [h.cell (p := ⟨gl, 1, none⟩) hglB]; exact k1, by rw [h.cell (p := ⟨gl, 2, none⟩) hglB]; exact k2, by rw [h.cell (p := ⟨gl, 3, none⟩) hglB]; exact k3⟩
  have Hkeep := Lib.hid hkeep
  clear hkeep
  go_enter Try.func82, Try.ntmps82
  go_upto_region 1 with fail
  rw [← hw1]
  clear hw1 hsz1 hB
  go_cut [3, 4] (fun s3 s4 wx => ∃ pb a2 c2, s3 = .pointer (some ⟨pb, 0, none⟩) ∧ s4 = .int .i64 0 ∧ B + 1 ≤ pb ∧ wx.heap[pb]? = some (.cells #[.slice a2 nb c2] 49 (0, 0)) ∧ Own EU8 5 (B + 1) wx (.slice a2 nb c2) hb ∧ Below (B + 1) w1 wx)
  case first =>
    have hbd : Below (B + 1) w1 w1.drew := (Below.refl _ _).drew
    have hsd : w1.drew.heap.size = B + 1 := Hsz1.out
    have hba : Below (B + 1) w1 (w1.drew.alloc (.cells #[.slice none 0 0] 49)) := hbd.alloc (Nat.le_of_eq hsd.symm) _
    have hsa : (w1.drew.alloc (.cells #[.slice none 0 0] 49)).heap.size = B + 2 := by simp [hsd]
    have hha : (w1.drew.alloc (.cells #[.slice none 0 0] 49)).heap[w1.heap.size]? = some (.cells #[.slice none 0 0] 49 (0, 0)) := heap_alloc_new w1.drew _
    have hr1 : RB w1.drew aS nS L.state := hrS.below (drew_below w1)
    have hr2 : RB (w1.drew.alloc (.cells #[.slice none 0 0] 49)) aS nS L.state := hrS.below (by rw [Hsz1.out]; exact hba)
    have Hsd := Lib.hid hsd
    have Hsa := Lib.hid hsa
    have Hha := Lib.hid hha
    clear hsd hsa hha
    go_region_held3 (fun W => W.cell? ⟨B, 0, none⟩ = some (.pointer (some ⟨gl, 0, none⟩)) ∧ W.cell? ⟨gl, 1, none⟩ = some (.int .i64 tn) ∧ W.cell? ⟨gl, 2, none⟩ = some (.slice aS nS cS) ∧ W.cell? ⟨gl, 3, none⟩ = some (.slice aN nN cN))
      (first | go_keep | exact Hkeep.out _ hba | exact Hkeep.out _ hb2 | exact Hkeep.out _ (hb2.alloc hz2 _) | exact Hkeep.out _ ((hb2.alloc hz2 _).setCell hz2 _) | exact Hkeep.out _ (hb2.setCell (Nat.le_of_eq Hsz1.out.symm) _))
      ((first
        | (go_at_call 119
           first
           | (refine (wal_head t1 nN _ _ _ L.state (B + 1) _ (by exact Hsd.out) (by omega) (by omega) hr1 (by have := HhL.out; omega)).mono ?_
              rintro e w2 ⟨v2, rfl, ho2, hb2⟩
              rw [← Hhb.out] at ho2
              obtain ⟨a2, c2, rfl, hc2, hm2, hr2', ho2⟩ := ho2.shape nb Hnb.out
              have hz2 : B + 1 ≤ w2.heap.size := by rw [← Hsd.out]; exact hb2.size
              have cp2 : (w2.alloc (.cells #[.slice none 0 0] 49)).cell? ⟨w2.heap.size, 0, none⟩ = some (.slice none 0 0) := by simp
              have fp2 : (w2.alloc (.cells #[.slice none 0 0] 49)).frozen? ⟨w2.heap.size, 0, none⟩ = false := by simp
              have hb2 := hbd.trans hb2)
           | (refine (wal_head t1 nN _ _ _ L.state (B + 2) _ (by exact Hsa.out) (by omega) (by omega) hr2 (by have := HhL.out; omega)).mono ?_
              rintro e w2 ⟨v2, rfl, ho2, hb2⟩
              rw [← Hhb.out] at ho2
              obtain ⟨a2, c2, rfl, hc2, hm2, hr2', ho2⟩ := ho2.shape nb Hnb.out
              have hz2 : B + 1 ≤ w2.heap.size := by have := hb2.size; have := Hsa.out; omega
              have hp2 : w2.heap[w1.heap.size]? = some (.cells #[.slice none 0 0] 49 (0, 0)) := by rw [hb2.block _ (by rw [Hsz1.out]; omega)]; exact Hha.out
              have cp2 : w2.cell? ⟨w1.heap.size, 0, none⟩ = some (.slice none 0 0) := by simp [World.cell?, hp2]
              have fp2 : w2.frozen? ⟨w1.heap.size, 0, none⟩ = false := by simp [World.frozen?, hp2]
              have hb2 := hba.trans (hb2.mono (by omega))))))
    all_goals go_wp2_with fail
    all_goals go_meet
    all_goals first
      | (refine ⟨w2.heap.size, a2, c2, rfl, rfl, hz2, heap_alloc_new w2 _, ho2.below (alloc_below _ _), hb2.alloc hz2 _⟩)
      | (refine ⟨w1.heap.size, a2, c2, rfl, rfl, Nat.le_of_eq Hsz1.out.symm, heap_set hp2 0 _, Own.except (ho2.base (by omega)) fun x hx e => ?_, hb2.setCell (Nat.le_of_eq Hsz1.out.symm) _⟩
         have h1 := (ho2.lt x hx).1
         have h2 := Hsz1.out
         have h3 : x = w1.heap.size := e
         omega)
  obtain ⟨pb, a2, c2, rfl, rfl, hpb, hh2, ho2, hbc⟩ := hcut
  have hkc := Hkeep.out wc hbc
  obtain ⟨k0', k1', k2', k3'⟩ := hkc
  clear k0 k1 k2 k3 hrS
  go_wp2_with fail
  go_loopw [39] (fun i wr => ∃ (k n3 : Nat) (a3 : Option Addr) (c3 : Nat), k ≤ nN ∧ i = .int .i64 k ∧ wr.heap[pb]? = some (.cells #[.slice a3 n3 c3] 49 (0, 0)) ∧ Own EU8 5 (B + 1) wr (.slice a3 n3 c3) (hb ++ Frm.encs (Wl.nfs (L.notes.take k))) ∧ n3 = (hb ++ Frm.encs (Wl.nfs (L.notes.take k))).length ∧ Below (B + 1) w1 wr) (fun i _ => nN - (intOf i).toNat)
  case atStart => exact ⟨0, nb, a2, c2, Nat.zero_le _, rfl, hh2, by simpa [Wl.nfs, Frm.encs] using ho2, by simpa [Wl.nfs, Frm.encs] using Hnb.out, hbc⟩
  case round =>
    obtain ⟨k, n3, a3, c3, hk, rfl, hp3, ho3, hn3, hbr⟩ := hrel
    have hsr : B + 1 ≤ wr.heap.size := by rw [← Hsz1.out]; exact hbr.size
    clear hh2 ho2 k0' k1' k2' k3' hbc
    obtain ⟨k0', k1', k2', k3'⟩ := Hkeep.out wr hbr
    have Hn3 := Lib.hid hn3
    clear hn3
    have q3 : wr.cell? ⟨pb, 0, none⟩ = some (.slice a3 n3 c3) := by simp [World.cell?, hp3]
    by_cases hlt : k < nN
    · have hki : (k : Int) < (nN : Int) := by omega
      have hkf : k < L.notes.length := by rw [← HnN.out]; exact hlt
      obtain ⟨b6, o6, rfl, -, cs, hr6, hc6⟩ := HsN.out.2 k L.notes[k] (List.getElem?_eq_getElem hkf)
      obtain ⟨d, hx⟩ : ∃ x, x = L.notes[k] := ⟨_, rfl⟩
      have hdn : d.length ≤ 65536 := Hnote.out d (by rw [hx]; exact List.getElem_mem hkf)
      rw [← hx] at hr6
      obtain ⟨a7, c7, rfl, h71, h72, h73⟩ := hr6
      have p1 : w1.cell? ⟨b6, o6 + k, none⟩ = some (.slice a7 d.length c7) := by simpa [EBytes, ESlice, EOk] using hc6 0 _ rfl
      have s1 : wr.cell? ⟨b6, o6 + k, none⟩ = some (.slice a7 d.length c7) := by rw [hbr.cell (p := ⟨b6, o6 + k, none⟩) (by have := cell_lt p1; rw [Hsz1.out] at this; exact this)]; exact p1
      have h74 : Sl EU8 (fun _ => True) wr a7 d := h73.mono (by decide) fun q hq hlt => ⟨hbr.block q (by rw [Hsz1.out] at hlt; exact hlt), trivial⟩
      obtain ⟨dl, hdl⟩ : ∃ n, n = d.length := ⟨_, rfl⟩
      rw [← hdl] at s1 hdn
      have hstep : Frm.encs (Wl.nfs (L.notes.take (k + 1))) = Frm.encs (Wl.nfs (L.notes.take k)) ++ Frm.enc 2 d := by
        rw [List.take_add_one, List.getElem?_eq_getElem hkf, ← hx, Option.toList_some, Wl.nfs_app, Frm.encs_app]
        simp [Wl.nfs, Frm.encs]
      have hsum : (hb ++ Frm.encs (Wl.nfs (L.notes.take k))).length + (Frm.enc 2 d).length ≤ 1073807370 := by
        have e1 : L.notes = L.notes.take (k + 1) ++ L.notes.drop (k + 1) := (List.take_append_drop _ _).symm
        have e2 : (Frm.encs (Wl.nfs L.notes)).length = (Frm.encs (Wl.nfs (L.notes.take (k + 1)))).length + (Frm.encs (Wl.nfs (L.notes.drop (k + 1)))).length := by
          conv => lhs; rw [e1]
          rw [Wl.nfs_app, Frm.encs_app, List.length_append]
        rw [hstep, List.length_append] at e2
        have := Hall.out
        have := Hnb.out
        rw [List.length_append]
        omega
      have Hstep := Lib.hid hstep
      have Hsum := Lib.hid hsum
      have Hdl := Lib.hid hdl
      have Hp3 := Lib.hid hp3
      have H73 := Lib.hid h73
      clear hstep hsum hx hc6 p1 hdl hkf h71 h72 h73 hp3
      go_wp2_with fail
      refine (frame_Encode_ok 2 _ _ _ d _ (by decide) hdn ⟨Hdl.out, h74⟩).mono ?_
      rintro e w8 ⟨v8, rfl, ho8, hb8⟩
      obtain ⟨a8, c8, rfl, hc8, hm8, hr8, ho8'⟩ := ho8.shape _ rfl
      have hsl8 : Sl EU8 (fun b => some b ≠ (Value.slice a3 n3 c3).ownBlock) w8 a8 (Frm.enc 2 d) := ho8'.slB.mono (by decide) fun q hq _ => ⟨rfl, fun e => by have := (ho3.lt q e.symm).2; omega⟩
      have ho38 := ho3.below hb8
      have hp8 : w8.heap[pb]? = some (.cells #[.slice a3 n3 c3] 49 (0, 0)) := by rw [hb8.block pb (Array.getElem?_eq_some_iff.1 Hp3.out).1]; exact Hp3.out
      have q8 : w8.cell? ⟨pb, 0, none⟩ = some (.slice a3 n3 c3) := by simp [World.cell?, hp8]
      have Hp8 := Lib.hid hp8
      have Hb8 := Lib.hid hb8
      have hbr8 : Below (B + 1) w1 w8 := hbr.trans (hb8.mono hsr)
      have Hsz8 := Lib.hid (Nat.le_trans hsr hb8.size)
      clear hp8 hb8 ho8 hr8
      go_wp2_with (first
        | (refine wpList_app EU8 (l2 := Frm.enc 2 d) rfl rfl (by rfl) (by rfl) ti_bytes ho38 rfl hsl8 (by have := Hsum.out; unfold maxLen; omega) (by have := Hsum.out; omega) Hsz8.out ?_
           intro v9 w9 ho9 hg9 hv9 hb9
           obtain ⟨n9, hn9⟩ : ∃ n, n = (hb ++ Frm.encs (Wl.nfs (L.notes.take k)) ++ Frm.enc 2 d).length := ⟨_, rfl⟩
           obtain ⟨a9, c9, rfl, hc9, hm9, hr9, ho9'⟩ := ho9.shape n9 hn9
           have hp9 : w9.heap[pb]? = some (.cells #[.slice a3 n3 c3] 49 (0, 0)) := by
             rw [hg9.block pb (Array.getElem?_eq_some_iff.1 Hp8.out).1 (fun e => own_ne ho38 Hp8.out (by decide) pb e.symm rfl)]; exact Hp8.out
           have q9 : w9.cell? ⟨pb, 0, none⟩ = some (.slice a3 n3 c3) := by simp [World.cell?, hp9]
           have f9 : w9.frozen? ⟨pb, 0, none⟩ = false := by simp [World.frozen?, hp9]
           have Hp9 := Lib.hid hp9
           have Hn9 := Lib.hid hn9
           clear hp9 hn9 hr9))
      refine ⟨⟨k + 1, n9, a9, c9, by omega, by go_num, heap_set Hp9.out 0 _, ?_, ?_, (hbr8.trans hb9).setCell hpb _⟩, by simp [intOf]; omega⟩
      · rw [Hstep.out, ← List.append_assoc]
        exact Own.except ho9' fun x hx => own_ne ho9' Hp9.out (by decide) x hx
      · rw [Hn9.out, Hstep.out, List.append_assoc]
    · obtain rfl : k = nN := by omega
      obtain ⟨bb, hbb⟩ : ∃ x, x = Wl.layB L := ⟨_, rfl⟩
      obtain ⟨T, hT⟩ : ∃ x, x = Wl.tp (L.turn + 1) := ⟨_, rfl⟩
      have hT2 : T = Wl.tp t1 := by rw [hT, ← Htn.out, ← Ht1.out]
      have hbb2 : hb ++ Frm.encs (Wl.nfs (L.notes.take k)) = bb := by
        rw [hbb, Hhb.out, HnN.out, List.take_length, Ht1.out, Htn.out]; rfl
      rw [hbb2] at ho3 Hn3
      have hbbl : bb.length ≤ 1073807370 := by rw [hbb]; exact HLt.out.blen
      have Hbb := Lib.hid hbb
      have HT := Lib.hid hT
      have HT2 := Lib.hid hT2
      have hbbl2 : bb.length ≤ 140737488355328 := by omega
      have Hbbl := Lib.hid hbbl2
      have Hp3 := Lib.hid hp3
      have Ho3 := Lib.hid ho3
      clear hbb hT hT2 hbb2 hbbl hbbl2 hp3 ho3 hlt
      go_wp2_with fail
      refine (wal_tape t1 _ (by omega)).mono ?_
      rw [← HT2.out]
      rintro e wt ⟨rfl, rfl⟩
      obtain ⟨w4, hw4⟩ : ∃ x, x = wr.alloc (.cells #[.int .i64 T] 3) := ⟨_, rfl⟩
      go_upto_region 13 with fail
      rw [← hw4]
      obtain ⟨pt, hpt⟩ : ∃ p, p = wr.heap.size := ⟨_, rfl⟩
      rw [← hpt]
      have hb4 : Below (B + 1) w1 w4 := by rw [hw4]; exact hbr.alloc hsr _
      have hs4 : B + 1 ≤ w4.heap.size := by rw [← Hsz1.out]; exact hb4.size
      have hh4 : w4.heap[pt]? = some (.cells #[.int .i64 T] 3 (0, 0)) := by rw [hw4, hpt]; exact heap_alloc_new wr _
      have hp4 : w4.heap[pb]? = some (.cells #[.slice a3 n3 c3] 49 (0, 0)) := by rw [hw4, (alloc_below wr _).block pb (Array.getElem?_eq_some_iff.1 Hp3.out).1]; exact Hp3.out
      have ho4 : Own EU8 5 (B + 1) w4 (.slice a3 n3 c3) bb := by rw [hw4]; exact Ho3.out.below (alloc_below _ _)
      have hptB : B + 1 ≤ pt := by rw [hpt]; exact hsr
      clear hw4 hpt
      obtain ⟨oa, hoa⟩ : ∃ o, o = Obj.cells #[.func (.func 120) #[] #[.pointer (some ⟨B, 0, none⟩), .pointer (some ⟨pt, 0, none⟩)], .func (.func 121) #[] #[.pointer (some ⟨B, 0, none⟩), .pointer (some ⟨pt, 0, none⟩), .pointer (some ⟨pb, 0, none⟩)], .func (.func 122) #[] #[.pointer (some ⟨B, 0, none⟩), .pointer (some ⟨pt, 0, none⟩)]] 66 (0, 0) := ⟨_, rfl⟩
      obtain ⟨pa, hpa⟩ : ∃ p, p = w4.heap.size := ⟨_, rfl⟩
      obtain ⟨w5, hw5⟩ : ∃ x, x = w4.alloc oa := ⟨_, rfl⟩
      have hb45 : Below w4.heap.size w4 w5 := by rw [hw5]; exact alloc_below _ _
      have hb5 : Below (B + 1) w1 w5 := hb4.trans (hb45.mono hs4)
      have hbw5 : Below w.heap.size w w5 := by rw [HB.out]; exact hb1.trans (hb5.mono (Nat.le_succ B))
      have hFl : ∀ k, F k → k < B := fun k hk => by
        obtain ⟨vs', os', hdm⟩ := Hd.out
        have := hdm.flt k hk
        rw [HB.out] at this; exact this
      have hgl : gl < B := by have := Hl.out.lt gl Hl.out.gg; rw [HB.out] at this; exact this
      have hm5 : LayM w F F G gl gd B pt pb pa oa w5 D L vs vn T (.slice a3 n3 c3) bb := by
        refine ⟨Hd.out.keep hbw5, Hok.out, Hl.out.keep hbw5, Hdis.out, ?_, ?_, ?_, ?_, ?_, fun k hk => ?_, Below.only hbw5, fun k hk => .inl hk⟩
        · rw [hb5.block B (Nat.lt_succ_self B)]; exact Hp1.out
        · rw [hb45.block pt (Array.getElem?_eq_some_iff.1 hh4).1]; exact hh4
        · rw [hb45.block pb (Array.getElem?_eq_some_iff.1 hp4).1]; exact hp4
        · rw [hw5, hpa]; exact heap_alloc_new w4 _
        · obtain ⟨a', c', e, g1, g2, g3⟩ := (ho4.below hb45).byt
          exact ⟨a', c', e, g1, g2, g3.mono (by decide) fun q hq _ => ⟨rfl, fun hf => by have := hFl q hf; have := hq.1; omega, fun e => by have := hq.1; omega⟩⟩
        · have hkB : B ≤ k := by rcases hk with rfl | rfl | rfl | rfl <;> omega
          exact ⟨fun hf => by have := hFl k hf; omega, fun e => by omega⟩
      have Hm5 := Lib.hid hm5
      have Hoa := Lib.hid hoa
      have Ha2 := Lib.hid (show 0 ≤ D.acts ∧ D.acts ≤ 8000000000000000000 from Ha.out)
      clear hm5 hb45 hb5 hbw5 hFl hgl hh4 hp4 ho4 hb4 hs4 k0' k1' k2' k3' q3
      go_wp2_with fail
      rw [← hoa, ← hw5, ← hpa]
      clear hw5 hoa hpa
      go_loopw [67] (fun i wr => ∃ (k : Nat) (F' : Nat → Prop) (E : Dk.Dsk), k ≤ 3 ∧ i = .int .i64 k ∧ LayM w F F' G gl gd B pt pb pa oa wr E L vs vn T (.slice a3 n3 c3) bb ∧ Wl.StepAt D T bb k E) (fun i _ => 3 - (intOf i).toNat)
      case atStart => exact ⟨0, F, D, by decide, rfl, Hm5.out, rfl⟩
      case round =>
        obtain ⟨k, F', E, hk, rfl, hm, hst⟩ := hrel
        have hac : 0 ≤ E.acts ∧ E.acts ≤ 9000000000000000000 := by have := hst.acts hk; have := Ha.out; omega
        have Hac := Lib.hid hac
        have hpa2 := hm.ca
        clear hac
        have hk4 : k = 0 ∨ k = 1 ∨ k = 2 ∨ k = 3 := by omega
        clear hk
        rcases hk4 with rfl | rfl | rfl | rfl
        · have q0 : wr.cell? ⟨pa, 0, none⟩ = some (.func (.func 120) #[] #[.pointer (some ⟨B, 0, none⟩), .pointer (some ⟨pt, 0, none⟩)]) := by rw [Hoa.out] at hpa2; simp [World.cell?, hpa2]
          have hm0 := hm
          have kl := hm.kl
          have hmd := hm.keep (drew_below wr)
          have Hst := Lib.hid hst
          have Hm := Lib.hid hm
          clear hst hpa2 hm hm0
          go_wp2_with fail
          go_region_held3 (fun W => W.cell? ⟨B, 0, none⟩ = some (.pointer (some ⟨gl, 0, none⟩))) (first | go_keep | exact hm1.kl | exact hm2.kl)
            ((first
              | (go_at_call 120; refine (lay_one _ hmd Hac.out).mono ?_; rintro e w6 ⟨rfl, F6, hm1⟩)
              | (go_at_call 85; refine (wal_note _ _ hm1.lg).mono ?_; rintro e w7 ⟨rfl, hlg7, ho7⟩; have hm2 := hm1.noted hlg7 ho7)))
          all_goals
            obtain ⟨er, her⟩ : ∃ e, e = (Dk.clear E T).2 := ⟨_, rfl⟩
            rw [← her] at hm2 ⊢
            have Her := Lib.hid her
            clear her
            by_cases he : er = 0
            · subst he
              rw [Wl.note_zero] at hm2
              have Hm2 := Lib.hid hm2
              clear hm2 hm1 hlg7 ho7 hmd
              go_wp2_with fail
              exact ⟨⟨1, F6, _, by decide, by rfl, Hm2.out, by rw [Hst.out] at Her; rw [Hst.out]; exact ⟨Her.out.symm, rfl⟩⟩, by decide⟩
            · have he2 : (er != 0) = true := by simpa using he
              have He := Lib.hid he
              have Hm2 := Lib.hid hm2
              clear hm2 hm1 hlg7 ho7 hmd he
              go_wp2_with fail
              go_ret
              exact Hm2.out.is (by rw [HR.out, Wl.lay_e1 D L (by rw [← HT.out, ← (show E = D from Hst.out), ← Her.out]; exact He.out), ← HT.out, ← (show E = D from Hst.out), ← Her.out])
        · have q1 : wr.cell? ⟨pa, 1, none⟩ = some (.func (.func 121) #[] #[.pointer (some ⟨B, 0, none⟩), .pointer (some ⟨pt, 0, none⟩), .pointer (some ⟨pb, 0, none⟩)]) := by rw [Hoa.out] at hpa2; simp [World.cell?, hpa2]
          have hm0 := hm
          have kl := hm.kl
          have hmd := hm.keep (drew_below wr)
          have Hst := Lib.hid hst
          have Hm := Lib.hid hm
          clear hst hpa2 hm hm0
          go_wp2_with fail
          go_region_held3 (fun W => W.cell? ⟨B, 0, none⟩ = some (.pointer (some ⟨gl, 0, none⟩))) (first | go_keep | exact hm1.kl | exact hm2.kl)
            ((first
              | (go_at_call 121; refine (lay_two _ hmd Hac.out Hbbl.out).mono ?_; rintro e w6 ⟨rfl, F6, hm1⟩)
              | (go_at_call 85; refine (wal_note _ _ hm1.lg).mono ?_; rintro e w7 ⟨rfl, hlg7, ho7⟩; have hm2 := hm1.noted hlg7 ho7)))
          all_goals
            obtain ⟨er, her⟩ : ∃ e, e = (Dk.app E T bb).2 := ⟨_, rfl⟩
            rw [← her] at hm2 ⊢
            have Her := Lib.hid her
            clear her
            by_cases he : er = 0
            · subst he
              rw [Wl.note_zero] at hm2
              have Hm2 := Lib.hid hm2
              clear hm2 hm1 hlg7 ho7 hmd
              go_wp2_with fail
              exact ⟨⟨2, F6, _, by decide, by rfl, Hm2.out, by have h1 := Hst.out; obtain ⟨h1, h2⟩ := h1; rw [h2] at Her; rw [h2]; exact ⟨h1, Her.out.symm, rfl⟩⟩, by decide⟩
            · have he2 : (er != 0) = true := by simpa using he
              have He := Lib.hid he
              have Hm2 := Lib.hid hm2
              clear hm2 hm1 hlg7 ho7 hmd he
              go_wp2_with fail
              go_ret
              exact Hm2.out.is (by obtain ⟨g1, g2⟩ := Hst.out; rw [g2, HT.out, Hbb.out] at Her; rw [HT.out] at g1; rw [HR.out, Wl.lay_e2 D L g1 (by rw [← Her.out]; exact He.out), ← Her.out, g2, HT.out, Hbb.out])
        · have q2 : wr.cell? ⟨pa, 2, none⟩ = some (.func (.func 122) #[] #[.pointer (some ⟨B, 0, none⟩), .pointer (some ⟨pt, 0, none⟩)]) := by rw [Hoa.out] at hpa2; simp [World.cell?, hpa2]
          have hm0 := hm
          have kl := hm.kl
          have hmd := hm.keep (drew_below wr)
          have Hst := Lib.hid hst
          have Hm := Lib.hid hm
          clear hst hpa2 hm hm0
          go_wp2_with fail
          go_region_held3 (fun W => W.cell? ⟨B, 0, none⟩ = some (.pointer (some ⟨gl, 0, none⟩))) (first | go_keep | exact hm1.kl | exact hm2.kl)
            ((first
              | (go_at_call 122; refine (lay_three _ hmd Hac.out).mono ?_; rintro e w6 ⟨rfl, F6, hm1⟩)
              | (go_at_call 85; refine (wal_note _ _ hm1.lg).mono ?_; rintro e w7 ⟨rfl, hlg7, ho7⟩; have hm2 := hm1.noted hlg7 ho7)))
          all_goals
            obtain ⟨er, her⟩ : ∃ e, e = (Dk.flush E T).2 := ⟨_, rfl⟩
            rw [← her] at hm2 ⊢
            have Her := Lib.hid her
            clear her
            by_cases he : er = 0
            · subst he
              rw [Wl.note_zero] at hm2
              have Hm2 := Lib.hid hm2
              clear hm2 hm1 hlg7 ho7 hmd
              go_wp2_with fail
              exact ⟨⟨3, F6, _, by decide, by rfl, Hm2.out, by have h1 := Hst.out; obtain ⟨h1, h2, h3⟩ := h1; rw [h3] at Her; rw [h3]; exact ⟨h1, h2, Her.out.symm, rfl⟩⟩, by decide⟩
            · have he2 : (er != 0) = true := by simpa using he
              have He := Lib.hid he
              have Hm2 := Lib.hid hm2
              clear hm2 hm1 hlg7 ho7 hmd he
              go_wp2_with fail
              go_ret
              exact Hm2.out.is (by obtain ⟨g1, g2, g3⟩ := Hst.out; rw [g3, HT.out, Hbb.out] at Her; rw [HT.out] at g1; rw [HT.out, Hbb.out] at g2; rw [HR.out, Wl.lay_e3 D L g1 g2 (by rw [← Her.out]; exact He.out), ← Her.out, g3, HT.out, Hbb.out])
        · have hm0 := hm
          have kl := hm.kl
          have c1 := hm.lg.c1
          have cf := hm.lg.cf
          have Hst := Lib.hid hst
          have Hm := Lib.hid hm
          rw [← Htn.out] at c1
          clear hst hpa2 hm hm0
          go_wp2_with fail
          go_ret
          obtain ⟨g1, g2, g3, g4⟩ := Hst.out
          rw [HT.out] at g1
          rw [HT.out, Hbb.out] at g2 g3 g4
          have hR1 : R = (E, { L with turn := L.turn + 1 }, 0) := by rw [HR.out, Wl.lay_e4 D L g1 g2 g3, g4]
          have ho : Only (· = gl) wr (wr.setCell ⟨gl, 1, none⟩ (.int .i64 t1)) := Only.setCell (S := (· = gl)) (Only.refl _ _) (p := ⟨gl, 1, none⟩) (.inl rfl) _
          have hh := heap_set Hm.out.lg.heap 1 (.int .i64 t1)
          rw [lg_set_turn, Ht1.out, Htn.out] at hh
          rw [Ht1.out, Htn.out] at ho ⊢
          exact (Hm.out.noted (Hm.out.lg.self ho hh rfl rfl) ho).is hR1
end
end Go.Proofs.Ytmmgnbdngpkfcaa

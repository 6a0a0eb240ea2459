
/-
  A disk in plain Lean, and as memory.
-/
import Derived.Test.YtmmgnbdngpkfcaaBtsPut
namespace Go.Proofs.Ytmmgnbdngpkfcaa
open Go.RowKit
set_option linter.unusedVariables false

namespace Dk
structure Tp where
  b : List (BitVec 8)
  safe : Nat
  old : List (BitVec 8)
  fresh : Bool
structure Dsk where
  t : Nat → Tp
  room : Int
  acts : Int
  fuse : Int
  down : Bool
def upd {α : Type} (f : Nat → α) (i : Nat) (x : α) : Nat → α := fun j => if j = i then x else f j
theorem upd_same {α : Type} (f : Nat → α) (i : Nat) (x : α) : upd f i x i = x := by unfold upd; rw [if_pos rfl]
theorem upd_other {α : Type} (f : Nat → α) (i j : Nat) (x : α) (h : j ≠ i) : upd f i x j = f j := by unfold upd; rw [if_neg h]
def new (room : Int) : Dsk := ⟨fun _ => ⟨[], 0, [], false⟩, min (max room 0) 4194304, 0, 0, false⟩
def err (D : Dsk) (t : Int) : Int := if t < 0 ∨ 4 ≤ t then 1 else if D.down = true then 2 else 0
def act (D : Dsk) : Dsk × Int := if D.fuse = 1 then ({ D with fuse := 0, down := true }, 2) else ({ D with fuse := max 0 (D.fuse - 1), acts := D.acts + 1 }, 0)
def setT (D : Dsk) (t : Nat) (x : Tp) : Dsk := { D with t := upd D.t t x }
def app (D : Dsk) (t : Int) (b : List (BitVec 8)) : Dsk × Int :=
  if err D t ≠ 0 then (D, err D t)
  else if D.room - ((D.t t.toNat).b.length : Int) < (b.length : Int) then (D, 40)
  else act (setT D t.toNat { D.t t.toNat with b := (D.t t.toNat).b ++ b })
def clearT (x : Tp) : Tp := ⟨[], 0, if x.fresh = true then x.old else x.b.take x.safe, true⟩
def clear (D : Dsk) (t : Int) : Dsk × Int := if err D t ≠ 0 then (D, err D t) else act (setT D t.toNat (clearT (D.t t.toNat)))
def flushT (x : Tp) : Tp := ⟨x.b, x.b.length, [], false⟩
def flush (D : Dsk) (t : Int) : Dsk × Int :=
  if err D t ≠ 0 then (D, err D t)
  else if (act D).2 ≠ 0 then act D
  else (setT (act D).1 t.toNat (flushT (D.t t.toNat)), 0)
def read (D : Dsk) (t : Int) : List (BitVec 8) × Int := if err D t ≠ 0 then ([], err D t) else ((D.t t.toNat).b, 0)
def safe (D : Dsk) (t : Int) : Int := if err D t ≠ 0 then 0 else if (D.t t.toNat).fresh = true then 0 else ((D.t t.toNat).safe : Int)
def crashB (x : Tp) (keep : Int) : List (BitVec 8) := if x.fresh = true ∧ keep < 0 then x.old else x.b.take ((x.safe : Int) + min (max keep 0) ((x.b.length : Int) - (x.safe : Int))).toNat
def crashT (x : Tp) (keep : Int) : Tp := ⟨crashB x keep, (crashB x keep).length, [], false⟩
def crash (D : Dsk) (keeps : List Int) : Dsk := ⟨fun i => crashT (D.t i) (keeps.getD i 0), D.room, D.acts, 0, false⟩
def fuse (D : Dsk) (n : Int) : Dsk := { D with fuse := max 0 n }

structure Ok (D : Dsk) : Prop where
  room0 : 0 ≤ D.room
  room1 : D.room ≤ 4194304
  fuse0 : 0 ≤ D.fuse
  fuse1 : D.fuse ≤ 9223372036854775807
  safe : ∀ i, (D.t i).safe ≤ (D.t i).b.length
  len : ∀ i, ((D.t i).b.length : Int) ≤ D.room
  old : ∀ i, ((D.t i).old.length : Int) ≤ D.room
theorem ok_new (r : Int) : Ok (new r) := by
  refine ⟨?_, ?_, by simp [new], by simp [new], fun i => by simp [new], fun i => ?_, fun i => ?_⟩ <;> simp [new] <;> omega
theorem ok_act {D : Dsk} (h : Ok D) : Ok (act D).1 := by
  unfold act
  split
  · exact ⟨h.room0, h.room1, by simp, by simp, h.safe, h.len, h.old⟩
  · exact ⟨h.room0, h.room1, by simp; omega, by have := h.fuse1; have := h.fuse0; simp; omega, h.safe, h.len, h.old⟩
theorem ok_setT {D : Dsk} (h : Ok D) (t : Nat) (x : Tp) (h1 : x.safe ≤ x.b.length) (h2 : (x.b.length : Int) ≤ D.room) (h3 : (x.old.length : Int) ≤ D.room) : Ok (setT D t x) := by
  refine ⟨h.room0, h.room1, h.fuse0, h.fuse1, fun i => ?_, fun i => ?_, fun i => ?_⟩ <;> (by_cases hi : i = t)
  · subst hi; simp only [setT, upd_same]; exact h1
  · simp only [setT, upd_other _ _ _ _ hi]; exact h.safe i
  · subst hi; simp only [setT, upd_same]; exact h2
  · simp only [setT, upd_other _ _ _ _ hi]; exact h.len i
  · subst hi; simp only [setT, upd_same]; exact h3
  · simp only [setT, upd_other _ _ _ _ hi]; exact h.old i
theorem ok_app {D : Dsk} (h : Ok D) (t : Int) (b : List (BitVec 8)) : Ok (app D t b).1 := by
  unfold app
  split
  · exact h
  · split
    · exact h
    · refine ok_act (ok_setT h _ _ ?_ ?_ (h.old _))
      · have := h.safe t.toNat; simp; omega
      · simp only [List.length_append]; omega
theorem ok_clear {D : Dsk} (h : Ok D) (t : Int) : Ok (clear D t).1 := by
  unfold clear
  split
  · exact h
  · refine ok_act (ok_setT h _ _ ?_ ?_ ?_)
    · simp [clearT]
    · simp [clearT]; exact h.room0
    · have h1 := h.old t.toNat
      have h2 := h.len t.toNat
      have h3 := List.length_take_le (D.t t.toNat).safe (D.t t.toNat).b
      have h4 : ((D.t t.toNat).b.take (D.t t.toNat).safe).length ≤ (D.t t.toNat).b.length := by rw [List.length_take]; omega
      simp only [clearT]
      split
      · exact h1
      · omega
theorem ok_flush {D : Dsk} (h : Ok D) (t : Int) : Ok (flush D t).1 := by
  unfold flush
  split
  · exact h
  · split
    · exact ok_act h
    · have hr : (act D).1.room = D.room := by unfold act; split <;> rfl
      refine ok_setT (ok_act h) _ _ (Nat.le_refl _) ?_ ?_
      · rw [hr]; exact h.len _
      · rw [hr]; simp [flushT]; exact h.room0
theorem crashB_len (x : Tp) (keep : Int) (r : Int) (h1 : (x.b.length : Int) ≤ r) (h2 : (x.old.length : Int) ≤ r) : ((crashB x keep).length : Int) ≤ r := by
  unfold crashB
  split
  · exact h2
  · rw [List.length_take]; omega
theorem ok_crash {D : Dsk} (h : Ok D) (keeps : List Int) : Ok (crash D keeps) :=
  ⟨h.room0, h.room1, Int.le_refl _, by simp [crash], fun i => Nat.le_refl _, fun i => crashB_len _ _ _ (h.len i) (h.old i), fun i => by simp [crash, crashT]; exact h.room0⟩
theorem ok_fuse {D : Dsk} (h : Ok D) (n : Int) (hn : n ≤ 9223372036854775807) : Ok (fuse D n) :=
  ⟨h.room0, h.room1, by simp [fuse]; omega, by simp [fuse]; omega, h.safe, h.len, h.old⟩

/-- a disk's cells -/
def cells (vs os : Nat → Value) (D : Dsk) : Array Value :=
  #[vs 0, .int .i64 (D.t 0).safe, os 0, .bool (D.t 0).fresh, vs 1, .int .i64 (D.t 1).safe, os 1, .bool (D.t 1).fresh, vs 2, .int .i64 (D.t 2).safe, os 2, .bool (D.t 2).fresh, vs 3, .int .i64 (D.t 3).safe, os 3, .bool (D.t 3).fresh,
    .int .i64 D.room, .int .i64 D.acts, .int .i64 D.fuse, .bool D.down]
theorem four {t : Nat} (h : t < 4) : t = 0 ∨ t = 1 ∨ t = 2 ∨ t = 3 := by omega
theorem get_b {t : Nat} (h : t < 4) (vs os : Nat → Value) (D : Dsk) : (cells vs os D)[t * 4]? = some (vs t) := by rcases four h with rfl | rfl | rfl | rfl <;> rfl
theorem get_safe {t : Nat} (h : t < 4) (vs os : Nat → Value) (D : Dsk) : (cells vs os D)[t * 4 + 1]? = some (.int .i64 (D.t t).safe) := by rcases four h with rfl | rfl | rfl | rfl <;> rfl
theorem get_old {t : Nat} (h : t < 4) (vs os : Nat → Value) (D : Dsk) : (cells vs os D)[t * 4 + 2]? = some (os t) := by rcases four h with rfl | rfl | rfl | rfl <;> rfl
theorem get_fresh {t : Nat} (h : t < 4) (vs os : Nat → Value) (D : Dsk) : (cells vs os D)[t * 4 + 3]? = some (.bool (D.t t).fresh) := by rcases four h with rfl | rfl | rfl | rfl <;> rfl
theorem set_b {t : Nat} (h : t < 4) (vs os : Nat → Value) (D : Dsk) (v : Value) (b : List (BitVec 8)) : (cells vs os D).setIfInBounds (t * 4) v = cells (upd vs t v) os (setT D t { D.t t with b := b }) := by rcases four h with rfl | rfl | rfl | rfl <;> rfl
theorem set_safe {t : Nat} (h : t < 4) (vs os : Nat → Value) (D : Dsk) (n : Nat) : (cells vs os D).setIfInBounds (t * 4 + 1) (.int .i64 n) = cells vs os (setT D t { D.t t with safe := n }) := by rcases four h with rfl | rfl | rfl | rfl <;> rfl
theorem set_old {t : Nat} (h : t < 4) (vs os : Nat → Value) (D : Dsk) (v : Value) (b : List (BitVec 8)) : (cells vs os D).setIfInBounds (t * 4 + 2) v = cells vs (upd os t v) (setT D t { D.t t with old := b }) := by rcases four h with rfl | rfl | rfl | rfl <;> rfl
theorem set_fresh {t : Nat} (h : t < 4) (vs os : Nat → Value) (D : Dsk) (f : Bool) : (cells vs os D).setIfInBounds (t * 4 + 3) (.bool f) = cells vs os (setT D t { D.t t with fresh := f }) := by rcases four h with rfl | rfl | rfl | rfl <;> rfl
theorem set_acts (vs os : Nat → Value) (D : Dsk) (n : Int) : (cells vs os D).setIfInBounds 17 (.int .i64 n) = cells vs os { D with acts := n } := rfl
theorem set_fuse (vs os : Nat → Value) (D : Dsk) (n : Int) : (cells vs os D).setIfInBounds 18 (.int .i64 n) = cells vs os { D with fuse := n } := rfl
theorem set_down (vs os : Nat → Value) (D : Dsk) (f : Bool) : (cells vs os D).setIfInBounds 19 (.bool f) = cells vs os { D with down := f } := rfl
theorem cells_congr {vs os vs' os' : Nat → Value} {D D' : Dsk} (h1 : ∀ i, i < 4 → vs i = vs' i) (h2 : ∀ i, i < 4 → os i = os' i) (h3 : ∀ i, i < 4 → (D.t i).safe = (D'.t i).safe ∧ (D.t i).fresh = (D'.t i).fresh) (h4 : D.room = D'.room) (h5 : D.acts = D'.acts) (h6 : D.fuse = D'.fuse) (h7 : D.down = D'.down) : cells vs os D = cells vs' os' D' := by
  unfold cells
  rw [h1 0 (by decide), h1 1 (by decide), h1 2 (by decide), h1 3 (by decide), h2 0 (by decide), h2 1 (by decide), h2 2 (by decide), h2 3 (by decide), (h3 0 (by decide)).1, (h3 0 (by decide)).2, (h3 1 (by decide)).1, (h3 1 (by decide)).2, (h3 2 (by decide)).1, (h3 2 (by decide)).2, (h3 3 (by decide)).1, (h3 3 (by decide)).2, h4, h5, h6, h7]
end Dk

/-- a disk in memory: its blocks are within F -/
structure DkM (F : Nat → Prop) (w : World) (g : Nat) (D : Dk.Dsk) (vs os : Nat → Value) : Prop where
  heap : w.heap[g]? = some (.cells (Dk.cells vs os D) 140 (0, 0))
  own : ∀ i, i < 4 → Own EU8 5 0 w (vs i) (D.t i).b
  old : ∀ i, i < 4 → Own EU8 5 0 w (os i) (D.t i).old
  fg : F g
  fv : ∀ i, i < 4 → ∀ x, (vs i).ownBlock = some x → F x ∧ x ≠ g
  fo : ∀ i, i < 4 → ∀ x, (os i).ownBlock = some x → F x ∧ x ≠ g
  vv : ∀ i j, i < 4 → j < 4 → i ≠ j → ∀ x, (vs i).ownBlock = some x → (vs j).ownBlock ≠ some x
  vo : ∀ i j, i < 4 → j < 4 → ∀ x, (vs i).ownBlock = some x → (os j).ownBlock ≠ some x
  flt : ∀ k, F k → k < w.heap.size
def DkAt (F : Nat → Prop) (w : World) (g : Nat) (D : Dk.Dsk) : Prop := ∃ vs os, DkM F w g D vs os

/-- bytes that are owned, while certain blocks turn -/
theorem Own.u8_only {te : TypeId} {base : Nat} {w w' : World} {v : Value} {l : List (BitVec 8)} {S : Nat → Prop} (h : Own EU8 te base w v l) (ho : Only S w w') (hS : ∀ x, v.ownBlock = some x → ¬ S x) : Own EU8 te base w' v l := by
  rcases h with h | ⟨g, cap, cur, hv, hg, hh, h1, h2, h3, h4⟩
  · exact .inl h
  · refine .inr ⟨g, cap, cur, hv, hg, by rw [ho.block g (Array.getElem?_eq_some_iff.1 hh).1 (hS g (by rw [hv]; rfl))]; exact hh, h1, h2, h3, fun k y hk => ?_⟩
    obtain ⟨cs, hr, hc⟩ := h4 k y hk
    exact ⟨cs, hr, hc⟩
theorem DkM.only {F S : Nat → Prop} {w w' : World} {g : Nat} {D : Dk.Dsk} {vs os : Nat → Value} (h : DkM F w g D vs os) (ho : Only S w w') (hS : ∀ k, F k → ¬ S k) : DkM F w' g D vs os := by
  have hg : g < w.heap.size := (Array.getElem?_eq_some_iff.1 h.heap).1
  exact ⟨by rw [ho.block g hg (hS g h.fg)]; exact h.heap, fun i hi => (h.own i hi).u8_only ho fun x hx => hS x (h.fv i hi x hx).1, fun i hi => (h.old i hi).u8_only ho fun x hx => hS x (h.fo i hi x hx).1, h.fg, h.fv, h.fo, h.vv, h.vo, fun k hk => Nat.lt_of_lt_of_le (h.flt k hk) ho.size⟩
theorem DkAt.only {F S : Nat → Prop} {w w' : World} {g : Nat} {D : Dk.Dsk} (h : DkAt F w g D) (ho : Only S w w') (hS : ∀ k, F k → ¬ S k) : DkAt F w' g D := by
  obtain ⟨vs, os, h⟩ := h
  exact ⟨vs, os, h.only ho hS⟩
theorem DkAt.keep {F : Nat → Prop} {w w' : World} {g : Nat} {D : Dk.Dsk} (h : DkAt F w g D) (hb : Below w.heap.size w w') : DkAt F w' g D :=
  h.only (S := fun k => False) (Below.only hb) fun _ _ h => h
/-- what a call may turn: the disk's blocks; they are its own still, but for new ones -/
structure Turns (F : Nat → Prop) (w : World) (F' : Nat → Prop) (w' : World) : Prop where
  only : Only F w w'
  foot : ∀ k, F' k → F k ∨ w.heap.size ≤ k
theorem Turns.refl (F : Nat → Prop) (w : World) : Turns F w F w := ⟨Only.refl _ _, fun k h => .inl h⟩
theorem Turns.trans {F F1 F2 : Nat → Prop} {w w1 w2 : World} (h : Turns F w F1 w1) (h2 : Turns F1 w1 F2 w2) : Turns F w F2 w2 := by
  refine ⟨h.only.trans h2.only fun k hk hf => ?_, fun k hk => ?_⟩
  · rcases h.foot k hf with h | h
    · exact h
    · omega
  · rcases h2.foot k hk with h3 | h3
    · exact h.foot k h3
    · exact .inr (Nat.le_trans h.only.size h3)
end Go.Proofs.Ytmmgnbdngpkfcaa


/-
  How the document's code copies events.
-/
import Derived.Test.YtennjoegjghlaaaHist
import Derived.Deep.CutBlock
namespace Go.Proofs.Ytennjoegjghlaaa
open Go.RowKit
set_option linter.unusedVariables false

theorem ti_ops : ElemInfo Try.prog 67 79 EOp.sz 24 := ElemInfo.mk' (z := .agg #[.int .i64 0, .int .i64 0, .int .i64 0]) Try.underlying67 (by kernel_rfl) rfl (by decide)
theorem ti_evs : ElemInfo Try.prog 22 69 EEv.sz 40 := ElemInfo.mk' (z := .agg #[.int .i64 0, .int .i64 0, .slice none 0 0]) Try.underlying22 (by kernel_rfl) rfl (by decide)
theorem ev_mk {ok : Nat → Prop} {w : World} {k j : Int} {a : Option Addr} {c : Nat} {d : List Bk.Op} (hk : -9223372036854775808 ≤ k ∧ k ≤ 9223372036854775807) (hj : -9223372036854775808 ≤ j ∧ j ≤ 9223372036854775807) (hc : d.length ≤ c) (hm : c ≤ maxLen) (hs : Sl EOp ok w a d) :
    EEv.rep ok w [.int .i64 k, .int .i64 j, .slice a d.length c] (k, j, d) :=
  ⟨[.int .i64 k], [.int .i64 j, .slice a d.length c], rfl, ⟨rfl, hk.1, hk.2⟩, [.int .i64 j], [.slice a d.length c], rfl, ⟨rfl, hj.1, hj.2⟩, a, c, rfl, hc, hm, hs⟩

theorem Own.slO {te : TypeId} {base : Nat} {w : World} {a : Option Addr} {n c : Nat} {l : List Bk.Op} (h : Own EOp te base w (.slice a n c) l) : Sl EOp (fun b => base ≤ b) w a l := by
  rcases h with ⟨h0, rfl⟩ | ⟨g, cap, cur, hv, hg, hh, h1, h2, h3, h4⟩
  · exact Sl.nil _ _ _ _
  · injection hv with e1 e2 e3
    subst e1
    intro k x hx
    obtain ⟨cs, hr, hc⟩ := h4 k x hx
    refine ⟨g, 0, rfl, hg, cs, hr, fun j v hj => ?_⟩
    have := hc j v hj
    simp [World.cell?, hh, this]

set_option maxRecDepth 4096 in
set_option maxHeartbeats 1600000 in
theorem ref05_Copy (B : Nat) (a : Option Addr) (n c : Nat) (l : List Bk.Ev) (w : World) (hB : w.heap.size = B) (hr : RS EEv w a n l) (hl : n ≤ 100000) (hops : ∀ e ∈ l, e.2.2.length ≤ 100000) :
    Calls Try.prog 16 #[.slice a n c] w fun e w' => ∃ v, e = .returned v ∧ Own EEv 69 B w' v l ∧ Below B w w' := by
  subst hB
  obtain ⟨rfl, hs⟩ := hr
  have hb0 : Below w.heap.size w (w.alloc (.cells #[] 69)) := (Below.refl _ _).alloc (Nat.le_refl _) _
  have ho0 := own_empty EEv 69 w (by decide)
  obtain ⟨w1, hw1⟩ : ∃ x, x = w.alloc (.cells #[] 69) := ⟨_, rfl⟩
  have hex1 := hw1.symm
  rw [← hw1] at hb0 ho0
  have Hops := Lib.hid hops
  clear hops hw1
  go_enter Try.func16, Try.ntmps16
  go_upto_region 2 with fail
  clear hex1
  go_wp2_with fail
  go_loopw [3, 9] (fun v i wr => ∃ k : Nat, k ≤ l.length ∧ i = .int .i64 k ∧ Own EEv 69 w.heap.size wr v (l.take k) ∧ Below w.heap.size w wr) (fun _ i _ => l.length - (intOf i).toNat)
  case atStart => exact ⟨0, Nat.zero_le _, rfl, ho0, hb0⟩
  case round =>
    obtain ⟨k, hk, rfl, ho, hb⟩ := hrel
    by_cases hlt : k < l.length
    · have hki : (k : Int) < (l.length : Int) := by omega
      have hol := Hops.out l[k] (List.getElem_mem hlt)
      obtain ⟨b1, o1, a', c', rfl, p1, p2, p3, hc', hm', hs', r1, r2⟩ := sl_ev (hs.below (by decide) hb) k hlt
      have htk : l.take (k + 1) = l.take k ++ [l[k]] := (List.take_append_getElem hlt).symm
      obtain ⟨x, hx⟩ : ∃ x, x = l[k] := ⟨_, rfl⟩
      rw [← hx] at p1 p2 p3 hs' hol hc' r1 r2 htk
      clear hx
      obtain ⟨x1, x2, x3⟩ := x
      dsimp only at p1 p2 p3 hs' hol hc' r1 r2
      have hnl : (l.take k).length ≤ 100000 := by rw [List.length_take]; omega
      obtain ⟨w4, hw4⟩ : ∃ x, x = wr.alloc (.cells #[.int .i64 x1, .int .i64 x2, .slice a' x3.length c'] 69) := ⟨_, rfl⟩
      have hb4 : Below wr.heap.size wr w4 := by subst hw4; exact (Below.refl _ _).alloc (Nat.le_refl _) _
      have hh4 : w4.heap[wr.heap.size]? = some (.cells #[.int .i64 x1, .int .i64 x2, .slice a' x3.length c'] 69 (0, 0)) := by subst hw4; exact heap_alloc_new wr _
      obtain ⟨s0, hs0⟩ : ∃ s, s = wr.heap.size := ⟨_, rfl⟩
      rw [← hs0] at hh4
      have hne := ho.fresh
      rw [← hs0] at hne
      have Hne := Lib.hid hne
      clear hne
      have z0 : w4.cell? ⟨s0, 0, none⟩ = some (.int .i64 x1) := by simp [World.cell?, hh4]
      have z1 : w4.cell? ⟨s0, 1, none⟩ = some (.int .i64 x2) := by simp [World.cell?, hh4]
      have z2 : w4.cell? ⟨s0, 2, none⟩ = some (.slice a' x3.length c') := by simp [World.cell?, hh4]
      have hs4 := hs'.below (by decide) hb4
      have hbw4 := hb.trans (hb4.mono hb.size)
      have ho4 := ho.below hb4
      have hs04 : s0 < w4.heap.size := cell_lt z0
      have Htk := Lib.hid htk
      clear hh4 htk ho hs'
      go_upto_region 5 with fail
      rw [← hw4]
      rw [← hs0]
      clear hw4 hs0 hb4 p1 p2 p3
      have hoE : ∀ W : World, Own EOp 79 W.heap.size (W.alloc (.cells #[] 79)) (.slice (some ⟨W.heap.size, 0, none⟩) 0 0) [] := fun W => own_empty EOp 79 W (by decide)
      have HoE := Lib.hid hoE
      clear hoE
      have hsX : Sl EOp (fun b => some b ≠ (Value.slice (some ⟨w4.heap.size, 0, none⟩) 0 0).ownBlock) (w4.drew.alloc (.cells #[] 79)) a' x3 :=
        hs4.mono (by decide) fun q _ hq => ⟨heap_alloc_old w4.drew _ hq, by simp [Value.ownBlock]; omega⟩
      have HsX := Lib.hid hsX
      have Ho4 := Lib.hid ho4
      clear hsX
      have hsY : ∀ (w5 : World) (a5 : Option Addr) (c5 : Nat), Own EOp 79 w4.heap.size w5 (.slice a5 x3.length c5) x3 → x3.length ≤ c5 → c5 ≤ maxLen → Below w4.heap.size w4 w5 →
          Sl EEv (fun b => some b ≠ u3.ownBlock) (w5.alloc (.cells #[.int .i64 x1, .int .i64 x2, .slice a5 x3.length c5] 69)) (some ⟨w5.heap.size, 0, none⟩) [(x1, x2, x3)] := fun w5 a5 c5 h5 hc5 hm5 hb5 => by
        have hn5 : ∀ q, w4.heap.size ≤ q → some q ≠ u3.ownBlock := fun q hq e => by have := (Ho4.out.lt _ e.symm).2; omega
        refine sl_one (heap_alloc_new w5 _) (ev_mk r1 r2 hc5 hm5 ?_) (hn5 _ hb5.size)
        exact (Own.slO (Own.below h5 ((Below.refl _ _).alloc (Nat.le_refl _) (.cells #[.int .i64 x1, .int .i64 x2, .slice a5 x3.length c5] 69)))).mono (by decide) fun q hq _ => ⟨rfl, hn5 q hq⟩
      go_wp2_with fail
      go_region_held3 (fun W => W.cell? ⟨s0, 0, none⟩ = some (.int .i64 x1) ∧ W.cell? ⟨s0, 1, none⟩ = some (.int .i64 x2) ∧ W.cell? ⟨s0, 2, none⟩ = some (.slice a' x3.length c'))
        (first | go_keep | exact ⟨cell_thru z0 hbx5, cell_thru z1 hbx5, cell_thru z2 hbx5⟩ | exact ⟨k7 _ _ z0, k7 _ _ z1, k7 _ _ z2⟩)
        ((first
          | (refine step_app (l2 := x3) (base := w4.heap.size) EOp (by rfl) (by rfl) (by rfl) ti_ops (HoE.out w4.drew) rfl HsX.out (by simp [maxLen]; omega) (by simp; omega) (by simp) ?_; intro v5 w5 ho5 hg5 hv5 hb5; obtain ⟨a5, c5, rfl, hc5, hm5, hr5, ho5'⟩ := ho5.shape x3.length (by simp); rw [List.nil_append] at ho5'; have hbx5 : Below w4.heap.size w4 w5 := ((Below.refl _ _).drew.alloc (by simp) _).trans hb5)
          | (refine step_app (l2 := [(x1, x2, x3)]) (base := w.heap.size) EEv (by rfl) (by rfl) (by rfl) ti_evs ((Ho4.out.below hbx5).below ((Below.refl _ _).alloc (Nat.le_refl _) _)) rfl (hsY w5 a5 c5 ho5' hc5 hm5 hbx5) (by simp [maxLen]; omega) (by simp; omega) (by simp; have := hbw4.size; have := hbx5.size; omega) ?_; intro v7 w7 ho7 hg7 hv7 hb7; have k7 : ∀ (j : Nat) (u : Value), w4.cell? ⟨s0, j, none⟩ = some u → w7.cell? ⟨s0, j, none⟩ = some u := (fun j u hu => by
              have h1 := cell_keep (o := j) (hg7.block s0 (by have := hbx5.size; simp; omega) (by first | exact Hne.out | exact fun e => Hne.out e.symm))
              rw [h1]; exact cell_thru hu (hbx5.alloc (hbx5.size) _)))))
      go_wp2_with fail
      go_roundw
      case rel => exact ⟨k + 1, by omega, by go_num, by rw [Htk.out]; exact ho7, hbw4.trans ((hbx5.alloc hbx5.size _).mono hbw4.size) |>.trans hb7⟩
      case measure => simp [intOf]; omega
    · have hki : ¬ ((k : Int) < (l.length : Int)) := by omega
      rw [List.take_of_length_le (by omega)] at ho
      go_wp2_with fail
      go_ret
      exact ⟨_, rfl, ho, hb⟩
end Go.Proofs.Ytennjoegjghlaaa


/-
  The walk of the law 'DiskSure'.
-/
import Derived.Test.YtennjoegjghlaaaDiskHead
namespace Go.Proofs.Ytennjoegjghlaaa
open Go.RowKit
set_option linter.unusedVariables false

namespace Dk
/-- a disk whose power is on, and lasts -/
def mk (t : Nat → Tp) (room acts : Int) : Dsk := ⟨t, room, acts, 0, false⟩
theorem new_mk (r : Int) : new r = mk (fun _ => ⟨[], 0, [], false⟩) (min (max r 0) 4194304) 0 := rfl
theorem err_mk (t : Nat → Tp) (r a : Int) {k : Nat} (hk : k < 4) : err (mk t r a) k = 0 := by
  unfold err
  rw [if_neg (by omega)]; rfl
theorem act_mk (t : Nat → Tp) (r a : Int) : act (mk t r a) = (mk t r (a + 1), 0) := by
  unfold act mk
  rw [if_neg (by simp)]
  rfl
theorem app_mk (t : Nat → Tp) (r a : Int) {k : Nat} (hk : k < 4) (b : List (BitVec 8)) (h : ((t k).b.length : Int) + (b.length : Int) ≤ r) : app (mk t r a) k b = (mk (upd t k { t k with b := (t k).b ++ b }) r (a + 1), 0) := by
  unfold app
  rw [err_mk t r a hk, if_neg (by decide), if_neg (by simp only [Int.toNat_natCast, mk]; omega)]
  exact act_mk _ _ _
theorem app_full (t : Nat → Tp) (r a : Int) {k : Nat} (hk : k < 4) (b : List (BitVec 8)) (h : r < ((t k).b.length : Int) + (b.length : Int)) : app (mk t r a) k b = (mk t r a, 40) := by
  unfold app
  rw [err_mk t r a hk, if_neg (by decide), if_pos (by simp only [Int.toNat_natCast, mk]; omega)]
theorem clear_mk (t : Nat → Tp) (r a : Int) {k : Nat} (hk : k < 4) : clear (mk t r a) k = (mk (upd t k (clearT (t k))) r (a + 1), 0) := by
  unfold clear
  rw [err_mk t r a hk, if_neg (by decide)]
  exact act_mk _ _ _
theorem flush_mk (t : Nat → Tp) (r a : Int) {k : Nat} (hk : k < 4) : flush (mk t r a) k = (mk (upd t k (flushT (t k))) r (a + 1), 0) := by
  unfold flush
  rw [err_mk t r a hk, if_neg (by decide), act_mk, if_neg (by simp)]
  rfl
theorem read_mk (t : Nat → Tp) (r a : Int) {k : Nat} (hk : k < 4) : read (mk t r a) k = ((t k).b, 0) := by
  unfold read
  rw [err_mk t r a hk, if_neg (by decide)]
  rfl
theorem safe_mk (t : Nat → Tp) (r a : Int) {k : Nat} (hk : k < 4) : safe (mk t r a) k = if (t k).fresh = true then 0 else ((t k).safe : Int) := by
  unfold safe
  rw [err_mk t r a hk, if_neg (by decide)]
  rfl
theorem crash_mk (t : Nat → Tp) (r a : Int) (ks : List Int) : crash (mk t r a) ks = mk (fun i => crashT (t i) (ks.getD i 0)) r a := rfl
/-- what the law 'DiskSure' sees -/
def t0 : Nat → Tp := fun _ => ⟨[], 0, [], false⟩
def sure1 (s : List (BitVec 8)) : Dsk := mk (upd t0 2 ⟨s, 0, [], false⟩) 10000 1
def sure2 (s : List (BitVec 8)) : Dsk := mk (upd t0 2 ⟨s, s.length, [], false⟩) 10000 2
def sure3 (s m : List (BitVec 8)) : Dsk := mk (upd t0 2 ⟨s ++ m, s.length, [], false⟩) 10000 3
def sure4 (s : List (BitVec 8)) : Dsk := mk (upd t0 2 ⟨[], 0, s, true⟩) 10000 4
def sure5 (s f : List (BitVec 8)) : Dsk := mk (upd t0 2 ⟨f, 0, s, true⟩) 10000 5
theorem sure_new : new 10000 = mk t0 10000 0 := by rw [new_mk]; rfl
theorem sure_1 (s : List (BitVec 8)) (h : s.length ≤ 3000) : app (mk t0 10000 0) (2 : Nat) s = (sure1 s, 0) := by
  rw [app_mk t0 10000 0 (by decide) s (by simp [t0]; omega)]; rfl
theorem sure_2 (s : List (BitVec 8)) : flush (sure1 s) (2 : Nat) = (sure2 s, 0) := by
  unfold sure1
  rw [flush_mk _ _ _ (by decide), upd_same]
  unfold sure2 flushT
  congr 2
  funext j; unfold upd; split <;> rfl
theorem sure_3 (s m : List (BitVec 8)) (h : s.length ≤ 3000) (h2 : m.length ≤ 3000) : app (sure2 s) (2 : Nat) m = (sure3 s m, 0) := by
  unfold sure2
  rw [app_mk _ _ _ (by decide) m (by rw [upd_same]; simp only; omega), upd_same]
  unfold sure3
  congr 2
  funext j; unfold upd; split <;> rfl
theorem sure_4 (s m : List (BitVec 8)) : clear (sure3 s m) (2 : Nat) = (sure4 s, 0) := by
  unfold sure3
  rw [clear_mk _ _ _ (by decide), upd_same]
  unfold sure4 clearT
  congr 2
  funext j; unfold upd; split
  · simp
  · rfl
theorem sure_5 (s f : List (BitVec 8)) (h : f.length ≤ 3000) : app (sure4 s) (2 : Nat) f = (sure5 s f, 0) := by
  unfold sure4
  rw [app_mk _ _ _ (by decide) f (by rw [upd_same]; simp; omega), upd_same]
  unfold sure5
  congr 2
  funext j; unfold upd; split
  · simp
  · rfl
theorem sure_read3 (s m : List (BitVec 8)) (keep : Int) : read (crash (sure3 s m) [9, 9, keep]) (2 : Nat) = (s ++ m.take (min (max keep 0) m.length).toNat, 0) := by
  unfold sure3
  rw [crash_mk, read_mk _ _ _ (by decide), upd_same]
  simp only [crashT, crashB, Bool.false_eq_true, false_and, if_false]
  rw [List.take_append, show ([9, 9, keep] : List Int).getD 2 0 = keep by rfl]
  simp only [List.length_append]
  rw [List.take_of_length_le (by omega)]
  congr 3
  omega
theorem sure_read5 (s f : List (BitVec 8)) (keep : Int) : read (crash (sure5 s f) [9, 9, keep]) (2 : Nat) = (if keep < 0 then s else f.take (min (max keep 0) f.length).toNat, 0) := by
  unfold sure5
  rw [crash_mk, read_mk _ _ _ (by decide), upd_same]
  simp only [crashT, crashB, true_and]
  rw [show ([9, 9, keep] : List Int).getD 2 0 = keep by rfl]
  congr 1
  split
  · rfl
  · congr 1; omega
theorem sure_safe (D : Dsk) (ks : List Int) (l : List (BitVec 8)) (h : read (crash D ks) (2 : Nat) = (l, 0)) : safe (crash D ks) (2 : Nat) = l.length := by
  unfold read at h
  unfold safe
  split at h
  · rename_i he
    simp only [Prod.mk.injEq] at h
    exact absurd h.2 he
  · rename_i he
    rw [if_neg he]
    simp only [Prod.mk.injEq, and_true] at h
    rw [← h]
    rfl
end Dk

/-- numbers in a block, from its head on -/
theorem sl_cells_int {ok : Nat → Prop} {w : World} {g te : Nat} {fr : Nat × Nat} {cs : Array Value} {l : List Int} (h : w.heap[g]? = some (.cells cs te fr)) (hc : cs.toList = l.map fun c => Value.int .i64 c) (hr : ∀ x ∈ l, -9223372036854775808 ≤ x ∧ x ≤ 9223372036854775807) (hok : ok g) : Sl EInt ok w (some ⟨g, 0, none⟩) l := by
  intro k x hx
  refine ⟨g, 0, rfl, hok, [.int .i64 x], ⟨rfl, hr x (List.mem_of_getElem? hx)⟩, fun j v hj => ?_⟩
  have hj0 : j = 0 := by
    have := (List.getElem?_eq_some_iff.1 hj).1
    simp at this; exact this
  subst hj0
  simp at hj; subst hj
  have : cs[k]? = some (.int .i64 x) := by
    rw [← Array.getElem?_toList, hc, List.getElem?_map, hx]; rfl
  simp [World.cell?, h, EInt, this]

set_option maxRecDepth 100000 in
set_option maxHeartbeats 6400000 in
theorem law_DiskSure (a0 : Option Addr) (c0 : Nat) (s : List (BitVec 8)) (a1 : Option Addr) (c1 : Nat) (m : List (BitVec 8)) (a2 : Option Addr) (c2 : Nat) (f : List (BitVec 8)) (keep : Int) (cl : Bool) (w : World)
    (hs0 : Sl EU8 (fun _ => True) w a0 s) (hc0 : s.length ≤ c0) (hm0 : c0 ≤ maxLen) (hs1 : Sl EU8 (fun _ => True) w a1 m) (hc1 : m.length ≤ c1) (hm1 : c1 ≤ maxLen) (hs2 : Sl EU8 (fun _ => True) w a2 f) (hc2 : f.length ≤ c2) (hm2 : c2 ≤ maxLen) (hk : -9223372036854775808 ≤ keep ∧ keep ≤ 9223372036854775807) :
    Calls Try.prog 4 #[.slice a0 s.length c0, .slice a1 m.length c1, .slice a2 f.length c2, .int .i64 keep, .bool cl] w fun e w' => e = .returned (.bool true) ∧ Below w.heap.size w w' := by
  go_enter Try.func4, Try.ntmps4
  go_wp2_with fail
  refine (law16_head _).mono ?_
  rintro e w1 ⟨rfl, hb1⟩
  by_cases g0 : 3000 < s.length
  · have g0' : decide (3000 < (s.length : Int)) = true := by simp; omega
    go_wp2_with fail
    go_ret
    exact ⟨rfl, hb1⟩
  have g0' : decide (3000 < (s.length : Int)) = false := by simp; omega
  by_cases g1 : 3000 < m.length
  · have g1' : decide (3000 < (m.length : Int)) = true := by simp; omega
    go_wp2_with fail
    go_ret
    exact ⟨rfl, hb1⟩
  have g1' : decide (3000 < (m.length : Int)) = false := by simp; omega
  by_cases g2 : 3000 < f.length
  · have g2' : decide (3000 < (f.length : Int)) = true := by simp; omega
    go_wp2_with fail
    go_ret
    exact ⟨rfl, hb1⟩
  have g2' : decide (3000 < (f.length : Int)) = false := by simp; omega
  go_wp2_with fail
  refine (disk_New 10000 w1.heap.size _ (by rfl) (by decide)).mono ?_
  rintro e w2 ⟨rfl, hd2, hb2, hz2⟩
  rw [Dk.sure_new] at hd2
  obtain ⟨g, hg⟩ : ∃ g, g = w1.heap.size := ⟨_, rfl⟩
  rw [← hg] at hd2 hb2 ⊢
  have hwg : w.heap.size ≤ g := by rw [hg]; exact hb1.size
  have hD2 : DkOwn w.heap.size (· = g) w2 g (Dk.mk Dk.t0 10000 0) := ⟨hd2, by rw [← Dk.sure_new]; exact Dk.ok_new _, fun k hk => by omega⟩
  have hbw2 := hb1.trans (hb2.mono hwg)
  have Hg := Lib.hid hg
  clear hd2 hb2 hz2 hb1 hg
  have h1 := Dk.sure_1 s (by omega)
  go_wp2_with fail
  refine (disk_Append g _ (2 : Nat) _ _ c0 s _ hD2.at_ hD2.ok (by decide) rfl (hD2.outside (by decide) hs0 rfl hbw2) (by omega)).mono ?_
  rw [h1]
  rintro e w3 ⟨rfl, F3, ha3, ht3⟩
  obtain ⟨hD3, hb3⟩ := hD2.turn ht3 ha3 (by have := Dk.ok_app hD2.ok (2 : Nat) s; rw [h1] at this; exact this)
  have hbw3 := hbw2.trans hb3
  clear hD2 ht3 ha3 hb3 hbw2 h1
  have h2 := Dk.sure_2 s
  dsimp only
  go_wp2_with fail
  refine (disk_Flush g _ (2 : Nat) _ hD3.at_ hD3.ok (by simp [Dk.sure1, Dk.mk])).mono ?_
  rw [h2]
  rintro e w4 ⟨rfl, ha4, ho4⟩
  obtain ⟨hD4, hb4⟩ := hD3.turn ⟨ho4, fun k hk => .inl hk⟩ ha4 (by have := Dk.ok_flush hD3.ok (2 : Nat); rw [h2] at this; exact this)
  have hbw4 := hbw3.trans hb4
  clear hD3 ho4 ha4 hb4 hbw3 h2
  have h3 := Dk.sure_3 s m (by omega) (by omega)
  dsimp only
  go_wp2_with fail
  refine (disk_Append g _ (2 : Nat) _ _ c1 m _ hD4.at_ hD4.ok (by simp [Dk.sure2, Dk.mk]) rfl (hD4.outside (by decide) hs1 rfl hbw4) (by omega)).mono ?_
  rw [h3]
  rintro e w5 ⟨rfl, F5, ha5, ht5⟩
  obtain ⟨hD5, hb5⟩ := hD4.turn ht5 ha5 (by have := Dk.ok_app hD4.ok (2 : Nat) m; rw [h3] at this; exact this)
  have hbw5 := hbw4.trans hb5
  clear hD4 ht5 ha5 hb5 hbw4 h3
  dsimp only
  cases cl
  · go_upto_region 10 with fail
    go_wp2_with fail
    have hx := alloc_below w5 (.cells #[.int .i64 9, .int .i64 9, .int .i64 keep] 3)
    have hDx := hD5.keep hx
    have hkx : Sl EInt (fun k => ¬ F5 k) (w5.alloc (.cells #[.int .i64 9, .int .i64 9, .int .i64 keep] 3)) (some ⟨w5.heap.size, 0, none⟩) [9, 9, keep] :=
      sl_cells_int (heap_alloc_new w5 _) (by rfl) (by intro x hx; simp at hx; rcases hx with rfl | rfl; exact ⟨by decide, by decide⟩; exact hk) fun hF => by have := hD5.flt _ hF; omega
    refine (disk_Crash g _ _ 3 3 [9, 9, keep] _ hDx.at_ hDx.ok (by rfl) hkx).mono ?_
    rintro e w8 ⟨rfl, F8, ha8, ht8⟩
    obtain ⟨hD8, hb8⟩ := hDx.turn ht8 ha8 (Dk.ok_crash hDx.ok _)
    have hbw8 := (hbw5.trans (hx.mono hbw5.size)).trans hb8
    clear hDx ht8 ha8 hb8 hkx hx
    have hrd := Dk.sure_read3 s m keep
    have hsf := Dk.sure_safe _ _ _ hrd
    obtain ⟨L, hL⟩ : ∃ L, L = s ++ m.take (min (max keep 0) m.length).toNat := ⟨_, rfl⟩
    rw [← hL] at hrd hsf
    have hLl : L.length ≤ 6000 := by rw [hL]; rw [List.length_append, List.length_take]; omega
    have HL := Lib.hid hL
    have Hsf := Lib.hid hsf
    clear hL hsf
    go_wp2_with fail
    refine (disk_Read g _ (2 : Nat) w8.heap.size _ (by rfl) hD8.at_ hD8.ok).mono ?_
    rw [hrd]
    rintro e w9 ⟨v9, rfl, ho9, hb9⟩
    obtain ⟨a9, c9, rfl, hc9, hm9, hr9, _⟩ := ho9.shape L.length rfl
    have hD9 := hD8.keep hb9
    have hbw9 := hbw8.trans (hb9.mono hbw8.size)
    clear hD8 hbw8 hb9 ho9 hrd
    go_wp2_with fail
    refine (disk_Safe g _ (2 : Nat) _ hD9.at_).mono ?_
    rw [Hsf.out]
    rintro e w10 ⟨rfl, rfl⟩
    have hne : ((L.length : Int) != (L.length : Int)) = false := by simp
    clear hD9
    obtain ⟨q, hq⟩ : ∃ q, q = (min (max keep 0) m.length).toNat := ⟨_, rfl⟩
    have hqm : q ≤ m.length := by omega
    have hLs : L = s ++ m.take q := by rw [HL.out, hq]
    have Hq := Lib.hid hq
    have HLs := Lib.hid hLs
    clear hLs hq
    have hr9d : RB w9.drew a9 L.length L := hr9.below (by decide) ((Below.refl _ _).drew)
    have hs0d := (hs0.below (by decide) hbw9).below (by decide) ((Below.refl w9.heap.size w9).drew)
    have hcp := ref_Copy a0 s.length c0 s w9.drew ⟨rfl, hs0d⟩ (by omega)
    have Hcp := Lib.hid hcp
    have hsm : ∀ (w11 : World) (v11 : Value), Below w9.drew.heap.size w9.drew w11 → Own EU8 5 w9.drew.heap.size w11 v11 s → Sl EU8 (fun b => some b ≠ v11.ownBlock) w11 a1 (m.take q) := fun w11 v11 hb ho => by
      have h0 : Sl EU8 (fun k => k < w.heap.size) w a1 m := hs1.mono (ok' := fun k => k < w.heap.size) (by decide) fun k _ hk => ⟨rfl, hk⟩
      have h1 : Sl EU8 (fun k => k < w.heap.size) w a1 (m.take q) := fun i x hx => by
        rw [List.getElem?_take] at hx
        split at hx
        · exact h0 i x hx
        · cases hx
      refine h1.mono (by decide) fun k hk hlt => ⟨(hb.block k (Nat.lt_of_lt_of_le hk hbw9.size)).trans (hbw9.block k hk), fun e => by have := (ho.lt k e.symm).1; have := hbw9.size; simp only [drew_size] at *; omega⟩
    have Hsm := Lib.hid hsm
    have hsame : ∀ (w11 w12 : World), Below w9.drew.heap.size w9.drew w11 → Below w9.drew.heap.size w11 w12 → ∀ (a12 : Option Addr) (c12 : Nat), RB w12 a12 L.length (s ++ m.take q) → Calls Try.prog 14 #[.slice a9 L.length c9, .slice a12 L.length c12] w12 fun e w' => e = .returned (.bool true) ∧ w12 = w' := fun w11 w12 h1 h2 a12 c12 hr => by
      have hbb : Below w9.drew.heap.size w9.drew w12 := h1.trans h2
      refine (ref_Same _ _ _ _ _ _ L (s ++ m.take q) _ (hr9d.below hbb) hr).mono ?_
      rw [HLs.out, beq_self_eq_true]
      rintro e w' ⟨rfl, rfl⟩
      exact ⟨rfl, rfl⟩
    have Hsame := Lib.hid hsame
    have hbel : ∀ (w11 w12 : World), Below w9.drew.heap.size w9.drew w11 → Below w9.drew.heap.size w11 w12 → Below w.heap.size w w12 := fun w11 w12 h1 h2 => (hbw9.drew.trans (h1.mono hbw9.size)).trans (h2.mono hbw9.size)
    have Hbel := Lib.hid hbel
    have hb1 : s.length + (m.take q).length ≤ maxLen := by rw [List.length_take]; unfold maxLen; omega
    have hb2 : (s.length + (m.take q).length) * 1 ≤ 140737488355328 := by rw [List.length_take]; omega
    have hll : L.length = (s ++ m.take q).length := by rw [HLs.out]
    have Hb1 := Lib.hid hb1
    have Hb2 := Lib.hid hb2
    have Hll := Lib.hid hll
    have hml : q = (m.take q).length := by rw [List.length_take]; omega
    have Hml0 := Lib.hid hml
    clear hcp hsm hsame hbel hb1 hb2 hll hml hr9d hs0d hs0 hs1 hs2 hr9
    by_cases hk0 : keep < 0
    · have hq0 : q = 0 := by have := Hq.out; omega
      have hif : (if (m.length : Int) < 0 then (m.length : Int) else 0) = 0 := if_neg (by omega)
      have hml : 0 = (m.take q).length := by rw [← Hml0.out, hq0]
      have Hml := Lib.hid hml
      have Hq0 := Lib.hid hq0
      clear hml hq0
      go_wp2_with fail
      go_region_law ((first
        | (go_simp; go_at_call 25; refine (Hcp.out).mono ?_; rintro e w11 ⟨v11, rfl, ho11, hb11⟩; have hsm := Hsm.out w11 v11 hb11 ho11; have hbz := hb11.size)
        | ((rw [if_pos (by simp [Region.wanted])]); refine step_app EU8 (by rfl) (by rfl) (by rfl) ti_bytes ho11 Hml.out hsm Hb1.out Hb2.out hbz ?_; intro v12 w12 ho12 hg12 hv12 hb12; obtain ⟨a12, c12, rfl, hc12, hm12, hr12, _⟩ := ho12.shape L.length Hll.out; have hsame := Hsame.out w11 w12 hb11 hb12 a12 c12 hr12)
        | (go_simp; go_at_call 14; refine hsame.mono ?_; rintro e w13 ⟨rfl, rfl⟩)))
      all_goals
        go_wp2_with fail
        go_ret
        exact ⟨rfl, Hbel.out w11 _ hb11 hb12⟩
    · have hk0' : 0 ≤ keep := by omega
      by_cases hkm : (m.length : Int) < keep
      · have hq0 : q = m.length := by have := Hq.out; omega
        have hml : m.length = (m.take q).length := by rw [← Hml0.out, hq0]
        have Hml := Lib.hid hml
        have Hq0 := Lib.hid hq0
        clear hml hq0
        go_wp2_with fail
        go_region_law ((first
          | (go_simp; go_at_call 25; refine (Hcp.out).mono ?_; rintro e w11 ⟨v11, rfl, ho11, hb11⟩; have hsm := Hsm.out w11 v11 hb11 ho11; have hbz := hb11.size)
          | ((rw [if_pos (by simp [Region.wanted])]); refine step_app EU8 (by rfl) (by rfl) (by rfl) ti_bytes ho11 Hml.out hsm Hb1.out Hb2.out hbz ?_; intro v12 w12 ho12 hg12 hv12 hb12; obtain ⟨a12, c12, rfl, hc12, hm12, hr12, _⟩ := ho12.shape L.length Hll.out; have hsame := Hsame.out w11 w12 hb11 hb12 a12 c12 hr12)
          | (go_simp; go_at_call 14; refine hsame.mono ?_; rintro e w13 ⟨rfl, rfl⟩)))
        all_goals
          go_wp2_with fail
          go_ret
          exact ⟨rfl, Hbel.out w11 _ hb11 hb12⟩
      · have hq0 : keep = (q : Int) := by have := Hq.out; omega
        have hkm' : (q : Int) ≤ (m.length : Int) := by omega
        have hkc : (q : Int) ≤ (c1 : Int) := by omega
        have hif : (if m.length < q then (m.length : Int) else (q : Int)) = (q : Int) := if_neg (by omega)
        have Hml := Hml0
        subst hq0
        have hk00 : ¬ ((q : Int) < 0) := by omega
        go_wp2_with fail
        go_region_law ((first
          | (go_simp; go_at_call 25; refine (Hcp.out).mono ?_; rintro e w11 ⟨v11, rfl, ho11, hb11⟩; have hsm := Hsm.out w11 v11 hb11 ho11; have hbz := hb11.size)
          | ((rw [if_pos (by simp [Region.wanted])]); refine step_app EU8 (by rfl) (by rfl) (by rfl) ti_bytes ho11 Hml.out hsm Hb1.out Hb2.out hbz ?_; intro v12 w12 ho12 hg12 hv12 hb12; obtain ⟨a12, c12, rfl, hc12, hm12, hr12, _⟩ := ho12.shape L.length Hll.out; have hsame := Hsame.out w11 w12 hb11 hb12 a12 c12 hr12)
          | (go_simp; go_at_call 14; refine hsame.mono ?_; rintro e w13 ⟨rfl, rfl⟩)))
        all_goals
          go_wp2_with fail
          go_ret
          exact ⟨rfl, Hbel.out w11 _ hb11 hb12⟩
  · have h4 := Dk.sure_4 s m
    go_wp2_with fail
    refine (disk_Clear g _ (2 : Nat) _ hD5.at_ hD5.ok (by simp [Dk.sure3, Dk.mk])).mono ?_
    rw [h4]
    rintro e w6 ⟨rfl, ha6, ho6⟩
    obtain ⟨hD6, hb6⟩ := hD5.turn ⟨ho6, fun k hk => .inl hk⟩ ha6 (by have := Dk.ok_clear hD5.ok (2 : Nat); rw [h4] at this; exact this)
    have hbw6 := hbw5.trans hb6
    clear hD5 ho6 ha6 hb6 hbw5 h4
    have h5 := Dk.sure_5 s f (by omega)
    dsimp only
    go_wp2_with fail
    refine (disk_Append g _ (2 : Nat) _ _ c2 f _ hD6.at_ hD6.ok (by simp [Dk.sure4, Dk.mk]) rfl (hD6.outside (by decide) hs2 rfl hbw6) (by omega)).mono ?_
    rw [h5]
    rintro e w7 ⟨rfl, F7, ha7, ht7⟩
    obtain ⟨hD7, hb7⟩ := hD6.turn ht7 ha7 (by have := Dk.ok_app hD6.ok (2 : Nat) f; rw [h5] at this; exact this)
    have hbw7 := hbw6.trans hb7
    clear hD6 ht7 ha7 hb7 hbw6 h5
    dsimp only
    go_wp2_with fail
    have hx := alloc_below w7 (.cells #[.int .i64 9, .int .i64 9, .int .i64 keep] 3)
    have hDx := hD7.keep hx
    have hkx : Sl EInt (fun k => ¬ F7 k) (w7.alloc (.cells #[.int .i64 9, .int .i64 9, .int .i64 keep] 3)) (some ⟨w7.heap.size, 0, none⟩) [9, 9, keep] :=
      sl_cells_int (heap_alloc_new w7 _) (by rfl) (by intro x hx; simp at hx; rcases hx with rfl | rfl; exact ⟨by decide, by decide⟩; exact hk) fun hF => by have := hD7.flt _ hF; omega
    refine (disk_Crash g _ _ 3 3 [9, 9, keep] _ hDx.at_ hDx.ok (by rfl) hkx).mono ?_
    rintro e w8 ⟨rfl, F8, ha8, ht8⟩
    obtain ⟨hD8, hb8⟩ := hDx.turn ht8 ha8 (Dk.ok_crash hDx.ok _)
    have hbw8 := (hbw7.trans (hx.mono hbw7.size)).trans hb8
    clear hDx ht8 ha8 hb8 hkx hx
    have hrd := Dk.sure_read5 s f keep
    have hsf := Dk.sure_safe _ _ _ hrd
    obtain ⟨L, hL⟩ : ∃ L, L = if keep < 0 then s else f.take (min (max keep 0) f.length).toNat := ⟨_, rfl⟩
    rw [← hL] at hrd hsf
    have hLl : L.length ≤ 6000 := by rw [hL]; split; omega; rw [List.length_take]; omega
    have HL := Lib.hid hL
    have Hsf := Lib.hid hsf
    clear hL hsf
    go_wp2_with fail
    refine (disk_Read g _ (2 : Nat) w8.heap.size _ (by rfl) hD8.at_ hD8.ok).mono ?_
    rw [hrd]
    rintro e w9 ⟨v9, rfl, ho9, hb9⟩
    obtain ⟨a9, c9, rfl, hc9, hm9, hr9, _⟩ := ho9.shape L.length rfl
    have hD9 := hD8.keep hb9
    have hbw9 := hbw8.trans (hb9.mono hbw8.size)
    clear hD8 hbw8 hb9 ho9 hrd
    go_wp2_with fail
    refine (disk_Safe g _ (2 : Nat) _ hD9.at_).mono ?_
    rw [Hsf.out]
    rintro e w10 ⟨rfl, rfl⟩
    have hne : ((L.length : Int) != (L.length : Int)) = false := by simp
    clear hD9
    by_cases hk0 : keep < 0
    · have hLs : L = s := by rw [HL.out, if_pos hk0]
      have HLs := Lib.hid hLs
      clear hLs
      go_wp2_with fail
      refine (ref_Same _ _ _ _ _ _ L s _ hr9 ⟨rfl, hs0.below (by decide) hbw9⟩).mono ?_
      rw [HLs.out, beq_self_eq_true]
      rintro e w11 ⟨rfl, rfl⟩
      go_wp2_with fail
      go_ret
      exact ⟨rfl, hbw9⟩
    · have hk0' : 0 ≤ keep := by omega
      by_cases hkf : (f.length : Int) < keep
      · have hLs : L = f := by rw [HL.out, if_neg hk0, List.take_of_length_le (by omega)]
        have HLs := Lib.hid hLs
        clear hLs
        go_wp2_with fail
        refine (ref_Same _ _ _ _ _ _ L f _ hr9 ⟨rfl, hs2.below (by decide) hbw9⟩).mono ?_
        rw [HLs.out, beq_self_eq_true]
        rintro e w11 ⟨rfl, rfl⟩
        go_wp2_with fail
        go_ret
        exact ⟨rfl, hbw9⟩
      · have hkf' : keep ≤ (f.length : Int) := by omega
        have hkc : keep ≤ (c2 : Int) := by omega
        have hLs : L = f.take keep.toNat := by rw [HL.out, if_neg hk0]; congr 1; omega
        have HLs := Lib.hid hLs
        clear hLs
        go_wp2_with fail
        refine (ref_Same _ _ _ _ _ _ L (f.take keep.toNat) _ hr9 (RB.take (hs2.below (by decide) hbw9) (by omega))).mono ?_
        rw [HLs.out, beq_self_eq_true]
        rintro e w11 ⟨rfl, rfl⟩
        go_wp2_with fail
        go_ret
        exact ⟨rfl, hbw9⟩
end Go.Proofs.Ytennjoegjghlaaa

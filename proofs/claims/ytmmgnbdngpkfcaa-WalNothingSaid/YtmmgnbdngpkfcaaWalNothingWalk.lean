
/-
  The law WalNothing, walked.
-/
import Derived.Test.YtmmgnbdngpkfcaaWalO
namespace Go.Proofs.Ytmmgnbdngpkfcaa
open Go.RowKit
set_option linter.unusedVariables false

theorem i64_and255 (n : Int) : bits .and .i64 n 255 = n % 256 := by
  have h : bits .and .i64 n 255 = IntKind.i64.wrap ((BitVec.ofInt 64 n &&& BitVec.ofInt 64 255).toNat : Int) := rfl
  rw [h]
  have : (BitVec.ofInt 64 n &&& BitVec.ofInt 64 255).toNat = (BitVec.ofInt 64 n).toNat % 256 := by
    rw [BitVec.toNat_and]
    exact Nat.and_two_pow_sub_one_eq_mod _ 8
  rw [this, BitVec.toNat_ofInt, IntKind.wrap_i64]
  omega
attribute [go_sem] i64_and255

theorem disk_right_nil0 (t : Int) (w : World) :
    Calls Try.prog 75 #[.pointer none, .int .i64 t] w fun e w' => e = .returned (.int .i64 1) ∧ w = w' := by
  go_enter Try.func75, Try.ntmps75
  go_wp2_with fail
  go_ret
  exact ⟨rfl, rfl⟩
theorem disk_Read_nil0 (t : Int) (w : World) :
    Calls Try.prog 27 #[.pointer none, .int .i64 t] w fun e w' => e = .returned (.tuple #[.slice none 0 0, .int .i64 1]) ∧ w = w' := by
  go_enter Try.func27, Try.ntmps27
  go_wp2_with fail
  refine (disk_right_nil0 t _).mono ?_
  rintro e w1 ⟨rfl, rfl⟩
  go_wp2_with fail
  refine bodyPost_ret (v := .tuple #[.slice none 0 0, .int .i64 1]) (by simp [results, Try.results27, go_sem]) rfl ?_
  exact ⟨rfl, rfl⟩
theorem wal_Open_nil (w : World) :
    Calls Try.prog 32 #[.pointer none] w fun e w' => e = .returned (.tuple #[.pointer none, .int .i64 1]) ∧ Below w.heap.size w w' := by
  obtain ⟨w1, hw1⟩ : ∃ x, x = w.alloc (.cells #[.pointer none, .int .i64 0, .slice none 0 0, .slice none 0 0, .bool false] 145) := ⟨_, rfl⟩
  have hb1 : Below w.heap.size w w1 := by rw [hw1]; exact alloc_below _ _
  go_enter Try.func32, Try.ntmps32
  go_upto_region 2 with fail
  rw [← hw1]
  clear hw1
  go_wp2_with fail
  go_loopw [5, 18] (fun s i wr => i = .int .i64 0 ∧ wr = w1) (fun _ i _ => 0)
  case atStart => exact ⟨rfl, rfl⟩
  case round =>
    obtain ⟨rfl, rfl⟩ := hrel
    go_wp2_with fail
    refine (disk_Read_nil0 0 _).mono ?_
    rintro e w2 ⟨rfl, rfl⟩
    go_wp2_with fail
    refine bodyPost_ret (v := .tuple #[.pointer none, .int .i64 1]) (by simp [results, Try.results32, go_sem]) rfl ?_
    exact ⟨rfl, hb1⟩

namespace Wl
theorem picks_new (r : Int) : picks (Dk.new r) = (⟨0, [], [], false⟩, false) := rfl
theorem ok_zero : Ok ⟨0, [], [], false⟩ := ⟨by decide, by decide, fun n hn => (by cases hn), by decide⟩
theorem ok_one : Ok ⟨1, [], [], false⟩ := ⟨by decide, by decide, fun n hn => (by cases hn), by decide⟩
theorem ok_note (b : Byt) (h : b.length ≤ 65536) : Ok ⟨1, [], [b], false⟩ := ⟨(by decide : (1 : Nat) ≤ 1099511627776), (by decide : (0 : Nat) ≤ 65500), fun n hn => (by rw [List.mem_singleton] at hn; subst hn; exact h), by simp [nfs, Frm.encs, Frm.enc_len]; omega⟩
theorem hdata1 : (hdata 1 0 []).length = 2 := by decide +kernel
theorem front2 : (front (BitVec.ofNat 64 2) (BitVec.ofNat 64 0)).length = 1 := by decide +kernel
theorem hdata2 (b : Byt) : (hdata 2 0 b).length = 2 + b.length := by
  unfold hdata
  rw [List.length_cons, List.length_append, front2]
  omega
theorem tape_new {D : Dk.Dsk} (h : Std D ⟨1, [], [], false⟩) : (D.t 1).b.length = 14 := by
  obtain ⟨m, hm, hs, hb⟩ := h.here
  have hm0 : m = 0 := by simpa using hm
  subst hm0
  have hb1 : (D.t 1).b = tapeOf 1 0 [] [] [] := hb
  rw [hb1, tapeOf_len, hdata1]
  simp [nfs, Frm.encs]
theorem append_long {D : Dk.Dsk} {L : Lg} {b : Byt} (hd : L.dead = false) (h : 65536 < b.length) : append D L b = (D, L, 3) := by unfold append; rw [if_neg (by rw [hd]; decide), if_pos h]
theorem check_long {D : Dk.Dsk} {L : Lg} {b : Byt} (hd : L.dead = false) (h : 65516 < b.length) : check D L b = (D, L, 3) := by unfold check; rw [if_neg (by rw [hd]; decide), if_pos h]
theorem call_eq' {R : Dk.Dsk × Lg × Int} {e : Int} (h2 : R.2.2 = e) : R = (R.1, R.2.1, e) := by
  obtain ⟨D, o, x⟩ := R
  simp only at h2
  subst h2
  rfl
end Wl
theorem old_sl {α : Type} {E : Enc α} {B B1 N : Nat} {w w' : World} {a : Option Addr} {l : List α} (hE : 0 < E.sz) (hs : Sl E (fun k => k < B) w a l) (hB : w.heap.size = B) (hB1 : B ≤ B1) (hb : Below B w w') : Sl E (fun k => k < B1 ∨ N ≤ k) w' a l :=
  hs.mono hE fun k hk _ => ⟨hb.block k hk, .inl (Nat.lt_of_lt_of_le hk hB1)⟩
theorem old_low {B : Nat} {w : World} {a : Option Addr} {l : List (BitVec 8)} (hs : Sl EU8 (fun _ => True) w a l) (hB : w.heap.size = B) : Sl EU8 (fun k => k < B) w a l := by
  intro k x hx
  obtain ⟨b, o, e, _, cs, hr, hc⟩ := hs k x hx
  refine ⟨b, o, e, ?_, cs, hr, hc⟩
  obtain rfl : cs = [.int .u8 (bv x)] := hr
  rw [← hB]; exact cell_lt (hc 0 _ rfl)
theorem made_sl {B : Nat} {w0 w : World} {n : Nat} (hn : n ≤ maxLen) (hw : w = w0.alloc (.cells (madeCells #[.int .u8 0] n) 5)) (hB : B ≤ w0.heap.size) : Sl EU8 (fun k => k < B ∨ w0.heap.size ≤ k) w (some ⟨w0.heap.size, 0, none⟩) (List.replicate n 0#8) := by
  rw [hw]
  exact (own_made 5 w0 n hn).slB.mono (by decide) fun k hk _ => ⟨rfl, .inr hk⟩

set_option maxRecDepth 100000 in
set_option maxHeartbeats 6400000 in
theorem law_WalNothing (a : Option Addr) (c : Nat) (b : List (BitVec 8)) (room : Int) (w : World) (hs : Sl EU8 (fun _ => True) w a b) (hc : b.length ≤ c) (hm : c ≤ maxLen) (hr : -9223372036854775808 ≤ room ∧ room ≤ 9223372036854775807) :
    Calls Try.prog 8 #[.slice a b.length c, .int .i64 room] w fun e w' => e = .returned (.bool true) ∧ Below w.heap.size w w' := by
  obtain ⟨B, hB⟩ : ∃ B, B = w.heap.size := ⟨_, rfl⟩
  rw [← hB]
  have HB := Lib.hid hB.symm
  obtain ⟨n, hn⟩ : ∃ n, n = b.length := ⟨_, rfl⟩
  rw [← hn]
  have Hn := Lib.hid hn
  have Hs := Lib.hid hs
  clear hB hn hs
  by_cases hbig : 200 < n
  · have hbig' : (200 : Int) < (n : Int) := by omega
    go_enter Try.func8, Try.ntmps8
    go_wp2_with fail
    refine (law17_head w).mono ?_
    rintro e w1 ⟨rfl, hb1⟩
    rw [HB.out] at hb1
    go_wp2_with fail
    go_ret
    exact ⟨rfl, hb1⟩
  · have hbig' : (n : Int) ≤ 200 := by omega
    have hn200 : n ≤ 200 := by omega
    obtain ⟨q, hq⟩ : ∃ q, q = room % 256 := ⟨_, rfl⟩
    have hq0 : 0 ≤ q ∧ q ≤ 255 := by omega
    have hand : bits .and .i64 room 255 = q := by rw [i64_and255, hq]
    obtain ⟨R, hR⟩ : ∃ R, R = 14 + q := ⟨_, rfl⟩
    have hR0 : 14 ≤ R ∧ R ≤ 269 := by omega
    have hadd : IntKind.i64.wrap (14 + room % 256) = R := by rw [IntWalk.i64_in _ (by omega)]; omega
    have hnew : (Dk.new R).room = R := by show min (max R 0) 4194304 = R; omega
    obtain ⟨D1, e1, s1, r1, a1⟩ := Wl.open_new R (by rw [hnew]; omega)
    rw [hnew] at r1
    have htl := Wl.tape_new s1
    have E1 := Lib.hid e1
    have S1 := Lib.hid s1
    have R1 := Lib.hid r1
    have A1 := Lib.hid a1
    have HR0 := Lib.hid hR0
    have Htl := Lib.hid htl
    clear hbig hq hand e1 s1 r1 a1 hq0 hnew htl hR hR0
    have hq1 : 0 ≤ room % 256 := by omega
    have hq2 : room % 256 ≤ 255 := by omega
    go_enter Try.func8, Try.ntmps8
    go_wp2_with fail
    refine (law17_head w).mono ?_
    rintro e w1 ⟨rfl, hb1⟩
    rw [HB.out] at hb1
    obtain ⟨B1, hB1e⟩ : ∃ x, x = w1.heap.size := ⟨_, rfl⟩
    have hB1 : B ≤ B1 := by rw [hB1e, ← HB.out]; exact hb1.size
    have HB1 := Lib.hid hB1e
    have Hlow := Lib.hid (old_low Hs.out HB.out)
    clear hB1e
    go_wp2_with fail
    refine (b_New R B1 w1 HB1.out.symm (by have := HR0.out; omega)).mono ?_
    rintro e w2 ⟨rfl, h2, hb2⟩
    have hb2 := hb1.trans (hb2.mono hB1)
    go_wp2_with fail
    refine (b_Open w2 h2 (by show (0 : Int) ≤ 0 ∧ (0 : Int) ≤ 8000000000000000000; decide) (by rw [Wl.picks_new]; exact Wl.ok_zero) E1.out).mono ?_
    rintro e w3 ⟨gl, rfl, h3, hb3⟩
    have hb3 := hb2.trans (hb3.mono hB1)
    have hmk1 := run_make_row' (P := Try.prog) 49 5 (.int .u8 0) 1 Try.underlying49 (by kernel_rfl) rfl .i64 .i64 65537 (by decide) (by decide)
    have hmk2 := run_make_row' (P := Try.prog) 49 5 (.int .u8 0) 1 Try.underlying49 (by kernel_rfl) rfl .i64 .i64 65517 (by decide) (by decide)
    have e65 : ((65537 : Nat) : Int) = 65537 := rfl
    have e66 : ((65517 : Nat) : Int) = 65517 := rfl
    simp only [e65] at hmk1
    simp only [e66] at hmk2
    clear e65 e66
    obtain ⟨w4, hw4⟩ : ∃ x, x = w3.alloc (.cells (madeCells #[.int .u8 0] 65537) 5) := ⟨_, rfl⟩
    have hs4 := made_sl (B := B1) (by decide) hw4 h3.size
    have hb34 : Below w3.heap.size w3 w4 := by rw [hw4]; exact alloc_below _ _
    go_wp2_with fail
    rw [← hw4]
    clear hw4
    refine (b_Append _ 65537 _ (List.replicate 65537 0#8) w3 w4 h3 hb34 (by rw [A1.out]; decide) Wl.ok_one (by rw [List.length_replicate]) (by decide) hs4 (Wl.append_long rfl (by rw [List.length_replicate]; decide))).mono ?_
    rintro e w5 ⟨rfl, h5, hb5⟩
    have hb5 := hb3.trans (((hb34.mono h3.size).trans hb5).mono hB1)
    clear hs4 hb34 h2 h3 hb2
    obtain ⟨w6, hw6⟩ : ∃ x, x = w5.alloc (.cells (madeCells #[.int .u8 0] 65517) 5) := ⟨_, rfl⟩
    have hs6 := made_sl (B := B1) (by decide) hw6 h5.size
    have hb56 : Below w5.heap.size w5 w6 := by rw [hw6]; exact alloc_below _ _
    go_wp2_with fail
    rw [← hw6]
    clear hw6
    refine (b_Check _ 65517 _ (List.replicate 65517 0#8) w6 (h5.keep hb56) (by rw [A1.out]; decide) Wl.ok_one (by rw [List.length_replicate]) (by decide) (hs6.any (by decide)) (Wl.check_long rfl (by rw [List.length_replicate]; decide))).mono ?_
    rintro e w7 ⟨rfl, h7, hb7⟩
    have hb7 := hb5.trans (((hb56.mono h5.size).trans hb7).mono hB1)
    clear hs6 hb56 h5 hb5 hb3
    go_wp2_with fail
    refine (b_is none 0 0 [] none 0 0 [] w7 h7 Wl.ok_one (RB.nil _ _) ⟨rfl, Sl.nil _ _ _ _⟩ (by decide) (by decide)).mono ?_
    rintro e w8 ⟨rfl, h8, hb8⟩
    have hb8 := hb7.trans (hb8.mono (Nat.le_trans hB1 h7.size))
    clear h7 hb7
    have hs8 := old_sl (B1 := B1) (N := w8.heap.size) (by decide) Hlow.out HB.out hB1 hb8
    by_cases hfit : 26 + (n : Int) ≤ R
    · obtain ⟨D2, e2, s2, r2, a2, _, _⟩ := S1.out.app b (by rw [← Hn.out]; omega) (by show (((D1.t 1).b.length : Nat) : Int) + 12 + b.length ≤ _; rw [Htl.out, R1.out, ← Hn.out]; omega)
      rw [R1.out] at r2
      rw [A1.out] at a2
      have E2 := Lib.hid e2
      have S2 := Lib.hid s2
      have R2 := Lib.hid r2
      have A2 := Lib.hid a2
      clear e2 s2 r2 a2
      go_wp2_with fail
      refine (b_Append _ _ _ b w8 w8 h8 (Below.refl _ _) (by rw [A1.out]; decide) Wl.ok_one Hn.out (by omega) hs8 E2.out).mono ?_
      rintro e w9 ⟨rfl, h9, hb9⟩
      have hb9 := hb8.trans (hb9.mono hB1)
      clear h8 hs8 hb8
      go_wp2_with fail
      have hlb1 := Wl.hdata2 b
      by_cases hfit2 : 14 + (n : Int) ≤ R
      · obtain ⟨DX, eX, sX, rX, aX⟩ := Wl.check_std (S2.out) (Wl.ok_note b (by rw [← Hn.out]; omega)) b (by rw [← Hn.out]; omega) (by show 12 + ((Wl.hdata 2 0 b).length : Int) ≤ _; rw [hlb1, R2.out, ← Hn.out]; omega)
        have EX := Lib.hid eX
        clear eX sX rX aX hlb1
        go_wp2_with fail
        refine (b_Check _ _ _ b _ h9 (by rw [A2.out]; decide) (Wl.ok_note b (by rw [← Hn.out]; omega)) Hn.out (by omega) ((old_sl (B1 := B1) (N := 0) (by decide) Hlow.out HB.out hB1 hb9).any (by decide)) EX.out).mono ?_
        rintro e wX ⟨rfl, hX, hbX⟩
        have HbZ := hb9.trans (hbX.mono hB1)
        have HsZ : B ≤ wX.heap.size := Nat.le_trans hB1 hX.size
        go_wp2_with fail
        refine (wal_State_nil _).mono ?_
        rintro e wz ⟨rfl, rfl⟩
        go_wp2_with fail
        refine (wal_Open_nil _).mono ?_
        rintro e wy ⟨rfl, hby⟩
        have hby := HbZ.trans (hby.mono HsZ)
        go_wp2_with (first
          | (go_at_call 34; refine (wal_Turn_nil _).mono ?_; rintro e wz ⟨rfl, rfl⟩)
          | (go_at_call 40; refine (wal_Dead_nil _).mono ?_; rintro e wz ⟨rfl, rfl⟩)
          | (go_at_call 35; refine (wal_Append_nil _ _ _ _).mono ?_; rintro e wz ⟨rfl, rfl⟩)
          | (go_at_call 36; refine (wal_Sync_nil _).mono ?_; rintro e wz ⟨rfl, rfl⟩)
          | (go_at_call 37; refine (wal_Check_nil _ _ _ _).mono ?_; rintro e wz ⟨rfl, rfl⟩))
        go_ret
        exact ⟨rfl, hby⟩
      · omega
    · have hfit' : R < 26 + (n : Int) := by omega
      have e2 := S1.out.app_full b (by rw [← Hn.out]; omega) (by show _ < (((D1.t 1).b.length : Nat) : Int) + 12 + b.length; rw [Htl.out, R1.out, ← Hn.out]; omega)
      have E2 := Lib.hid e2
      clear e2
      go_wp2_with fail
      refine (b_Append _ _ _ b w8 w8 h8 (Below.refl _ _) (by rw [A1.out]; decide) Wl.ok_one Hn.out (by omega) hs8 E2.out).mono ?_
      rintro e w9 ⟨rfl, h9, hb9⟩
      have hb9 := hb8.trans (hb9.mono hB1)
      clear h8 hs8 hb8
      go_wp2_with fail
      refine (b_is none 0 0 [] none 0 0 [] w9 h9 Wl.ok_one (RB.nil _ _) ⟨rfl, Sl.nil _ _ _ _⟩ (by decide) (by decide)).mono ?_
      rintro e wa ⟨rfl, ha, hba⟩
      have hba := hb9.trans (hba.mono (Nat.le_trans hB1 h9.size))
      clear h9 hb9
      have hlb2 := Wl.hdata2 b
      by_cases hfit2 : 14 + (n : Int) ≤ R
      · obtain ⟨DX, eX, sX, rX, aX⟩ := Wl.check_std (S1.out) (Wl.ok_one) b (by rw [← Hn.out]; omega) (by show 12 + ((Wl.hdata 2 0 b).length : Int) ≤ _; rw [hlb2, R1.out, ← Hn.out]; omega)
        have EX := Lib.hid eX
        clear eX sX rX aX hlb2
        go_wp2_with fail
        refine (b_Check _ _ _ b _ ha (by rw [A1.out]; decide) (Wl.ok_one) Hn.out (by omega) ((old_sl (B1 := B1) (N := 0) (by decide) Hlow.out HB.out hB1 hba).any (by decide)) EX.out).mono ?_
        rintro e wX ⟨rfl, hX, hbX⟩
        have HbZ := hba.trans (hbX.mono hB1)
        have HsZ : B ≤ wX.heap.size := Nat.le_trans hB1 hX.size
        go_wp2_with fail
        refine (wal_State_nil _).mono ?_
        rintro e wz ⟨rfl, rfl⟩
        go_wp2_with fail
        refine (wal_Open_nil _).mono ?_
        rintro e wy ⟨rfl, hby⟩
        have hby := HbZ.trans (hby.mono HsZ)
        go_wp2_with (first
          | (go_at_call 34; refine (wal_Turn_nil _).mono ?_; rintro e wz ⟨rfl, rfl⟩)
          | (go_at_call 40; refine (wal_Dead_nil _).mono ?_; rintro e wz ⟨rfl, rfl⟩)
          | (go_at_call 35; refine (wal_Append_nil _ _ _ _).mono ?_; rintro e wz ⟨rfl, rfl⟩)
          | (go_at_call 36; refine (wal_Sync_nil _).mono ?_; rintro e wz ⟨rfl, rfl⟩)
          | (go_at_call 37; refine (wal_Check_nil _ _ _ _).mono ?_; rintro e wz ⟨rfl, rfl⟩))
        go_ret
        exact ⟨rfl, hby⟩
      · have hfit2' : R < 14 + (n : Int) := by omega
        have eX := Wl.call_eq' (Wl.check_full (S1.out) b (by rw [← Hn.out]; omega) (by show _ < 12 + ((Wl.hdata 2 0 b).length : Int); rw [hlb2, R1.out, ← Hn.out]; omega))
        have EX := Lib.hid eX
        clear eX hlb2
        go_wp2_with fail
        refine (b_Check _ _ _ b _ ha (by rw [A1.out]; decide) (Wl.ok_one) Hn.out (by omega) ((old_sl (B1 := B1) (N := 0) (by decide) Hlow.out HB.out hB1 hba).any (by decide)) EX.out).mono ?_
        rintro e wX ⟨rfl, hX, hbX⟩
        have HbZ := hba.trans (hbX.mono hB1)
        have HsZ : B ≤ wX.heap.size := Nat.le_trans hB1 hX.size
        go_wp2_with fail
        refine (wal_State_nil _).mono ?_
        rintro e wz ⟨rfl, rfl⟩
        go_wp2_with fail
        refine (wal_Open_nil _).mono ?_
        rintro e wy ⟨rfl, hby⟩
        have hby := HbZ.trans (hby.mono HsZ)
        go_wp2_with (first
          | (go_at_call 34; refine (wal_Turn_nil _).mono ?_; rintro e wz ⟨rfl, rfl⟩)
          | (go_at_call 40; refine (wal_Dead_nil _).mono ?_; rintro e wz ⟨rfl, rfl⟩)
          | (go_at_call 35; refine (wal_Append_nil _ _ _ _).mono ?_; rintro e wz ⟨rfl, rfl⟩)
          | (go_at_call 36; refine (wal_Sync_nil _).mono ?_; rintro e wz ⟨rfl, rfl⟩)
          | (go_at_call 37; refine (wal_Check_nil _ _ _ _).mono ?_; rintro e wz ⟨rfl, rfl⟩))
        go_ret
        exact ⟨rfl, hby⟩
end Go.Proofs.Ytmmgnbdngpkfcaa


/-
  The walk of the law 'DiskRoom'.
-/
import Derived.Test.YtennjoegjghlaaaDiskSureWalk
import Derived.Test.YtennjoegjghlaaaMake
namespace Go.Proofs.Ytennjoegjghlaaa
open Go.RowKit
set_option linter.unusedVariables false

theorem i64_and1023 (n : Int) : bits .and .i64 n 1023 = n % 1024 := by
  have h : bits .and .i64 n 1023 = IntKind.i64.wrap ((BitVec.ofInt 64 n &&& BitVec.ofInt 64 1023).toNat : Int) := rfl
  rw [h]
  have : (BitVec.ofInt 64 n &&& BitVec.ofInt 64 1023).toNat = (BitVec.ofInt 64 n).toNat % 1024 := by
    rw [BitVec.toNat_and]
    exact Nat.and_two_pow_sub_one_eq_mod _ 10
  rw [this, BitVec.toNat_ofInt, IntKind.wrap_i64]
  omega
theorem i64_and63 (n : Int) : bits .and .i64 n 63 = n % 64 := by
  have h : bits .and .i64 n 63 = IntKind.i64.wrap ((BitVec.ofInt 64 n &&& BitVec.ofInt 64 63).toNat : Int) := rfl
  rw [h]
  have : (BitVec.ofInt 64 n &&& BitVec.ofInt 64 63).toNat = (BitVec.ofInt 64 n).toNat % 64 := by
    rw [BitVec.toNat_and]
    exact Nat.and_two_pow_sub_one_eq_mod _ 6
  rw [this, BitVec.toNat_ofInt, IntKind.wrap_i64]
  omega
attribute [go_sem] i64_and1023 i64_and63

namespace Dk
def zs (n : Nat) : List (BitVec 8) := List.replicate n 0#8
theorem zs_len (n : Nat) : (zs n).length = n := by simp [zs]
/-- a disk with so many noughts on tape 1 -/
def rm1 (r : Nat) (b : List (BitVec 8)) (f : Bool) (a : Int) : Dsk := mk (upd t0 1 ⟨b, 0, [], f⟩) r a
theorem rm_new (r : Nat) (h : r < 1024) : new (r : Int) = rm1 r [] false 0 := by
  rw [new_mk]
  unfold rm1
  congr 1
  · funext j; unfold upd; split <;> rfl
  · omega
theorem rm_app (r : Nat) (b c : List (BitVec 8)) (f : Bool) (a : Int) (h : b.length + c.length ≤ r) : app (rm1 r b f a) (1 : Nat) c = (rm1 r (b ++ c) f (a + 1), 0) := by
  unfold rm1
  rw [app_mk _ _ _ (by decide) c (by rw [upd_same]; simp only; omega), upd_same]
  congr 2
  funext j; unfold upd; split <;> rfl
theorem rm_full (r : Nat) (b c : List (BitVec 8)) (f : Bool) (a : Int) (h : r < b.length + c.length) : app (rm1 r b f a) (1 : Nat) c = (rm1 r b f a, 40) := by
  unfold rm1
  rw [app_full _ _ _ (by decide) c (by rw [upd_same]; simp only; omega)]
theorem rm_read (r : Nat) (b : List (BitVec 8)) (f : Bool) (a : Int) : read (rm1 r b f a) (1 : Nat) = (b, 0) := by
  unfold rm1
  rw [read_mk _ _ _ (by decide), upd_same]
theorem rm_clear (r : Nat) (b : List (BitVec 8)) (a : Int) : clear (rm1 r b false a) (1 : Nat) = (rm1 r [] true (a + 1), 0) := by
  unfold rm1
  rw [clear_mk _ _ _ (by decide), upd_same]
  congr 2
  funext j; unfold upd; split
  · simp [clearT]
  · rfl
theorem rm_two (r : Nat) (b c : List (BitVec 8)) (f : Bool) (a : Int) (h : c.length ≤ r) : (app (rm1 r b f a) (2 : Nat) c).2 = 0 := by
  unfold rm1
  rw [app_mk _ _ _ (by decide) c (by rw [upd_other _ _ _ _ (by decide)]; simp [t0]; omega)]
theorem rm_acts (r : Nat) (b : List (BitVec 8)) (f : Bool) (a : Int) : (rm1 r b f a).acts = a := rfl
end Dk

set_option maxRecDepth 100000 in
set_option maxHeartbeats 6400000 in
theorem law_DiskRoom (room n : Int) (w : World) (hr0 : -9223372036854775808 ≤ room ∧ room ≤ 9223372036854775807) (hn0 : -9223372036854775808 ≤ n ∧ n ≤ 9223372036854775807) :
    Calls Try.prog 5 #[.int .i64 room, .int .i64 n] w fun e w' => e = .returned (.bool true) ∧ Below w.heap.size w w' := by
  obtain ⟨r, hr⟩ : ∃ r : Nat, room % 1024 = (r : Int) := ⟨(room % 1024).toNat, by omega⟩
  obtain ⟨m, hm⟩ : ∃ m : Nat, n % 64 = (m : Int) := ⟨(n % 64).toNat, by omega⟩
  have hr1024 : r < 1024 := by omega
  have hm64 : m < 64 := by omega
  obtain ⟨k, hk⟩ : ∃ k : Nat, k = 1 + m := ⟨_, rfl⟩
  have hk1 : (1 : Int) + (m : Int) = (k : Int) := by omega
  have hk64 : k ≤ 64 := by omega
  have hkpos : 1 ≤ k := by omega
  have hmk := run_make_row' (P := Try.prog) 25 5 (.int .u8 0) 1 Try.underlying25 (by kernel_rfl) rfl .i64 .i64 k (by omega) (by omega)
  have hmkr := run_make_row' (P := Try.prog) 25 5 (.int .u8 0) 1 Try.underlying25 (by kernel_rfl) rfl .i64 .i64 r (by omega) (by omega)
  clear hr0 hn0 hk
  go_enter Try.func5, Try.ntmps5
  go_wp2_with fail
  refine (law16_head _).mono ?_
  rintro e w1 ⟨rfl, hb1⟩
  go_wp2_with fail
  refine (disk_New r w1.heap.size _ (by rfl) (by omega)).mono ?_
  rintro e w2 ⟨rfl, hd2, hb2, hz2⟩
  rw [Dk.rm_new r hr1024] at hd2
  obtain ⟨g, hg⟩ : ∃ g, g = w1.heap.size := ⟨_, rfl⟩
  rw [← hg] at hd2 hb2 ⊢
  have hwg : w.heap.size ≤ g := by rw [hg]; exact hb1.size
  have hD2 : DkOwn w.heap.size (· = g) w2 g (Dk.rm1 r [] false 0) := ⟨hd2, by rw [← Dk.rm_new r hr1024]; exact Dk.ok_new _, fun k hk => by omega⟩
  have hbw2 := hb1.trans (hb2.mono hwg)
  have Hg := Lib.hid hg
  clear hd2 hb2 hz2 hb1 hg hr hm hk1
  go_wp2_with fail
  go_loopw [6] (fun i wr => ∃ (j : Nat) (F : Nat → Prop), i = .int .i64 ((j * k : Nat) : Int) ∧ j * k ≤ r ∧ j ≤ 1024 ∧ DkOwn w.heap.size F wr g (Dk.rm1 r (Dk.zs (j * k)) false j) ∧ Below w.heap.size w wr) (fun i _ => 2048 - (intOf i).toNat)
  case atStart => exact ⟨0, _, by rw [Nat.zero_mul]; rfl, by rw [Nat.zero_mul]; exact Nat.zero_le _, by omega, by rw [Nat.zero_mul]; exact hD2, hbw2⟩
  case round =>
    clear hD2 hbw2
    obtain ⟨j, F, rfl, hjr, hj, hD, hbw⟩ := hrel
    obtain ⟨l, hl⟩ : ∃ l, l = j * k := ⟨_, rfl⟩
    rw [← hl] at hjr hD
    have hlI : ((j * k : Nat) : Int) = (l : Int) := by rw [hl]
    rw [hlI]
    have Hl := Lib.hid hl
    clear hl hlI
    have hx := alloc_below wr (.cells (madeCells #[.int .u8 0] k) 5)
    have hDx := hD.keep hx
    have hmade := (own_made 5 wr k (by unfold maxLen; omega)).slB
    have hsx : Sl EU8 (fun q => ¬ F q) (wr.alloc (.cells (madeCells #[.int .u8 0] k) 5)) (some ⟨wr.heap.size, 0, none⟩) (Dk.zs k) := hmade.mono (by decide) fun q hq _ => ⟨rfl, fun hF => by have := hD.flt _ hF; omega⟩
    have hbx := hbw.trans (hx.mono hbw.size)
    clear hmade hx
    by_cases hfit : l + k ≤ r
    · have h1 := Dk.rm_app r (Dk.zs l) (Dk.zs k) false j (by rw [Dk.zs_len, Dk.zs_len]; exact hfit)
      rw [show Dk.zs l ++ Dk.zs k = Dk.zs (l + k) by simp [Dk.zs]] at h1
      have hgt : ¬ ((r : Int) < (l : Int) + (k : Int)) := by omega
      have H1 := Lib.hid h1
      clear h1
      go_wp2_with fail
      refine (disk_Append g _ (1 : Nat) _ _ k (Dk.zs k) _ hDx.at_ hDx.ok (by rw [Dk.rm_acts]; omega) (Dk.zs_len k).symm hsx (by rw [Dk.zs_len]; omega)).mono ?_
      rw [H1.out]
      rintro e w3 ⟨rfl, F3, ha3, ht3⟩
      obtain ⟨hD3, hb3⟩ := hDx.turn ht3 ha3 (by have := Dk.ok_app hDx.ok (1 : Nat) (Dk.zs k); rw [H1.out] at this; exact this)
      have hbw3 := hbx.trans hb3
      clear hD hDx ht3 ha3 hb3 hbx hbw
      dsimp only
      go_wp2_with fail
      go_roundw
      case rel =>
        refine ⟨j + 1, F3, ?_, ?_, ?_, ?_, hbw3⟩
        · have : (j + 1) * k = l + k := by rw [Nat.add_mul, Hl.out]; omega
          rw [this]; go_num
        · have : (j + 1) * k = l + k := by rw [Nat.add_mul, Hl.out]; omega
          omega
        · have h2 : j + 1 ≤ (j + 1) * k := Nat.le_mul_of_pos_right _ hkpos
          have : (j + 1) * k = l + k := by rw [Nat.add_mul, Hl.out]; omega
          omega
        · have : (j + 1) * k = l + k := by rw [Nat.add_mul, Hl.out]; omega
          rw [this]; exact hD3
      case measure => simp [intOf]; omega
    · have h1 := Dk.rm_full r (Dk.zs l) (Dk.zs k) false j (by rw [Dk.zs_len, Dk.zs_len]; omega)
      have H1 := Lib.hid h1
      clear h1
      go_wp2_with fail
      refine (disk_Append g _ (1 : Nat) _ _ k (Dk.zs k) _ hDx.at_ hDx.ok (by rw [Dk.rm_acts]; omega) (Dk.zs_len k).symm hsx (by rw [Dk.zs_len]; omega)).mono ?_
      rw [H1.out]
      rintro e w3 ⟨rfl, F3, ha3, ht3⟩
      obtain ⟨hD3, hb3⟩ := hDx.turn ht3 ha3 (by have := Dk.ok_app hDx.ok (1 : Nat) (Dk.zs k); rw [H1.out] at this; exact this)
      have hbw3 := hbx.trans hb3
      clear hD hDx ht3 ha3 hb3 hbx hbw hsx
      dsimp only
      obtain ⟨q, hq⟩ : ∃ q : Nat, q = r - l := ⟨_, rfl⟩
      have hqI : (r : Int) - (l : Int) = (q : Int) := by omega
      have hqk : ¬ ((k : Int) ≤ (q : Int)) := by omega
      have hmkq := run_make_row' (P := Try.prog) 25 5 (.int .u8 0) 1 Try.underlying25 (by kernel_rfl) rfl .i64 .i64 q (by omega) (by omega)
      have Hq := Lib.hid hq
      clear hq
      go_wp2_with fail
      have hx := alloc_below w3 (.cells (madeCells #[.int .u8 0] q) 5)
      have hDx := hD3.keep hx
      have hbx := hbw3.trans (hx.mono hbw3.size)
      have h1 := (show Dk.app (Dk.rm1 r (Dk.zs l) false j) (1 : Nat) (Dk.zs q) = (Dk.rm1 r (Dk.zs r) false (j + 1), 0) by rw [Dk.rm_app r _ _ _ _ (by rw [Dk.zs_len, Dk.zs_len]; have := Hq.out; omega), show Dk.zs l ++ Dk.zs q = Dk.zs r by (have := Hq.out; simp [Dk.zs]; omega)])
      have H1 := Lib.hid h1
      clear h1
      refine (disk_Append g _ (1 : Nat) _ _ _ (Dk.zs q) _ hDx.at_ hDx.ok (by rw [Dk.rm_acts]; omega) (Dk.zs_len q).symm ((own_made 5 w3 q (by unfold maxLen; omega)).slB.mono (by decide) fun y hy _ => ⟨rfl, fun hF => by have := hD3.flt _ hF; omega⟩) (by first | (rw [Dk.zs_len]; omega) | decide)).mono ?_
      rw [H1.out]
      rintro e w4 ⟨rfl, F4, ha, ht⟩
      obtain ⟨hDw4, hb⟩ := hDx.turn ht ha (by have := Dk.ok_app hDx.ok (1 : Nat) (Dk.zs q); rw [H1.out] at this; exact this)
      have hbww4 := hbx.trans hb
      clear hD3 hDx ht ha hb hbx hbw3 hx H1
      dsimp only
      go_wp2_with fail
      have hx := alloc_below w4 (.cells #[.int .u8 1] 5)
      have hDx := hDw4.keep hx
      have hbx := hbww4.trans (hx.mono hbww4.size)
      have h1 := Dk.rm_full r (Dk.zs r) [1#8] false (j + 1) (by rw [Dk.zs_len]; simp)
      have H1 := Lib.hid h1
      clear h1
      refine (disk_Append g _ (1 : Nat) _ _ _ ([1#8]) _ hDx.at_ hDx.ok (by rw [Dk.rm_acts]; omega) (by rfl) (hDw4.new_lit (heap_alloc_new w4 _) (by rfl)) (by first | (rw [Dk.zs_len]; omega) | decide)).mono ?_
      rw [H1.out]
      rintro e w5 ⟨rfl, F5, ha, ht⟩
      obtain ⟨hDw5, hb⟩ := hDx.turn ht ha (by have := Dk.ok_app hDx.ok (1 : Nat) ([1#8]); rw [H1.out] at this; exact this)
      have hbww5 := hbx.trans hb
      clear hDw4 hDx ht ha hb hbx hbww4 hx H1
      dsimp only
      go_wp2_with fail
      have h1 := Dk.rm_app r (Dk.zs r) [] false (j + 1) (by rw [Dk.zs_len]; simp)
      rw [List.append_nil] at h1
      have H1 := Lib.hid h1
      clear h1
      refine (disk_Append g _ (1 : Nat) _ _ _ [] _ hDw5.at_ hDw5.ok (by rw [Dk.rm_acts]; omega) (by rfl) (Sl.nil _ _ _ _) (by decide)).mono ?_
      rw [H1.out]
      rintro e w6 ⟨rfl, F6, ha, ht⟩
      obtain ⟨hDw6, hb⟩ := hDw5.turn ht ha (by have := Dk.ok_app hDw5.ok (1 : Nat) []; rw [H1.out] at this; exact this)
      have hbww6 := hbww5.trans hb
      clear hDw5 ht ha hb hbww5 H1
      dsimp only
      go_wp2_with fail
      have h1 := Dk.rm_read r (Dk.zs r) false (j + 1 + 1)
      have H1 := Lib.hid h1
      clear h1
      refine (disk_Read g _ (1 : Nat) w6.heap.size _ (by rfl) hDw6.at_ hDw6.ok).mono ?_
      rw [H1.out]
      rintro e w7 ⟨v7, rfl, ho7, hb7⟩
      obtain ⟨a7, c7, rfl, hc7, hm7, hr7, _⟩ := ho7.shape r (Dk.zs_len r).symm
      have hDw7 := hDw6.keep hb7
      have hbww7 := hbww6.trans (hb7.mono hbww6.size)
      have hne : ((r : Int) != (r : Int)) = false := by simp
      clear hDw6 hbww6 hb7 ho7 hr7 H1
      go_wp2_with fail
      have h1 := Dk.rm_clear r (Dk.zs r) (j + 1 + 1)
      have H1 := Lib.hid h1
      clear h1
      refine (disk_Clear g _ (1 : Nat) _ hDw7.at_ hDw7.ok (by rw [Dk.rm_acts]; omega)).mono ?_
      rw [H1.out]
      rintro e w8 ⟨rfl, ha, ho⟩
      obtain ⟨hDw8, hb⟩ := hDw7.turn ⟨ho, fun k hk => .inl hk⟩ ha (by have := Dk.ok_clear hDw7.ok (1 : Nat); rw [H1.out] at this; exact this)
      have hbww8 := hbww7.trans hb
      clear hDw7 ho ha hb hbww7 H1
      dsimp only
      go_wp2_with fail
      have hx := alloc_below w8 (.cells (madeCells #[.int .u8 0] r) 5)
      have hDx := hDw8.keep hx
      have hbx := hbww8.trans (hx.mono hbww8.size)
      have h1 := Dk.rm_app r [] (Dk.zs r) true (j + 1 + 1 + 1) (by rw [Dk.zs_len]; simp)
      have H1 := Lib.hid h1
      clear h1
      refine (disk_Append g _ (1 : Nat) _ _ _ (Dk.zs r) _ hDx.at_ hDx.ok (by rw [Dk.rm_acts]; omega) (Dk.zs_len r).symm ((own_made 5 w8 r (by unfold maxLen; omega)).slB.mono (by decide) fun y hy _ => ⟨rfl, fun hF => by have := hDw8.flt _ hF; omega⟩) (by first | (rw [Dk.zs_len]; omega) | decide)).mono ?_
      rw [H1.out]
      rintro e w9 ⟨rfl, F9, ha, ht⟩
      obtain ⟨hDw9, hb⟩ := hDx.turn ht ha (by have := Dk.ok_app hDx.ok (1 : Nat) (Dk.zs r); rw [H1.out] at this; exact this)
      have hbww9 := hbx.trans hb
      clear hDw8 hDx ht ha hb hbx hbww8 hx H1
      dsimp only
      rw [List.nil_append] at hDw9
      by_cases hz : (r : Int) = 0
      · have hz' : ((r : Int) == 0) = true := by simpa using hz
        clear hz
        go_wp2_with fail
        have hx := alloc_below w9 (.cells (madeCells #[.int .u8 0] r) 5)
        have hDx := hDw9.keep hx
        have hbx := hbww9.trans (hx.mono hbww9.size)
        have h1 := Dk.rm_two r (Dk.zs r) (Dk.zs r) true (j + 1 + 1 + 1 + 1) (by rw [Dk.zs_len]; exact Nat.le_refl _)
        have H1 := Lib.hid h1
        clear h1
        refine (disk_Append g _ (2 : Nat) _ _ _ (Dk.zs r) _ hDx.at_ hDx.ok (by rw [Dk.rm_acts]; omega) (Dk.zs_len r).symm ((own_made 5 w9 r (by unfold maxLen; omega)).slB.mono (by decide) fun y hy _ => ⟨rfl, fun hF => by have := hDw9.flt _ hF; omega⟩) (by rw [Dk.zs_len]; omega)).mono ?_
        rw [H1.out]
        rintro e w11 ⟨rfl, F11, ha, ht⟩
        have hbw11 := hbx.trans (ht.only.below hDx.size fun k hk => hDx.base k hk)
        go_wp2_with fail
        go_ret
        exact ⟨rfl, hbw11⟩
      · have hz' : ((r : Int) == 0) = false := by simpa using hz
        clear hz
        go_wp2_with fail
        have hx := alloc_below w9 (.cells #[.int .u8 1] 5)
        have hDx := hDw9.keep hx
        have hbx := hbww9.trans (hx.mono hbww9.size)
        have h1 := Dk.rm_full r (Dk.zs r) [1#8] true (j + 1 + 1 + 1 + 1) (by rw [Dk.zs_len]; simp)
        have H1 := Lib.hid h1
        clear h1
        refine (disk_Append g _ (1 : Nat) _ _ _ ([1#8]) _ hDx.at_ hDx.ok (by rw [Dk.rm_acts]; omega) (by rfl) (hDw9.new_lit (heap_alloc_new w9 _) (by rfl)) (by first | (rw [Dk.zs_len]; omega) | decide)).mono ?_
        rw [H1.out]
        rintro e w10 ⟨rfl, F10, ha, ht⟩
        obtain ⟨hDw10, hb⟩ := hDx.turn ht ha (by have := Dk.ok_app hDx.ok (1 : Nat) ([1#8]); rw [H1.out] at this; exact this)
        have hbww10 := hbx.trans hb
        clear hDw9 hDx ht ha hb hbx hbww9 hx H1
        dsimp only
        go_wp2_with fail
        have hx := alloc_below w10 (.cells (madeCells #[.int .u8 0] r) 5)
        have hDx := hDw10.keep hx
        have hbx := hbww10.trans (hx.mono hbww10.size)
        have h1 := Dk.rm_two r (Dk.zs r) (Dk.zs r) true (j + 1 + 1 + 1 + 1) (by rw [Dk.zs_len]; exact Nat.le_refl _)
        have H1 := Lib.hid h1
        clear h1
        refine (disk_Append g _ (2 : Nat) _ _ _ (Dk.zs r) _ hDx.at_ hDx.ok (by rw [Dk.rm_acts]; omega) (Dk.zs_len r).symm ((own_made 5 w10 r (by unfold maxLen; omega)).slB.mono (by decide) fun y hy _ => ⟨rfl, fun hF => by have := hDw10.flt _ hF; omega⟩) (by rw [Dk.zs_len]; omega)).mono ?_
        rw [H1.out]
        rintro e w11 ⟨rfl, F11, ha, ht⟩
        have hbw11 := hbx.trans (ht.only.below hDx.size fun k hk => hDx.base k hk)
        go_wp2_with fail
        go_ret
        exact ⟨rfl, hbw11⟩
end Go.Proofs.Ytennjoegjghlaaa

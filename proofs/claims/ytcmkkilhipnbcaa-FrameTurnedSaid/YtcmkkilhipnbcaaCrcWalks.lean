/-
  What the functions of the check sum compute, and how bytes are copied and compared.
-/
import Derived.Test.YtcmkkilhipnbcaaRows
import Derived.Test.YtcmkkilhipnbcaaMem
import Derived.Test.YtcmkkilhipnbcaaCrc
namespace Go.Proofs.Ytcmkkilhipnbcaa
open Go.RowKit
set_option linter.unusedVariables false

set_option maxHeartbeats 400000 in
theorem crc_More (s : BitVec 32) (a : Option Addr) (n cap : Nat) (l : List (BitVec 8)) (w : World) (hr : RB w a n l) (hl : n ≤ maxLen) :
    Calls Try.prog 18 #[.int .u32 (bv s), .slice a n cap] w fun e w' => e = .returned (.int .u32 (bv (Crc.more s l))) ∧ w = w' := by
  obtain ⟨rfl, hs⟩ := hr
  unfold maxLen at hl
  go_enter Try.func18, Try.ntmps18
  go_wp2
  go_loop [5, 12] (fun x i => ∃ k : Nat, k ≤ l.length ∧ i = .int .i64 k ∧ x = .int .u32 (bv (Crc.run (~~~s) (l.take k)))) (fun _ i => l.length - (intOf i).toNat)
  case atStart => exact ⟨0, Nat.zero_le _, rfl, rfl⟩
  case round =>
    obtain ⟨k, hk, rfl, rfl⟩ := hrel
    by_cases hlt : k < l.length
    · obtain ⟨b, o, rfl, hc⟩ := SB.at hs k hlt
      have hsn := Lib.hid (Crc.run_snoc (~~~s) l k hlt)
      go_wp2
      go_loop [5, 20] (fun x i => ∃ j : Nat, j ≤ 8 ∧ i = .int .i64 j ∧ x = .int .u32 (bv (Crc.steps j (Crc.run (~~~s) (l.take k) ^^^ (l[k]).setWidth 32)))) (fun _ i => 8 - (intOf i).toNat)
      case atStart => exact ⟨0, by omega, rfl, rfl⟩
      case round =>
        obtain ⟨j, hj, rfl, rfl⟩ := hrel
        by_cases hlj : j < 8
        · go_wp2
          go_round
          case rel => exact ⟨j + 1, by omega, by go_num, by simp [Crc.steps, Crc.step]⟩
          case measure => simp [intOf]; omega
        · have hj8 : j = 8 := by omega
          subst hj8
          go_wp2
          go_round
          case rel => exact ⟨k + 1, by omega, by go_num, by rw [hsn.out]; rfl⟩
          case measure => simp [intOf]; omega
    · have hkl : k = l.length := by omega
      subst hkl
      go_wp2
      go_ret
      exact ⟨by simp [Crc.more], rfl⟩

theorem crc_Sum (a : Option Addr) (n cap : Nat) (l : List (BitVec 8)) (w : World) (hs : RB w a n l) (hl : n ≤ maxLen) :
    Calls Try.prog 16 #[.slice a n cap] w fun e w' => e = .returned (.int .u32 (bv (Crc.sum l))) ∧ w = w' := by
  go_enter Try.func16, Try.ntmps16
  go_wp2_with (go_at_call 18; refine (crc_More 0#32 a n cap l _ hs hl).mono ?_; rintro e w' ⟨rfl, rfl⟩)
  go_ret
  exact ⟨rfl, rfl⟩
set_option maxHeartbeats 400000 in
theorem crc_Less (s : BitVec 32) (c : BitVec 8) (w : World) :
    Calls Try.prog 21 #[.int .u32 (bv s), .int .u8 (bv c)] w fun e w' => e = .returned (.int .u32 (bv (Crc.less s c))) ∧ w = w' := by
  go_enter Try.func21, Try.ntmps21
  go_wp2
  go_loop [5, 9] (fun x i => ∃ k : Nat, k ≤ 8 ∧ i = .int .i64 k ∧ x = .int .u32 (bv (Crc.backs k (~~~s)))) (fun _ i => 8 - (intOf i).toNat)
  case atStart => exact ⟨0, Nat.zero_le _, rfl, rfl⟩
  case round =>
    obtain ⟨k, hk, rfl, rfl⟩ := hrel
    by_cases hlt : k < 8
    · go_wp2
      go_round
      case rel => exact ⟨k + 1, by omega, by go_num, by simp [Crc.backs, Crc.back]⟩
      case measure => simp [intOf]; omega
    · have hk8 : k = 8 := by omega
      subst hk8
      go_wp2
      go_ret
      exact ⟨by simp [Crc.less], rfl⟩

theorem crc_Less0 (s : BitVec 32) (w : World) :
    Calls Try.prog 21 #[.int .u32 (bv s), .int .u8 0] w fun e w' => e = .returned (.int .u32 (bv (Crc.less s 0#8))) ∧ w = w' := crc_Less s 0#8 w

/-- a fixed array of bytes, as its four cells -/
def arr (l : List (BitVec 8)) : Value := .agg (l.map fun c => Value.int .u8 (bv c)).toArray

set_option maxHeartbeats 400000 in
theorem crc_Patch (s want : BitVec 32) (w : World) :
    Calls Try.prog 22 #[.int .u32 (bv s), .int .u32 (bv want)] w fun e w' => e = .returned (arr (Crc.patch s want)) ∧ Below w.heap.size w w' := by
  go_enter Try.func22, Try.ntmps22
  go_wp2
  go_loop [5, 8] (fun x i => ∃ k : Nat, k ≤ 4 ∧ i = .int .i64 k ∧ x = .int .u32 (bv (Crc.lesses k want))) (fun _ i => 4 - (intOf i).toNat)
  case atStart => exact ⟨0, Nat.zero_le _, rfl, rfl⟩
  case round =>
    obtain ⟨k, hk, rfl, rfl⟩ := hrel
    by_cases hlt : k < 4
    · go_wp2_with (go_at_call 21; refine (crc_Less0 _ _).mono ?_; rintro e w' ⟨rfl, rfl⟩)
      go_round
      case rel => exact ⟨k + 1, by omega, by go_num, by simp [Crc.lesses]⟩
      case measure => simp [intOf]; omega
    · have hk8 : k = 4 := by omega
      subst hk8
      go_wp2
      refine bodyPost_ret (v := arr (Crc.patch s want)) (by simp [results, Try.results22, go_sem, arr, Crc.patch]) rfl ⟨rfl, ?_⟩
      exact (Below.refl _ _).alloc (Nat.le_refl _) _

set_option maxHeartbeats 400000 in
theorem ref_More (s : BitVec 32) (a : Option Addr) (n cap : Nat) (l : List (BitVec 8)) (w : World) (hr : RB w a n l) (hl : n ≤ maxLen) :
    Calls Try.prog 19 #[.int .u32 (bv s), .slice a n cap] w fun e w' => e = .returned (.int .u32 (bv (Crc.more s l))) ∧ w = w' := by
  obtain ⟨rfl, hs⟩ := hr
  unfold maxLen at hl
  go_enter Try.func19, Try.ntmps19
  go_wp2
  go_loop [5, 13] (fun x i => ∃ k : Nat, k ≤ l.length ∧ i = .int .i64 k ∧ x = .int .u32 (bv (Crc.run (~~~s) (l.take k)))) (fun _ i => l.length - (intOf i).toNat)
  case atStart => exact ⟨0, Nat.zero_le _, rfl, rfl⟩
  case round =>
    obtain ⟨k, hk, rfl, rfl⟩ := hrel
    by_cases hlt : k < l.length
    · obtain ⟨b, o, rfl, hc⟩ := SB.at hs k hlt
      have hsn := Lib.hid (Crc.run_snoc (~~~s) l k hlt)
      go_wp2
      go_loop [5, 7] (fun x i => ∃ j : Nat, j ≤ 8 ∧ i = .int .i64 j ∧ x = .int .u32 (bv (Crc.steps j (Crc.run (~~~s) (l.take k) ^^^ (l[k]).setWidth 32)))) (fun _ i => 8 - (intOf i).toNat)
      case atStart => exact ⟨0, by omega, rfl, rfl⟩
      case round =>
        obtain ⟨j, hj, rfl, rfl⟩ := hrel
        by_cases hlj : j < 8
        · cases hodd : (Crc.steps j (Crc.run (~~~s) (l.take k) ^^^ (l[k]).setWidth 32) &&& 1#32 == 1#32)
          · have he := Lib.hid (Crc.step_even _ hodd)
            go_wp2
            go_round
            case rel => exact ⟨j + 1, by omega, by go_num, by rw [Crc.steps, he.out]⟩
            case measure => simp [intOf]; omega
          · have he := Lib.hid (Crc.step_odd _ hodd)
            go_wp2
            go_round
            case rel => exact ⟨j + 1, by omega, by go_num, by rw [Crc.steps, he.out]⟩
            case measure => simp [intOf]; omega
        · have hj8 : j = 8 := by omega
          subst hj8
          go_wp2
          go_round
          case rel => exact ⟨k + 1, by omega, by go_num, by rw [hsn.out]; rfl⟩
          case measure => simp [intOf]; omega
    · have hkl : k = l.length := by omega
      subst hkl
      go_wp2
      go_ret
      exact ⟨by simp [Crc.more], rfl⟩

theorem ref_Sum (a : Option Addr) (n cap : Nat) (l : List (BitVec 8)) (w : World) (hs : RB w a n l) (hl : n ≤ maxLen) :
    Calls Try.prog 17 #[.slice a n cap] w fun e w' => e = .returned (.int .u32 (bv (Crc.sum l))) ∧ w = w' := by
  go_enter Try.func17, Try.ntmps17
  go_wp2_with (go_at_call 19; refine (ref_More 0#32 a n cap l _ hs hl).mono ?_; rintro e w' ⟨rfl, rfl⟩)
  go_ret
  exact ⟨rfl, rfl⟩

/-- a slice of bytes: the table's row -/
theorem ti_bytes : ElemInfo Try.prog 22 5 1 1 := ElemInfo.mk' (z := .int .u8 0) Try.underlying22 (by kernel_rfl) rfl (by decide)

set_option maxHeartbeats 400000 in
theorem ref_Same (a1 a2 : Option Addr) (n1 n2 c1 c2 : Nat) (l m : List (BitVec 8)) (w : World) (hs : RB w a1 n1 l) (ht : RB w a2 n2 m) :
    Calls Try.prog 20 #[.slice a1 n1 c1, .slice a2 n2 c2] w fun e w' => e = .returned (.bool (l == m)) ∧ w = w' := by
  go_enter Try.func20, Try.ntmps20
  go_wp2_with (first
    | (refine wpList_tostr rfl rfl rfl Try.underlying22 Try.underlying5 Try.underlying9 hs.1 hs.2 ?_)
    | (refine wpList_tostr rfl rfl rfl Try.underlying22 Try.underlying5 Try.underlying9 ht.1 ht.2 ?_))
  go_ret
  exact ⟨rfl, rfl⟩

/-- bytes in new memory -/
def NewBytes (w0 : World) (l : List (BitVec 8)) (w : World) (e : Ending) (w' : World) : Prop :=
  ∃ v, e = .returned v ∧ Own EU8 5 w0.heap.size w' v l ∧ Below w0.heap.size w0 w'

theorem own_empty {α : Type} (E : Enc α) (te : TypeId) (w : World) (h : 0 < E.sz) : Own E te w.heap.size (w.alloc (.cells #[] te (0, 0))) (.slice (some ⟨w.heap.size, 0, none⟩) 0 0) ([] : List α) :=
  .inr ⟨w.heap.size, 0, #[], rfl, Nat.le_refl _, heap_alloc_new w _, Nat.le_refl _, Nat.zero_le _, by simp, fun k x hx => by simp at hx⟩

set_option maxHeartbeats 400000 in
theorem ref_Copy (a : Option Addr) (n c : Nat) (l : List (BitVec 8)) (w : World) (hr : RB w a n l) (hl : n ≤ 140737488355328) :
    Calls Try.prog 15 #[.slice a n c] w fun e w' => ∃ v, e = .returned v ∧ Own EU8 5 w.heap.size w' v l ∧ Below w.heap.size w w' := by
  obtain ⟨rfl, hs⟩ := hr
  have hb0 : Below w.heap.size w (w.alloc (.cells #[] 5)) := (Below.refl _ _).alloc (Nat.le_refl _) _
  have hs' : Sl EU8 (fun b => some b ≠ (Value.slice (some ⟨w.heap.size, 0, none⟩) 0 0).ownBlock) (w.alloc (.cells #[] 5)) a l :=
    hs.mono (by decide) fun k _ hk => ⟨heap_alloc_old w _ hk, by simp [Value.ownBlock]; omega⟩
  go_enter Try.func15, Try.ntmps15
  go_wp2_with (refine wpList_app EU8 rfl rfl rfl rfl ti_bytes (own_empty EU8 5 w (by decide)) rfl hs' ?_ ?_ ?_ ?_)
  · simp only [List.length_nil, Nat.zero_add, maxLen]; omega
  · simp only [List.length_nil, Nat.zero_add]; omega
  · simp
  · intro v' w' ho hg hv hb
    go_wp2
    go_ret
    exact ⟨_, rfl, ho, hb0.trans hb⟩

/-- the same, the heap's size given -/
theorem ref_Copy_at (B : Nat) (a : Option Addr) (n c : Nat) (l : List (BitVec 8)) (w : World) (hB : w.heap.size = B) (hr : RB w a n l) (hl : n ≤ 140737488355328) :
    Calls Try.prog 15 #[.slice a n c] w fun e w' => ∃ v, e = .returned v ∧ Own EU8 5 B w' v l ∧ Below B w w' := by
  subst hB; exact ref_Copy a n c l w hr hl

/-- a copy that is only read -/
theorem ref_Copy_read (a : Option Addr) (n c : Nat) (l : List (BitVec 8)) (w : World) (hr : RB w a n l) (hl : n ≤ 140737488355328) :
    Calls Try.prog 15 #[.slice a n c] w fun e w' => ∃ a' c', e = .returned (.slice a' n c') ∧ RB w' a' n l ∧ Below w.heap.size w w' := by
  refine (ref_Copy a n c l w hr hl).mono ?_
  rintro e w' ⟨v, rfl, ho, hb⟩
  obtain ⟨a', c', rfl, _, _, h⟩ := ho.sl
  exact ⟨a', c', by rw [hr.1], ⟨hr.1, h⟩, hb⟩
end Go.Proofs.Ytcmkkilhipnbcaa

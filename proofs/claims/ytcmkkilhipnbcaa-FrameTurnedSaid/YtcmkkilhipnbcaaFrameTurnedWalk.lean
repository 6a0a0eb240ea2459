/-
  The walk of the law 'FrameTurned'.
-/
import Derived.Test.YtcmkkilhipnbcaaFrameJoinsWalk
import Derived.Test.YtcmkkilhipnbcaaFrameTurn
import Derived.Test.YtcmkkilhipnbcaaApp2
namespace Go.Proofs.Ytcmkkilhipnbcaa
open Go.RowKit
set_option linter.unusedVariables false

theorem ti_ints : ElemInfo Try.prog 56 3 EInt.sz 8 := ElemInfo.mk' (z := .int .i64 0) Try.underlying56 (by kernel_rfl) rfl (by decide)

/-- a number of a slice of numbers -/
theorem sl_int {ok : Nat → Prop} {w : World} {a : Option Addr} {l : List Int} (h : Sl EInt ok w a l) (k : Nat) (hk : k < l.length) :
    ∃ b o, a = some ⟨b, o, none⟩ ∧ w.cell? ⟨b, o + k, none⟩ = some (.int .i64 l[k]) := by
  obtain ⟨b, o, rfl, _, cs, hr, hc⟩ := h k l[k] (List.getElem?_eq_getElem hk)
  refine ⟨b, o, rfl, ?_⟩
  have hr' : cs = [.int .i64 l[k]] := hr.1
  subst hr'
  have := hc 0 _ rfl
  simpa [EInt] using this

theorem sl_ints {ok : Nat → Prop} {w : World} {a : Option Addr} {l : List Int} (h : Sl EInt ok w a l) (hne : 0 < l.length) :
    ∃ b o, a = some ⟨b, o, none⟩ ∧ ∀ k (hk : k < l.length), w.cell? ⟨b, o + k, none⟩ = some (.int .i64 l[k]) := by
  obtain ⟨b, o, rfl, _⟩ := sl_int h 0 hne
  refine ⟨b, o, rfl, fun k hk => ?_⟩
  obtain ⟨b', o', e, hc⟩ := sl_int h k hk
  injection e with e; injection e with e1 e2
  subst e1; subst e2; exact hc

/-- one number in a block of its own, owned -/
theorem own_int1 (w : World) (x : Int) (hx : -9223372036854775808 ≤ x ∧ x ≤ 9223372036854775807) : Own EInt 3 w.heap.size (w.alloc (.cells #[.int .i64 x] 3)) (.slice (some ⟨w.heap.size, 0, none⟩) 1 1) [x] := by
  refine .inr ⟨w.heap.size, 1, #[.int .i64 x], rfl, Nat.le_refl _, heap_alloc_new w _, Nat.le_refl _, by decide, rfl, fun k y hy => ?_⟩
  have hk : k = 0 := by have := (List.getElem?_eq_some_iff.1 hy).1; simp at this; exact this
  subst hk
  simp at hy; subst hy
  exact ⟨[.int .i64 x], ⟨rfl, hx⟩, fun j u hj => by
    have hj0 : j = 0 := by have := (List.getElem?_eq_some_iff.1 hj).1; simp at this; exact this
    subst hj0; simpa [EInt] using hj⟩

/-- where the frames begin and end -/
def ends (fs : List (Int × List (BitVec 8))) (j : Nat) : List Int := (List.range (j + 1)).map fun i => (Frm.off fs i : Int)
theorem ends_len (fs : List (Int × List (BitVec 8))) (j : Nat) : (ends fs j).length = j + 1 := by simp [ends]
theorem ends_succ (fs : List (Int × List (BitVec 8))) (j : Nat) : ends fs j ++ [(Frm.off fs (j + 1) : Int)] = ends fs (j + 1) := by
  unfold ends
  conv => rhs; rw [List.range_succ]
  simp
theorem ends_get (fs : List (Int × List (BitVec 8))) (j i : Nat) (h : i < (ends fs j).length) : (ends fs j)[i] = (Frm.off fs i : Int) := by simp [ends]

theorem off_bound (l : List (Int × List (BitVec 8))) (j : Nat) (hj : j ≤ l.length) (h : ∀ x ∈ l.take j, x.2.length ≤ 300) : Frm.off l j ≤ j * 312 := by
  have := encs_bound (l.take j) 300 h
  unfold Frm.off
  rw [List.length_take, Nat.min_eq_left hj] at this
  exact this

theorem faults_14 : ∀ {l : List (Int × List (BitVec 8))}, (∀ x ∈ l, x.2.length ≤ 300) → ¬ Frm.faults l = 0 → Frm.faults l = 14
  | [], _, h0 => absurd rfl h0
  | x :: l, h, h0 => by
    have hx := h x (by simp)
    unfold Frm.faults at h0 ⊢
    unfold Frm.fault at h0 ⊢
    by_cases h1 : x.1 < 0 ∨ 255 < x.1
    · simp [h1]
    · have h2 : ¬ 65536 < x.2.length := by omega
      simp only [h1, h2, if_false] at h0 ⊢
      exact faults_14 (fun y hy => h y (by simp [hy])) h0

theorem off_le (fs : List (Int × List (BitVec 8))) (k : Nat) : Frm.off fs k ≤ (Frm.encs fs).length := by
  unfold Frm.off
  conv => rhs; rw [← List.take_append_drop k fs]
  rw [Frm.encs_app, List.length_append]; omega

/-- bytes that stay but for a place, or four -/
def Turned (B : List (BitVec 8)) (p o0 o1 : Nat) (C : List (BitVec 8)) : Prop :=
  C.length = B.length ∧ (∀ q, (q < p ∨ p + 4 ≤ q ∨ o1 ≤ q) → C[q]? = B[q]?) ∧ (p < o0 + 12 → ∀ q, q ≠ p → C[q]? = B[q]?)
/-- so many places done -/
def Turning (B : List (BitVec 8)) (p o1 t : Nat) (C : List (BitVec 8)) : Prop := C.length = B.length ∧ ∀ q, (q < p ∨ p + t ≤ q ∨ o1 ≤ q) → C[q]? = B[q]?
theorem Turning.set {B : List (BitVec 8)} {p o1 t : Nat} {C : List (BitVec 8)} (h : Turning B p o1 t C) (x : BitVec 8) : Turning B p o1 (t + 1) (C.set (p + t) x) ∨ o1 ≤ p + t := by
  rcases Nat.lt_or_ge (p + t) o1 with hlt | hge
  · refine .inl ⟨by simp [h.1], fun q hq => ?_⟩
    rw [List.getElem?_set_ne (by omega)]
    exact h.2 q (by omega)
  · exact .inr hge
theorem Turning.done {B : List (BitVec 8)} {p o0 o1 t : Nat} {C : List (BitVec 8)} (h : Turning B p o1 t C) (ht : t ≤ 4) (hp : o0 + 12 ≤ p) : Turned B p o0 o1 C :=
  ⟨h.1, fun q hq => h.2 q (by omega), fun h' => by omega⟩
theorem turned_one {B : List (BitVec 8)} (p o0 o1 : Nat) (x : BitVec 8) (hp : p < o1) : Turned B p o0 o1 (B.set p x) :=
  ⟨by simp, fun q hq => List.getElem?_set_ne (by omega), fun _ q hq => List.getElem?_set_ne (by omega)⟩

set_option maxRecDepth 4096 in
set_option maxHeartbeats 6400000 in
theorem law_FrameTurned (a : Option Addr) (c : Nat) (l : List (Int × List (BitVec 8))) (at_ : Int) (bits : BitVec 32) (inside : Bool) (w : World)
    (hs : Sl EFrame (fun _ => True) w a l) (hc : l.length ≤ c) (hm : c ≤ maxLen) (hat : -9223372036854775808 ≤ at_ ∧ at_ ≤ 9223372036854775807) :
    Calls Try.prog 12 #[.slice a l.length c, .int .i64 at_, .int .u32 (bv bits), .bool inside] w fun e w' => e = .returned (.bool true) ∧ Below w.heap.size w w' := by
  go_enter Try.func12, Try.ntmps12
  go_wp2_with fail
  refine (law4_head _).mono ?_
  rintro e w1 ⟨rfl, hb1⟩
  by_cases h8 : 10 < l.length
  · have h8' : decide (10 < (l.length : Int)) = true := by simp; omega
    go_wp2
    go_ret
    exact ⟨rfl, hb1⟩
  have h8' : decide (10 < (l.length : Int)) = false := by simp; omega
  have ha1 := hs.below (by decide) hb1
  obtain ⟨w2, hw2⟩ : ∃ x, x = w1.alloc (.cells #[.int .i64 0] 3) := ⟨_, rfl⟩
  have hb2 : Below w1.heap.size w1 w2 := by subst hw2; exact (Below.refl _ _).alloc (Nat.le_refl _) _
  have ho2 : Own EInt 3 w1.heap.size w2 (.slice (some ⟨w1.heap.size, 0, none⟩) 1 1) [0] := by subst hw2; exact own_int1 w1 0 (by decide)
  have hbw2 := hb1.trans (hb2.mono hb1.size)
  go_wp2_with fail
  rw [← hw2]
  clear hw2
  go_loopw [9, 29] (fun v i wr => ∃ j : Nat, j ≤ l.length ∧ i = .int .i64 j ∧ Own EInt 3 w1.heap.size wr v (ends l j) ∧ (∀ x ∈ l.take j, x.2.length ≤ 300) ∧ Below w1.heap.size w1 wr) (fun _ i _ => l.length - (intOf i).toNat)
  case atStart => exact ⟨0, Nat.zero_le _, rfl, by simpa [ends, Frm.off_zero] using ho2, fun x hx => by simp at hx, hb2⟩
  case round =>
    obtain ⟨j, hj, rfl, ho, hfine, hb⟩ := hrel
    have hbw := hb1.trans (hb.mono hb1.size)
    obtain ⟨n, hn⟩ : ∃ n, n = j + 1 := ⟨_, rfl⟩
    obtain ⟨a9, c9, rfl, hc9, hm9, hr9, ho9⟩ := ho.shape n (by rw [ends_len]; exact hn)
    have Hn := Lib.hid hn
    clear hn
    have har := ha1.below (by decide) hb
    have hoff := off_bound l j hj hfine
    have hoff2 : j * 312 ≤ 10 * 312 := Nat.mul_le_mul_right _ (by omega)
    have Hfine := Lib.hid hfine
    clear hfine ho
    by_cases hlt : j < l.length
    · have hji : (j : Int) < (l.length : Int) := by omega
      obtain ⟨b5, o5, a5, c5, rfl, p1, p2, p3, p4, p5⟩ := sl_frame har j hlt
      have hos := Frm.off_succ hlt
      obtain ⟨x, hx⟩ : ∃ x, x = l[j] := ⟨_, rfl⟩
      rw [← hx] at p1 p2 p3 p5 hos
      have Hx := Lib.hid hx
      clear hx
      obtain ⟨kd, d⟩ := x
      dsimp only at p1 p2 p3 p5 hos
      have Hos := Lib.hid hos
      clear hos
      obtain ⟨w3, hw3⟩ : ∃ x, x = wr.alloc (.cells #[.int .i64 kd, .slice a5 d.length c5] 40) := ⟨_, rfl⟩
      have hb3 : Below wr.heap.size wr w3 := by subst hw3; exact (Below.refl _ _).alloc (Nat.le_refl _) _
      have hh3 : w3.heap[wr.heap.size]? = some (.cells #[.int .i64 kd, .slice a5 d.length c5] 40 (0, 0)) := by subst hw3; exact heap_alloc_new wr _
      have hbw3 := hbw.trans (hb3.mono hbw.size)
      have hb13 := hb.trans (hb3.mono hb.size)
      have z1 : w3.cell? ⟨wr.heap.size, 1, none⟩ = some (.slice a5 d.length c5) := by simp [World.cell?, hh3]
      have ho3 := ho9.below hb3
      go_upto_region 9 with fail
      rw [← hw3]
      clear hw3
      by_cases g1 : 300 < d.length
      · have g1' : decide (300 < (d.length : Int)) = true := by simp; omega
        go_wp2
        go_ret
        exact ⟨rfl, hbw3⟩
      have g1' : decide (300 < (d.length : Int)) = false := by simp; omega
      obtain ⟨b7, o7, he7, r1⟩ := sl_int (hr9.2.below (by decide) hb3) j (by rw [ends_len]; omega)
      subst he7
      obtain rfl : o7 = 0 := by
        rcases ho9 with ⟨h0, _⟩ | ⟨_, _, _, h0, _⟩
        · cases h0
        · injection h0 with h0 _ _; injection h0 with h0; injection h0
      have hb7 : b7 < wr.heap.size := (ho9.lt b7 rfl).2
      have hxj : (ends l j)[j]? = some (Frm.off l j : Int) := by rw [List.getElem?_eq_getElem (by rw [ends_len]; omega), ends_get]
      rw [ends_get] at r1
      obtain ⟨oj, hoj⟩ : ∃ o, o = Frm.off l j := ⟨_, rfl⟩
      rw [← hoj] at r1 hoff Hos hxj
      have Hoj := Lib.hid hoj
      clear hoj
      have hj1 : IntKind.i64.wrap ((n : Int) - 1) = (j : Int) := by
        have e : (n : Int) - 1 = (j : Int) := by have := Hn.out; omega
        rw [e]; exact IntWalk.i64_in _ (by omega)
      have hj2 : (j : Int) < (n : Int) := by have := Hn.out; omega
      have hj3 : (0 : Int) ≤ (j : Int) := by omega
      have hoj : oj ≤ 3120 := by omega
      have hj4 : IntKind.i64.wrap ((oj : Int) + 12) = (oj : Int) + 12 := IntWalk.i64_in _ (by omega)
      have hj5 : IntKind.i64.wrap ((oj : Int) + 12 + (d.length : Int)) = (oj : Int) + 12 + (d.length : Int) := IntWalk.i64_in _ (by omega)
      have hn1 : (ends l j).length + [(oj : Int) + 12 + (d.length : Int)].length ≤ maxLen := by rw [ends_len]; simp [maxLen]; omega
      have hn2 : ((ends l j).length + [(oj : Int) + 12 + (d.length : Int)].length) * 8 ≤ 140737488355328 := by rw [ends_len]; simp; omega
      have Hn1 := Lib.hid hn1
      have Hn2 := Lib.hid hn2
      clear hn1 hn2
      have hsz13 : w1.heap.size ≤ w3.heap.size := hb13.size
      go_upto_region 11 with fail
      simp only [Nat.zero_add] at r1
      have Hxj := Lib.hid hxj
      clear hxj
      have hl3 : (wr.heap.size : Nat) < w3.heap.size := cell_lt z1
      go_region_held3 (fun W => W.cell? ⟨b7, j, none⟩ = some (.int .i64 oj) ∧ W.cell? ⟨wr.heap.size, 1, none⟩ = some (.slice a5 d.length c5))
        (first | go_keep | exact ⟨own_int_old ho4 hd4 rfl Hxj.out (cell_thru r1 ((Below.refl w3.heap.size w3).alloc (Nat.le_refl _) _).drew), hg4.cell (cell_thru z1 ((Below.refl w3.heap.size w3).alloc (Nat.le_refl _) _).drew) (by simp [Value.ownBlock]; omega)⟩)
        ((refine step_app_old EInt (by rfl) (by rfl) (by rfl) ti_ints (ho3.below ((Below.refl _ _).alloc (Nat.le_refl _) _).drew) rfl
            (sl_one (heap_alloc_new w3 _) (show EInt.rep _ _ _ ((oj : Int) + 12 + (d.length : Int)) from ⟨rfl, by omega, by omega⟩) ho3.fresh) Hn1.out Hn2.out (by simp; omega) (by simp) ?_; intro v' w' ho4 hg4 hd4 hb4))
      go_wp2
      go_roundw
      case rel =>
        have hbn := (hb13.alloc hb13.size (.cells #[.int .i64 ((oj : Int) + 12 + (d.length : Int))] 3)).drew.trans hb4
        refine ⟨j + 1, by omega, by go_num, ?_, fun y hy => ?_, hbn⟩
        · rw [← ends_succ, Hos.out]
          have : ((oj + (12 + d.length) : Nat) : Int) = (oj : Int) + 12 + (d.length : Int) := by omega
          rw [this]; exact ho4
        · rw [List.take_add_one, List.getElem?_eq_getElem hlt, ← Hx.out] at hy
          rcases List.mem_append.1 hy with hy | hy
          · exact Hfine.out y hy
          · simp at hy; subst hy; simp only; omega
      case measure => simp [intOf]; omega
    · obtain rfl : j = l.length := by omega
      have hfine := Hfine.out
      rw [List.take_length] at hfine
      clear Hfine ho2 hb2 hbw2
      obtain ⟨wq, hwq⟩ : ∃ x, x = wr := ⟨_, rfl⟩
      subst hwq
      have hla : (Frm.encs l).length ≤ 3120 := by rw [← Frm.off_all]; omega
      go_wp2_with fail
      refine (frame_All _ _ _ l _ ⟨rfl, har⟩ (by omega) (by omega)).mono ?_
      rintro e w5 ⟨v5, rfl, ho5, hb5⟩
      have hr95 := hr9.below (by decide) hb5
      have har5 := har.below (by decide) hb5
      have hbw5 := hbw.trans (hb5.mono hbw.size)
      by_cases hfa : Frm.faults l = 0
      · have hff := Frm.faults_fine.1 hfa
        rw [hfa, if_pos rfl] at ho5
        rw [hfa]
        obtain ⟨B, hB⟩ : ∃ x, x = Frm.encs l := ⟨_, rfl⟩
        rw [← hB] at ho5 hla
        have HB := Lib.hid hB
        clear hB hfa
        obtain ⟨a5, c5, rfl, hc5, hm5, hr5, ho5'⟩ := ho5.shape _ rfl
        clear ho5 hr9 har hb5 ho9
        by_cases hat0 : at_ < 0
        · have hat0' : decide (at_ < 0) = true := by simpa using hat0
          go_wp2
          go_ret
          exact ⟨rfl, hbw5⟩
        have hat0' : decide (at_ < 0) = false := by simpa using hat0
        obtain ⟨p, rfl⟩ := Int.eq_ofNat_of_zero_le (Int.not_lt.1 hat0)
        by_cases hat1 : B.length ≤ p
        · have hat1' : (B.length : Int) ≤ (p : Int) := by omega
          go_wp2
          go_ret
          exact ⟨rfl, hbw5⟩
        have hat1' : ¬ ((B.length : Int) ≤ (p : Int)) := by omega
        clear hat0 hat0'
        obtain ⟨b9, o9, rfl, hE0⟩ := sl_ints hr95.2 (by rw [ends_len]; omega)
        have hE : ∀ i, i ≤ l.length → w5.cell? ⟨b9, o9 + i, none⟩ = some (.int .i64 (Frm.off l i : Int)) := fun i hi => by
          have := hE0 i (by rw [ends_len]; omega)
          rw [ends_get] at this; exact this
        have hoffB : Frm.off l l.length = B.length := by rw [HB.out, Frm.off_all]
        have hoffm : ∀ i, i ≤ l.length → Frm.off l i ≤ 3120 := fun i hi => by
          have := off_bound l i hi (fun x hx => hfine x (List.mem_of_mem_take hx))
          omega
        have hlpos : 0 < l.length := by
          rcases Nat.eq_zero_or_pos l.length with h | h
          · rw [h, Frm.off_zero] at hoffB; omega
          · exact h
        have HE := Lib.hid hE
        have Hoffm := Lib.hid hoffm
        have Hfine := Lib.hid hfine
        have Hff := Lib.hid hff
        have HoffB := Lib.hid hoffB
        clear hE0 hr95 hE hoffm hfine hff hoffB hoff
        go_wp2_with fail
        go_loop [14] (fun s => ∃ k : Nat, k < l.length ∧ s = .int .i64 k ∧ Frm.off l k ≤ p) (fun s => l.length - (intOf s).toNat)
        case atStart => exact ⟨0, hlpos, rfl, by rw [Frm.off_zero]; omega⟩
        case round =>
          obtain ⟨k, hk, rfl, hkp⟩ := hrel
          have e1 := HE.out (k + 1) (by omega)
          have m1 := Hoffm.out (k + 1) (by omega)
          obtain ⟨o1, ho1⟩ : ∃ o, o = Frm.off l (k + 1) := ⟨_, rfl⟩
          rw [← ho1] at e1 m1
          have Ho1 := Lib.hid ho1
          clear ho1
          have hkn : (k : Int) + 1 < (n : Int) := by have := Hn.out; omega
          have hk0 : (0 : Int) ≤ (k : Int) + 1 := by omega
          have hkw : IntKind.i64.wrap ((k : Int) + 1) = (k : Int) + 1 := IntWalk.i64_in _ (by omega)
          have hkt : ((k : Int) + 1).toNat = k + 1 := by omega
          by_cases hgo : o1 ≤ p
          · have hgo' : (o1 : Int) ≤ (p : Int) := by omega
            go_wp2
            go_round
            case rel =>
              refine ⟨k + 1, ?_, by go_num, by rw [← Ho1.out]; exact hgo⟩
              rcases Nat.lt_or_ge (k + 1) l.length with h | h
              · exact h
              · have : k + 1 = l.length := by omega
                have h2 := Ho1.out
                rw [this, HoffB.out] at h2
                omega
            case measure => simp [intOf]; omega
          · have hgo' : ¬ ((o1 : Int) ≤ (p : Int)) := by omega
            have e0 := HE.out k (by omega)
            have m0 := Hoffm.out k (by omega)
            obtain ⟨o0, ho0⟩ : ∃ o, o = Frm.off l k := ⟨_, rfl⟩
            rw [← ho0] at e0 m0 hkp
            have Ho0 := Lib.hid ho0
            clear ho0
            go_wp2_with fail
            refine (ref_Copy_at w5.heap.size _ _ _ B _ (by rfl) hr5 (by omega)).mono ?_
            rintro e w6 ⟨v6, rfl, ho6, hb6⟩
            obtain ⟨a6, c6, rfl, hc6, hm6, hr6, ho6'⟩ := ho6.shape _ rfl
            have e16 := cell_thru e1 hb6
            have e06 := cell_thru e0 hb6
            have hr56 := RB.below hr5 hb6
            have har6 := har5.below (by decide) hb6
            have hbw6 := hbw5.trans (hb6.mono hbw5.size)
            clear ho6 hr6
            go_upto_region 22 with fail
            go_cut [90] (fun s wx => s = .bool (!inside || decide ((p : Int) < (o0 : Int) + 12)) ∧ wx = w6)
            case first =>
              have hkn0 : (k : Int) < (n : Int) := by omega
              have hkk : (0 : Int) ≤ (k : Int) := by omega
              have ho12 : IntKind.i64.wrap ((o0 : Int) + 12) = (o0 : Int) + 12 := IntWalk.i64_in _ (by omega)
              cases inside
              · go_wp2_with fail
                go_meet
                exact ⟨rfl, rfl⟩
              · go_wp2_with fail
                go_meet
                exact ⟨rfl, rfl⟩
            obtain ⟨hs90, hwc⟩ := hcut
            subst hs90
            obtain ⟨wy, hwy⟩ : ∃ x, x = wc := ⟨_, rfl⟩
            subst hwy
            rw [hwc]
            clear hwc
            go_upto_if 90 with fail
            obtain ⟨g, hg6, hgb, hcg, hfg⟩ := ho6'.at p (by omega)
            subst hg6
            clear e16 e06 hr56 har6
            go_cut [15] (fun s wx => s = .slice (some ⟨g, 0, none⟩) B.length c6 ∧ ∃ C, Own EU8 5 w5.heap.size wx (.slice (some ⟨g, 0, none⟩) B.length c6) C ∧ Turned B p o0 o1 C ∧ Below w5.heap.size w5 wx)
            case first =>
              cases hcond : (!inside || decide ((p : Int) < (o0 : Int) + 12))
              · simp only [Bool.or_eq_false_iff, decide_eq_false_iff_not] at hcond
                have hp12 : o0 + 12 ≤ p := by omega
                go_wp2_with fail
                go_loopw [16] (fun i wr => ∃ (t : Nat) (C : List (BitVec 8)), t ≤ 4 ∧ i = .int .i64 t ∧ Own EU8 5 w5.heap.size wr (.slice (some ⟨g, 0, none⟩) B.length c6) C ∧ Turning B p o1 t C ∧ Below w5.heap.size w5 wr) (fun i _ => 4 - (intOf i).toNat)
                case atStart => exact ⟨0, B, by omega, rfl, ho6', ⟨rfl, fun _ _ => rfl⟩, hb6⟩
                case round =>
                  obtain ⟨t, C, ht, rfl, hoC, htC, hbC⟩ := hrel
                  have e1r := cell_thru e1 hbC
                  have hlC := htC.1
                  by_cases ht4 : t = 4
                  · subst ht4
                    go_wp2_with fail
                    go_meet
                    exact ⟨rfl, C, hoC, htC.done (Nat.le_refl _) hp12, hbC⟩
                  · have hcase : t = 0 ∨ t = 1 ∨ t = 2 ∨ t = 3 := by omega
                    by_cases hpo : p + t < o1
                    · have hpl : p + t < C.length := by rw [hlC, HB.out]; have := off_le l (k + 1); have := Ho1.out; omega
                      obtain ⟨g2, hg2, _, hcg2, hfg2⟩ := hoC.at (p + t) hpl
                      obtain rfl : g2 = g := by injection hg2 with h; injection h with h; exact h.symm
                      have htn : ∀ x, Turning B p o1 (t + 1) (C.set (p + t) x) := fun x => (htC.set x).resolve_right (by omega)
                      have hset : ∀ x, Own EU8 5 w5.heap.size (wr.setCell ⟨g2, p + t, none⟩ (.int .u8 (bv x))) (.slice (some ⟨g2, 0, none⟩) B.length c6) (C.set (p + t) x) := fun x => Own.set hoC (p + t) x
                      have Htn := Lib.hid htn
                      have Hset := Lib.hid hset
                      have hpB : p + t < B.length := by omega
                      clear htn hset htC
                      have hu0 : bv (0#64) = (0 : Int) := rfl
                      have hu1 : bv (8#64) = (8 : Int) := rfl
                      have hu2 : bv (16#64) = (16 : Int) := rfl
                      have hu3 : bv (24#64) = (24 : Int) := rfl
                      rcases hcase with rfl | rfl | rfl | rfl
                      all_goals
                        try simp only [Nat.add_zero] at hcg2 hfg2 hpo hpB
                        go_wp2_with fail
                        go_roundw
                        case rel => exact ⟨_, _, by omega, by first | rfl | go_num, Hset.out _, Htn.out _, hbC.setCell hgb _⟩
                        case measure => simp [intOf]
                    · have hpo' : ¬ ((p : Int) + (t : Int) < (o1 : Int)) := by omega
                      rcases hcase with rfl | rfl | rfl | rfl
                      all_goals
                        go_wp2_with fail
                        all_goals (go_meet; exact ⟨rfl, C, hoC, htC.done (by omega) hp12, hbC⟩)
              · go_wp2_with fail
                go_meet
                exact ⟨rfl, _, Own.set ho6' p _, turned_one p o0 o1 _ (by omega), hb6.setCell hgb _⟩
            obtain ⟨rfl, C, hoC, hTC, hbC⟩ := hcut
            obtain ⟨wx, hwx⟩ : ∃ x, x = wc := ⟨_, rfl⟩
            subst hwx
            have hr5x := RB.below hr5 hbC
            have harx := har5.below (by decide) hbC
            have hbwx := hbw5.trans (hbC.mono hbw5.size)
            obtain ⟨a7, c7, he7, hc7, hm7, hr7, hoC'⟩ := hoC.shape B.length hTC.1.symm
            simp only [Value.slice.injEq, true_and] at he7
            obtain ⟨rfl, rfl⟩ := he7
            have e0x := cell_thru e0 hbC
            clear hcg hfg e1 e0 hoC hoC' ho6' hr5 har5
            go_wp2_with fail
            refine (ref_Same _ _ _ _ _ _ B C _ hr5x hr7).mono ?_
            rintro e w8 ⟨rfl, rfl⟩
            by_cases hBC : C = B
            · rw [hBC, show (B == B) = true by simp]
              go_wp2
              go_ret
              exact ⟨rfl, hbwx⟩
            · rw [show (B == C) = false by simpa using fun h => hBC h.symm]
              obtain ⟨er, her, hsc⟩ := Frm.scan_turned l Hff.out k hk C (by rw [hTC.1, HB.out]) p (by rw [← Ho0.out]; exact hkp) (by rw [← Ho1.out]; omega) (by rw [← Ho1.out, ← HB.out]; exact hTC.2.1) (by rw [← Ho0.out, ← HB.out]; exact hTC.2.2) (by rw [← HB.out]; exact hBC)
              rw [← Ho0.out] at hsc
              have Hsc := Lib.hid hsc
              have hCl := hTC.1
              clear hsc hTC
              go_wp2_with fail
              refine (frame_Scan wx.heap.size _ _ _ C _ (by rfl) hr7 (by omega) hm6 (by omega)).mono ?_
              rw [Hsc.out]
              rintro e w9 ⟨v9, rfl, ho9, hb9⟩
              dsimp only at ho9 ⊢
              obtain ⟨a10, c10, rfl, hc10, hm10, hr10, ho10⟩ := ho9.shape k (by simp; omega)
              have har9 := harx.below (by decide) hb9
              have hbw9 := hbwx.trans (hb9.mono hbwx.size)
              have e09 := cell_thru e0x hb9
              have herb : (er == 0) = false := by simpa using her
              have hkn0 : (k : Int) < (n : Int) := by omega
              have hkk : (0 : Int) ≤ (k : Int) := by omega
              clear ho9 ho10 hr5x harx hbwx hbC hb9 hr7 her e0x
              obtain ⟨wv, hwv⟩ : ∃ x, x = w9 := ⟨_, rfl⟩
              subst hwv
              go_wp2_with fail
              go_loopw [155] (fun i wz => ∃ j : Nat, j ≤ k ∧ i = .int .i64 j ∧ Below wv.heap.size wv wz) (fun i _ => k - (intOf i).toNat)
              case atStart => exact ⟨0, Nat.zero_le _, rfl, Below.refl _ _⟩
              case round =>
                obtain ⟨j, hjk, rfl, hbz⟩ := hrel
                obtain ⟨wz, hwz⟩ : ∃ x, x = wr := ⟨_, rfl⟩
                subst hwz
                have hbwz := hbw9.trans (hbz.mono hbw9.size)
                by_cases hlt2 : j < k
                · have hji : (j : Int) < (k : Int) := by omega
                  have hjl : (j : Int) < (l.length : Int) := by omega
                  have hr3z : Sl EFrame (fun _ => True) wz a10 (l.take k) := hr10.2.below (by decide) hbz
                  have hr6z : Sl EFrame (fun _ => True) wz a l := har9.below (by decide) hbz
                  obtain ⟨b3, o3, x3, y3, rfl, p1, p2, p3, p4, p5⟩ := sl_frame hr3z j (by simp; omega)
                  obtain ⟨b6, o6, x6, y6, rfl, q1, q2, q3, q4, q5⟩ := sl_frame hr6z j (by omega)
                  rw [List.getElem_take] at p1 p2 p3 p5
                  obtain ⟨x, hx⟩ : ∃ x, x = l[j] := ⟨_, rfl⟩
                  rw [← hx] at p1 p2 p3 p5 q1 q2 q3 q5
                  clear hx
                  obtain ⟨kd, dt⟩ := x
                  dsimp only at p1 p2 p3 p5 q1 q2 q3 q5
                  go_upto_region 36 with fail
                  go_cut [167] (fun s wx => s = .bool false ∧ Below wz.heap.size wz wx)
                  case first =>
                    go_region_held3 (fun W => W.cell? ⟨b3, o3 + j * 2, none⟩ = some (.int .i64 kd) ∧ W.cell? ⟨b3, o3 + j * 2 + 1, none⟩ = some (.slice x3 dt.length y3) ∧ W.cell? ⟨b6, o6 + j * 2, none⟩ = some (.int .i64 kd) ∧ W.cell? ⟨b6, o6 + j * 2 + 1, none⟩ = some (.slice x6 dt.length y6))
                      (first | go_keep | exact ⟨cell_thru p1 ((Below.refl wz.heap.size wz).drew.trans hb8), cell_thru p2 ((Below.refl wz.heap.size wz).drew.trans hb8), cell_thru q1 ((Below.refl wz.heap.size wz).drew.trans hb8), cell_thru q2 ((Below.refl wz.heap.size wz).drew.trans hb8)⟩)
                      ((first
                        | (go_at_call 27; refine (law4_same kd _ _ _ dt kd _ _ _ dt _ ⟨rfl, (by exact p5.below (by decide) (Below.refl wz.heap.size wz).drew)⟩ ⟨rfl, (by exact q5.below (by decide) (Below.refl wz.heap.size wz).drew)⟩).mono ?_; rintro e w8 ⟨rfl, hb8⟩; rw [show (kd == kd && dt == dt) = true by simp])))
                    all_goals (go_wp2_with fail; go_meet; exact ⟨rfl, (Below.refl wz.heap.size wz).drew.trans hb8⟩)
                  obtain ⟨rfl, hb9⟩ := hcut
                  go_wp2
                  go_roundw
                  case rel => exact ⟨j + 1, by omega, by go_num, hbz.trans (hb9.mono hbz.size)⟩
                  case measure => simp [intOf]; omega
                · obtain rfl : j = k := by omega
                  go_wp2
                  go_ret
                  exact ⟨rfl, hbwz⟩
      · have hfa2 : Frm.faults l = 14 := faults_14 hfine hfa
        rw [hfa2]
        go_wp2
        go_ret
        exact ⟨rfl, hbw5⟩
end Go.Proofs.Ytcmkkilhipnbcaa

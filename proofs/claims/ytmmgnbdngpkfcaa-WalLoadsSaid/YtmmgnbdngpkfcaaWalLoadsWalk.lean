
/-
  The law WalLoads, walked.
-/
import Derived.Test.YtmmgnbdngpkfcaaWalT
import Derived.Test.YtmmgnbdngpkfcaaBas
namespace Go.Proofs.Ytmmgnbdngpkfcaa
open Go.RowKit
set_option linter.unusedVariables false

theorem i64_and65535 (n : Int) : bits .and .i64 n 65535 = n % 65536 := by
  have h : bits .and .i64 n 65535 = IntKind.i64.wrap ((BitVec.ofInt 64 n &&& BitVec.ofInt 64 65535).toNat : Int) := rfl
  rw [h]
  have : (BitVec.ofInt 64 n &&& BitVec.ofInt 64 65535).toNat = (BitVec.ofInt 64 n).toNat % 65536 := by
    rw [BitVec.toNat_and]
    exact Nat.and_two_pow_sub_one_eq_mod _ 16
  rw [this, BitVec.toNat_ofInt, IntKind.wrap_i64]
  omega
theorem nat_or1 (n : Nat) : n ||| 1 = n - n % 2 + 1 := by
  have h : n = 2 * (n / 2) + n % 2 := by omega
  rcases Nat.mod_two_eq_zero_or_one n with h0 | h0
  · rw [h0]
    have e : n = 2 ^ 1 * (n / 2) := by rw [Nat.pow_one]; omega
    conv => lhs; rw [e]
    rw [← Nat.two_pow_add_eq_or_of_lt (by decide)]
    rw [Nat.pow_one]; omega
  · rw [h0]
    have e2 : n ||| 1 = n := by
      apply Nat.eq_of_testBit_eq
      intro i
      rw [Nat.testBit_or]
      cases i with
      | zero => simp [Nat.testBit_zero, h0]
      | succ i => simp [Nat.testBit_succ]
    omega
theorem i64_or1 (n : Nat) (h : n ≤ 4611686018427387904) : bits .or .i64 n 1 = ((n - n % 2 + 1 : Nat) : Int) := by
  have h1 : bits .or .i64 n 1 = IntKind.i64.wrap ((BitVec.ofInt 64 n ||| BitVec.ofInt 64 1).toNat : Int) := rfl
  rw [h1]
  have e1 : (BitVec.ofInt 64 n ||| BitVec.ofInt 64 1).toNat = n ||| 1 := by
    rw [BitVec.toNat_or]
    have : (BitVec.ofInt 64 (n : Int)).toNat = n := by rw [BitVec.toNat_ofInt]; omega
    rw [this]; rfl
  rw [e1, nat_or1]
  exact IntWalk.i64_in _ (by omega)
attribute [go_sem] i64_and65535

theorem ti_ints : ElemInfo Try.prog 29 3 EInt.sz 8 := ElemInfo.mk' (z := .int .i64 0) Try.underlying29 (by kernel_rfl) rfl (by decide)
theorem own_int1 (w : World) (x : Int) (hx : -9223372036854775808 ≤ x ∧ x ≤ 9223372036854775807) : Own EInt 3 w.heap.size (w.alloc (.cells #[.int .i64 x] 3)) (.slice (some ⟨w.heap.size, 0, none⟩) 1 1) [x] := by
  refine .inr ⟨w.heap.size, 1, #[.int .i64 x], rfl, Nat.le_refl _, heap_alloc_new w _, Nat.le_refl _, by decide, rfl, fun k y hy => ?_⟩
  have hk : k = 0 := by have := (List.getElem?_eq_some_iff.1 hy).1; simp at this; exact this
  subst hk
  simp at hy; subst hy
  exact ⟨[.int .i64 x], ⟨rfl, hx⟩, fun j u hj => by
    have hj0 : j = 0 := by have := (List.getElem?_eq_some_iff.1 hj).1; simp at this; exact this
    subst hj0; simpa [EInt] using hj⟩
def wends (fs : List (Int × List (BitVec 8))) (j : Nat) : List Int := (List.range (j + 1)).map fun i => (Frm.off fs (i + 1) : Int)
theorem wends_len (fs : List (Int × List (BitVec 8))) (j : Nat) : (wends fs j).length = j + 1 := by simp [wends]
theorem wends_succ (fs : List (Int × List (BitVec 8))) (j : Nat) : wends fs j ++ [(Frm.off fs (j + 1 + 1) : Int)] = wends fs (j + 1) := by
  unfold wends
  conv => rhs; rw [List.range_succ]
  simp
theorem wends_get (fs : List (Int × List (BitVec 8))) (j i : Nat) (h : i < (wends fs j).length) : (wends fs j)[i] = (Frm.off fs (i + 1) : Int) := by simp [wends]
/-- a disk of which no block is within M -/
def DkX (M : Nat → Prop) (B : Nat) (w : World) (gd : Nat) (D : Dk.Dsk) : Prop := ∃ F, DkAt F w gd D ∧ Dk.Ok D ∧ ∀ k, F k → B ≤ k ∧ ¬ M k
theorem DkB.ex {M : Nat → Prop} {B : Nat} {w : World} {gd : Nat} {D : Dk.Dsk} (h : DkB B w gd D) (hM : ∀ k, M k → k < B ∨ w.heap.size ≤ k) : DkX M B w gd D := by
  obtain ⟨F, h1, h2, h3⟩ := h
  exact ⟨F, h1, h2, fun k hk => ⟨h3 k hk, fun hm => by have := hM k hm; have := h3 k hk; have := h1.flt k hk; omega⟩⟩
theorem DkX.dk {M : Nat → Prop} {B : Nat} {w : World} {gd : Nat} {D : Dk.Dsk} (h : DkX M B w gd D) : DkB B w gd D := by
  obtain ⟨F, h1, h2, h3⟩ := h
  exact ⟨F, h1, h2, fun k hk => (h3 k hk).1⟩
theorem DkX.keep {M : Nat → Prop} {B : Nat} {w w' : World} {gd : Nat} {D : Dk.Dsk} (h : DkX M B w gd D) (hb : Below w.heap.size w w') : DkX M B w' gd D := by
  obtain ⟨F, h1, h2, h3⟩ := h
  exact ⟨F, h1.keep hb, h2, h3⟩
theorem x_Clear {M : Nat → Prop} {B : Nat} {gd : Nat} {D D' : Dk.Dsk} {er t : Int} (w : World) (h : DkX M B w gd D) (ha : 0 ≤ D.acts ∧ D.acts ≤ 8000000000000000000) (hR : Dk.clear D t = (D', er)) :
    Calls Try.prog 29 #[.pointer (some ⟨gd, 0, none⟩), .int .i64 t] w fun e w' => e = .returned (.int .i64 er) ∧ DkX M B w' gd D' ∧ Only (fun k => ¬ M k) w w' ∧ Below B w w' := by
  have hsz := h.dk.size
  obtain ⟨F, h1, h2, h3⟩ := h
  refine (disk_Clear gd D t w h1 h2 ⟨ha.1, by omega⟩).mono ?_
  rw [hR]
  rintro e w' ⟨rfl, g1, g2⟩
  exact ⟨rfl, ⟨F, g1, by have := Dk.ok_clear h2 t; rw [hR] at this; exact this, h3⟩, g2.mono fun k hk => (h3 k hk).2, g2.below hsz fun k hk => (h3 k hk).1⟩
theorem x_App {M : Nat → Prop} {B : Nat} {gd : Nat} {D D' : Dk.Dsk} {er t : Int} (a : Option Addr) (n c : Nat) (b : List (BitVec 8)) (w : World) (h : DkX M B w gd D) (hM : ∀ k, M k → k < w.heap.size) (ha : 0 ≤ D.acts ∧ D.acts ≤ 8000000000000000000) (hn : n = b.length) (hnl : n ≤ 140737488355328) (hs : Sl EU8 M w a b) (hR : Dk.app D t b = (D', er)) :
    Calls Try.prog 30 #[.pointer (some ⟨gd, 0, none⟩), .int .i64 t, .slice a n c] w fun e w' => e = .returned (.int .i64 er) ∧ DkX M B w' gd D' ∧ Only (fun k => ¬ M k) w w' ∧ Below B w w' := by
  have hsz := h.dk.size
  obtain ⟨F, h1, h2, h3⟩ := h
  refine (disk_Append gd D t a n c b w h1 h2 ⟨ha.1, by omega⟩ hn (hs.mono (by decide) fun k hk _ => ⟨rfl, fun hf => (h3 k hf).2 hk⟩) (by omega)).mono ?_
  rw [hR]
  rintro e w' ⟨rfl, F', g1, g2⟩
  refine ⟨rfl, ⟨F', g1, by have := Dk.ok_app h2 t b; rw [hR] at this; exact this, fun k hk => ?_⟩, g2.only.mono fun k hk => (h3 k hk).2, g2.only.below hsz fun k hk => (h3 k hk).1⟩
  rcases g2.foot k hk with h4 | h4
  · exact h3 k h4
  · exact ⟨by omega, fun hm => by have := hM k hm; omega⟩
theorem Sl.take' {α : Type} {E : Enc α} {ok : Nat → Prop} {w : World} {a : Option Addr} {l : List α} (h : Sl E ok w a l) (k : Nat) : Sl E ok w a (l.take k) := fun i x hx => h i x (by
  rw [List.getElem?_take] at hx
  split at hx
  · exact hx
  · cases hx)
theorem lit2 {B : Nat} {w0 w : World} {te : Nat} {fr : Nat × Nat} {x y : BitVec 8} (hw : w = w0.alloc (.cells #[.int .u8 (bv x), .int .u8 (bv y)] te fr)) (hB : B ≤ w0.heap.size) : Sl EU8 (fun k => k < B ∨ w0.heap.size ≤ k) w (some ⟨w0.heap.size, 0, none⟩) [x, y] := by
  rw [hw]
  exact sl_cells (heap_alloc_new w0 _) rfl (.inr (Nat.le_refl _))
/-- what is told of the tape when it is opened -/
structure LoadsAt (B B1 : Nat) (w : World) (A Bn M : Nat) (sa sb : List (BitVec 8)) (ns : List (List (BitVec 8))) (lv : Int) (D : Dk.Dsk) (wx : World) : Prop where
  dk : DkB B1 wx B1 D
  bel : Below B w wx
  acts : 0 ≤ D.acts ∧ D.acts ≤ 100
  room : D.room = 10000
  calm : Wl.Calm D
  zero : (D.t 0).b = Wl.tapeOf A 0 sa [] []
  one : (lv = ns.length ∧ (D.t 1).b = Wl.tapeOf Bn M sb ns []) ∨ ∃ k r, k ≤ ns.length ∧ lv = (k : Int) - 1 ∧ (D.t 1).b = Frm.encs ((Wl.fsOf Bn M sb ns).take k) ++ r ∧ Wl.Torn r ∧ r ≠ []
def LoadsPost (B B1 : Nat) (w : World) (A Bn M : Nat) (sa sb : List (BitVec 8)) (ns : List (List (BitVec 8))) (s : Value) (wx : World) : Prop := ∃ lv D, s = .int .i64 lv ∧ LoadsAt B B1 w A Bn M sa sb ns lv D wx

set_option maxRecDepth 100000 in
set_option maxHeartbeats 12800000 in
theorem law_WalLoads (a b must : Int) (a3 : Option Addr) (c3 : Nat) (sa : List (BitVec 8)) (a4 : Option Addr) (c4 : Nat) (sb : List (BitVec 8)) (a5 : Option Addr) (c5 : Nat) (ns : List (List (BitVec 8))) (at_ : Int) (tb : BitVec 8) (w : World)
    (hra : -9223372036854775808 ≤ a ∧ a ≤ 9223372036854775807) (hrb : -9223372036854775808 ≤ b ∧ b ≤ 9223372036854775807) (hrm : -9223372036854775808 ≤ must ∧ must ≤ 9223372036854775807)
    (hs3 : Sl EU8 (fun _ => True) w a3 sa) (hc3 : sa.length ≤ c3) (hm3 : c3 ≤ maxLen) (hs4 : Sl EU8 (fun _ => True) w a4 sb) (hc4 : sb.length ≤ c4) (hm4 : c4 ≤ maxLen) (hs5 : Sl EBytes (fun _ => True) w a5 ns) (hc5 : ns.length ≤ c5) (hm5 : c5 ≤ maxLen)
    (hat : -9223372036854775808 ≤ at_ ∧ at_ ≤ 9223372036854775807) :
    Calls Try.prog 5 #[.int .i64 a, .int .i64 b, .int .i64 must, .slice a3 sa.length c3, .slice a4 sb.length c4, .slice a5 ns.length c5, .int .i64 at_, .int .u8 (bv tb)] w fun e w' => e = .returned (.bool true) ∧ Below w.heap.size w w' := by
  obtain ⟨B, hB⟩ : ∃ B, B = w.heap.size := ⟨_, rfl⟩
  rw [← hB]
  have HB := Lib.hid hB.symm
  obtain ⟨nA, hnA⟩ : ∃ n, n = sa.length := ⟨_, rfl⟩
  obtain ⟨nB, hnB⟩ : ∃ n, n = sb.length := ⟨_, rfl⟩
  obtain ⟨nN, hnN⟩ : ∃ n, n = ns.length := ⟨_, rfl⟩
  rw [← hnA] at hc3 ⊢
  rw [← hnB] at hc4 ⊢
  rw [← hnN] at hc5 ⊢
  have Hs3 := Lib.hid (low_u8 hs3 hB.symm)
  have Hs4 := Lib.hid (low_u8 hs4 hB.symm)
  have Hs5 := Lib.hid (low_byts hs5 hB.symm)
  have HnA := Lib.hid hnA
  have HnB := Lib.hid hnB
  have HnN := Lib.hid hnN
  clear hB hs3 hs4 hs5 hnA hnB hnN
  unfold maxLen at hm3 hm4 hm5
  by_cases hbig : 500 < nA ∨ 500 < nB ∨ 10 < nN
  · have hq : decide ((500 : Int) < (nA : Int)) = true ∨ (decide ((500 : Int) < (nA : Int)) = false ∧ decide ((500 : Int) < (nB : Int)) = true) ∨ (decide ((500 : Int) < (nA : Int)) = false ∧ decide ((500 : Int) < (nB : Int)) = false ∧ decide ((10 : Int) < (nN : Int)) = true) := by
      by_cases h1 : 500 < nA
      · exact .inl (by simp; omega)
      · by_cases h2 : 500 < nB
        · exact .inr (.inl ⟨by simp; omega, by simp; omega⟩)
        · exact .inr (.inr ⟨by simp; omega, by simp; omega, by simp; omega⟩)
    clear hbig
    rcases hq with h1 | ⟨h1, h2⟩ | ⟨h1, h2, h3⟩
    all_goals
      go_enter Try.func5, Try.ntmps5
      go_wp2_with fail
      refine (law17_head w).mono ?_
      rintro e w1 ⟨rfl, hb1⟩
      rw [HB.out] at hb1
      go_wp2_with fail
      go_ret
      exact ⟨rfl, hb1⟩
  · have hA5 : (nA : Int) ≤ 500 := by omega
    have hB5 : (nB : Int) ≤ 500 := by omega
    have hN1 : (nN : Int) ≤ 10 := by omega
    clear hbig
    obtain ⟨P, hP⟩ : ∃ P : Int, P = 1 + a % 65536 := ⟨_, rfl⟩
    obtain ⟨Q, hQ⟩ : ∃ Q : Nat, (Q : Int) = 1 + b % 65536 := ⟨(1 + b % 65536).toNat, by omega⟩
    obtain ⟨R0, hR0⟩ : ∃ R0 : Int, R0 = P - P % 2 := ⟨_, rfl⟩
    obtain ⟨A, hA⟩ : ∃ A : Nat, (A : Int) = R0 + 2 := ⟨(R0 + 2).toNat, by omega⟩
    obtain ⟨Bn, hBn⟩ : ∃ Bn : Nat, Bn = Q - Q % 2 + 1 := ⟨_, rfl⟩
    obtain ⟨M, hM⟩ : ∃ M : Nat, (M : Int) = must % 8 := ⟨(must % 8).toNat, by omega⟩
    have hA0 : 2 ≤ A ∧ A ≤ 65538 ∧ A % 2 = 0 := by omega
    have hB0 : 1 ≤ Bn ∧ Bn ≤ 65537 ∧ Bn % 2 = 1 := by omega
    have hM0 : M ≤ 7 := by omega
    have q1 : IntKind.i64.wrap (1 + a % 65536) = P := by rw [IntWalk.i64_in _ (by omega)]; exact hP.symm
    have q2 : IntKind.i64.wrap (1 + b % 65536) = (Q : Int) := by rw [IntWalk.i64_in _ (by omega)]; exact hQ.symm
    have q3 : IntKind.i64.wrap (P - P % 2) = R0 := by rw [IntWalk.i64_in _ (by omega)]; exact hR0.symm
    have q6 : IntKind.i64.wrap (R0 + 2) = (A : Int) := by rw [IntWalk.i64_in _ (by omega)]; exact hA.symm
    have q4 : bits .or .i64 (Q : Int) 1 = (Bn : Int) := by rw [i64_or1 Q (by omega), hBn]
    have q5 : must % 8 = (M : Int) := hM.symm
    clear hP hQ hA hBn hM hR0
    go_enter Try.func5, Try.ntmps5
    go_wp2_with fail
    refine (law17_head w).mono ?_
    rintro e w1 ⟨rfl, hb1⟩
    rw [HB.out] at hb1
    obtain ⟨B1, hB1e⟩ : ∃ x, x = w1.heap.size := ⟨_, rfl⟩
    have hB1 : B ≤ B1 := by rw [hB1e, ← HB.out]; exact hb1.size
    have HB1 := Lib.hid hB1e
    clear hB1e
    go_upto_region 9 with fail
    clear q1 q2 q3 q4 q6
    go_wp2_with fail
    go_loop [63] (fun i => ∃ k : Nat, k ≤ nN ∧ i = .int .i64 k ∧ ∀ n ∈ ns.take k, n.length ≤ 300) (fun i => nN - (intOf i).toNat)
    case atStart => exact ⟨0, Nat.zero_le _, rfl, fun n hn => (by cases hn)⟩
    case round =>
      obtain ⟨k, hk, rfl, hall⟩ := hrel
      by_cases hlt : k < nN
      · as_aux_lemma =>
          have hki : (k : Int) < (nN : Int) := by omega
          have hkn : k < ns.length := by rw [← HnN.out]; exact hlt
          obtain ⟨b6, o6, a7, c7, rfl, -, p1, p2, p3, p4⟩ := byts_at (keep_low (by decide) Hs5.out hb1) k hkn
          obtain ⟨d, hd⟩ : ∃ x, x = ns[k] := ⟨_, rfl⟩
          have htk : ns.take (k + 1) = ns.take k ++ [d] := by rw [take_snoc' ns k hkn, hd]
          rw [← hd] at p1 p2 p4
          obtain ⟨nd, hnd⟩ : ∃ n, n = d.length := ⟨_, rfl⟩
          rw [← hnd] at p1 p2
          unfold maxLen at p3
          have Hnd := Lib.hid hnd
          have Htk := Lib.hid htk
          have Hall := Lib.hid hall
          clear hnd htk hall hd p4 hkn
          by_cases hdl : 300 < nd
          · have hdl2 : (300 : Int) < (nd : Int) := by omega
            go_wp2_with fail
            go_ret
            exact ⟨rfl, hb1⟩
          · have hdl2 : (nd : Int) ≤ 300 := by omega
            have hnext : ∀ n ∈ ns.take (k + 1), n.length ≤ 300 := fun n hn => by
              rw [Htk.out] at hn
              rcases List.mem_append.1 hn with hn | hn
              · exact Hall.out n hn
              · rw [List.mem_singleton] at hn; subst hn; rw [← Hnd.out]; omega
            have Hnext := Lib.hid hnext
            clear hnext
            go_wp2_with fail
            exact ⟨⟨k + 1, by omega, by go_num, Hnext.out⟩, by simp [intOf]; omega⟩
      · as_aux_lemma =>
          obtain rfl : k = nN := by omega
          have hall2 : ∀ n ∈ ns, n.length ≤ 300 := by
            rw [List.take_of_length_le (by rw [← HnN.out]; exact Nat.le_refl _)] at hall
            exact hall
          have Hall := Lib.hid hall2
          clear hall hall2 hlt
          -- the disk
          have hnl : ns.length ≤ 10 := by rw [← HnN.out]; omega
          have hen := Wl.encs_le Hall.out
          have hh3 := Wl.hdata_len A 0 sa
          have hh4 := Wl.hdata_len Bn M sb
          rw [← HnA.out] at hh3
          rw [← HnB.out] at hh4
          have ht0 := Wl.tapeOf_len A 0 sa [] []
          have ht1 := Wl.tapeOf_len Bn M sb ns []
          have hz : (Frm.encs (Wl.nfs ([] : List (List (BitVec 8))))).length = 0 := rfl
          rw [hz] at ht0
          simp only [List.length_nil] at ht0 ht1
          have hroom : (Dk.new 10000).room = 10000 := by decide
          obtain ⟨D1, e1, c1, r1, k1, z1, o1⟩ := Wl.app_calm (Wl.calm_new 10000) 0 (by decide) (Wl.tapeOf A 0 sa [] []) (by rw [hroom]; show ((0 : Nat) : Int) + _ ≤ _; omega)
          obtain ⟨D2, e2, c2, r2, k2, z2, o2⟩ := Wl.flush_calm c1 0 (by decide)
          have hD2one : (D2.t 1).b = [] := by rw [z2]; exact congrArg Dk.Tp.b (o1 1 (by decide))
          obtain ⟨D3, e3, c3', r3, k3, z3, o3⟩ := Wl.app_calm c2 1 (by decide) (Wl.tapeOf Bn M sb ns []) (by rw [r2, r1, hroom]; show (((D2.t 1).b.length : Nat) : Int) + _ ≤ _; rw [hD2one]; simp only [List.length_nil]; omega)
          obtain ⟨D4, e4, c4', r4, k4, z4, o4⟩ := Wl.flush_calm c3' 1 (by decide)
          have hk0 : (Dk.new 10000).acts = 0 := rfl
          have hD40 : (D4.t 0).b = Wl.tapeOf A 0 sa [] [] := by
            rw [z4, o3 0 (by decide), z2]; exact z1
          have hD41 : (D4.t 1).b = Wl.tapeOf Bn M sb ns [] := by
            rw [z4]
            have z3' : (D3.t 1).b = (D2.t 1).b ++ Wl.tapeOf Bn M sb ns [] := z3
            rw [z3', hD2one]; rfl
          have hat0 := Hall.out
          have E1 := Lib.hid e1
          have E2 := Lib.hid e2
          have E3 := Lib.hid e3
          have E4 := Lib.hid e4
          have K1 : Hid (D1.acts = 1) := Lib.hid (by omega)
          have K2 : Hid (D2.acts = 2) := Lib.hid (by omega)
          have K3 : Hid (D3.acts = 3) := Lib.hid (by omega)
          have K4 : Hid (D4.acts = 4) := Lib.hid (by omega)
          have R4 : Hid (D4.room = 10000) := Lib.hid (by omega)
          have C4 := Lib.hid c4'
          have Z40 := Lib.hid hD40
          have Z41 := Lib.hid hD41
          have Hnl := Lib.hid hnl
          have Hh3 := Lib.hid hh3
          have Hh4 := Lib.hid hh4
          have Ht1 := Lib.hid ht1
          have Hen := Lib.hid hen
          clear e1 e2 e3 e4 k1 k2 k3 k4 r1 r2 r3 r4 c1 c2 c3' c4' z1 z2 z3 z4 o1 o2 o3 o4 hD2one hD40 hD41 hroom hk0 hat0 hz ht0 ht1 hen hnl hh3 hh4
          have cA : IntKind.u64.wrap (A : Int) = bv (BitVec.ofNat 64 A) := by rw [wrap64u]; congr 1
          have cB : IntKind.u64.wrap (Bn : Int) = bv (BitVec.ofNat 64 Bn) := by rw [wrap64u]; congr 1
          go_wp2_with fail
          refine (b_New 10000 B1 w1 HB1.out.symm (by decide)).mono ?_
          rintro e w2 ⟨rfl, h2, hb2⟩
          have hb2 := hb1.trans (hb2.mono hB1)
          have hr3 : RB w2 a3 nA sa := ⟨HnA.out, (keep_low (by decide) Hs3.out hb2).any (by decide)⟩
          go_wp2_with fail
          refine (law17_lay 0 A 0 _ _ c3 sa none 0 0 [] w2 h2 (by decide) (by decide) (by omega) hr3 (by decide) ⟨rfl, Sl.nil _ _ _ _⟩ (fun n hn => by cases hn) E1.out E2.out (by rw [K1.out]; decide)).mono ?_
          rintro e w3 ⟨rfl, h3, hb3⟩
          have hb3 := hb2.trans (hb3.mono hB1)
          have hr4 : RB w3 a4 nB sb := ⟨HnB.out, (keep_low (by decide) Hs4.out hb3).any (by decide)⟩
          have hr5 : RS EBytes w3 a5 k ns := ⟨HnN.out, (keep_low (by decide) Hs5.out hb3).any (by decide)⟩
          clear hr3 h2 hb2
          go_wp2_with fail
          refine (law17_lay 1 Bn M _ _ c4 sb a5 k c5 ns w3 h3 (by rw [K2.out]; decide) (by omega) (by omega) hr4 (by omega) hr5 (fun n hn => by have := Hall.out n hn; omega) E3.out E4.out (by rw [K3.out]; decide)).mono ?_
          rintro e w4 ⟨rfl, h4, hb4⟩
          have hb4 := hb3.trans (hb4.mono hB1)
          clear hr4 hr5 h3 hb3
          go_wp2_with fail
          have hread := Wl.read_calm C4.out 1 (by decide)
          have hread2 : Dk.read D4 1 = (Wl.tapeOf Bn M sb ns [], 0) := by rw [hread]; show ((D4.t 1).b, 0) = _; rw [Z41.out]
          refine (b_Read w4 h4 hread2).mono ?_
          rintro e w5 ⟨v5, rfl, ho5, h5, hb5⟩
          have hbB5 := hb4.trans (hb5.mono (Nat.le_trans hB1 h4.size))
          obtain ⟨N5, hN5⟩ : ∃ N, N = w4.heap.size := ⟨_, rfl⟩
          rw [← hN5] at ho5
          have hN5s : N5 ≤ w5.heap.size := by rw [hN5]; exact hb5.size
          have hBN5 : B1 ≤ N5 := by rw [hN5]; exact h4.size
          obtain ⟨X, hX⟩ : ∃ X, X = Wl.tapeOf Bn M sb ns [] := ⟨_, rfl⟩
          rw [← hX] at ho5
          obtain ⟨nX, hnX⟩ : ∃ n, n = X.length := ⟨_, rfl⟩
          obtain ⟨aX, cX, rfl, hcX, hmX, _, hoX⟩ := ho5.shape nX hnX
          have HX := Lib.hid hX
          have HnX := Lib.hid hnX
          have H4 := Lib.hid h4
          have Hb5 := Lib.hid (show Below N5 w4 w5 by rw [hN5]; exact hb5)
          have HN5 := Lib.hid hN5
          clear hread hread2 ho5 hX hnX hN5 h4 hb4 hb5
          go_wp2_with fail
          refine (law17_front w5.heap.size (BitVec.ofNat 64 Bn) M w5 rfl (by omega)).mono ?_
          rintro e w6 ⟨v6, rfl, ho6, hb6⟩
          obtain ⟨nf, hnf⟩ : ∃ n, n = (Wl.front (BitVec.ofNat 64 Bn) (BitVec.ofNat 64 M)).length := ⟨_, rfl⟩
          obtain ⟨a6, c6, rfl, _, _, _, _⟩ := ho6.shape nf hnf
          have hnf33 : nf ≤ 33 := by rw [hnf]; exact Wl.front_len _ _
          obtain ⟨fs, hfs⟩ : ∃ fs, fs = Wl.fsOf Bn M sb ns := ⟨_, rfl⟩
          have hfl : fs.length = k + 1 := by rw [hfs, Wl.fsOf_len, ← HnN.out]
          obtain ⟨o1, ho1⟩ : ∃ o, o = Frm.off fs 1 := ⟨_, rfl⟩
          have ho1e : (13 + (nf : Int) + (nB : Int)) = (o1 : Int) := by
            have e1 : Frm.off fs 1 = 12 + (Wl.hdata Bn M sb).length := by
              rw [Frm.off_succ (by omega), Frm.off_zero]
              simp only [hfs, Wl.fsOf, List.getElem_cons_zero]
              omega
            have e2 : (Wl.hdata Bn M sb).length = 1 + nf + nB := by
              unfold Wl.hdata
              rw [List.length_cons, List.length_append, ← hnf, ← HnB.out]; omega
            omega
          obtain ⟨w7, hw7⟩ : ∃ x, x = w6.alloc (.cells #[.int .i64 (13 + (nf : Int) + (nB : Int))] 3) := ⟨_, rfl⟩
          obtain ⟨N7, hN7⟩ : ∃ N, N = w6.heap.size := ⟨_, rfl⟩
          have ho7 : Own EInt 3 N7 w7 (.slice (some ⟨N7, 0, none⟩) 1 1) (wends fs 0) := by
            have := own_int1 w6 (13 + (nf : Int) + (nB : Int)) (by omega)
            rw [hw7, hN7]
            have e : wends fs 0 = [13 + (nf : Int) + (nB : Int)] := by rw [ho1e, ho1]; rfl
            rw [e]; exact this
          have hb67 : Below w6.heap.size w6 w7 := by rw [hw7]; exact alloc_below _ _
          have hb57 : Below w5.heap.size w5 w7 := hb6.trans (hb67.mono hb6.size)
          have hN57 : w5.heap.size ≤ N7 := by rw [hN7]; exact hb6.size
          have hfine : ∀ x ∈ fs, Frm.Fine x := by
            rw [hfs]
            refine Wl.fsOf_fine ?_ fun n hn => by have := Hall.out n hn; omega
            have e2 : (Wl.hdata Bn M sb).length = 1 + nf + nB := by
              unfold Wl.hdata
              rw [List.length_cons, List.length_append, ← hnf, ← HnB.out]; omega
            omega
          have hoff : ∀ j, Frm.off fs j ≤ 9000 := fun j => by
            have h1 : Frm.off fs j ≤ (Frm.encs fs).length := by
              unfold Frm.off
              have e : Frm.encs fs = Frm.encs (fs.take j) ++ Frm.encs (fs.drop j) := by rw [← Frm.encs_app, List.take_append_drop]
              rw [e, List.length_append]; omega
            have h2 : (Frm.encs fs).length = (Wl.tapeOf Bn M sb ns []).length := by rw [Wl.tapeOf_fs, List.append_nil, hfs]
            have := Ht1.out
            have := Hen.out
            have := Hh4.out
            have := Hnl.out
            omega
          have Hfs := Lib.hid hfs
          have Hfl := Lib.hid hfl
          have Hoff := Lib.hid hoff
          have Hfine := Lib.hid hfine
          have Hhoe := Lib.hid ho1e
          clear ho6 hnf hfs hfl ho1 hoff ho1e hfine cA cB
          go_upto_region 22 with fail
          rw [← hw7, ← hN7]
          clear hw7 hb67
          have Hb57 := Lib.hid hb57
          have HN57 := Lib.hid hN57
          have HoX := Lib.hid hoX
          have H5 := Lib.hid h5
          clear hN7 hb57 hN57 hoX h5 hb6
          go_wp2_with fail
          go_loopw [23, 110] (fun v i wr => ∃ j : Nat, j ≤ k ∧ i = .int .i64 j ∧ Own EInt 3 N7 wr v (wends fs j) ∧ Below N7 w7 wr) (fun _ i _ => k - (intOf i).toNat)
          case atStart => exact ⟨0, Nat.zero_le _, rfl, ho7, Below.refl _ _⟩
          case round =>
            clear ho7
            obtain ⟨j, hj, rfl, ho, hb⟩ := hrel
            have hN7r : N7 ≤ wr.heap.size := by
              rcases ho with ⟨h1, h2⟩ | ⟨g, cap, cur, h1, h2, h3, _⟩
              · exact absurd (congrArg List.length h2) (by rw [wends_len]; simp)
              · have := (Array.getElem?_eq_some_iff.1 h3).1; omega
            have hbB : Below B w wr := hbB5.trans ((Hb57.out.trans (hb.mono HN57.out)).mono (Nat.le_trans hB1 (Nat.le_trans hBN5 hN5s)))
            obtain ⟨n9, hn9⟩ : ∃ n, n = j + 1 := ⟨_, rfl⟩
            obtain ⟨a9, c9, rfl, hc9, hm9, hr9, ho9⟩ := ho.shape n9 (by rw [wends_len]; exact hn9)
            have Hn9 := Lib.hid hn9
            clear ho
            by_cases hlt : j < k
            · as_aux_lemma =>
                have hji : (j : Int) < (k : Int) := by omega
                have hkn : j < ns.length := by rw [← HnN.out]; exact hlt
                obtain ⟨b6, o6, a7, c7, rfl, -, p1, p2, p3, p4⟩ := byts_at (keep_low (by decide) Hs5.out hbB) j hkn
                obtain ⟨d, hd⟩ : ∃ x, x = ns[j] := ⟨_, rfl⟩
                have hd300 : d.length ≤ 300 := by rw [hd]; exact Hall.out _ (List.getElem_mem hkn)
                have hos : Frm.off fs (j + 1 + 1) = Frm.off fs (j + 1) + (12 + d.length) := by
                  rw [Frm.off_succ (by rw [Hfl.out]; omega)]
                  congr 2
                  rw [hd]
                  have := Hfs.out
                  simp only [this, Wl.fsOf, List.getElem_cons_succ, Wl.nfs, List.getElem_map]
                rw [← hd] at p1 p2
                obtain ⟨nd, hnd⟩ : ∃ n, n = d.length := ⟨_, rfl⟩
                rw [← hnd] at p1 p2 hos hd300
                unfold maxLen at p3
                obtain ⟨b9, o9, rfl, r1⟩ : ∃ b o, a9 = some ⟨b, o, none⟩ ∧ wr.cell? ⟨b, o + j, none⟩ = some (.int .i64 (Frm.off fs (j + 1) : Int)) := by
                  obtain ⟨b, o, e, h1, _⟩ := SlI.at hr9.2 j (by rw [wends_len]; omega)
                  rw [wends_get] at h1
                  exact ⟨b, o, e, h1⟩
                obtain ⟨oj, hoj⟩ : ∃ o, o = Frm.off fs (j + 1) := ⟨_, rfl⟩
                have hoj9 : oj ≤ 9000 := by rw [hoj]; exact Hoff.out _
                rw [← hoj] at r1 hos
                have hj1 : (n9 : Int) - 1 = (j : Int) := by rw [hn9]; omega
                have hj2 : (j : Int) < (n9 : Int) := by omega
                have Hos := Lib.hid hos
                clear hn9 hd hnd hos hoj p4 hkn
                have hwl : (wends fs j).length = n9 := by rw [wends_len, Hn9.out]
                have Hwl := Lib.hid hwl
                have ho9a := ho9.below (alloc_below wr (.cells #[.int .i64 ((oj : Int) + 12 + (nd : Int))] 3))
                have hsla : Sl EInt (fun b => some b ≠ (Value.slice (some ⟨b9, o9, none⟩) n9 c9).ownBlock) (wr.alloc (.cells #[.int .i64 ((oj : Int) + 12 + (nd : Int))] 3)) (some ⟨wr.heap.size, 0, none⟩) [(oj : Int) + 12 + (nd : Int)] :=
                  sl_one (heap_alloc_new wr _) (show EInt.rep _ _ _ ((oj : Int) + 12 + (nd : Int)) from ⟨rfl, by omega, by omega⟩) ho9.fresh
                clear hwl
                go_wp2_with (first
                  | (at_builtin
                     refine wpList_app EInt (l2 := [(oj : Int) + 12 + (nd : Int)]) rfl rfl (by rfl) (by rfl) ti_ints ho9a rfl hsla (by rw [Hwl.out]; unfold maxLen; simp only [List.length_singleton]; omega) (by rw [Hwl.out]; simp only [List.length_singleton]; omega) (by simp; omega) ?_
                     intro v8 w8 ho8 hg8 hv8 hb8
                     clear ho9a hsla hg8 hv8))
                refine ⟨⟨j + 1, by omega, by go_num, ?_, hb.trans (((alloc_below wr _).mono hN7r).trans hb8)⟩, by simp [intOf]; omega⟩
                have e : ((oj : Int) + 12 + (nd : Int)) = (Frm.off fs (j + 1 + 1) : Int) := by rw [Hos.out]; omega
                rw [e, wends_succ] at ho8
                exact ho8
            · as_aux_lemma =>
                obtain rfl : j = k := by omega
                obtain ⟨wy, hwy⟩ : ∃ x, x = wr := ⟨_, rfl⟩
                subst hwy
                have hbN : Below w5.heap.size w5 wy := Hb57.out.trans (hb.mono HN57.out)
                have hoX9 : Own EU8 5 N5 wy (.slice aX nX cX) X := HoX.out.below hbN
                have hdk9 := H5.out.keep hbN
                have hends : ∀ q, q < n9 → ∃ b o, a9 = some ⟨b, o, none⟩ ∧ N7 ≤ b ∧ wy.cell? ⟨b, o + q, none⟩ = some (.int .i64 (Frm.off fs (q + 1) : Int)) := fun q hq => by
                  obtain ⟨b, o, e, h1, _⟩ := SlI.at hr9.2 q (by rw [wends_len]; have := Hn9.out; omega)
                  rw [wends_get] at h1
                  refine ⟨b, o, e, ?_, h1⟩
                  subst e
                  exact (ho9.lt b rfl).1
                have hb4y : Below N5 w4 wy := Hb5.out.trans ((Hb57.out.trans (hb.mono HN57.out)).mono hN5s)
                have Hb4y := Lib.hid hb4y
                clear hb4y
                have Hends := Lib.hid hends
                have Hdk9 := Lib.hid hdk9
                have HoX9 := Lib.hid hoX9
                clear hr9 ho9 hbN hoX9 hdk9 hends hb hlt
                clear hn9
                obtain ⟨tt, htt⟩ : ∃ t : Bool, t = decide (0 ≤ at_ ∧ at_ < (nX : Int) ∧ X.getD at_.toNat 0#8 ≠ tb) := ⟨_, rfl⟩
                have Htt := Lib.hid htt
                clear htt
                go_upto_region 28 with fail
                go_cut [145] (fun s wx => s = .bool tt ∧ wx = wy)
                case first =>
                  by_cases h0 : at_ < 0
                  · have h0' : ¬ (0 ≤ at_) := by omega
                    have e : tt = false := by rw [Htt.out]; simp; omega
                    have E := Lib.hid e
                    clear e
                    go_wp2_with fail
                    go_meet
                    exact ⟨by rw [E.out], rfl⟩
                  · obtain ⟨p, rfl⟩ := Int.eq_ofNat_of_zero_le (Int.not_lt.1 h0)
                    clear h0
                    by_cases h1 : nX ≤ p
                    · have h1' : ¬ ((p : Int) < (nX : Int)) := by omega
                      have e : tt = false := by rw [Htt.out]; simp; omega
                      have E := Lib.hid e
                      clear e
                      go_wp2_with fail
                      go_meet
                      exact ⟨by rw [E.out], rfl⟩
                    · have h1' : (p : Int) < (nX : Int) := by omega
                      have hpX : p < X.length := by rw [← HnX.out]; omega
                      obtain ⟨g, rfl, hgb, hcg, hfg⟩ := HoX9.out.at p hpX
                      have hget : X.getD ((p : Int)).toNat 0#8 = X[p] := by
                        rw [Int.toNat_natCast, List.getD_eq_getElem?_getD, List.getElem?_eq_getElem hpX]; rfl
                      obtain ⟨y, hy⟩ : ∃ y, y = X[p] := ⟨_, rfl⟩
                      rw [← hy] at hcg hget
                      have Hget := Lib.hid hget
                      clear hy hget
                      by_cases h2 : y = tb
                      · have e : tt = false := by rw [Htt.out, Hget.out]; simp [h2]
                        have E := Lib.hid e
                        have h2' : (y != tb) = false := by simp [h2]
                        clear e h2
                        go_wp2_with fail
                        go_meet
                        exact ⟨by rw [E.out], rfl⟩
                      · have e : tt = true := by rw [Htt.out, Hget.out]; simp; exact ⟨by omega, h2⟩
                        have E := Lib.hid e
                        have h2' : (y != tb) = true := by simpa using h2
                        clear e h2
                        go_wp2_with fail
                        go_meet
                        exact ⟨by rw [E.out], rfl⟩
                obtain ⟨hs145, hwc⟩ := hcut
                subst hs145
                obtain ⟨wz, hwz⟩ : ∃ x, x = wc := ⟨_, rfl⟩
                subst hwz
                rw [hwc]
                clear hwc
                go_upto_if 145 with fail
                go_cut [26] (fun s wx => LoadsPost B B1 w A Bn M sa sb ns s wx)
                case first =>
                  cases tt
                  · go_wp2_with fail
                    go_meet
                    exact ⟨_, D4, rfl, ⟨Hdk9.out, hbB, by rw [K4.out]; decide, R4.out, C4.out, Z40.out, .inl ⟨by rw [HnN.out], Z41.out⟩⟩⟩
                  · as_aux_lemma =>
                      have hin := of_decide_eq_true Htt.out.symm
                      obtain ⟨h0, h1, h2⟩ := hin
                      obtain ⟨p, rfl⟩ := Int.eq_ofNat_of_zero_le h0
                      have hpX : p < X.length := by rw [← HnX.out]; omega
                      have hXe : X = Frm.encs fs := by rw [HX.out, Wl.tapeOf_fs, List.append_nil, Hfs.out]
                      have hne : (Frm.encs fs)[p]'(by rw [← hXe]; exact hpX) ≠ tb := by
                        intro e
                        apply h2
                        rw [Int.toNat_natCast, List.getD_eq_getElem?_getD, List.getElem?_eq_getElem hpX]
                        simp only [Option.getD_some]
                        rw [← e]
                        exact List.getElem_of_eq hXe _
                      obtain ⟨kk, r, hkk, hset, htorn, hr0, hoffk⟩ := Wl.set_turned fs Hfine.out p tb (by rw [← hXe]; exact hpX) hne
                      rw [← hXe] at hset
                      obtain ⟨g, hag, hgb, hcg, hfg⟩ := HoX9.out.at p hpX
                      subst hag
                      have hoS := HoX9.out.set p tb
                      obtain ⟨wS, hwS⟩ : ∃ x, x = wy.setCell ⟨g, p, none⟩ (.int .u8 (bv tb)) := ⟨_, rfl⟩
                      rw [← hwS] at hoS
                      have hbS : Below N5 w4 wS := by rw [hwS]; exact setCell_below Hb4y.out hgb p _
                      have hgl : g < w5.heap.size := by
                        have := (HoX.out.lt g rfl).2
                        exact this
                      have hendS : ∀ q, q < n9 → ∃ b o, a9 = some ⟨b, o, none⟩ ∧ wS.cell? ⟨b, o + q, none⟩ = some (.int .i64 (Frm.off fs (q + 1) : Int)) := fun q hq => by
                        obtain ⟨b, o, e, h3, h4⟩ := Hends.out q hq
                        refine ⟨b, o, e, ?_⟩
                        have := HN57.out
                        rw [hwS, cell_keep (heap_setOther wy (g := b) (g' := g) (by omega) p _)]; exact h4
                      have hszS : wS.heap.size = wy.heap.size := by rw [hwS]; simp
                      have hdS : DkB B1 wS B1 D4 := H4.out.keep (by rw [← HN5.out]; exact hbS)
                      have hBS : Below B w wS := by
                        rw [hwS]
                        exact setCell_below hbB (Nat.le_trans hB1 (Nat.le_trans hBN5 hgb)) p _
                      -- the disk's part
                      have hXl : X.length = (Frm.encs fs).length := by rw [hXe]
                      obtain ⟨D5, e5, c5, r5, k5, z5, o5⟩ := Wl.clear_calm C4.out 1 (by decide)
                      have z5' : (D5.t 1).b = [] := z5
                      obtain ⟨D6, e6, c6, r6, k6, z6, o6⟩ := Wl.app_calm c5 1 (by decide) (X.set p tb) (by
                        rw [r5, R4.out]
                        show (((D5.t 1).b.length : Nat) : Int) + _ ≤ _
                        rw [z5', List.length_set]
                        have := Hoff.out fs.length
                        rw [Frm.off_all] at this
                        simp only [List.length_nil]
                        omega)
                      obtain ⟨D7, e7, c7, r7, k7, z7, o7⟩ := Wl.flush_calm c6 1 (by decide)
                      have hD71 : (D7.t 1).b = Frm.encs ((Wl.fsOf Bn M sb ns).take kk) ++ r := by
                        rw [z7]
                        have z6' : (D6.t 1).b = (D5.t 1).b ++ X.set p tb := z6
                        rw [z6', z5', List.nil_append, hset, Hfs.out]
                      have hD70 : (D7.t 0).b = Wl.tapeOf A 0 sa [] [] := by
                        rw [z7, o6 0 (by decide), o5 0 (by decide)]; exact Z40.out
                      have hfin : LoadsPost B B1 w A Bn M sa sb ns (.int .i64 ((kk : Int) - 1)) wS → True := fun _ => trivial
                      have hk4 := K4.out
                      have hlast : ∀ wx, DkB B1 wx B1 D7 → Below B w wx → LoadsPost B B1 w A Bn M sa sb ns (.int .i64 ((kk : Int) - 1)) wx := fun wx h3 h4 =>
                        ⟨_, D7, rfl, ⟨h3, h4, by omega, by rw [r7, r6, r5, R4.out], c7, hD70, .inr ⟨kk, r, by rw [Hfl.out] at hkk; rw [← HnN.out]; omega, rfl, hD71, htorn, hr0⟩⟩⟩
                      have Hlast := Lib.hid hlast
                      have E5 := Lib.hid e5
                      have E6 := Lib.hid e6
                      have E7 := Lib.hid e7
                      have hk5 : 0 ≤ D5.acts ∧ D5.acts ≤ 8000000000000000000 := by omega
                      have hk6 : 0 ≤ D6.acts ∧ D6.acts ≤ 8000000000000000000 := by omega
                      have K5 := Lib.hid hk5
                      have K6 := Lib.hid hk6
                      have HoS := Lib.hid hoS
                      have HbS := Lib.hid hbS
                      have HendS := Lib.hid hendS
                      have HdS := Lib.hid hdS
                      have HBS := Lib.hid hBS
                      have Hoffk := Lib.hid hoffk
                      have hkk2 : kk ≤ n9 := by have := Hn9.out; have := Hfl.out; omega
                      have hn911 : (n9 : Int) ≤ 11 := by have := Hn9.out; omega
                      have HszS := Lib.hid hszS
                      clear h2 hXe hne hset htorn hr0 hoS hbS hendS hdS hBS hXl e5 c5 r5 k5 z5 o5 z5' e6 c6 r6 k6 z6 o6 e7 c7 r7 k7 z7 o7 hD71 hD70 hfin hk4 hlast hk5 hk6 hoffk hkk hszS h0 Htt
                      go_upto_region 30 with fail
                      rw [← hwS]
                      clear hwS
                      go_wp2_with fail
                      go_loop [26, 152] (fun s i => ∃ q : Nat, q ≤ n9 ∧ i = .int .i64 q ∧ s = .int .i64 (((min q kk : Nat) : Int) - 1)) (fun _ i => n9 - (intOf i).toNat)
                      case atStart => exact ⟨0, Nat.zero_le _, rfl, by simp⟩
                      case round =>
                        obtain ⟨q, hq, rfl, rfl⟩ := hrel
                        by_cases hlq : q < n9
                        · as_aux_lemma =>
                            have hqi : (q : Int) < (n9 : Int) := by omega
                            obtain ⟨b, o, rfl, hcq⟩ := HendS.out q hlq
                            obtain ⟨oq, hoq⟩ : ∃ o, o = Frm.off fs (q + 1) := ⟨_, rfl⟩
                            have hiff := Hoffk.out q
                            rw [← hoq] at hcq hiff
                            clear hoq
                            obtain ⟨mn, hmn⟩ : ∃ m, m = min q kk := ⟨_, rfl⟩
                            rw [← hmn]
                            by_cases hqk : q < kk
                            · have h3 : (oq : Int) ≤ (p : Int) := by have := hiff.2 hqk; omega
                              have hmn2 : ((min (q + 1) kk : Nat) : Int) - 1 = (mn : Int) := by omega
                              have hmn3 : (mn : Int) - 1 + 1 = (mn : Int) := by omega
                              have hmnb : mn ≤ 20 := by have := Hn9.out; omega
                              have Hmn2 := Lib.hid hmn2
                              clear hiff hmn hmn2
                              go_wp2_with fail
                              exact ⟨⟨q + 1, by omega, by go_num, by rw [Hmn2.out]⟩, by simp [intOf]; omega⟩
                            · have h3 : ¬ ((oq : Int) ≤ (p : Int)) := by
                                intro h
                                exact hqk (hiff.1 (by omega))
                              have hmn2 : ((min (q + 1) kk : Nat) : Int) - 1 = (mn : Int) - 1 := by omega
                              have Hmn2 := Lib.hid hmn2
                              clear hiff hmn hmn2
                              go_wp2_with fail
                              exact ⟨⟨q + 1, by omega, by go_num, by rw [Hmn2.out]⟩, by simp [intOf]; omega⟩
                        · as_aux_lemma =>
                            obtain rfl : q = n9 := by omega
                            have hmn : (((min q kk : Nat) : Int) - 1) = (kk : Int) - 1 := by omega
                            rw [hmn]
                            have hsX := HoS.out.slB
                            have hsX2 : Sl EU8 (fun k => k < B1 ∨ w4.heap.size ≤ k) wS (some ⟨g, 0, none⟩) (X.set p tb) := hsX.mono (by decide) fun k hk _ => ⟨rfl, .inr (by rw [← HN5.out]; exact hk)⟩
                            have HsX := Lib.hid hsX2
                            have hnXs : nX = (X.set p tb).length := by rw [List.length_set]; exact HnX.out
                            have HnXs := Lib.hid hnXs
                            have hcX9 : nX ≤ 10000 := by
                              rw [HnX.out]
                              have h1 := HX.out
                              have := Ht1.out
                              rw [← h1] at this
                              have := Hen.out
                              have := Hh4.out
                              have := Hnl.out
                              omega
                            clear hsX hsX2 hnXs hmn
                            go_wp2_with fail
                            obtain ⟨MM, hMM⟩ : ∃ M : Nat → Prop, M = fun k => N5 ≤ k ∧ k < wS.heap.size := ⟨_, rfl⟩
                            have hxS : DkX MM B1 wS B1 D4 := (H4.out.ex fun k hk => by rw [hMM] at hk; rw [← HN5.out]; exact .inr hk.1).keep (by rw [← HN5.out]; exact HbS.out)
                            have hsM : Sl EU8 MM wS (some ⟨g, 0, none⟩) (X.set p tb) := by
                              intro q x hx
                              obtain ⟨b, o, e, hb, cs, hcs, hc⟩ := HoS.out.slB q x hx
                              have hb0 : cs = [.int .u8 (bv x)] := hcs
                              refine ⟨b, o, e, ?_, cs, hcs, hc⟩
                              rw [hMM]
                              rw [hb0] at hc
                              exact ⟨hb, cell_lt (hc 0 _ rfl)⟩
                            have hMlt : ∀ k, MM k → k < wS.heap.size := fun k hk => by rw [hMM] at hk; exact hk.2
                            have HsM := Lib.hid hsM
                            have HMlt := Lib.hid hMlt
                            clear hMM hsM hMlt
                            refine (x_Clear wS hxS (by rw [K4.out]; decide) E5.out).mono ?_
                            rintro e wa ⟨rfl, hxa, hoa, hba⟩
                            have hba := HBS.out.trans (hba.mono hB1)
                            have hsMa : Sl EU8 MM wa (some ⟨g, 0, none⟩) (X.set p tb) := HsM.out.mono (by decide) fun k hk hlt => ⟨hoa.block k hlt (fun h => h hk), hk⟩
                            have hMa : ∀ k, MM k → k < wa.heap.size := fun k hk => Nat.lt_of_lt_of_le (HMlt.out k hk) hoa.size
                            clear hxS hoa
                            go_wp2_with fail
                            refine (x_App _ nX cX (X.set p tb) wa hxa hMa K5.out HnXs.out (by omega) hsMa E6.out).mono ?_
                            rintro e wb ⟨rfl, hxb, _, hbb⟩
                            have hbb := hba.trans (hbb.mono hB1)
                            have hdb := hxb.dk
                            clear hxa hxb hsMa hMa hba
                            go_wp2_with fail
                            refine (b_dFlush wb hdb K6.out E7.out).mono ?_
                            rintro e wd ⟨rfl, hdd, hbd⟩
                            have hbd := hbb.trans (hbd.mono hB1)
                            go_wp2_with fail
                            go_meet
                            exact Hlast.out _ hdd hbd
                clear Hb4y Hends Hdk9 HoX9 H4 H5 HoX Hb5 HN5 Hb57 HN57 E1 E2 E3 E4 K1 K2 K3 K4 R4 C4 Z40 Z41 HX HnX
                obtain ⟨lv, D, rfl, hl⟩ := hcut
                have HL := Lib.hid hl
                have hokA : Wl.Ok ⟨A, sa, [], false⟩ := Wl.ok_of (by show A ≤ 1000000; omega) (by show sa.length ≤ 500; rw [← HnA.out]; omega) (fun n hn => by cases hn) (by show (0 : Nat) ≤ 1000; decide)
                have HokA := Lib.hid hokA
                have hk4 : 0 ≤ D.acts ∧ D.acts ≤ 8000000000000000000 := by have := hl.acts; omega
                have HK4 := Lib.hid hk4
                have hdk := hl.dk
                have hbx := hl.bel
                clear hl hokA hk4
                have hlt := Wl.load_tape Bn M sb ns [] ⟨by omega, by omega⟩ (by omega) (by have := Hh4.out; omega) (fun n hn => by have := Hall.out n hn; omega) (.inl rfl)
                have hlf := fun k r => @Wl.load_turned Bn M sb ns k r ⟨by omega, by omega⟩ (by omega) (by have := Hh4.out; omega) (fun n hn => by have := Hall.out n hn; omega)
                by_cases hcnt : A < Bn ∧ (M : Int) ≤ lv
                · as_aux_lemma =>
                    obtain ⟨l, r, rfl, hlj, htp, htorn, hrl⟩ : ∃ (l : Nat) (r : List (BitVec 8)), lv = (l : Int) ∧ l ≤ j ∧ (D.t 1).b = Wl.tapeOf Bn M sb (ns.take l) r ∧ Wl.Torn r ∧ (r = [] ↔ l = j) := by
                      rcases HL.out.one with ⟨h1, h2⟩ | ⟨k, r, h1, h2, h3, h4, h5⟩
                      · exact ⟨ns.length, [], h1, by rw [HnN.out]; exact Nat.le_refl _, by rw [List.take_of_length_le (Nat.le_refl _)]; exact h2, .inl rfl, ⟨fun _ => HnN.out.symm, fun _ => rfl⟩⟩
                      · obtain ⟨q, rfl⟩ : ∃ q, k = q + 1 := ⟨k - 1, by omega⟩
                        have := (hlf (q + 1) r h4 (by omega)).2 q rfl
                        exact ⟨q, r, by omega, by rw [HnN.out]; omega, by rw [h3, this.1], h4, ⟨fun h => absurd h h5, fun h => by rw [HnN.out] at h; omega⟩⟩
                    have hAB := hcnt.1
                    have hMl : M ≤ l := by omega
                    have hnl := Hnl.out
                    have hoke : ∀ t' ns', t' ≤ 65539 → (∀ n ∈ ns', n ∈ ns.take l ∨ n = [111#8, 110#8]) → ns'.length ≤ 11 → Wl.Ok ⟨t', sb, ns', false⟩ := fun t' ns' ht' hns' hlen =>
                      Wl.ok_of (by show t' ≤ 1000000; omega) (by show sb.length ≤ 500; rw [← HnB.out]; omega) (fun n hn => by
                        rcases hns' n hn with h | rfl
                        · have := Hall.out n (List.mem_of_mem_take h); omega
                        · decide) (by show ns'.length ≤ 1000; omega)
                    have htl : (ns.take l).length = l := by rw [List.length_take, ← HnN.out]; omega
                    have hencl : (Frm.encs (Wl.nfs (ns.take l))).length ≤ 3120 := by
                      have h1 := Wl.encs_le (ns := ns.take l) (k := 300) fun n hn => Hall.out n (List.mem_of_mem_take hn)
                      rw [htl] at h1
                      omega
                    have hlb := Wl.layB_le ⟨Bn, sb, ns.take l, false⟩
                    simp only at hlb
                    rw [← HnB.out] at hlb
                    have hokB := hoke Bn (ns.take l) (by omega) (fun n hn => .inl hn) (by omega)
                    obtain ⟨D5, t, e5, s5, r5, k5, ht⟩ := Wl.open_odd HL.out.calm (by omega) hB0.2.2 hAB hokB (by omega) (by have := Hh3.out; omega) (by have := Hh4.out; omega) HL.out.zero htp htorn (by rw [HL.out.room]; omega)
                    have ht2 : (l < j ∧ t = Bn + 1) ∨ (l = j ∧ t = Bn) := by
                      rcases ht with ⟨h1, h2⟩ | ⟨h1, h2⟩
                      · exact .inr ⟨hrl.1 h1, h2⟩
                      · refine .inl ⟨?_, h2⟩
                        have : l ≠ j := fun h => h1 (hrl.2 h)
                        omega
                    have hok5 := hoke t (ns.take l) (by omega) (fun n hn => .inl hn) (by omega)
                    have htl5 := s5.tape_le
                    simp only at htl5
                    rw [← HnB.out] at htl5
                    obtain ⟨D6, e6, s6, r6, k6, _, _⟩ := s5.app [111#8, 110#8] (by decide) (by rw [r5, HL.out.room]; show (((D5.t (t % 2)).b.length : Nat) : Int) + 12 + ((2 : Nat) : Int) ≤ _; omega)
                    simp only at e6 s6
                    have hok6 := hoke t (ns.take l ++ [[111#8, 110#8]]) (by omega) (fun n hn => by
                      rcases List.mem_append.1 hn with h | h
                      · exact .inl h
                      · exact .inr (by simpa using h)) (by simp; omega)
                    obtain ⟨D7, e7, s7, r7, k7, _⟩ := Wl.sync_std s6
                    have e8 := Wl.open_std s7 hok6
                    have hacts := HL.out.acts
                    have k5' : 0 ≤ D5.acts ∧ D5.acts ≤ 8000000000000000000 := by omega
                    have k6' : 0 ≤ D6.acts ∧ D6.acts ≤ 8000000000000000000 := by omega
                    have k7' : 0 ≤ D7.acts ∧ D7.acts ≤ 8000000000000000000 := by omega
                    have E5 := Lib.hid e5
                    have E6 := Lib.hid e6
                    have E7 := Lib.hid e7
                    have E8 := Lib.hid e8
                    have K5 := Lib.hid k5'
                    have K6 := Lib.hid k6'
                    have K7 := Lib.hid k7'
                    have Hok5 := Lib.hid hok5
                    have Hok6 := Lib.hid hok6
                    have Hlen := Lib.hid htl
                    have Ht2 := Lib.hid ht2
                    have ht65 : t ≤ 65539 := by omega
                    have heq : (sb == sb && ns.take l == ns.take l) = true := by simp
                    have Heq := Lib.hid heq
                    have heq2 : (sb == sb && (ns.take l ++ [[111#8, 110#8]]) == (ns.take l ++ [[111#8, 110#8]])) = true := by simp
                    have Heq2 := Lib.hid heq2
                    have hq1 : decide (A < Bn) = true := by simpa using hAB
                    have hq2 : decide (l < M) = false := by simp; omega
                    clear e5 e6 e7 e8 k5 k6 k7 k5' k6' k7' hok5 hok6 htl ht2 ht heq heq2 hoke hencl hlb hokB s5 s6 s7 r5 r6 r7 htl5 hacts hlt hlf hcnt hAB hMl htp htorn hrl HL hnl
                    go_wp2_with fail
                    refine (b_Open' wc hdk HK4.out Hok5.out E5.out).mono ?_
                    rintro e wd ⟨gl, rfl, hd, hbd⟩
                    have hbd := hbx.trans (hbd.mono hB1)
                    clear hdk hbx
                    go_upto_if 203 with fail
                    go_cut [31] (fun s wx => s = .int .i64 t ∧ wx = wd)
                    case first =>
                      go_wp2_with fail
                      all_goals
                        go_meet
                        have ht2 := Ht2.out
                        refine ⟨?_, rfl⟩
                        first
                          | (have h : (t : Int) = (Bn : Int) + 1 := by omega
                             rw [h])
                          | (have h : t = Bn := by omega
                             rw [h])
                    obtain ⟨hs31, hwd⟩ := hcut
                    subst hs31
                    rw [hwd]
                    clear hwd
                    have hrB : RB wd a4 nB sb := ⟨HnB.out, (keep_low (by decide) Hs4.out hbd).any (by decide)⟩
                    have hrN : RS EBytes wd a5 l (ns.take l) := ⟨Hlen.out.symm, ((keep_low (by decide) Hs5.out hbd).take' l).any (by decide)⟩
                    have hl0 : (0 : Int) ≤ (l : Int) := by omega
                    have hlc : (l : Int) ≤ (c5 : Int) := by omega
                    go_wp2_with fail
                    refine (b_is a4 nB c4 sb a5 l c5 (ns.take l) wd hd Hok5.out hrB hrN (by omega) (by omega)).mono ?_
                    rw [Heq.out]
                    rintro e we ⟨rfl, he, hbe⟩
                    have hbe := hbd.trans (hbe.mono (Nat.le_trans hB1 hd.size))
                    clear hd hbd hrB hrN
                    go_wp2_with fail
                    refine (b_Turn we he).mono ?_
                    rintro e wt ⟨rfl, rfl⟩
                    have kc := fun (w : World) (C : Array Value) (n c : Nat) => Lib.run_convert_bytes_const (P := Try.prog) w 49 5 C n c Try.underlying49 Try.underlying5
                    obtain ⟨wf, hwf⟩ : ∃ x, x = we.alloc (.cells #[.int .u8 111, .int .u8 110] 5 (2, 3)) := ⟨_, rfl⟩
                    have hsf : Sl EU8 (fun k => k < B1 ∨ we.heap.size ≤ k) wf (some ⟨we.heap.size, 0, none⟩) [111#8, 110#8] := lit2 (x := 111#8) (y := 110#8) hwf he.size
                    have hbef : Below we.heap.size we wf := by rw [hwf]; exact alloc_below _ _
                    go_wp2_with fail
                    rw [← hwf]
                    clear hwf
                    refine (b_Append _ 2 _ [111#8, 110#8] we wf he hbef K5.out Hok5.out rfl (by decide) hsf E6.out).mono ?_
                    rintro e wg ⟨rfl, hg, hbg⟩
                    have hbg := hbe.trans (((hbef.mono he.size).trans hbg).mono hB1)
                    clear he hbe hsf hbef
                    go_wp2_with fail
                    refine (b_Sync wg hg K6.out (by show t ≤ _; omega) E7.out).mono ?_
                    rintro e wh ⟨rfl, hh, hbh⟩
                    have hbh := hbg.trans (hbh.mono hB1)
                    clear hg hbg
                    go_wp2_with fail
                    refine (b_Open' wh hh.dk K7.out Hok6.out E8.out).mono ?_
                    rintro e wi ⟨gk, rfl, hi, hbi⟩
                    have hbi := hbh.trans (hbi.mono hB1)
                    clear hh hbh
                    obtain ⟨wj, hwj⟩ : ∃ x, x = wi.alloc (.cells #[] 49) := ⟨_, rfl⟩
                    have hbij : Below wi.heap.size wi wj := by rw [hwj]; exact alloc_below _ _
                    have ho0 : Own EBytes 49 wi.heap.size wj (.slice (some ⟨wi.heap.size, 0, none⟩) 0 0) [] := by rw [hwj]; exact own_empty EBytes _ wi (by decide)
                    have hBw : B ≤ wi.heap.size := Nat.le_trans hB1 hi.size
                    have hsN := (keep_low (by decide) Hs5.out hbi).take' l
                    have hsc : Sl EBytes (fun b => some b ≠ (Value.slice (some ⟨wi.heap.size, 0, none⟩) 0 0).ownBlock) wj a5 (ns.take l) := low_ne (by decide) hsN (hbij.mono hBw) _ (fun x hx => by
                      have : wi.heap.size = x := by injection hx
                      omega)
                    have hl10 : l ≤ 10 := by omega
                    have HBw := Lib.hid hBw
                    clear hsN hBw
                    go_wp2_with (first
                      | (at_builtin
                         rw [← hwj]
                         refine wpList_appG EBytes (l2 := ns.take l) rfl rfl (by rfl) (by rfl) ti_byts ho0 Hlen.out.symm hsc (by rw [Hlen.out]; unfold maxLen; simp only [List.length_nil]; omega) (by rw [Hlen.out]; simp only [List.length_nil]; omega) hbij.size ?_
                         intro v6 w6 ho6 hg6 hv6 hb6
                         clear hwj
                         rw [List.nil_append] at ho6
                         have hbi6 : Below wi.heap.size wi w6 := hbij.trans hb6
                         obtain ⟨w7', hw7'⟩ : ∃ x, x = w6.alloc (.cells #[.int .u8 111, .int .u8 110] 5 (2, 3)) := ⟨_, rfl⟩
                         have hb67 : Below w6.heap.size w6 w7' := by rw [hw7']; exact alloc_below _ _
                         have hs7 : Sl EU8 (fun k => k = w6.heap.size) w7' (some ⟨w6.heap.size, 0, none⟩) [111#8, 110#8] := by rw [hw7']; exact sl_cells (heap_alloc_new w6 _) rfl rfl
                         have ho67 := ho6.below hb67
                         have hsz7 : w7'.heap.size = w6.heap.size + 1 := by rw [hw7']; simp
                         have hsl7 : Sl EBytes (fun b => some b ≠ v6.ownBlock) (w7'.alloc (.cells #[.slice (some ⟨w6.heap.size, 0, none⟩) 2 2] 49)) (some ⟨w6.heap.size + 1, 0, none⟩) [[111#8, 110#8]] := by
                           rw [← hsz7]
                           exact sl_one (heap_alloc_new w7' _) ⟨_, 2, rfl, Nat.le_refl _, by decide, hs7.mono (by decide) fun q hq hlt => ⟨heap_alloc_old w7' _ hlt, by subst hq; exact ho6.fresh⟩⟩ ho67.fresh
                         clear hsz7
                         have ho7 := ho67.below (alloc_below w7' (.cells #[.slice (some ⟨w6.heap.size, 0, none⟩) 2 2] 49))
                         have hbi7 : Below wi.heap.size wi (w7'.alloc (.cells #[.slice (some ⟨w6.heap.size, 0, none⟩) 2 2] 49)) := (hbi6.trans (hb67.mono hbi6.size)).trans ((alloc_below w7' _).mono (Nat.le_trans hbi6.size hb67.size))
                         clear ho6 hg6 hv6 hs7 ho67 hsc ho0)
                      | (at_builtin
                         rw [← hw7']
                         refine wpList_appG EBytes (l2 := [[111#8, 110#8]]) rfl rfl (by rfl) (by rfl) ti_byts ho7 rfl hsl7 (by rw [Hlen.out]; unfold maxLen; simp only [List.length_singleton]; omega) (by rw [Hlen.out]; simp only [List.length_singleton]; omega) hbi7.size ?_
                         intro v8 w8 ho8 hg8 hv8 hb8
                         clear hw7'
                         have hiz := hi.keep (hbi7.trans hb8)
                         have hbbz := hbi.trans ((hbi7.trans hb8).mono HBw.out)
                         obtain ⟨n8, hn8⟩ : ∃ n, n = (ns.take l ++ [[111#8, 110#8]]).length := ⟨_, rfl⟩
                         obtain ⟨a8, c8, rfl, hc8, hm8, hr8, _⟩ := ho8.shape n8 hn8
                         have hn8l : n8 ≤ 11 := by rw [hn8, List.length_append, Hlen.out]; simp only [List.length_singleton]; omega
                         clear hn8 ho8 hg8 hv8 ho7 hsl7))
                    have hrz : RB w8 a4 nB sb := ⟨HnB.out, (keep_low (by decide) Hs4.out hbbz).any (by decide)⟩
                    refine (b_is a4 nB c4 sb _ _ _ (ns.take l ++ [[111#8, 110#8]]) _ hiz Hok6.out hrz hr8 (by omega) (by omega)).mono ?_
                    rw [Heq2.out]
                    rintro e wz ⟨rfl, hz, hbZ⟩
                    have hbend := hbbz.trans (hbZ.mono (Nat.le_trans hB1 hiz.size))
                    clear hiz hr8 hbZ hbbz hrz
                    go_wp2_with fail
                    refine (b_Turn wz hz).mono ?_
                    rintro e wt ⟨rfl, rfl⟩
                    go_wp2_with fail
                    go_ret
                    exact ⟨rfl, hbend⟩
                · as_aux_lemma =>
                    have hev := Wl.open_even HL.out.calm (a := A) (sa := sa) ⟨by omega, by omega⟩ hA0.2.2 (by have := Hh3.out; omega) HL.out.zero (fun x hx hax => by
                      rcases HL.out.one with ⟨h1, h2⟩ | ⟨k, r, h1, h2, h3, h4, h5⟩
                      · rw [h2, hlt] at hx
                        by_cases hm : ns.length < M
                        · rw [if_pos hm] at hx; cases hx
                        · rw [if_neg hm] at hx
                          injection hx with hx
                          subst hx
                          exact hcnt ⟨hax, by omega⟩
                      · have h6 := hlf k r h4 h1
                        rw [h3] at hx
                        cases k with
                        | zero => rw [h6.1 rfl] at hx; cases hx
                        | succ q =>
                          rw [(h6.2 q rfl).2] at hx
                          by_cases hm : q < M
                          · rw [if_pos hm] at hx; cases hx
                          · rw [if_neg hm] at hx
                            injection hx with hx
                            subst hx
                            exact hcnt ⟨hax, by omega⟩)
                    have Hev := Lib.hid hev
                    have heq : (sa == sa && ([] : List (List (BitVec 8))) == []) = true := by simp
                    have Heq := Lib.hid heq
                    have hsA := (keep_low (by decide) Hs3.out hbx)
                    have hcases : decide (A < Bn) = false ∨ (decide (A < Bn) = true ∧ decide (lv < (M : Int)) = true) := by
                      by_cases h : A < Bn
                      · exact .inr ⟨by simpa using h, by simp; omega⟩
                      · exact .inl (by simpa using h)
                    clear hev heq hlt hlf hcnt
                    go_upto_region 39 with fail
                    go_wp2_with fail
                    refine (b_Open' wc hdk HK4.out HokA.out Hev.out).mono ?_
                    rintro e wd ⟨gl, rfl, hd, hbd⟩
                    have hbd := hbx.trans (hbd.mono hB1)
                    clear hdk hbx hsA
                    have hrA : RB wd a3 nA sa := ⟨HnA.out, (keep_low (by decide) Hs3.out hbd).any (by decide)⟩
                    rcases hcases with hc | ⟨hc, hc2⟩
                    all_goals
                      go_wp2_with fail
                      refine (b_is a3 nA c3 sa none 0 0 [] wd hd HokA.out hrA ⟨rfl, Sl.nil _ _ _ _⟩ (by omega) (by decide)).mono ?_
                      rw [Heq.out]
                      rintro e we ⟨rfl, he, hbe⟩
                      have hbe := hbd.trans (hbe.mono (Nat.le_trans hB1 hd.size))
                      go_wp2_with fail
                      refine (b_Turn we he).mono ?_
                      rintro e wt ⟨rfl, rfl⟩
                      go_wp2_with fail
                      go_ret
                      exact ⟨rfl, hbe⟩
end Go.Proofs.Ytmmgnbdngpkfcaa


/-
  A transaction under way, in memory: its row; the keys that it reads and the last writes of a shard.
-/
import Derived.Test.YtmmgnbdngpkfcaaCoP
import Derived.Test.YtmmgnbdngpkfcaaMemIn
import Derived.Test.YtmmgnbdngpkfcaaBas
import Derived.Test.YtmmgnbdngpkfcaaApp2
namespace Go.Proofs.Ytmmgnbdngpkfcaa
open Go.RowKit
set_option linter.unusedVariables false

def ECOp : Enc Co.Op := EPair EInt (EPair EInt EInt)
theorem cop_rep {ok : Nat → Prop} {w : World} {cs : List Value} {x : Co.Op} (h : ECOp.rep ok w cs x) :
    cs = [.int .i64 x.1, .int .i64 x.2.1, .int .i64 x.2.2] ∧ (-9223372036854775808 ≤ x.1 ∧ x.1 ≤ 9223372036854775807) ∧ (-9223372036854775808 ≤ x.2.1 ∧ x.2.1 ≤ 9223372036854775807) ∧ (-9223372036854775808 ≤ x.2.2 ∧ x.2.2 ≤ 9223372036854775807) := by
  obtain ⟨c1, r1, rfl, h1, c2, r2, rfl, h2, h3⟩ := h
  obtain rfl : c1 = [.int .i64 x.1] := h1.1
  obtain rfl : c2 = [.int .i64 x.2.1] := h2.1
  obtain rfl : r2 = [.int .i64 x.2.2] := h3.1
  exact ⟨rfl, h1.2, h2.2, h3.2⟩
theorem cop_mk {ok : Nat → Prop} {w : World} (x : Co.Op) (h1 : -9223372036854775808 ≤ x.1 ∧ x.1 ≤ 9223372036854775807) (h2 : -9223372036854775808 ≤ x.2.1 ∧ x.2.1 ≤ 9223372036854775807) (h3 : -9223372036854775808 ≤ x.2.2 ∧ x.2.2 ≤ 9223372036854775807) :
    ECOp.rep ok w [.int .i64 x.1, .int .i64 x.2.1, .int .i64 x.2.2] x :=
  ⟨[.int .i64 x.1], [.int .i64 x.2.1, .int .i64 x.2.2], rfl, ⟨rfl, h1⟩, [.int .i64 x.2.1], [.int .i64 x.2.2], rfl, ⟨rfl, h2⟩, rfl, h3⟩
theorem reads_cop : Reads Try.prog 47 ECOp (fun _ => 1) := by
  have h : Reads Try.prog 47 ECOp (fun _ => 1 + (1 + 1)) := by
    refine reads_struct (E := ECOp) (m := fun _ => 1 + (1 + 1)) Try.underlying47 (by kernel_rfl) ?_
    refine fields_cons (off := 0) (A := EInt) (B := EPair EInt EInt) (m := fun _ => 1) (n := fun _ => 1 + 1) (by rfl) (by kernel_rfl) (reads_int Try.underlying3) ?_
    refine fields_cons (off := 1) (A := EInt) (B := EInt) (m := fun _ => 1) (n := fun _ => 1) (by rfl) (by kernel_rfl) (reads_int Try.underlying3) ?_
    exact fields_one (off := 2) (by rfl) (by kernel_rfl) (reads_int Try.underlying3)
  intro H enc w fuel cs d ps hd
  obtain ⟨x, hx, hm⟩ := h hd
  exact ⟨x, hx, by simp only at hm ⊢; omega⟩
theorem reads_cops : Reads Try.prog 22 (ESlice ECOp (by decide)) (bulkL (fun _ => 1)) := reads_slice (by decide) Try.underlying22 (by kernel_rfl) reads_cop
theorem ti_cops : ElemInfo Try.prog 22 47 ECOp.sz 24 := ElemInfo.mk' (z := .agg #[.int .i64 0, .int .i64 0, .int .i64 0]) Try.underlying22 (by kernel_rfl) rfl (by decide)
theorem ti_cints : ElemInfo Try.prog 29 3 EInt.sz 8 := ElemInfo.mk' (z := .int .i64 0) Try.underlying29 (by kernel_rfl) rfl (by decide)

/-- the row of a transaction -/
def txRow (T : Co.Tx) (ov : Value) (vm : Nat) : Array Value :=
  #[.int .i64 T.id, ov, .bool T.ser, .int .i64 T.sh, .int .i64 T.pat, .int .i64 T.stage, .int .i64 T.start, .int .i64 T.e.t, .bool T.e.c, .int .i64 T.e.a, .int .i64 T.at_, .bool T.wait, .int .i64 T.waited, .int .i64 T.by_.t, .bool T.by_.c, .int .i64 T.by_.a, .int .i64 T.home, .map (some vm), .int .i64 T.res, .bool T.doubt]
structure TxA (B : Nat) (w : World) (g vm : Nat) (ov : Value) (T : Co.Tx) : Prop where
  row : w.heap[g]? = some (.cells (txRow T ov vm) 131 (0, 0))
  ops : ∃ a c, ov = .slice a T.ops.length c ∧ T.ops.length ≤ c ∧ c ≤ maxLen ∧ Sl ECOp (fun k => k ≠ g ∧ k ≠ vm) w a T.ops
  map : IMap w vm 16 (fun z => (T.vals z).map (.int .i64))
  hg : B ≤ g
  hv : B ≤ vm
  ne : g ≠ vm
  right : Co.Right T
section
variable {B g vm : Nat} {w w' : World} {ov : Value} {T : Co.Tx}
theorem TxA.keep (h : TxA B w g vm ov T) (hb : Below w.heap.size w w') : TxA B w' g vm ov T := by
  obtain ⟨a, c, h1, h2, h3, h4⟩ := h.ops
  exact ⟨(hb.block g (Array.getElem?_eq_some_iff.1 h.row).1).trans h.row, ⟨a, c, h1, h2, h3, h4.below (by decide) hb⟩, h.map.keep (hb.block vm h.map.lt), h.hg, h.hv, h.ne, h.right⟩
theorem TxA.only {S : Nat → Prop} (h : TxA B w g vm ov T) (ho : Only S w w') (hS : ∀ k, S k → k < B ∧ False ∨ w.heap.size ≤ k) : TxA B w' g vm ov T := by
  have hb : Below w.heap.size w w' := ⟨ho.os, ho.tape, ho.output, ho.size, fun k hk => ho.block k hk fun hs => by rcases hS k hs with h1 | h1; exact h1.2; omega⟩
  exact h.keep hb
theorem TxA.lt (h : TxA B w g vm ov T) : g < w.heap.size := (Array.getElem?_eq_some_iff.1 h.row).1
theorem TxA.c0 (h : TxA B w g vm ov T) : w.cell? ⟨g, 0, none⟩ = some (.int .i64 T.id) := by simp [World.cell?, h.row, txRow]
theorem TxA.c1 (h : TxA B w g vm ov T) : w.cell? ⟨g, 1, none⟩ = some ov := by simp [World.cell?, h.row, txRow]
theorem TxA.c2 (h : TxA B w g vm ov T) : w.cell? ⟨g, 2, none⟩ = some (.bool T.ser) := by simp [World.cell?, h.row, txRow]
theorem TxA.c3 (h : TxA B w g vm ov T) : w.cell? ⟨g, 3, none⟩ = some (.int .i64 T.sh) := by simp [World.cell?, h.row, txRow]
theorem TxA.c4 (h : TxA B w g vm ov T) : w.cell? ⟨g, 4, none⟩ = some (.int .i64 T.pat) := by simp [World.cell?, h.row, txRow]
theorem TxA.c5 (h : TxA B w g vm ov T) : w.cell? ⟨g, 5, none⟩ = some (.int .i64 T.stage) := by simp [World.cell?, h.row, txRow]
theorem TxA.c6 (h : TxA B w g vm ov T) : w.cell? ⟨g, 6, none⟩ = some (.int .i64 T.start) := by simp [World.cell?, h.row, txRow]
theorem TxA.c7 (h : TxA B w g vm ov T) : w.cell? ⟨g, 7, none⟩ = some (.int .i64 T.e.t) := by simp [World.cell?, h.row, txRow]
theorem TxA.c8 (h : TxA B w g vm ov T) : w.cell? ⟨g, 8, none⟩ = some (.bool T.e.c) := by simp [World.cell?, h.row, txRow]
theorem TxA.c9 (h : TxA B w g vm ov T) : w.cell? ⟨g, 9, none⟩ = some (.int .i64 T.e.a) := by simp [World.cell?, h.row, txRow]
theorem TxA.c10 (h : TxA B w g vm ov T) : w.cell? ⟨g, 10, none⟩ = some (.int .i64 T.at_) := by simp [World.cell?, h.row, txRow]
theorem TxA.c11 (h : TxA B w g vm ov T) : w.cell? ⟨g, 11, none⟩ = some (.bool T.wait) := by simp [World.cell?, h.row, txRow]
theorem TxA.c12 (h : TxA B w g vm ov T) : w.cell? ⟨g, 12, none⟩ = some (.int .i64 T.waited) := by simp [World.cell?, h.row, txRow]
theorem TxA.c13 (h : TxA B w g vm ov T) : w.cell? ⟨g, 13, none⟩ = some (.int .i64 T.by_.t) := by simp [World.cell?, h.row, txRow]
theorem TxA.c14 (h : TxA B w g vm ov T) : w.cell? ⟨g, 14, none⟩ = some (.bool T.by_.c) := by simp [World.cell?, h.row, txRow]
theorem TxA.c15 (h : TxA B w g vm ov T) : w.cell? ⟨g, 15, none⟩ = some (.int .i64 T.by_.a) := by simp [World.cell?, h.row, txRow]
theorem TxA.c16 (h : TxA B w g vm ov T) : w.cell? ⟨g, 16, none⟩ = some (.int .i64 T.home) := by simp [World.cell?, h.row, txRow]
theorem TxA.c17 (h : TxA B w g vm ov T) : w.cell? ⟨g, 17, none⟩ = some (.map (some vm)) := by simp [World.cell?, h.row, txRow]
theorem TxA.c18 (h : TxA B w g vm ov T) : w.cell? ⟨g, 18, none⟩ = some (.int .i64 T.res) := by simp [World.cell?, h.row, txRow]
theorem TxA.c19 (h : TxA B w g vm ov T) : w.cell? ⟨g, 19, none⟩ = some (.bool T.doubt) := by simp [World.cell?, h.row, txRow]
theorem TxA.fr (h : TxA B w g vm ov T) (o : Nat) : w.frozen? ⟨g, o, none⟩ = false := by simp [World.frozen?, h.row]
/-- the transaction's row is written anew; all else stays -/
theorem TxA.set {T' : Co.Tx} (h : TxA B w g vm ov T) (ho : Only (· = g) w w') (hr : w'.heap[g]? = some (.cells (txRow T' ov vm) 131 (0, 0))) (h1 : T'.ops = T.ops) (h2 : T'.vals = T.vals) (hR : Co.Right T') : TxA B w' g vm ov T' := by
  obtain ⟨a, c, g1, g2, g3, g4⟩ := h.ops
  refine ⟨hr, ⟨a, c, by rw [h1]; exact g1, by rw [h1]; exact g2, g3, by rw [h1]; exact g4.mono (by decide) fun k hk hlt => ⟨ho.block k hlt hk.1, hk⟩⟩, by rw [h2]; exact h.map.keep (ho.block vm h.map.lt (Ne.symm h.ne)), h.hg, h.hv, h.ne, hR⟩
end

theorem co_mod {B g vm : Nat} {ov : Value} {T : Co.Tx} (key : Int) (w : World) (h : TxA B w g vm ov T) (hk : 0 ≤ key ∧ key ≤ 15) :
    Calls Try.prog 104 #[.pointer (some ⟨g, 0, none⟩), .int .i64 key] w fun e w' => e = .returned (.int .i64 (key % T.sh)) ∧ Below w.heap.size w w' := by
  have c3 := h.c3
  have hsh := h.right.sh
  obtain ⟨s, hs⟩ : ∃ s, s = T.sh := ⟨_, rfl⟩
  rw [← hs] at c3 hsh ⊢
  clear hs h
  have h0 : s ≠ 0 := by omega
  have e1 : key.tmod s = key % s := Int.tmod_eq_emod_of_nonneg hk.1
  have e0 : 0 ≤ key % s := Int.emod_nonneg _ h0
  have e4 : key % s < s := Int.emod_lt_of_pos _ (by omega)
  have e2 : (key % s + s).tmod s = key % s := by
    rw [Int.tmod_eq_emod_of_nonneg (by omega), Int.add_emod_right, Int.emod_emod]
  obtain ⟨B, hB⟩ : ∃ B, B = w.heap.size := ⟨_, rfl⟩
  rw [← hB]
  have hBz : B ≤ w.heap.size := Nat.le_of_eq hB
  clear hB
  go_enter Try.func104, Try.ntmps104
  go_wp2_with fail
  go_region
  go_wp2_with fail
  go_ret
  exact ⟨rfl, (Below.refl B w).drew⟩

/-- where a number stands, or -1 -/
theorem co_Index (a : Option Addr) (n c : Nat) (l : List Int) (k : Int) (w : World) (hs : Sl EInt (fun _ => True) w a l) (hn : n = l.length) (hc : n ≤ c ∧ c ≤ maxLen) :
    Calls Try.prog 140 #[.slice a n c, .int .i64 k] w fun e w' => ∃ r : Int, e = .returned (.int .i64 r) ∧ w = w' ∧ (0 ≤ r ↔ k ∈ l) ∧ (-1 ≤ r ∧ r ≤ 9223372036854775807) := by
  have Hs := Lib.hid hs
  have Hn := Lib.hid hn
  unfold maxLen at hc
  obtain ⟨hc1, hc2⟩ := hc
  clear hs hn
  go_enter Try.func140, Try.ntmps140
  go_wp2_with fail
  go_loopg [8] n (fun gn i wr => ∃ j : Nat, RowKit.Hid (gn = n - j) ∧ j ≤ n ∧ i = .int .i64 j ∧ RowKit.Hid (∀ q (hq : q < l.length), q < j → l[q] ≠ k) ∧ w = wr)
  case atStart => exact ⟨0, Lib.hid rfl, Nat.zero_le _, rfl, Lib.hid fun q hq h => by omega, rfl⟩
  case round =>
    obtain ⟨j, hgn, hj, rfl, hne, rfl⟩ := hrel
    by_cases hlt : j < n
    · have hji : (j : Int) < (n : Int) := by omega
      have hjl : j < l.length := by rw [← Hn.out]; exact hlt
      obtain ⟨b, o, rfl, hc0, _, _⟩ := SlI.at Hs.out j hjl
      obtain ⟨x, hx⟩ : ∃ x, x = l[j] := ⟨_, rfl⟩
      rw [← hx] at hc0
      have Hx := Lib.hid hx
      clear hx
      by_cases hk : k = x
      · have hm : k ∈ l := by rw [hk, Hx.out]; exact List.getElem_mem _
        have Hm := Lib.hid hm
        have hkb : (k == x) = true := by simpa using hk
        clear hm hk
        go_wp2_with fail
        go_ret
        exact ⟨j, rfl, rfl, ⟨fun _ => Hm.out, fun _ => by omega⟩, by omega, by omega⟩
      · have hkb : (k == x) = false := by simpa using hk
        have Hk := Lib.hid hk
        clear hk
        go_wp2_with fail
        go_roundg (n - (j + 1))
        case measure => rw [hgn.out]; omega
        case rel => exact ⟨j + 1, Lib.hid rfl, by omega, by go_num, Lib.hid fun q hq h => by
          by_cases hqj : q = j
          · subst hqj; rw [← Hx.out]; exact fun e => Hk.out e.symm
          · exact hne.out q hq (by omega), rfl⟩
    · have hji : ¬ ((j : Int) < (n : Int)) := by omega
      go_wp2_with fail
      go_ret
      refine ⟨-1, rfl, rfl, ⟨fun h => by omega, fun h => ?_⟩, by omega, by omega⟩
      obtain ⟨q, hq, e⟩ := List.mem_iff_getElem.1 h
      exact absurd e (hne.out q hq (by have := Hn.out; omega))
theorem co_Contains (a : Option Addr) (n c : Nat) (l : List Int) (k : Int) (w : World) (hs : Sl EInt (fun _ => True) w a l) (hn : n = l.length) (hc : n ≤ c ∧ c ≤ maxLen) :
    Calls Try.prog 105 #[.slice a n c, .int .i64 k] w fun e w' => e = .returned (.bool (decide (k ∈ l))) ∧ w = w' := by
  have Hs := Lib.hid hs
  have Hn := Lib.hid hn
  have Hc := Lib.hid hc
  clear hs hn hc
  obtain ⟨bb, hbb⟩ : ∃ b, b = decide (k ∈ l) := ⟨_, rfl⟩
  rw [← hbb]
  have Hbb := Lib.hid hbb
  clear hbb
  go_enter Try.func105, Try.ntmps105
  go_wp2_with fail
  refine (co_Index a n c l k w Hs.out Hn.out Hc.out).mono ?_
  rintro e w1 ⟨r, rfl, rfl, hr, hr1, hr2⟩
  have Hr := Lib.hid hr
  clear hr
  by_cases h0 : 0 ≤ r
  · have hbt : bb = true := by rw [Hbb.out, decide_eq_true (Hr.out.1 h0)]
    subst hbt
    go_wp2_with fail
    go_ret
    exact ⟨rfl, rfl⟩
  · have hbt : bb = false := by rw [Hbb.out, decide_eq_false (fun h => h0 (Hr.out.2 h))]
    subst hbt
    have hd : decide (0 ≤ r) = false := decide_eq_false h0
    go_wp2_with fail
    go_ret
    exact ⟨rfl, rfl⟩

/-- a cell of a transaction's operation -/
theorem cop_at {ok : Nat → Prop} {w : World} {a : Option Addr} {l : List Co.Op} (h : Sl ECOp ok w a l) (k : Nat) (hk : k < l.length) :
    ∃ b o, a = some ⟨b, o, none⟩ ∧ ok b ∧ w.cell? ⟨b, o + k * 3, none⟩ = some (.int .i64 l[k].1) ∧ w.cell? ⟨b, o + k * 3 + 1, none⟩ = some (.int .i64 l[k].2.1) ∧ w.cell? ⟨b, o + k * 3 + 2, none⟩ = some (.int .i64 l[k].2.2) ∧
      (-9223372036854775808 ≤ l[k].1 ∧ l[k].1 ≤ 9223372036854775807) ∧ (-9223372036854775808 ≤ l[k].2.1 ∧ l[k].2.1 ≤ 9223372036854775807) ∧ (-9223372036854775808 ≤ l[k].2.2 ∧ l[k].2.2 ≤ 9223372036854775807) := by
  obtain ⟨b, o, rfl, hb, cs, hr, hc⟩ := h k l[k] (List.getElem?_eq_getElem hk)
  obtain ⟨rfl, h1, h2, h3⟩ := cop_rep hr
  have hz : ECOp.sz = 3 := rfl
  rw [hz] at hc
  refine ⟨b, o, rfl, hb, ?_, ?_, ?_, h1, h2, h3⟩
  · simpa using hc 0 _ rfl
  · rw [Nat.add_assoc]; exact hc 1 _ rfl
  · rw [Nat.add_assoc]; exact hc 2 _ rfl
theorem co_w1 (x1 x2 x3 : Int) (p : Nat) (k : Int) (w : World) (hp : w.cell? ⟨p, 1, none⟩ = some (.int .i64 k)) :
    Calls Try.prog 108 #[.agg #[.int .i64 x1, .int .i64 x2, .int .i64 x3], .pointer (some ⟨p, 0, none⟩)] w fun e w' => e = .returned (.bool (x1 == 2 && x2 == k)) ∧ Below w.heap.size w w' := by
  obtain ⟨B, hB⟩ : ∃ B, B = w.heap.size := ⟨_, rfl⟩
  rw [← hB]
  have hBz : B ≤ w.heap.size := Nat.le_of_eq hB
  have hb0 : Below B w w := Below.refl _ _
  obtain ⟨w1, hw1⟩ : ∃ x, x = w.alloc (.cells #[.int .i64 x1, .int .i64 x2, .int .i64 x3] 47) := ⟨_, rfl⟩
  have hh1 : w1.heap[w.heap.size]? = some (.cells #[.int .i64 x1, .int .i64 x2, .int .i64 x3] 47 (0, 0)) := by rw [hw1]; exact heap_alloc_new w _
  have hb1 : Below w.heap.size w w1 := by rw [hw1]; exact alloc_below _ _
  have k0 : w1.cell? ⟨w.heap.size, 0, none⟩ = some (.int .i64 x1) := by simp [World.cell?, hh1]
  have k1 : w1.cell? ⟨w.heap.size, 1, none⟩ = some (.int .i64 x2) := by simp [World.cell?, hh1]
  have kp := cell_thru hp hb1
  rw [← hB] at k0 k1 hb1
  have HB := Lib.hid hB
  clear hh1
  go_enter Try.func108, Try.ntmps108
  go_upto_region 1 with fail
  rw [← hw1, ← hB]
  clear hw1 hB
  have hx : x1 = 2 ∨ x1 ≠ 2 := by omega
  rcases hx with rfl | hx
  · by_cases hk : x2 = k
    · subst hk
      go_wp2_with fail
      go_ret
      exact ⟨by simp, hb1⟩
    · have hkb : (x2 == k) = false := by simpa using hk
      go_wp2_with fail
      go_ret
      exact ⟨by simp [hkb], hb1⟩
  · have hkb : (x1 == 2) = false := by simpa using hx
    go_wp2_with fail
    go_ret
    exact ⟨by simp [hkb], hb1⟩

theorem co_g2 (x1 x2 x3 : Int) (w : World) :
    Calls Try.prog 111 #[.agg #[.int .i64 x1, .int .i64 x2, .int .i64 x3]] w fun e w' => e = .returned (.bool (x1 == 2)) ∧ Below w.heap.size w w' := by
  obtain ⟨B, hB⟩ : ∃ B, B = w.heap.size := ⟨_, rfl⟩
  rw [← hB]
  obtain ⟨w1, hw1⟩ : ∃ x, x = w.alloc (.cells #[.int .i64 x1, .int .i64 x2, .int .i64 x3] 47) := ⟨_, rfl⟩
  have hh1 : w1.heap[w.heap.size]? = some (.cells #[.int .i64 x1, .int .i64 x2, .int .i64 x3] 47 (0, 0)) := by rw [hw1]; exact heap_alloc_new w _
  have hb1 : Below w.heap.size w w1 := by rw [hw1]; exact alloc_below _ _
  have k0 : w1.cell? ⟨w.heap.size, 0, none⟩ = some (.int .i64 x1) := by simp [World.cell?, hh1]
  rw [← hB] at k0 hb1
  clear hh1
  go_enter Try.func111, Try.ntmps111
  go_upto_region 1 with fail
  rw [← hw1, ← hB]
  clear hw1 hB
  have hx : x1 = 2 ∨ x1 ≠ 2 := by omega
  rcases hx with rfl | hx
  · go_wp2_with fail
    go_ret
    exact ⟨rfl, hb1⟩
  · have hkb : (x1 == 2) = false := by simpa using hx
    go_wp2_with fail
    go_ret
    exact ⟨by rw [hkb]; rfl, hb1⟩

theorem co_idxW (a : Option Addr) (n c : Nat) (l : List Co.Op) (p : Nat) (k : Int) (w : World) (hs : Sl ECOp (fun _ => True) w a l) (hn : n = l.length) (hc : n ≤ c ∧ c ≤ maxLen) (hp : w.cell? ⟨p, 1, none⟩ = some (.int .i64 k)) :
    Calls Try.prog 141 #[.slice a n c, .func (.func 108) #[] #[.pointer (some ⟨p, 0, none⟩)]] w fun e w' => ∃ r : Int, e = .returned (.int .i64 r) ∧ Below w.heap.size w w' ∧ (0 ≤ r ↔ (l.any fun x => x.1 == 2 && x.2.1 == k) = true) ∧ (-1 ≤ r ∧ r ≤ 9223372036854775807) := by
  obtain ⟨B, hB⟩ : ∃ B, B = w.heap.size := ⟨_, rfl⟩
  rw [← hB]
  have Hs := Lib.hid hs
  have Hn := Lib.hid hn
  have HB := Lib.hid hB
  unfold maxLen at hc
  obtain ⟨hc1, hc2⟩ := hc
  have Hp := Lib.hid hp
  clear hs hn hB hp
  obtain ⟨bb, hbb⟩ : ∃ b, b = (l.any fun x => x.1 == 2 && x.2.1 == k) := ⟨_, rfl⟩
  rw [← hbb]
  have Hbb := Lib.hid hbb
  clear hbb
  go_enter Try.func141, Try.ntmps141
  go_wp2_with fail
  go_loopg [8] n (fun gn i wr => ∃ j : Nat, RowKit.Hid (gn = n - j) ∧ j ≤ n ∧ i = .int .i64 j ∧ RowKit.Hid (∀ q (hq : q < l.length), q < j → (fun x : Co.Op => x.1 == 2 && x.2.1 == k) l[q] = false) ∧ Below B w wr)
  case atStart => exact ⟨0, Lib.hid rfl, Nat.zero_le _, rfl, Lib.hid fun q hq h => by omega, Below.refl _ _⟩
  case round =>
    obtain ⟨j, hgn, hj, rfl, hne, hb⟩ := hrel
    have hsz : B ≤ wr.heap.size := by rw [HB.out]; exact hb.size
    by_cases hlt : j < n
    · have hji : (j : Int) < (n : Int) := by omega
      have hjl : j < l.length := by rw [← Hn.out]; exact hlt
      have hs' : Sl ECOp (fun _ => True) wr a l := Hs.out.below (by decide) (by rw [← HB.out]; exact hb)
      obtain ⟨b, o, rfl, _, p0, p1, p2, _, _, _⟩ := cop_at hs' j hjl
      obtain ⟨⟨x1, x2, x3⟩, hx⟩ : ∃ x, x = l[j] := ⟨_, rfl⟩
      rw [← hx] at p0 p1 p2
      dsimp only at p0 p1 p2
      have Hx := Lib.hid hx
      clear hx hs'
      go_wp2_with fail
      refine (co_w1 x1 x2 x3 p k wr (by rw [cell_keep (hb.block p (by rw [HB.out]; exact cell_lt Hp.out))]; exact Hp.out)).mono ?_
      rintro e w3 ⟨rfl, hb3⟩
      have hb3' := hb.trans (hb3.mono hsz)
      obtain ⟨pv, hpv⟩ : ∃ pv, pv = (fun x : Co.Op => x.1 == 2 && x.2.1 == k) (x1, x2, x3) := ⟨_, rfl⟩
      rw [show (x1 == 2 && x2 == k) = pv from hpv.symm]
      have Hpv := Lib.hid hpv
      clear hpv
      cases pv
      · go_wp2_with fail
        go_roundg (n - (j + 1))
        case measure => rw [hgn.out]; omega
        case rel => exact ⟨j + 1, Lib.hid rfl, by omega, by go_num, Lib.hid fun q hq h => by
          by_cases hqj : q = j
          · subst hqj; rw [← Hx.out]; exact Hpv.out.symm
          · exact hne.out q hq (by omega), hb3'⟩
      · go_wp2_with fail
        go_ret
        exact ⟨j, rfl, hb3', ⟨fun _ => by rw [Hbb.out]; exact List.any_eq_true.2 ⟨l[j], List.getElem_mem _, by rw [← Hx.out]; exact Hpv.out.symm⟩, fun _ => by omega⟩, by omega, by omega⟩
    · have hji : ¬ ((j : Int) < (n : Int)) := by omega
      go_wp2_with fail
      go_ret
      refine ⟨-1, rfl, hb, ⟨fun h => by omega, fun h => ?_⟩, by omega, by omega⟩
      rw [Hbb.out] at h
      obtain ⟨x, hx, e⟩ := List.any_eq_true.1 h
      obtain ⟨q, hq, rfl⟩ := List.mem_iff_getElem.1 hx
      have := hne.out q hq (by have := Hn.out; omega)
      rw [this] at e
      cases e

theorem co_idxG (a : Option Addr) (n c : Nat) (l : List Co.Op) (w : World) (hs : Sl ECOp (fun _ => True) w a l) (hn : n = l.length) (hc : n ≤ c ∧ c ≤ maxLen) :
    Calls Try.prog 141 #[.slice a n c, .func (.func 111) #[] #[]] w fun e w' => ∃ r : Int, e = .returned (.int .i64 r) ∧ Below w.heap.size w w' ∧ (0 ≤ r ↔ (l.any fun x => x.1 == 2) = true) ∧ (-1 ≤ r ∧ r ≤ 9223372036854775807) := by
  obtain ⟨B, hB⟩ : ∃ B, B = w.heap.size := ⟨_, rfl⟩
  rw [← hB]
  have Hs := Lib.hid hs
  have Hn := Lib.hid hn
  have HB := Lib.hid hB
  unfold maxLen at hc
  obtain ⟨hc1, hc2⟩ := hc
  skip
  clear hs hn hB
  obtain ⟨bb, hbb⟩ : ∃ b, b = (l.any fun x => x.1 == 2) := ⟨_, rfl⟩
  rw [← hbb]
  have Hbb := Lib.hid hbb
  clear hbb
  go_enter Try.func141, Try.ntmps141
  go_wp2_with fail
  go_loopg [8] n (fun gn i wr => ∃ j : Nat, RowKit.Hid (gn = n - j) ∧ j ≤ n ∧ i = .int .i64 j ∧ RowKit.Hid (∀ q (hq : q < l.length), q < j → (fun x : Co.Op => x.1 == 2) l[q] = false) ∧ Below B w wr)
  case atStart => exact ⟨0, Lib.hid rfl, Nat.zero_le _, rfl, Lib.hid fun q hq h => by omega, Below.refl _ _⟩
  case round =>
    obtain ⟨j, hgn, hj, rfl, hne, hb⟩ := hrel
    have hsz : B ≤ wr.heap.size := by rw [HB.out]; exact hb.size
    by_cases hlt : j < n
    · have hji : (j : Int) < (n : Int) := by omega
      have hjl : j < l.length := by rw [← Hn.out]; exact hlt
      have hs' : Sl ECOp (fun _ => True) wr a l := Hs.out.below (by decide) (by rw [← HB.out]; exact hb)
      obtain ⟨b, o, rfl, _, p0, p1, p2, _, _, _⟩ := cop_at hs' j hjl
      obtain ⟨⟨x1, x2, x3⟩, hx⟩ : ∃ x, x = l[j] := ⟨_, rfl⟩
      rw [← hx] at p0 p1 p2
      dsimp only at p0 p1 p2
      have Hx := Lib.hid hx
      clear hx hs'
      go_wp2_with fail
      refine (co_g2 x1 x2 x3 wr).mono ?_
      rintro e w3 ⟨rfl, hb3⟩
      have hb3' := hb.trans (hb3.mono hsz)
      obtain ⟨pv, hpv⟩ : ∃ pv, pv = (fun x : Co.Op => x.1 == 2) (x1, x2, x3) := ⟨_, rfl⟩
      rw [show (x1 == 2) = pv from hpv.symm]
      have Hpv := Lib.hid hpv
      clear hpv
      cases pv
      · go_wp2_with fail
        go_roundg (n - (j + 1))
        case measure => rw [hgn.out]; omega
        case rel => exact ⟨j + 1, Lib.hid rfl, by omega, by go_num, Lib.hid fun q hq h => by
          by_cases hqj : q = j
          · subst hqj; rw [← Hx.out]; exact Hpv.out.symm
          · exact hne.out q hq (by omega), hb3'⟩
      · go_wp2_with fail
        go_ret
        exact ⟨j, rfl, hb3', ⟨fun _ => by rw [Hbb.out]; exact List.any_eq_true.2 ⟨l[j], List.getElem_mem _, by rw [← Hx.out]; exact Hpv.out.symm⟩, fun _ => by omega⟩, by omega, by omega⟩
    · have hji : ¬ ((j : Int) < (n : Int)) := by omega
      go_wp2_with fail
      go_ret
      refine ⟨-1, rfl, hb, ⟨fun h => by omega, fun h => ?_⟩, by omega, by omega⟩
      rw [Hbb.out] at h
      obtain ⟨x, hx, e⟩ := List.any_eq_true.1 h
      obtain ⟨q, hq, rfl⟩ := List.mem_iff_getElem.1 hx
      have := hne.out q hq (by have := Hn.out; omega)
      rw [this] at e
      cases e

theorem co_anyW (a : Option Addr) (n c : Nat) (l : List Co.Op) (p : Nat) (k : Int) (w : World) (hs : Sl ECOp (fun _ => True) w a l) (hn : n = l.length) (hc : n ≤ c ∧ c ≤ maxLen) (hp : w.cell? ⟨p, 1, none⟩ = some (.int .i64 k)) :
    Calls Try.prog 109 #[.slice a n c, .func (.func 108) #[] #[.pointer (some ⟨p, 0, none⟩)]] w fun e w' => e = .returned (.bool (l.any fun x => x.1 == 2 && x.2.1 == k)) ∧ Below w.heap.size w w' := by
  obtain ⟨B, hB⟩ : ∃ B, B = w.heap.size := ⟨_, rfl⟩
  rw [← hB]
  have Hs := Lib.hid hs
  have Hn := Lib.hid hn
  have HB := Lib.hid hB
  have Hc := Lib.hid hc
  have Hp := Lib.hid hp
  clear hs hn hB hc hp
  obtain ⟨bb, hbb⟩ : ∃ b, b = (l.any fun x => x.1 == 2 && x.2.1 == k) := ⟨_, rfl⟩
  rw [← hbb]
  have Hbb := Lib.hid hbb
  clear hbb
  go_enter Try.func109, Try.ntmps109
  go_wp2_with fail
  refine (co_idxW a n c l p k w Hs.out Hn.out Hc.out Hp.out).mono ?_
  rintro e w1 ⟨r, rfl, hb, hr, hr1, hr2⟩
  rw [← HB.out] at hb
  have Hr := Lib.hid hr
  clear hr
  by_cases h0 : 0 ≤ r
  · have hbt : bb = true := by rw [Hbb.out, Hr.out.1 h0]
    subst hbt
    go_wp2_with fail
    go_ret
    exact ⟨rfl, hb⟩
  · have hbt : bb = false := by
      rw [Hbb.out, Bool.eq_false_iff]
      exact fun h => h0 (Hr.out.2 h)
    subst hbt
    have hd : decide (0 ≤ r) = false := decide_eq_false h0
    go_wp2_with fail
    go_ret
    exact ⟨rfl, hb⟩

theorem co_anyG (a : Option Addr) (n c : Nat) (l : List Co.Op) (w : World) (hs : Sl ECOp (fun _ => True) w a l) (hn : n = l.length) (hc : n ≤ c ∧ c ≤ maxLen) :
    Calls Try.prog 109 #[.slice a n c, .func (.func 111) #[] #[]] w fun e w' => e = .returned (.bool (l.any fun x => x.1 == 2)) ∧ Below w.heap.size w w' := by
  obtain ⟨B, hB⟩ : ∃ B, B = w.heap.size := ⟨_, rfl⟩
  rw [← hB]
  have Hs := Lib.hid hs
  have Hn := Lib.hid hn
  have HB := Lib.hid hB
  have Hc := Lib.hid hc
  skip
  clear hs hn hB hc
  obtain ⟨bb, hbb⟩ : ∃ b, b = (l.any fun x => x.1 == 2) := ⟨_, rfl⟩
  rw [← hbb]
  have Hbb := Lib.hid hbb
  clear hbb
  go_enter Try.func109, Try.ntmps109
  go_wp2_with fail
  refine (co_idxG a n c l w Hs.out Hn.out Hc.out).mono ?_
  rintro e w1 ⟨r, rfl, hb, hr, hr1, hr2⟩
  rw [← HB.out] at hb
  have Hr := Lib.hid hr
  clear hr
  by_cases h0 : 0 ≤ r
  · have hbt : bb = true := by rw [Hbb.out, Hr.out.1 h0]
    subst hbt
    go_wp2_with fail
    go_ret
    exact ⟨rfl, hb⟩
  · have hbt : bb = false := by
      rw [Hbb.out, Bool.eq_false_iff]
      exact fun h => h0 (Hr.out.2 h)
    subst hbt
    have hd : decide (0 ≤ r) = false := decide_eq_false h0
    go_wp2_with fail
    go_ret
    exact ⟨rfl, hb⟩
end Go.Proofs.Ytmmgnbdngpkfcaa

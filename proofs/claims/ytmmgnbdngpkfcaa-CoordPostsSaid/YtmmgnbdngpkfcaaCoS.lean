
/-
  An answer's bytes, walked.
-/
import Derived.Test.YtmmgnbdngpkfcaaCoT
import Derived.Test.YtmmgnbdngpkfcaaRdS
import Derived.Test.YtmmgnbdngpkfcaaBtsW
namespace Go.Proofs.Ytmmgnbdngpkfcaa
open Go.RowKit
set_option linter.unusedVariables false

/-- a writer of bits, of which no block is among those that are to stay -/
def Wt (P : Nat → Prop) (w : World) (g : Nat) (l : Bts.Bits) : Prop := ∃ v, WrAt w g v l ∧ ¬ P g ∧ (∀ b, v.ownBlock = some b → ¬ P b) ∧ ∀ k, P k → k < w.heap.size
theorem Wrote.wt {P : Nat → Prop} {w w' : World} {g : Nat} {v v' : Value} {l' : Bts.Bits} (hg : ¬ P g) (ho : ∀ b, v.ownBlock = some b → ¬ P b) (hlt : ∀ k, P k → k < w.heap.size) (h : Wrote g v w v' w') (h' : WrAt w' g v' l') : Wt P w' g l' ∧ Only (fun k => ¬ P k) w w' := by
  refine ⟨⟨v', h', hg, fun b hb => ?_, fun k hk => Nat.lt_of_lt_of_le (hlt k hk) h.only.size⟩, h.only.mono fun k hk => ?_⟩
  · rcases h.own with e | ⟨b', e, hb'⟩
    · exact ho b (by rw [← e]; exact hb)
    · rw [e] at hb
      injection hb with hb
      subst hb
      exact fun hp => by have := hlt _ hp; omega
  · rcases hk with rfl | hk
    · exact hg
    · exact ho k hk
theorem wt_Int {P : Nat → Prop} (g : Nat) (l : Bts.Bits) (i : Int) (w : World) (h : Wt P w g l) (hl : l.length ≤ 549755813888) (hi : -9223372036854775808 ≤ i ∧ i ≤ 9223372036854775807) :
    Calls Try.prog 88 #[.pointer (some ⟨g, 0, none⟩), .int .i64 i] w fun e w' => e = .returned (.tuple #[]) ∧ Wt P w' g (l ++ Bts.int i) ∧ Only (fun k => ¬ P k) w w' := by
  obtain ⟨v, h1, h2, h3, h4⟩ := h
  refine (bits_Int g v l i w h1 hl hi).mono ?_
  rintro e w' ⟨rfl, v', g1, g2⟩
  exact ⟨rfl, g2.wt h2 h3 h4 g1⟩
theorem wt_Num {P : Nat → Prop} (g : Nat) (l : Bts.Bits) (x : BitVec 64) (w : World) (h : Wt P w g l) (hl : l.length ≤ 549755813888) :
    Calls Try.prog 89 #[.pointer (some ⟨g, 0, none⟩), .int .u64 (bv x)] w fun e w' => e = .returned (.tuple #[]) ∧ Wt P w' g (l ++ Bts.num x) ∧ Only (fun k => ¬ P k) w w' := by
  obtain ⟨v, h1, h2, h3, h4⟩ := h
  refine (bits_Num g v l x w h1 hl).mono ?_
  rintro e w' ⟨rfl, v', g1, g2⟩
  exact ⟨rfl, g2.wt h2 h3 h4 g1⟩
theorem wt_Put {P : Nat → Prop} (g : Nat) (l : Bts.Bits) (x : BitVec 64) (n : Int) (w : World) (h : Wt P w g l) (hl : l.length ≤ 549755813888) (hn : -9223372036854775808 ≤ n ∧ n ≤ 9223372036854775807) :
    Calls Try.prog 130 #[.pointer (some ⟨g, 0, none⟩), .int .u64 (bv x), .int .i64 n] w fun e w' => e = .returned (.tuple #[]) ∧ Wt P w' g (l ++ Bts.put x n) ∧ Only (fun k => ¬ P k) w w' := by
  obtain ⟨v, h1, h2, h3, h4⟩ := h
  refine (bits_Put g v l x n w h1 hn (by omega)).mono ?_
  rintro e w' ⟨rfl, v', g1, g2⟩
  exact ⟨rfl, g2.wt h2 h3 h4 g1⟩
/-- one block more is to stay -/
theorem Wt.more {P : Nat → Prop} {w w' : World} {g q : Nat} {l : Bts.Bits} (h : Wt P w g l) (hb : Below w.heap.size w w') (hq : w.heap.size ≤ q) (hq' : q < w'.heap.size) : Wt (fun k => P k ∨ k = q) w' g l := by
  obtain ⟨v, h1, h2, h3, h4⟩ := h
  have hl := h1.lt
  refine ⟨v, h1.keep hb, fun h => ?_, fun b hb' h => ?_, fun k hk => ?_⟩
  · rcases h with h | h
    · exact h2 h
    · omega
  · rcases h with h | h
    · exact h3 b hb' h
    · have := (h1.own b hb').2; omega
  · rcases hk with hk | hk
    · exact Nat.lt_of_lt_of_le (h4 k hk) hb.size
    · omega
theorem Wt.less {P Q : Nat → Prop} {w : World} {g : Nat} {l : Bts.Bits} (h : Wt P w g l) (hQ : ∀ k, Q k → P k) : Wt Q w g l := by
  obtain ⟨v, h1, h2, h3, h4⟩ := h
  exact ⟨v, h1, fun h => h2 (hQ _ h), fun b hb h => h3 b hb (hQ _ h), fun k hk => h4 k (hQ k hk)⟩
/-- a cell of a block that stays -/
theorem cell_stays {S : Nat → Prop} {u v : World} {b o : Nat} {y : Value} (h : Only S u v) (hs : ¬ S b) (hc : u.cell? ⟨b, o, none⟩ = some y) : v.cell? ⟨b, o, none⟩ = some y := by
  have e := h.block b (cell_lt hc) hs
  rw [← hc]
  simp [World.cell?, e]
def endB (e : Co.En) : Bts.Bits := Bts.int e.t ++ (Bts.put (if e.c = true then 1#64 else 0#64) 1 ++ Bts.int e.a)
def enR (e : Co.En) : Prop := (-9223372036854775808 ≤ e.t ∧ e.t ≤ 9223372036854775807) ∧ (-9223372036854775808 ≤ e.a ∧ e.a ≤ 9223372036854775807)
theorem coint_len (i : Int) : (Bts.int i).length ≤ 129 := by
  obtain ⟨z, h, hz⟩ := Bts.num_len (Bts.zig i)
  unfold Bts.int; omega
theorem coput_len (x : BitVec 64) : (Bts.put x 1).length = 1 := by simp [Bts.put, Bts.low_len]; decide
theorem conum_len (x : BitVec 64) : (Bts.num x).length ≤ 129 := by
  obtain ⟨z, h, hz⟩ := Bts.num_len x
  omega
theorem endB_len (e : Co.En) : (endB e).length ≤ 300 := by
  have h1 := coint_len e.t
  have h2 := coint_len e.a
  unfold endB
  rw [List.length_append, List.length_append, coput_len]; omega
def enV (e : Co.En) : Value := .agg #[.int .i64 e.t, .bool e.c, .int .i64 e.a]
set_option maxRecDepth 4096 in
set_option maxHeartbeats 1600000 in
theorem co_end {P : Nat → Prop} (g : Nat) (l : Bts.Bits) (e : Co.En) (w : World) (h : Wt P w g l) (hl : l.length ≤ 1000000) (he : enR e) :
    Calls Try.prog 90 #[.pointer (some ⟨g, 0, none⟩), enV e] w fun x w' => x = .returned (.tuple #[]) ∧ Wt P w' g (l ++ endB e) ∧ Only (fun k => ¬ P k) w w' := by
  obtain ⟨et, ec, ea⟩ := e
  obtain ⟨he1, he2⟩ := he
  dsimp only at he1 he2
  unfold enV
  dsimp only
  have hlt : ∀ k, P k → k < w.heap.size := by obtain ⟨_, _, _, _, h⟩ := h; exact h
  obtain ⟨q, hq⟩ : ∃ q, q = w.heap.size := ⟨_, rfl⟩
  obtain ⟨w1, hw1⟩ : ∃ x, x = w.alloc (.cells #[.int .i64 et, .bool ec, .int .i64 ea] 33) := ⟨_, rfl⟩
  have hh1 : w1.heap[q]? = some (.cells #[.int .i64 et, .bool ec, .int .i64 ea] 33 (0, 0)) := by rw [hw1, hq]; exact heap_alloc_new w _
  have hb1 : Below w.heap.size w w1 := by rw [hw1]; exact alloc_below _ _
  have h1 := h.more hb1 (Nat.le_of_eq hq.symm) (Array.getElem?_eq_some_iff.1 hh1).1
  have o1 : Only (fun k => ¬ P k) w w1 := Below.only hb1
  have z0 : w1.cell? ⟨q, 0, none⟩ = some (.int .i64 et) := by simp [World.cell?, hh1]
  have z1 : w1.cell? ⟨q, 1, none⟩ = some (.bool ec) := by simp [World.cell?, hh1]
  have z2 : w1.cell? ⟨q, 2, none⟩ = some (.int .i64 ea) := by simp [World.cell?, hh1]
  have Hlt := Lib.hid hlt
  have hw1' := hw1.symm
  clear hh1 hb1 hw1 hlt h
  go_enter Try.func90, Try.ntmps90
  go_upto_region 1 with fail
  rw [← hq]
  clear hw1' hq
  go_wp2_with fail
  refine (wt_Int g l et _ h1 (by omega) he1).mono ?_
  rintro x w2 ⟨rfl, h2, o2⟩
  have z1' := cell_stays o2 (fun h => h (.inr rfl)) z1
  have z2' := cell_stays o2 (fun h => h (.inr rfl)) z2
  have hl2 := coint_len et
  have o12 : Only (fun k => ¬ P k) w w2 := o1.trans o2 fun k _ h hp => h (.inl hp)
  clear z0 z1 z2 h1 o1 o2
  have hfin : ∀ (u : World) (c : Bool), Wt (fun k => P k ∨ k = q) u g ((l ++ Bts.int et) ++ Bts.put (if c = true then 1#64 else 0#64) 1) → Only (fun k => ¬ (P k ∨ k = q)) w2 u → c = ec → u.cell? ⟨q, 2, none⟩ = some (.int .i64 ea) ∧ Only (fun k => ¬ P k) w u := fun u c _ o e =>
    ⟨cell_stays o (fun h => h (.inr rfl)) z2', o12.trans o fun k _ h hp => h (.inl hp)⟩
  have Hfin := Lib.hid hfin
  clear hfin o12 z2'
  cases ec
  · go_wp2_with fail
    refine (wt_Put g _ 0#64 1 _ h2 (by rw [List.length_append]; omega) (by decide)).mono ?_
    rintro x w3 ⟨rfl, h3, o3⟩
    obtain ⟨z3, o13⟩ := Hfin.out w3 false h3 o3 rfl
    clear h2 o3 z1'
    go_wp2_with fail
    refine (wt_Int g _ ea _ h3 (by rw [List.length_append, List.length_append, coput_len]; omega) he2).mono ?_
    rintro x w4 ⟨rfl, h4, o4⟩
    go_wp2_with fail
    refine bodyPost_end (v := .tuple #[]) (by simp [results, Try.results90, go_sem]) rfl ?_
    refine ⟨rfl, ?_, o13.trans o4 fun k _ h hp => h (.inl hp)⟩
    have h5 := h4.less (Q := P) fun k h => .inl h
    rw [List.append_assoc, List.append_assoc] at h5
    exact h5
  · go_wp2_with fail
    refine (wt_Put g _ 1#64 1 _ h2 (by rw [List.length_append]; omega) (by decide)).mono ?_
    rintro x w3 ⟨rfl, h3, o3⟩
    obtain ⟨z3, o13⟩ := Hfin.out w3 true h3 o3 rfl
    clear h2 o3 z1'
    go_wp2_with fail
    refine (wt_Int g _ ea _ h3 (by rw [List.length_append, List.length_append, coput_len]; omega) he2).mono ?_
    rintro x w4 ⟨rfl, h4, o4⟩
    go_wp2_with fail
    refine bodyPost_end (v := .tuple #[]) (by simp [results, Try.results90, go_sem]) rfl ?_
    refine ⟨rfl, ?_, o13.trans o4 fun k _ h hp => h (.inl hp)⟩
    have h5 := h4.less (Q := P) fun k h => .inl h
    rw [List.append_assoc, List.append_assoc] at h5
    exact h5
end Go.Proofs.Ytmmgnbdngpkfcaa

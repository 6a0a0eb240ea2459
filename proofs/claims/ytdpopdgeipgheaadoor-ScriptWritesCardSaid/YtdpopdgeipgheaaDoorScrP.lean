
/-
  Setups and scripts that are read: plain laws, and what the memory holds between the reads.
-/
import Derived.Test.YtdpopdgeipgheaaDoorScrW
import Derived.Test.YtdpopdgeipgheaaDoorRdS
import Derived.Test.YtdpopdgeipgheaaDoorMemIn
import Derived.Test.YtdpopdgeipgheaaDoorPars2
namespace Go.Proofs.YtdpopdgeipgheaaDoor
open Go.RowKit
set_option linter.unusedVariables false

namespace Bts
theorem failed0_S {b : Bytes} {r : Rd} {s : St} (h : IsS b r s) : IsS b (failed r 0) s := by
  have e : failed r 0 = r := by
    unfold failed
    by_cases h0 : r.bad = 0
    · rw [if_pos h0, ← h0]
    · rw [if_neg h0]
  rw [e]; exact h
theorem isS_len {b : Bytes} {r : Rd} {u : Bits} (h : IsS b r (.inl u)) : u.length ≤ 8 * b.length := by
  obtain ⟨h0, h1⟩ := h
  rw [← h1]; unfold rest
  rw [if_pos h0, List.length_drop, bitsOf_len]; omega
theorem int_pos (i : Int) : 1 ≤ (int i).length := by
  obtain ⟨z, h, hz⟩ := num_len (zig i)
  unfold int; omega
theorem flat_pos {α : Type} (f : α → Bits) (hf : ∀ x, 1 ≤ (f x).length) : ∀ l : List α, l.length ≤ (l.map f).flatten.length
  | [] => by simp
  | x :: l => by
    have := flat_pos f hf l
    have := hf x
    simp only [List.map_cons, List.flatten_cons, List.length_append, List.length_cons]
    omega
theorem many_ints_le {k : Nat} {l t : Bits} {xs : List Int} (h : manyP intP k l = .inl (xs, t)) : k ≤ l.length := by
  obtain ⟨⟨h1, _⟩, h2⟩ := (good_int.many k).sound _ _ _ h
  have := flat_pos int int_pos xs
  rw [h2, List.length_append]; omega
theorem loop_ints_le {n : Nat} {s : St} {k M : Nat} {xs : List Int} {u : Bits} (h : LoopP intP n s k xs (.inl u)) (hs : ∀ l, s = .inl l → l.length ≤ M) : k ≤ M := by
  cases s with
  | inr e => cases h
  | inl l =>
    rcases h with ⟨t, _, hm, _⟩ | ⟨e, _, h⟩
    · exact Nat.le_trans (many_ints_le hm) (hs l rfl)
    · cases h
end Bts
theorem Bts.int_rng (s : Bts.St) : Bts.i64 (Bts.runS Bts.intP 0 s).1 := by
  cases s with
  | inr e => show Bts.i64 0; exact ⟨by omega, by omega⟩
  | inl l =>
    simp only [Bts.runS, Bts.intP, Bts.mapP]
    cases Bts.numP l with
    | inl y => exact Bts.unzig_range _
    | inr e => show Bts.i64 0; exact ⟨by omega, by omega⟩
theorem RdS.bits {ok : Nat → Prop} {w : World} {g : Nat} {b : List (BitVec 8)} {s : Bts.St} (h : RdS ok w g b s) : ∀ u, s = .inl u → u.length ≤ 8 * b.length := by
  rintro u rfl
  obtain ⟨r, _, h⟩ := h
  exact Bts.isS_len h
theorem RdS.nz {ok : Nat → Prop} {w : World} {g : Nat} {b : List (BitVec 8)} {s : Bts.St} (h : RdS ok w g b s) : ∀ e, s = .inr e → e ≠ 0 := by
  rintro e rfl
  obtain ⟨r, _, h⟩ := h
  exact h.1
theorem bits_Fail0S {ok : Nat → Prop} (g : Nat) (b : List (BitVec 8)) (s : Bts.St) (w : World) (hr : RdS ok w g b s) :
    Calls Tryd.prog 36 #[.pointer (some ⟨g, 0, none⟩), .int .i64 0] w fun x w' => x = .returned (.tuple #[]) ∧ RdS ok w' g b s ∧ Only (· = g) w w' := by
  obtain ⟨r, h, hs⟩ := hr
  refine (bits_Fail g b r 0 w h (by decide)).mono ?_
  rintro x w' ⟨rfl, h3, h4⟩
  exact ⟨rfl, ⟨_, h3, Bts.failed0_S hs⟩, h4⟩

namespace Sc
open Bts
theorem go_conf {s0 s1 s2 : St} {vs : List (BitVec 64)} {sd : BitVec 64} (h1 : Go (manyP numP 15) s0 vs s1) (h2 : Go (getP 64) s1 sd s2) :
    Go confP s0 (ofRaw (vs, sd)) (if check (ofRaw (vs, sd)) = 0 then s2 else failS s2 (check (ofRaw (vs, sd)))) :=
  go_map ofRaw (go_filtE (fun x => check (ofRaw x)) (go_bind (q := fun _ => getP 64) h1 h2))
theorem go_step {s0 s1 s2 s3 s4 s5 : St} {a b c : Int} {n : BitVec 64} {xs : List Int} (h1 : Go intP s0 a s1) (h2 : Go intP s1 b s2) (h3 : Go intP s2 c s3) (h4 : Go numP s3 n s4) (h5 : Go (manyP intP n.toNat) s4 xs s5) :
    Go stepP s0 (a, b, c, xs) s5 := by
  have a4 : Go (bindP numP (fun n => manyP intP n.toNat)) s3 (n, xs) s5 := go_bind (q := fun n => manyP intP n.toNat) h4 h5
  have a3 : Go (bindP intP (fun _ => bindP numP (fun n => manyP intP n.toNat))) s2 (c, n, xs) s5 := go_bind (q := fun _ => bindP numP (fun n => manyP intP n.toNat)) h3 a4
  have a2 : Go (bindP intP (fun _ => bindP intP (fun _ => bindP numP (fun n => manyP intP n.toNat)))) s1 (b, c, n, xs) s5 := go_bind (q := fun _ => bindP intP (fun _ => bindP numP (fun n => manyP intP n.toNat))) h2 a3
  have a1 : Go (bindP intP (fun _ => bindP intP (fun _ => bindP intP (fun _ => bindP numP (fun n => manyP intP n.toNat))))) s0 (a, b, c, n, xs) s5 := go_bind (q := fun _ => bindP intP (fun _ => bindP intP (fun _ => bindP numP (fun n => manyP intP n.toNat)))) h1 a2
  exact go_map _ a1
theorem go_dec {s0 s1 s2 s3 : St} {c : Conf} {n : BitVec 64} {l : List Step} (h1 : Go confP s0 c s1) (h2 : Go (filtP (fun n => decide (n.toNat ≤ 20000)) 4 numP) s1 n s2) (h3 : Go (manyP stepP n.toNat) s2 l s3) :
    Go decP s0 (c, l) s3 := by
  have a2 : Go (bindP (filtP (fun n => decide (n.toNat ≤ 20000)) 4 numP) (fun n => manyP stepP n.toNat)) s1 (n, l) s3 := go_bind (q := fun n => manyP stepP n.toNat) h2 h3
  have a1 : Go (bindP confP (fun _ => bindP (filtP (fun n => decide (n.toNat ≤ 20000)) 4 numP) (fun n => manyP stepP n.toNat))) s0 (c, n, l) s3 := go_bind (q := fun _ => bindP (filtP (fun n => decide (n.toNat ≤ 20000)) 4 numP) (fun n => manyP stepP n.toNat)) h1 a2
  exact go_map _ a1
theorem cf_snoc (l : List Int) (y : Int) (s : BitVec 64) (i : Nat) : cf (l ++ [y], s) i = if i = l.length then y else cf (l, s) i := by
  simp only [cf, List.getD]
  split
  · rename_i h; subst h; simp
  · rename_i h
    by_cases hl : i < l.length
    · rw [List.getElem?_append_left hl]
    · rw [List.getElem?_eq_none (by simp; omega), List.getElem?_eq_none (by omega)]
end Sc
theorem conf_set (ys : List Int) (s : BitVec 64) (y : Int) (h : ys.length < 15) : (confCells (ys, s)).setIfInBounds (fo ys.length) (.int .i64 y) = confCells (ys ++ [y], s) := by
  obtain ⟨n, hn⟩ : ∃ n, n = ys.length := ⟨_, rfl⟩
  rw [← hn] at h ⊢
  have e : n = 0 ∨ n = 1 ∨ n = 2 ∨ n = 3 ∨ n = 4 ∨ n = 5 ∨ n = 6 ∨ n = 7 ∨ n = 8 ∨ n = 9 ∨ n = 10 ∨ n = 11 ∨ n = 12 ∨ n = 13 ∨ n = 14 := by omega
  unfold confCells
  simp only [Sc.cf_snoc, ← hn]
  rcases e with rfl | rfl | rfl | rfl | rfl | rfl | rfl | rfl | rfl | rfl | rfl | rfl | rfl | rfl | rfl <;> rfl
theorem conf_seed (ys : List Int) (s t : BitVec 64) : (confCells (ys, s)).setIfInBounds 9 (.int .u64 (bv t)) = confCells (ys, t) := rfl
theorem conf_one (c : Sc.Conf) : (confCells c).all (·.oneCell') = true := by
  simp [confCells, Value.oneCell']
def zeroConf : Array Value := confCells ([], 0#64)
theorem zero_conf : zeroConf = confCells Sc.zeroC := rfl

/-- what a decoder of scripts tells -/
def ScrPost (B : Nat) (r : Sc.Conf × List Sc.Step × Int) (w : World) (e : Ending) (w' : World) : Prop :=
  ∃ aL cL, e = .returned (.tuple #[.agg (confCells r.1), .slice aL r.2.1.length cL, .int .i64 r.2.2]) ∧ r.2.1.length ≤ cL ∧ cL ≤ maxLen ∧ Sl EStp (fun b => B ≤ b) w' aL r.2.1 ∧ Below B w w'

theorem ti_sints : ElemInfo Tryd.prog 56 3 EInt.sz 8 := ElemInfo.mk' (z := .int .i64 0) Tryd.underlying56 (by kernel_rfl) rfl (by decide)
theorem Own.onlyI {te : TypeId} {base : Nat} {w w' : World} {v : Value} {l : List Int} {S : Nat → Prop} (h : Own EInt te base w v l) (ho : Only S w w') (hS : ∀ k, S k → k < base) : Own EInt te base w' v l := by
  rcases h with h | ⟨g, cap, cur, hv, hg, hh, h1, h2, h3, h4⟩
  · exact .inl h
  · refine .inr ⟨g, cap, cur, hv, hg, by rw [ho.block g (Array.getElem?_eq_some_iff.1 hh).1 (fun hs => by have := hS g hs; omega)]; exact hh, h1, h2, h3, fun k y hk => ?_⟩
    obtain ⟨cs, hr, hc⟩ := h4 k y hk
    exact ⟨cs, hr, hc⟩
theorem Own.slI {te : TypeId} {base : Nat} {w : World} {a : Option Addr} {n c : Nat} {l : List Int} (h : Own EInt te base w (.slice a n c) l) : Sl EInt (fun b => base ≤ b) w a l := by
  rcases h with ⟨h0, rfl⟩ | ⟨g, cap, cur, hv, hg, hh, h1, h2, h3, h4⟩
  · exact Sl.nil _ _ _ _
  · injection hv with e1 e2 e3
    subst e1
    intro k x hx
    obtain ⟨cs, hr, hc⟩ := h4 k x hx
    refine ⟨g, 0, rfl, hg, cs, hr, fun j v hj => ?_⟩
    have := hc j v hj
    simp [World.cell?, hh]
    exact this
/-- a step that was read, behind those that were read -/
theorem stp_item {G base : Nat} {w0 w1 : World} {tt : TypeId} {aL aK : Option Addr} {k cL cK : Nat} {ts : List Sc.Step} {x y z : Int} {xs : List Int} {S : Nat → Prop}
    (h : Own (EIn G EStp) tt G w0 (.slice aL k cL) ts) (ho : Only S w0 w1) (hS : ∀ q, S q → q < G) (hG : G ≤ w0.heap.size) (hbase : w0.heap.size ≤ base)
    (hx : Bts.i64 x) (hy : Bts.i64 y) (hz : Bts.i64 z) (hk : Own EInt 3 base w1 (.slice aK xs.length cK) xs) (hc : xs.length ≤ cK) (hm : cK ≤ maxLen) (t2 : TypeId) :
    Own (EIn G EStp) tt G (w1.alloc (.cells #[.int .i64 x, .int .i64 y, .int .i64 z, .slice aK xs.length cK] t2)) (.slice aL k cL) ts ∧
    Sl (EIn G EStp) (fun b => some b ≠ (Value.slice aL k cL).ownBlock) (w1.alloc (.cells #[.int .i64 x, .int .i64 y, .int .i64 z, .slice aK xs.length cK] t2)) (some ⟨w1.heap.size, 0, none⟩) [(x, y, z, xs)] := by
  have h2 := h.in_only ho hS hS
  have hb : Below w1.heap.size w1 (w1.alloc (.cells #[.int .i64 x, .int .i64 y, .int .i64 z, .slice aK xs.length cK] t2)) := (Below.refl _ _).alloc (Nat.le_refl _) _
  have hlt := fun q (e : (Value.slice aL k cL).ownBlock = some q) => (h.lt q e).2
  have hs : w0.heap.size ≤ w1.heap.size := ho.size
  refine ⟨h2.below hb, sl_one (heap_alloc_new w1 _) ⟨[.int .i64 x], _, rfl, ⟨rfl, hx⟩, [.int .i64 y], _, rfl, ⟨rfl, hy⟩, [.int .i64 z], [.slice aK xs.length cK], rfl, ⟨rfl, hz⟩, aK, cK, rfl, hc, hm, ?_⟩ (fun e => by have := hlt _ e.symm; omega)⟩
  exact hk.slI.mono (by decide) fun q hq hl => ⟨hb.block q hl, fun e => by have := hlt _ e.symm; omega, by omega⟩
/-- what is owned, as it is read: all of it lies from a block on -/
theorem Own.sl_in {α : Type} {E : Enc α} {B B' : Nat} {te : TypeId} {base : Nat} {w : World} {a : Option Addr} {n c : Nat} {l : List α} (h : Own (EIn B E) te base w (.slice a n c) l) (h1 : B' ≤ B) (h2 : B' ≤ base) : Sl E (fun b => B' ≤ b) w a l := by
  rcases h with ⟨h0, rfl⟩ | ⟨g, cap, cur, hv, hg, hh, k1, k2, k3, k4⟩
  · exact Sl.nil _ _ _ _
  · injection hv with e1 e2 e3
    subst e1
    intro k x hx
    obtain ⟨cs, hr, hc⟩ := k4 k x hx
    refine ⟨g, 0, rfl, by omega, cs, E.mono (w' := w) hr fun q hq _ => ⟨rfl, by have := hq.2; omega⟩, fun j v hj => ?_⟩
    have := hc j v hj
    simp [World.cell?, hh]
    exact this

end Go.Proofs.YtdpopdgeipgheaaDoor

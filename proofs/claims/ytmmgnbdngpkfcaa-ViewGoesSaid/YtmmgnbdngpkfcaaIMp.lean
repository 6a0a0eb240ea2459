/-
  append onto what the call owns: either it stays in its block, or all that was there stays.
  Bits as lists of noughts and ones: how numbers are written, packed into bytes, read.
  What comes in, read as data: from the form's own reading ('trod') to the encodings of Mem; how much it holds ('bulk').
  Bytes: how they come in, how the document's code compares and copies them.
  The writer of bits, as memory: how 'Put' writes.
  A map from ints that the call itself made: what lies at which key; made, read, stored into, struck.
-/
import Derived.Test.YtmmgnbdngpkfcaaMem
import Derived.Test.YtmmgnbdngpkfcaaVwC
import Derived.Lib.BitFns
import Derived.Test.YtmmgnbdngpkfcaaRows
import Derived.ProofKit
import Derived.OpenShut
import Derived.Maps.OwnSet
import Derived.Maps.OwnOps
namespace Go.Proofs.Ytmmgnbdngpkfcaa
open Go.RowKit
set_option linter.unusedVariables false

section
variable {P : Program} {w : World} {ops : Array Oper} {rest : List Oper} {o : Oper} {a : Act} {Q : Exit → Act → World → Prop}

end

end Go.Proofs.Ytmmgnbdngpkfcaa

namespace Go.Proofs.Ytmmgnbdngpkfcaa.Bts
set_option linter.unusedVariables false

abbrev Bits := List Bool
/-- a nought or a one, as a byte -/
def bt (b : Bool) : BitVec 8 := if b then 1#8 else 0#8
/-- the lowest m bits of a number, the highest of them first -/
def low (x : BitVec 64) : Nat → Bits
  | 0 => []
  | m + 1 => x.getLsbD m :: low x m
def clamp (n : Int) : Nat := (min (max n 0) 64).toNat
def zeros (n : Nat) : Bits := List.replicate n false
def put (x : BitVec 64) (n : Int) : Bits := low x (clamp n)

/-! numbers -/
def len (x : Nat) : Nat := Lib.bitLen x
def num (x : BitVec 64) : Bits := if x = BitVec.allOnes 64 then zeros 64 ++ ([true] ++ zeros 64) else zeros (len (x + 1#64).toNat - 1) ++ low (x + 1#64) (len (x + 1#64).toNat)
def zig (i : Int) : BitVec 64 := if i < 0 then BitVec.ofInt 64 (-(i + 1)) * 2#64 + 1#64 else BitVec.ofInt 64 i * 2#64
def int (i : Int) : Bits := num (zig i)
end Go.Proofs.Ytmmgnbdngpkfcaa.Bts

namespace Go.Proofs.Ytmmgnbdngpkfcaa
open Go.RowKit Go.ChangeShapes Go.WideShapes Go.ChangeAt
set_option linter.unusedVariables false

/-- what type t reads as; m: how much it holds at least -/
def Reads {α : Type} (P : Program) (t : TypeId) (E : Enc α) (m : α → Nat) : Prop :=
  ∀ {H : Type} {enc : TypeId × Value → H} {w : World} {fuel : Nat} {cs : List Value} {d : DataW H} {ps : List MemPlace},
    DataW.trod enc P w 0 (fun _ => true) true fuel t cs = some (d, ps) → ∃ x, E.rep (fun _ => True) w cs x ∧ m x ≤ Rows.uptoBulk d

theorem bulk_pos {H : Type} (d : DataW H) : 1 ≤ Rows.uptoBulk d := by
  cases d with
  | lit l => cases l <;> simp [Rows.uptoBulk]
  | nil => simp [Rows.uptoBulk]
  | ptr d => simp [Rows.uptoBulk]
  | slice elems spare => simp [Rows.uptoBulk]
  | agg parts => simp [Rows.uptoBulk]
  | iface t d => simp [Rows.uptoBulk]
  | map entries => simp [Rows.uptoBulk]
  | held h => simp [Rows.uptoBulk]

theorem reads_int {P : Program} {t : TypeId} (h : P.underlying t = some (.int .i64)) : Reads P t EInt (fun _ => 1) := by
  intro H enc w fuel cs d ps hd
  obtain ⟨n, rfl, hx, hw⟩ := DataW.trod_int h hd
  refine ⟨n, ⟨rfl, ?_⟩, bulk_pos _⟩
  simp [Lit.wf, IntKind.min, IntKind.max, IntKind.signed, IntKind.bits] at hw
  exact hw

/-- how much a list holds -/
def bulkL {α : Type} (m : α → Nat) : List α → Nat
  | [] => 1
  | x :: r => m x + bulkL m r
theorem bulk_list {H α : Type} {m : α → Nat} : ∀ (l : List α) (ds : List (DataW H)), l.length = ds.length → (∀ (k : Nat) (x : α) (d : DataW H), l[k]? = some x → ds[k]? = some d → m x ≤ Rows.uptoBulk d) → bulkL m l ≤ Rows.uptoBulkAll ds + 1
  | [], [], _, _ => by simp [bulkL, Rows.uptoBulkAll]
  | x :: l, d :: ds, hl, h => by
    have h0 := h 0 x d rfl rfl
    have ih := bulk_list l ds (by simpa using hl) (fun k x d h1 h2 => h (k + 1) x d (by simpa using h1) (by simpa using h2))
    simp only [bulkL, Rows.uptoBulkAll]; omega
  | [], _ :: _, hl, _ => by simp at hl
  | _ :: _, [], hl, _ => by simp at hl

theorem reads_slice {α : Type} {P : Program} {t e : TypeId} {E : Enc α} {m : α → Nat} (hs : 0 < E.sz) (h : P.underlying t = some (.slice e)) (hc : P.cellsOf e = E.sz) (he : Reads P e E m) : Reads P t (ESlice E hs) (bulkL m) := by
  intro H enc w fuel cs d ps hd
  rcases DataW.trod_slice h hd with ⟨rfl, hx⟩ | ⟨a, len, cap, elems, rest, n, _, rfl, hx, hb, hl, hm, hlen, hel, hsp, hns⟩
  · exact ⟨[], ⟨none, 0, rfl, Nat.le_refl _, Nat.zero_le _, Sl.nil _ _ _ _⟩, by simp only [bulkL]; exact bulk_pos _⟩
  · have each : ∀ i : Fin len, ∃ x, (∃ cs', w.cells? 0 (a.add (i * E.sz)) E.sz = some cs' ∧ E.rep (fun _ => True) w cs' x) ∧ ∀ y, elems[(i : Nat)]? = some y → m x ≤ Rows.uptoBulk y.1 := fun i => by
      have h1 := hel i i.2
      rw [hc] at h1
      have h2 : elems[(i : Nat)]? = some elems[(i : Nat)] := List.getElem?_eq_getElem (by omega)
      rw [h2, Option.bind_eq_some_iff] at h1
      obtain ⟨cs', e1, e2⟩ := h1
      obtain ⟨x, hr, hmx⟩ := he e2
      exact ⟨x, ⟨cs', e1, hr⟩, fun y hy => by rw [h2] at hy; injection hy with hy; rw [← hy]; exact hmx⟩
    let f : Fin len → α := fun i => Classical.choose (each i)
    have hf : ∀ i : Fin len, (∃ cs', w.cells? 0 (a.add (i * E.sz)) E.sz = some cs' ∧ E.rep (fun _ => True) w cs' (f i)) ∧ ∀ y, elems[(i : Nat)]? = some y → m (f i) ≤ Rows.uptoBulk y.1 := fun i => Classical.choose_spec (each i)
    refine ⟨List.ofFn f, ⟨some a, cap, by simp, by simpa using hl, hm, ?_⟩, ?_⟩
    · intro k x hk
      have hkl : k < len := by have := (List.getElem?_eq_some_iff.1 hk).1; simpa using this
      have hx' : x = f ⟨k, hkl⟩ := by simp [hkl] at hk; exact hk.symm
      subst hx'
      obtain ⟨⟨cs', e1, hr⟩, _⟩ := hf ⟨k, hkl⟩
      obtain ⟨_, hln, hcl⟩ := World.cells?_some e1
      obtain ⟨b, o, sp⟩ := a
      have hspot : sp = none := by
        have h00 : 0 < len := by omega
        obtain ⟨⟨cs0, e0, hr0⟩, _⟩ := hf ⟨0, h00⟩
        obtain ⟨_, hln0, hcl0⟩ := World.cells?_some e0
        have h0 := hcl0 0 hs
        have h0' : cs0[0]? = some cs0[0] := List.getElem?_eq_getElem (by omega)
        rw [h0'] at h0
        simp [Addr.add] at h0
        simpa using World.cell?_spot h0
      subst hspot
      refine ⟨b, o, rfl, trivial, cs', hr, fun j v hj => ?_⟩
      have hjl : j < E.sz := by rw [← hln]; exact (List.getElem?_eq_some_iff.1 hj).1
      have := hcl j hjl
      rw [hj] at this
      simpa [Addr.add_lit, Nat.add_assoc] using this
    · injection hx with hx1 _
      rw [hx1]
      simp only [Rows.uptoBulk]
      have := bulk_list (m := m) (List.ofFn f) (elems.map (·.1)) (by simp [hlen]) (fun k x d h1 h2 => by
        have hkl : k < len := by have := (List.getElem?_eq_some_iff.1 h1).1; simpa using this
        have hx' : x = f ⟨k, hkl⟩ := by simp [hkl] at h1; exact h1.symm
        subst hx'
        rw [List.getElem?_map, Option.map_eq_some_iff] at h2
        obtain ⟨y, hy, rfl⟩ := h2
        exact (hf ⟨k, hkl⟩).2 y hy)
      omega

/-- fields, one behind the other, from a place on -/
def FieldsRead {α : Type} (P : Program) (fs : List Field) (off : Nat) (E : Enc α) (m : α → Nat) : Prop :=
  ∀ {H : Type} {enc : TypeId × Value → H} {w : World} {fuel : Nat} {cs : List Value} {xs : List (DataW H × List MemPlace)}, cs.length = off + E.sz →
    (fs.mapM fun f => DataW.trod enc P w 0 (fun _ => true) true fuel f.type ((cs.drop f.offset).take (P.cellsOf f.type))) = some xs → ∃ x, E.rep (fun _ => True) w (cs.drop off) x ∧ m x ≤ Rows.uptoBulkAll (xs.map (·.1)) + 1

theorem fields_one {α : Type} {P : Program} {f : Field} {off : Nat} {E : Enc α} {m : α → Nat} (ho : f.offset = off) (hc : P.cellsOf f.type = E.sz) (hr : Reads P f.type E m) : FieldsRead P [f] off E m := by
  intro H enc w fuel cs xs hl h
  simp only [List.mapM_cons, List.mapM_nil, Option.bind_eq_bind, Option.bind_eq_some_iff, Option.pure_def, Option.some.injEq] at h
  obtain ⟨y, h1, z, rfl, rfl⟩ := h
  rw [ho, hc, List.take_of_length_le (by simp; omega)] at h1
  obtain ⟨x, hx, hm⟩ := hr h1
  exact ⟨x, hx, by simp only [List.map_cons, List.map_nil, Rows.uptoBulkAll]; omega⟩

theorem fields_cons {α β : Type} {P : Program} {f : Field} {fs : List Field} {off : Nat} {A : Enc α} {B : Enc β} {m : α → Nat} {n : β → Nat} (ho : f.offset = off) (hc : P.cellsOf f.type = A.sz) (hr : Reads P f.type A m) (hrest : FieldsRead P fs (off + A.sz) B n) :
    FieldsRead P (f :: fs) off (EPair A B) (fun x => m x.1 + n x.2) := by
  intro H enc w fuel cs xs hl h
  simp only [EPair] at hl
  simp only [List.mapM_cons, Option.bind_eq_bind, Option.bind_eq_some_iff, Option.pure_def, Option.some.injEq] at h
  obtain ⟨y, h1, z, h2, rfl⟩ := h
  rw [ho, hc] at h1
  obtain ⟨x, hx, hm⟩ := hr h1
  obtain ⟨x2, hx2, hm2⟩ := hrest (by omega) h2
  refine ⟨(x, x2), ⟨_, _, ?_, hx, hx2⟩, by simp only [List.map_cons, Rows.uptoBulkAll]; omega⟩
  rw [← List.drop_drop, List.take_append_drop]

theorem reads_struct {α : Type} {P : Program} {t : TypeId} {fs : Array Field} {E : Enc α} {m : α → Nat} (h : P.underlying t = some (.struct fs)) (hc : P.cellsOf t = E.sz) (hr : FieldsRead P fs.toList 0 E m) : Reads P t E m := by
  intro H enc w fuel cs d ps hd
  cases fuel with
  | zero => simp [DataW.trod] at hd
  | succ n =>
    unfold DataW.trod at hd
    rw [h] at hd
    simp only at hd
    split at hd
    · rename_i hlen
      rw [Option.map_eq_some_iff] at hd
      obtain ⟨xs, h1, h2⟩ := hd
      obtain ⟨x, hx, hm⟩ := hr (by omega) h1
      injection h2 with h2 _
      refine ⟨x, by simpa using hx, ?_⟩
      rw [← h2]; simp only [Rows.uptoBulk]; exact hm
    · cases hd

theorem slice_rep {α : Type} {E : Enc α} {hs : 0 < E.sz} {ok : Nat → Prop} {w : World} {a : Option Addr} {n c : Nat} {l : List α} (h : (ESlice E hs).rep ok w [.slice a n c] l) : n = l.length ∧ l.length ≤ c ∧ c ≤ maxLen ∧ Sl E ok w a l := by
  obtain ⟨a', c', e, h1, h2, h3⟩ := h
  simp only [List.cons.injEq, Value.slice.injEq, and_true] at e
  obtain ⟨rfl, rfl, rfl⟩ := e
  exact ⟨rfl, h1, h2, h3⟩

/-- an unsigned number that came in, as bits -/
theorem open_bv {n : Nat} {k : IntKind} {i : Int} (hw : (Lit.int k i).wf = true) (h : (k = .u8 ∧ n = 8) ∨ (k = .u16 ∧ n = 16) ∨ (k = .u32 ∧ n = 32) ∨ (k = .u64 ∧ n = 64)) : ∃ x : BitVec n, i = bv x := by
  refine ⟨BitVec.ofInt n i, ?_⟩
  rcases h with ⟨rfl, rfl⟩ | ⟨rfl, rfl⟩ | ⟨rfl, rfl⟩ | ⟨rfl, rfl⟩
  · simp [Lit.wf, IntKind.min, IntKind.max, IntKind.signed, IntKind.bits] at hw; rw [← wrap8, IntWalk.u8_in i hw]
  · simp [Lit.wf, IntKind.min, IntKind.max, IntKind.signed, IntKind.bits] at hw; rw [← wrap16, IntWalk.u16_in i hw]
  · simp [Lit.wf, IntKind.min, IntKind.max, IntKind.signed, IntKind.bits] at hw; rw [← wrap32, IntWalk.u32_in i hw]
  · simp [Lit.wf, IntKind.min, IntKind.max, IntKind.signed, IntKind.bits] at hw; rw [← wrap64u, IntWalk.u64_in i hw]
theorem open_i64 {i : Int} (hw : (Lit.int .i64 i).wf = true) : -9223372036854775808 ≤ i ∧ i ≤ 9223372036854775807 := by
  simp [Lit.wf, IntKind.min, IntKind.max, IntKind.signed, IntKind.bits] at hw; exact hw
end Go.Proofs.Ytmmgnbdngpkfcaa

namespace Go.Proofs.Ytmmgnbdngpkfcaa
open Go.RowKit
set_option linter.unusedVariables false

set_option maxHeartbeats 400000 in
theorem ref_Same (a1 a2 : Option Addr) (n1 n2 c1 c2 : Nat) (l m : List (BitVec 8)) (w : World) (hs : RB w a1 n1 l) (ht : RB w a2 n2 m) :
    Calls Try.prog 58 #[.slice a1 n1 c1, .slice a2 n2 c2] w fun e w' => e = .returned (.bool (l == m)) ∧ w = w' := by
  go_enter Try.func58, Try.ntmps58
  go_wp2_with (first
    | (refine wpList_tostr rfl rfl rfl Try.underlying49 Try.underlying5 Try.underlying9 hs.1 hs.2 ?_)
    | (refine wpList_tostr rfl rfl rfl Try.underlying49 Try.underlying5 Try.underlying9 ht.1 ht.2 ?_))
  go_ret
  exact ⟨rfl, rfl⟩

end Go.Proofs.Ytmmgnbdngpkfcaa

namespace Go.Proofs.Ytmmgnbdngpkfcaa
open Go.RowKit
set_option linter.unusedVariables false

/-- but for certain blocks, all that was there stays -/
structure Only (S : Nat → Prop) (w w' : World) : Prop where
  os : w'.os = w.os
  tape : w'.tape = w.tape
  output : w'.output = w.output
  size : w.heap.size ≤ w'.heap.size
  block : ∀ k, k < w.heap.size → ¬ S k → w'.heap[k]? = w.heap[k]?
theorem Only.refl (S : Nat → Prop) (w : World) : Only S w w := ⟨rfl, rfl, rfl, Nat.le_refl _, fun _ _ _ => rfl⟩
theorem Only.trans {S T : Nat → Prop} {w w1 w2 : World} (h : Only S w w1) (h2 : Only T w1 w2) (hT : ∀ k, k < w.heap.size → T k → S k) : Only S w w2 :=
  ⟨h2.os.trans h.os, h2.tape.trans h.tape, h2.output.trans h.output, Nat.le_trans h.size h2.size, fun k hk hn => (h2.block k (Nat.lt_of_lt_of_le hk h.size) fun ht => hn (hT k hk ht)).trans (h.block k hk hn)⟩
theorem Only.below {S : Nat → Prop} {w w' : World} {B : Nat} (h : Only S w w') (hB : B ≤ w.heap.size) (hS : ∀ k, S k → B ≤ k) : Below B w w' :=
  ⟨h.os, h.tape, h.output, h.size, fun k hk => h.block k (by omega) fun hs => by have := hS k hs; omega⟩
theorem Below.only {S : Nat → Prop} {w w' : World} (h : Below w.heap.size w w') : Only S w w' := ⟨h.os, h.tape, h.output, h.size, fun k hk _ => h.block k hk⟩
theorem Only.mono {S T : Nat → Prop} {w w' : World} (h : Only S w w') (hS : ∀ k, S k → T k) : Only T w w' := ⟨h.os, h.tape, h.output, h.size, fun k hk hn => h.block k hk fun hs => hn (hS k hs)⟩
theorem Only.setCell {S : Nat → Prop} {w w' : World} (h : Only S w w') {p : Addr} (hp : S p.block ∨ w.heap.size ≤ p.block) (u : Value) : Only S w (w'.setCell p u) :=
  ⟨h.os, h.tape, h.output, by simpa [World.setCell] using h.size, fun k hk hn => by
    rw [Below.heap_setCell _ _ _ _ (fun e => by subst e; rcases hp with hp | hp; exact hn hp; omega)]; exact h.block k hk hn⟩

/-- what a writer's call may turn -/
structure Wrote (g : Nat) (v : Value) (w : World) (v' : Value) (w' : World) : Prop where
  only : Only (fun k => k = g ∨ v.ownBlock = some k) w w'
  own : v'.ownBlock = v.ownBlock ∨ ∃ h, v'.ownBlock = some h ∧ w.heap.size ≤ h
theorem Wrote.refl (g : Nat) (v : Value) (w : World) : Wrote g v w v w := ⟨Only.refl _ _, .inl rfl⟩
theorem Wrote.trans {g : Nat} {v v1 v2 : Value} {w w1 w2 : World} (h : Wrote g v w v1 w1) (h2 : Wrote g v1 w1 v2 w2) : Wrote g v w v2 w2 := by
  refine ⟨h.only.trans h2.only fun k hk ht => ?_, ?_⟩
  · rcases ht with ht | ht
    · exact .inl ht
    · rcases h.own with e | ⟨b, e, hb⟩
      · exact .inr (by rw [← e]; exact ht)
      · rw [e] at ht; injection ht with ht; omega
  · rcases h2.own with e | ⟨b, e, hb⟩
    · rcases h.own with e2 | ⟨b, e2, hb⟩
      · exact .inl (e.trans e2)
      · exact .inr ⟨b, e.trans e2, hb⟩
    · exact .inr ⟨b, e, Nat.le_trans h.only.size hb⟩

theorem i64_and7 (n : Int) : bits .and .i64 n 7 = n % 8 := by
  have h : bits .and .i64 n 7 = IntKind.i64.wrap ((BitVec.ofInt 64 n &&& BitVec.ofInt 64 7).toNat : Int) := rfl
  rw [h]
  have : (BitVec.ofInt 64 n &&& BitVec.ofInt 64 7).toNat = (BitVec.ofInt 64 n).toNat % 8 := by
    rw [BitVec.toNat_and]
    exact Nat.and_two_pow_sub_one_eq_mod _ 3
  rw [this, BitVec.toNat_ofInt, IntKind.wrap_i64]
  omega
attribute [go_sem] i64_and7

end Go.Proofs.Ytmmgnbdngpkfcaa

namespace Go.Proofs.Ytmmgnbdngpkfcaa
open Go.RowKit
open Go.Maps (Keyed)
set_option linter.unusedVariables false

def heldR (v : Value) : Option (DataW Value × List MemPlace) := some (.held v, [])
theorem heldR_inv {v : Value} {d : DataW Value} {ps : List MemPlace} (h : heldR v = some (d, ps)) : d = .held v ∧ ps = [] := by
  simp only [heldR, Option.some.injEq, Prod.mk.injEq] at h
  exact ⟨h.1.symm, h.2.symm⟩
theorem held_inj {v v' : Value} (h : DataW.held v = DataW.held v') : v = v' := by cases h; rfl
def i64ok (z : Int) : Prop := -9223372036854775808 ≤ z ∧ z ≤ 9223372036854775807
theorem i64ok.wf {z : Int} (h : i64ok z) : (Lit.int .i64 z).wf = true := by
  unfold i64ok at h
  simp [Lit.wf, IntKind.min, IntKind.max, IntKind.signed, IntKind.bits]; exact h
theorem keyed_int : Keyed Try.prog 3 := Maps.int_keyed Try.underlying3
theorem key_int {z : Int} (h : i64ok z) : keyOf Try.prog 3 (.int .i64 z) = some (.int .i64 z) := Maps.keyOf_int_mk Try.underlying3 h.wf
/-- block b is a map of at most n entries; f tells what lies at which key -/
def IMap (w : World) (b n : Nat) (f : Int → Option Value) : Prop :=
  ∃ D : DataW Value, w.ownsMap Try.prog 3 heldR b n D ∧ (∀ z d, D.atKey (.int .i64 z) d = match f z with | some v => .held v | none => d) ∧ ∀ z, ¬ i64ok z → f z = none
def updM (f : Int → Option Value) (k : Int) (v : Option Value) : Int → Option Value := fun z => if z = k then v else f z
section
variable {w w' : World} {b n : Nat} {f : Int → Option Value}
theorem IMap.lt (h : IMap w b n f) : b < w.heap.size := by
  obtain ⟨D, h1, _⟩ := h
  exact h1.lt
theorem IMap.keep (h : IMap w b n f) (e : w'.heap[b]? = w.heap[b]?) : IMap w' b n f := by
  obtain ⟨D, ⟨es, clock, hb, r⟩, h2⟩ := h
  exact ⟨D, ⟨es, clock, e.trans hb, r⟩, h2⟩
theorem IMap.mono (h : IMap w b n f) {n' : Nat} (hn : n ≤ n') : IMap w b n' f := by
  obtain ⟨D, h1, h2⟩ := h
  exact ⟨D, h1.mono hn, h2⟩
theorem IMap.made (w : World) : IMap (w.alloc (.map #[] 0)) w.heap.size 0 fun _ => none :=
  ⟨.map [], World.ownsMap_made w _ _ _, fun z d => by simp [DataW.atKey], fun _ _ => rfl⟩
theorem IMap.has {D : DataW Value} (h : ∀ z d, D.atKey (.int .i64 z) d = match f z with | some v => .held v | none => d) (z : Int) : Maps.has D (.int .i64 z) = (f z).isSome := by
  cases hf : f z
  · rw [Maps.has_false_of_atKey fun d => by rw [h, hf]]; rfl
  · rename_i v
    rw [Maps.has_true_of_atKey (y := .held v) fun d => by rw [h, hf]]; rfl
theorem IMap.lookup (h : IMap w b n f) {t e : TypeId} (ht : Try.prog.underlying t = some (.map 3 e)) {z : Value} (hz : (zeroValue e).run Try.prog w = .ok z w) {k : Int} (hk : i64ok k) :
    (Instr.lookup t (.map (some b)) (.int .i64 k) false).run Try.prog w = .ok ((f k).getD z) w := by
  obtain ⟨D, h1, h2, _⟩ := h
  obtain ⟨v, ps, hr, hv⟩ := h1.lookup keyed_int ht hz (zd := .held z) (zp := []) rfl (key_int hk)
  obtain ⟨hv, _⟩ := heldR_inv hv
  rw [hr]
  rw [h2] at hv
  cases hf : f k
  · rw [hf] at hv
    rw [← held_inj hv]; rfl
  · rw [hf] at hv
    rw [← held_inj hv]; rfl
theorem IMap.look_ok (h : IMap w b n f) {t e : TypeId} (ht : Try.prog.underlying t = some (.map 3 e)) {z : Value} (hz : (zeroValue e).run Try.prog w = .ok z w) {k : Int} (hk : i64ok k) :
    (Instr.lookup t (.map (some b)) (.int .i64 k) true).run Try.prog w = .ok (.tuple #[(f k).getD z, .bool (f k).isSome]) w := by
  obtain ⟨D, h1, h2, _⟩ := h
  obtain ⟨v, ps, hr, hv⟩ := h1.look_ok keyed_int ht hz (zd := .held z) (zp := []) rfl (key_int hk)
  obtain ⟨hv, _⟩ := heldR_inv hv
  rw [hr, IMap.has h2]
  rw [h2] at hv
  cases hf : f k
  · rw [hf] at hv
    rw [← held_inj hv]; rfl
  · rw [hf] at hv
    rw [← held_inj hv]; rfl
theorem turned_only (h : w.mapTurned w' b) : Only (· = b) w w' := by
  have g := World.mapTurned.grown h
  exact ⟨g.os, g.tape, g.output, g.size, fun k hk hn => g.block k hk fun e => hn (by injection e)⟩
theorem i64_ne {z k : Int} (h : z ≠ k) : Lit.int .i64 z ≠ .int .i64 k := fun e => h (by injection e)
theorem IMap.store (h : IMap w b n f) {t e : TypeId} (ht : Try.prog.underlying t = some (.map 3 e)) (hn : n < maxLen) {k : Int} (hk : i64ok k) (v : Value) :
    ∃ w', (Instr.mapUpdate t (.map (some b)) (.int .i64 k) v).run Try.prog w = .ok () w' ∧ IMap w' b (n + 1) (updM f k (some v)) ∧ Only (· = b) w w' := by
  obtain ⟨D, h1, h2, h3⟩ := h
  obtain ⟨w', hr, g1, g2⟩ := h1.store keyed_int ht hn (key_int hk) (val := v) (d := .held v) (ps := []) rfl
  refine ⟨w', hr, ⟨_, g1, fun z d => ?_, fun z hz => ?_⟩, turned_only g2⟩
  · unfold updM
    by_cases hzk : z = k
    · subst hzk
      rw [Maps.atKey_put_same h1.isMap (keyed_int.key (key_int hk)), if_pos rfl]
    · rw [Maps.atKey_put_other (i64_ne hzk), if_neg hzk, h2]
  · unfold updM
    rw [if_neg (fun e : z = k => hz (by rw [e]; exact hk)), h3 z hz]
theorem IMap.drop (h : IMap w b n f) {t e : TypeId} (ht : Try.prog.underlying t = some (.map 3 e)) {k : Int} (hk : i64ok k) (ty : TypeId) :
    ∃ w', (Builtin.delete_ #[t, 3] ty #[.map (some b), .int .i64 k]).run Try.prog w = .ok (.tuple #[]) w' ∧ IMap w' b n (updM f k none) ∧ Only (· = b) w w' := by
  obtain ⟨D, h1, h2, h3⟩ := h
  obtain ⟨w', hr, g1, g2⟩ := h1.drop keyed_int ht (key_int hk) ty
  refine ⟨w', hr, ⟨_, g1, fun z d => ?_, fun z hz => ?_⟩, turned_only g2⟩
  · unfold updM
    by_cases hzk : z = k
    · subst hzk
      rw [Maps.atKey_del_same, if_pos rfl]
    · rw [Maps.atKey_del_other (i64_ne hzk), if_neg hzk, h2]
  · unfold updM
    split
    · rfl
    · exact h3 z hz
/-- how many keys there are -/
def Card (f : Int → Option Value) (m : Nat) : Prop := ∃ ks : List Int, ks.Nodup ∧ (∀ z, z ∈ ks ↔ (f z).isSome = true) ∧ ks.length = m
theorem nodup_len {α : Type} [DecidableEq α] : ∀ {l l' : List α}, l.Nodup → (∀ x ∈ l, x ∈ l') → l.length ≤ l'.length
  | [], _, _, _ => Nat.zero_le _
  | a :: r, l', h, hs => by
    have h1 := List.nodup_cons.1 h
    have h2 := nodup_len (l := r) (l' := l'.erase a) h1.2 fun x hx => (List.mem_erase_of_ne (fun e : x = a => h1.1 (by rw [← e]; exact hx))).2 (hs x (List.mem_cons_of_mem _ hx))
    have h3 := hs a List.mem_cons_self
    have h4 : 0 < l'.length := List.length_pos_of_mem h3
    rw [List.length_erase_of_mem h3] at h2
    simp only [List.length_cons]
    omega
theorem Card.unique {m m' : Nat} (h : Card f m) (h' : Card f m') : m = m' := by
  obtain ⟨ks, h1, h2, rfl⟩ := h
  obtain ⟨ks', h3, h4, rfl⟩ := h'
  exact Nat.le_antisymm (nodup_len h1 fun x hx => (h4 x).2 ((h2 x).1 hx)) (nodup_len h3 fun x hx => (h2 x).2 ((h4 x).1 hx))
theorem Card.zero : Card (fun _ => none) 0 := ⟨[], List.nodup_nil, fun z => by simp, rfl⟩
theorem own_card {D : DataW Value} (h1 : w.ownsMap Try.prog 3 heldR b n D) (h2 : ∀ z d, D.atKey (.int .i64 z) d = match f z with | some v => .held v | none => d) : Card f (Maps.size D) := by
  obtain ⟨es, clock, hb, F, hs, rfl⟩ := h1
  obtain ⟨L, hL⟩ : ∃ L, L = es.toList.map (WideElems.rg Try.prog 3 heldR) := ⟨_, rfl⟩
  have hap : (L.foldr DataW.insert []).Pairwise (fun p q => p.1 ≠ q.1) := ((WideShapes.sorted_perm _).pairwise_iff (fun {_ _} hne => Ne.symm hne)).2 (by rw [hL]; exact Maps.fit_apart keyed_int F)
  have hke : ∀ p ∈ L.foldr DataW.insert [], ∃ z, i64ok z ∧ p.1 = .int .i64 z := by
    intro p hp
    have hp' := (WideShapes.sorted_perm L).mem_iff.1 hp
    rw [hL] at hp'
    obtain ⟨v, hv⟩ := Maps.fit_keys F p hp'
    have hu : Try.prog.underlying 3 = some (.int .i64) := Try.underlying3
    cases v <;> simp [keyOf, hu, mapKey] at hv
    obtain ⟨⟨rfl, hw⟩, hv⟩ := hv
    refine ⟨_, ?_, hv.symm⟩
    simp [Lit.wf, IntKind.min, IntKind.max, IntKind.signed, IntKind.bits] at hw
    exact hw
  rw [← hL] at h2 ⊢
  obtain ⟨E, hE⟩ : ∃ E, E = L.foldr DataW.insert [] := ⟨_, rfl⟩
  rw [← hE] at hap hke h2 ⊢
  have hint : ∀ l : Lit, ∃ z : Int, ∀ y, l = .int .i64 y → z = y := fun l => by
    by_cases h : ∃ y, l = .int .i64 y
    · obtain ⟨y, rfl⟩ := h
      exact ⟨y, fun y' h => by injection h⟩
    · exact ⟨0, fun y e => absurd ⟨y, e⟩ h⟩
  obtain ⟨zi, hzi⟩ : ∃ zi : Lit → Int, ∀ l y, l = .int .i64 y → zi l = y := ⟨fun l => (hint l).choose, fun l y e => (hint l).choose_spec y e⟩
  refine ⟨E.map fun p => zi p.1, ?_, fun z => ?_, by rw [List.length_map]; rfl⟩
  · refine List.pairwise_map.2 (List.Pairwise.imp_of_mem (fun {p q} hp hq hne => ?_) hap)
    obtain ⟨z1, _, e1⟩ := hke p hp
    obtain ⟨z2, _, e2⟩ := hke q hq
    rw [hzi _ _ e1, hzi _ _ e2]
    rintro rfl
    exact hne (e1.trans e2.symm)
  · rw [← IMap.has h2, Maps.has_eq, List.any_eq_true, List.mem_map]
    constructor
    · rintro ⟨p, hp, rfl⟩
      obtain ⟨z1, h1, e1⟩ := hke p hp
      refine ⟨p, hp, ?_⟩
      rw [hzi _ _ e1, e1]
      exact WideAt.sameKey_self (keyed_int.key (key_int h1))
    · rintro ⟨p, hp, hs⟩
      exact ⟨p, hp, hzi _ _ (WideAt.sameKey_eq hs)⟩
theorem IMap.len (h : IMap w b n f) {t e : TypeId} (ht : Try.prog.underlying t = some (.map 3 e)) (ty : TypeId) :
    ∃ m : Nat, (Builtin.len_ #[t] ty #[.map (some b)]).run Try.prog w = .ok (.int .i64 m) w ∧ Card f m ∧ m ≤ n := by
  obtain ⟨D, h1, h2, h3⟩ := h
  exact ⟨_, h1.len ht ty, own_card h1 h2, h1.size_le⟩
/-- as many entries as keys, and no more -/
theorem IMap.tight {m : Nat} (h : IMap w b n f) (hc : Card f m) : IMap w b m f := by
  obtain ⟨D, h1, h2, h3⟩ := h
  have h4 := own_card h1 h2
  obtain ⟨es, clock, hb, F, hs, hD⟩ := h1
  refine ⟨D, ⟨es, clock, hb, F, ?_, hD⟩, h2, h3⟩
  have e1 : Maps.size D = es.size := by rw [hD]; simp [Maps.size, length_sorted]
  rw [← e1, h4.unique hc]
  exact Nat.le_refl _
/-- keys within a few numbers -/
theorem Card.below {m k : Nat} (h : Card f m) (hk : ∀ z, (f z).isSome = true → 0 ≤ z ∧ z < (k : Int)) : m ≤ k := by
  obtain ⟨ks, h1, h2, rfl⟩ := h
  have := nodup_len h1 (l' := (List.range k).map Int.ofNat) fun x hx => by
    have h3 := hk x ((h2 x).1 hx)
    exact List.mem_map.2 ⟨x.toNat, List.mem_range.2 (by omega), by show ((x.toNat : Nat) : Int) = x; omega⟩
  simpa using this
theorem IMap.card (h : IMap w b n f) : ∃ m, Card f m := by
  obtain ⟨D, h1, h2, h3⟩ := h
  exact ⟨_, own_card h1 h2⟩
theorem IMap.fit {k : Nat} (h : IMap w b n f) (hk : ∀ z, (f z).isSome = true → 0 ≤ z ∧ z < (k : Int)) : IMap w b k f := by
  obtain ⟨m, hm⟩ := h.card
  exact (h.tight hm).mono (hm.below hk)
end
end Go.Proofs.Ytmmgnbdngpkfcaa

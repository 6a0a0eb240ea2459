
/-
  What comes in, read as data: from the form's own reading ('trod') to the encodings of Mem; how much it holds ('bulk').
-/
import Derived.Test.YtmmgnbdngpkfcaaRows
import Derived.Test.YtmmgnbdngpkfcaaMem
import Derived.ProofKit
import Derived.OpenShut
namespace Go.Proofs.Ytmmgnbdngpkfcaa
open Go.RowKit Go.ChangeShapes Go.WideShapes Go.ChangeAt
set_option linter.unusedVariables false

/-- what type t reads as; m: how much it holds at least -/
def Reads {α : Type} (P : Program) (t : TypeId) (E : Enc α) (m : α → Nat) : Prop :=
  ∀ {H : Type} {enc : TypeId × Value → H} {w : World} {fuel : Nat} {cs : List Value} {d : DataW H} {ps : List MemPlace},
    DataW.trod enc P w 0 (fun _ => true) true fuel t cs = some (d, ps) → ∃ x, E.rep (fun _ => True) w cs x ∧ m x ≤ Rows.uptoBulk d

theorem bulk_pos {H : Type} (d : DataW H) : 1 ≤ Rows.uptoBulk d := by
  cases d with
  | lit l => cases l <;> simp [Rows.uptoBulk]
  | nil => simp [Rows.uptoBulk]
  | ptr d => simp [Rows.uptoBulk]
  | slice elems spare => simp [Rows.uptoBulk]
  | agg parts => simp [Rows.uptoBulk]
  | iface t d => simp [Rows.uptoBulk]
  | map entries => simp [Rows.uptoBulk]
  | held h => simp [Rows.uptoBulk]

theorem bulkAll_append {H : Type} (l r : List (DataW H)) : Rows.uptoBulkAll (l ++ r) = Rows.uptoBulkAll l + Rows.uptoBulkAll r := by
  induction l with
  | nil => simp [Rows.uptoBulkAll]
  | cons x l ih => simp only [List.cons_append, Rows.uptoBulkAll, ih]; omega

theorem reads_int {P : Program} {t : TypeId} (h : P.underlying t = some (.int .i64)) : Reads P t EInt (fun _ => 1) := by
  intro H enc w fuel cs d ps hd
  obtain ⟨n, rfl, hx, hw⟩ := DataW.trod_int h hd
  refine ⟨n, ⟨rfl, ?_⟩, bulk_pos _⟩
  simp [Lit.wf, IntKind.min, IntKind.max, IntKind.signed, IntKind.bits] at hw
  exact hw

theorem reads_u8 {P : Program} {t : TypeId} (h : P.underlying t = some (.int .u8)) : Reads P t EU8 (fun _ => 1) := by
  intro H enc w fuel cs d ps hd
  obtain ⟨n, rfl, hx, hw⟩ := DataW.trod_int h hd
  refine ⟨BitVec.ofInt 8 n, ?_, bulk_pos _⟩
  simp [Lit.wf, IntKind.min, IntKind.max, IntKind.signed, IntKind.bits] at hw
  show [Value.int .u8 n] = [Value.int .u8 (bv (BitVec.ofInt 8 n))]
  rw [← wrap8, IntWalk.u8_in n hw]

theorem reads_u64 {P : Program} {t : TypeId} (h : P.underlying t = some (.int .u64)) : Reads P t EU64 (fun _ => 1) := by
  intro H enc w fuel cs d ps hd
  obtain ⟨n, rfl, hx, hw⟩ := DataW.trod_int h hd
  refine ⟨BitVec.ofInt 64 n, ?_, bulk_pos _⟩
  simp [Lit.wf, IntKind.min, IntKind.max, IntKind.signed, IntKind.bits] at hw
  show [Value.int .u64 n] = [Value.int .u64 (bv (BitVec.ofInt 64 n))]
  rw [← wrap64u, IntWalk.u64_in n hw]

theorem reads_bool {P : Program} {t : TypeId} (h : P.underlying t = some .bool) : Reads P t EBool (fun _ => 1) := by
  intro H enc w fuel cs d ps hd
  obtain ⟨n, rfl, hx⟩ := DataW.trod_bool h hd
  exact ⟨n, rfl, bulk_pos _⟩

theorem reads_arr {P : Program} {t e : TypeId} {n : Nat} (h : P.underlying t = some (.array n e)) (he : P.underlying e = some (.int .u8)) (hc : P.cellsOf e = 1) (hct : P.cellsOf t = n) : Reads P t (EArr n) (fun _ => 1) := by
  intro H enc w fuel cs d ps hd
  obtain ⟨xs, m, _, _, hlen, hxl, hel⟩ := DataW.trod_array h hd
  rw [hct] at hlen
  have each : ∀ i : Fin n, ∃ c : BitVec 8, cs[(i : Nat)]? = some (.int .u8 (bv c)) := fun i => by
    have h1 := hel i i.2
    rw [hc, Nat.mul_one] at h1
    obtain ⟨y, hy⟩ : ∃ y, xs[(i : Nat)]? = some y := ⟨xs[(i : Nat)], List.getElem?_eq_getElem (by omega)⟩
    rw [hy] at h1
    obtain ⟨x, hr, _⟩ := reads_u8 he (d := y.1) (ps := y.2) h1
    have hr' : (cs.drop i).take 1 = [.int .u8 (bv x)] := hr
    refine ⟨x, ?_⟩
    have h3 := congrArg (fun l => l[0]?) hr'
    simpa [List.getElem?_take, List.getElem?_drop] using h3
  let f : Fin n → BitVec 8 := fun i => Classical.choose (each i)
  have hf : ∀ i : Fin n, cs[(i : Nat)]? = some (.int .u8 (bv (f i))) := fun i => Classical.choose_spec (each i)
  refine ⟨List.ofFn f, ⟨by simp, ?_⟩, bulk_pos _⟩
  apply List.ext_getElem?
  intro i
  by_cases hi : i < n
  · rw [hf ⟨i, hi⟩]; simp [hi]
  · rw [List.getElem?_eq_none (by omega), List.getElem?_eq_none (by simp; omega)]

/-- how much a list holds -/
def bulkL {α : Type} (m : α → Nat) : List α → Nat
  | [] => 1
  | x :: r => m x + bulkL m r
theorem bulkL_len {α : Type} (m : α → Nat) (hm : ∀ x, 1 ≤ m x) : ∀ l : List α, l.length + 1 ≤ bulkL m l
  | [] => by simp [bulkL]
  | x :: r => by have := bulkL_len m hm r; have := hm x; simp only [bulkL, List.length_cons]; omega

theorem bulk_list {H α : Type} {m : α → Nat} : ∀ (l : List α) (ds : List (DataW H)), l.length = ds.length → (∀ (k : Nat) (x : α) (d : DataW H), l[k]? = some x → ds[k]? = some d → m x ≤ Rows.uptoBulk d) → bulkL m l ≤ Rows.uptoBulkAll ds + 1
  | [], [], _, _ => by simp [bulkL, Rows.uptoBulkAll]
  | x :: l, d :: ds, hl, h => by
    have h0 := h 0 x d rfl rfl
    have ih := bulk_list l ds (by simpa using hl) (fun k x d h1 h2 => h (k + 1) x d (by simpa using h1) (by simpa using h2))
    simp only [bulkL, Rows.uptoBulkAll]; omega
  | [], _ :: _, hl, _ => by simp at hl
  | _ :: _, [], hl, _ => by simp at hl

theorem reads_slice {α : Type} {P : Program} {t e : TypeId} {E : Enc α} {m : α → Nat} (hs : 0 < E.sz) (h : P.underlying t = some (.slice e)) (hc : P.cellsOf e = E.sz) (he : Reads P e E m) : Reads P t (ESlice E hs) (bulkL m) := by
  intro H enc w fuel cs d ps hd
  rcases DataW.trod_slice h hd with ⟨rfl, hx⟩ | ⟨a, len, cap, elems, rest, n, _, rfl, hx, hb, hl, hm, hlen, hel, hsp, hns⟩
  · exact ⟨[], ⟨none, 0, rfl, Nat.le_refl _, Nat.zero_le _, Sl.nil _ _ _ _⟩, by simp only [bulkL]; exact bulk_pos _⟩
  · have each : ∀ i : Fin len, ∃ x, (∃ cs', w.cells? 0 (a.add (i * E.sz)) E.sz = some cs' ∧ E.rep (fun _ => True) w cs' x) ∧ ∀ y, elems[(i : Nat)]? = some y → m x ≤ Rows.uptoBulk y.1 := fun i => by
      have h1 := hel i i.2
      rw [hc] at h1
      have h2 : elems[(i : Nat)]? = some elems[(i : Nat)] := List.getElem?_eq_getElem (by omega)
      rw [h2, Option.bind_eq_some_iff] at h1
      obtain ⟨cs', e1, e2⟩ := h1
      obtain ⟨x, hr, hmx⟩ := he e2
      exact ⟨x, ⟨cs', e1, hr⟩, fun y hy => by rw [h2] at hy; injection hy with hy; rw [← hy]; exact hmx⟩
    let f : Fin len → α := fun i => Classical.choose (each i)
    have hf : ∀ i : Fin len, (∃ cs', w.cells? 0 (a.add (i * E.sz)) E.sz = some cs' ∧ E.rep (fun _ => True) w cs' (f i)) ∧ ∀ y, elems[(i : Nat)]? = some y → m (f i) ≤ Rows.uptoBulk y.1 := fun i => Classical.choose_spec (each i)
    refine ⟨List.ofFn f, ⟨some a, cap, by simp, by simpa using hl, hm, ?_⟩, ?_⟩
    · intro k x hk
      have hkl : k < len := by have := (List.getElem?_eq_some_iff.1 hk).1; simpa using this
      have hx' : x = f ⟨k, hkl⟩ := by simp [hkl] at hk; exact hk.symm
      subst hx'
      obtain ⟨⟨cs', e1, hr⟩, _⟩ := hf ⟨k, hkl⟩
      obtain ⟨_, hln, hcl⟩ := World.cells?_some e1
      obtain ⟨b, o, sp⟩ := a
      have hspot : sp = none := by
        have h00 : 0 < len := by omega
        obtain ⟨⟨cs0, e0, hr0⟩, _⟩ := hf ⟨0, h00⟩
        obtain ⟨_, hln0, hcl0⟩ := World.cells?_some e0
        have h0 := hcl0 0 hs
        have h0' : cs0[0]? = some cs0[0] := List.getElem?_eq_getElem (by omega)
        rw [h0'] at h0
        simp [Addr.add] at h0
        simpa using World.cell?_spot h0
      subst hspot
      refine ⟨b, o, rfl, trivial, cs', hr, fun j v hj => ?_⟩
      have hjl : j < E.sz := by rw [← hln]; exact (List.getElem?_eq_some_iff.1 hj).1
      have := hcl j hjl
      rw [hj] at this
      simpa [Addr.add_lit, Nat.add_assoc] using this
    · injection hx with hx1 _
      rw [hx1]
      simp only [Rows.uptoBulk]
      have := bulk_list (m := m) (List.ofFn f) (elems.map (·.1)) (by simp [hlen]) (fun k x d h1 h2 => by
        have hkl : k < len := by have := (List.getElem?_eq_some_iff.1 h1).1; simpa using this
        have hx' : x = f ⟨k, hkl⟩ := by simp [hkl] at h1; exact h1.symm
        subst hx'
        rw [List.getElem?_map, Option.map_eq_some_iff] at h2
        obtain ⟨y, hy, rfl⟩ := h2
        exact (hf ⟨k, hkl⟩).2 y hy)
      omega

/-- fields, one behind the other, from a place on -/
def FieldsRead {α : Type} (P : Program) (fs : List Field) (off : Nat) (E : Enc α) (m : α → Nat) : Prop :=
  ∀ {H : Type} {enc : TypeId × Value → H} {w : World} {fuel : Nat} {cs : List Value} {xs : List (DataW H × List MemPlace)}, cs.length = off + E.sz →
    (fs.mapM fun f => DataW.trod enc P w 0 (fun _ => true) true fuel f.type ((cs.drop f.offset).take (P.cellsOf f.type))) = some xs → ∃ x, E.rep (fun _ => True) w (cs.drop off) x ∧ m x ≤ Rows.uptoBulkAll (xs.map (·.1)) + 1

theorem fields_one {α : Type} {P : Program} {f : Field} {off : Nat} {E : Enc α} {m : α → Nat} (ho : f.offset = off) (hc : P.cellsOf f.type = E.sz) (hr : Reads P f.type E m) : FieldsRead P [f] off E m := by
  intro H enc w fuel cs xs hl h
  simp only [List.mapM_cons, List.mapM_nil, Option.bind_eq_bind, Option.bind_eq_some_iff, Option.pure_def, Option.some.injEq] at h
  obtain ⟨y, h1, z, rfl, rfl⟩ := h
  rw [ho, hc, List.take_of_length_le (by simp; omega)] at h1
  obtain ⟨x, hx, hm⟩ := hr h1
  exact ⟨x, hx, by simp only [List.map_cons, List.map_nil, Rows.uptoBulkAll]; omega⟩

theorem fields_cons {α β : Type} {P : Program} {f : Field} {fs : List Field} {off : Nat} {A : Enc α} {B : Enc β} {m : α → Nat} {n : β → Nat} (ho : f.offset = off) (hc : P.cellsOf f.type = A.sz) (hr : Reads P f.type A m) (hrest : FieldsRead P fs (off + A.sz) B n) :
    FieldsRead P (f :: fs) off (EPair A B) (fun x => m x.1 + n x.2) := by
  intro H enc w fuel cs xs hl h
  simp only [EPair] at hl
  simp only [List.mapM_cons, Option.bind_eq_bind, Option.bind_eq_some_iff, Option.pure_def, Option.some.injEq] at h
  obtain ⟨y, h1, z, h2, rfl⟩ := h
  rw [ho, hc] at h1
  obtain ⟨x, hx, hm⟩ := hr h1
  obtain ⟨x2, hx2, hm2⟩ := hrest (by omega) h2
  refine ⟨(x, x2), ⟨_, _, ?_, hx, hx2⟩, by simp only [List.map_cons, Rows.uptoBulkAll]; omega⟩
  rw [← List.drop_drop, List.take_append_drop]

theorem reads_struct {α : Type} {P : Program} {t : TypeId} {fs : Array Field} {E : Enc α} {m : α → Nat} (h : P.underlying t = some (.struct fs)) (hc : P.cellsOf t = E.sz) (hr : FieldsRead P fs.toList 0 E m) : Reads P t E m := by
  intro H enc w fuel cs d ps hd
  cases fuel with
  | zero => simp [DataW.trod] at hd
  | succ n =>
    unfold DataW.trod at hd
    rw [h] at hd
    simp only at hd
    split at hd
    · rename_i hlen
      rw [Option.map_eq_some_iff] at hd
      obtain ⟨xs, h1, h2⟩ := hd
      obtain ⟨x, hx, hm⟩ := hr (by omega) h1
      injection h2 with h2 _
      refine ⟨x, by simpa using hx, ?_⟩
      rw [← h2]; simp only [Rows.uptoBulk]; exact hm
    · cases hd

theorem reads_map {α β : Type} {P : Program} {t : TypeId} {A : Enc α} {m : α → Nat} (h : Reads P t A m) (f : β → α) (g : α → β) (hfg : ∀ x, f (g x) = x) : Reads P t (EMap f A) (fun x => m (f x)) := by
  intro H enc w fuel cs d ps hd
  obtain ⟨x, hx, hm⟩ := h hd
  exact ⟨g x, by show A.rep _ _ _ (f (g x)); rw [hfg]; exact hx, by show m (f (g x)) ≤ _; rw [hfg]; exact hm⟩

theorem slice_rep {α : Type} {E : Enc α} {hs : 0 < E.sz} {ok : Nat → Prop} {w : World} {a : Option Addr} {n c : Nat} {l : List α} (h : (ESlice E hs).rep ok w [.slice a n c] l) : n = l.length ∧ l.length ≤ c ∧ c ≤ maxLen ∧ Sl E ok w a l := by
  obtain ⟨a', c', e, h1, h2, h3⟩ := h
  simp only [List.cons.injEq, Value.slice.injEq, and_true] at e
  obtain ⟨rfl, rfl, rfl⟩ := e
  exact ⟨rfl, h1, h2, h3⟩

theorem okWide_struct {P : Program} {w : World} {r : Reach} {base : Nat} {t : TypeId} {v : Value} {fs : Array Field} (ht : P.underlying t = some (.struct fs)) (h : Value.okWide P w r base t v) : ∃ cs, v = .agg cs := by
  simp only [Value.okWide, ht] at h
  obtain ⟨cs, rfl, _⟩ := h
  exact ⟨cs, rfl⟩
theorem okWide_array {P : Program} {w : World} {r : Reach} {base : Nat} {t e : TypeId} {n : Nat} {v : Value} (ht : P.underlying t = some (.array n e)) (h : Value.okWide P w r base t v) : ∃ cs, v = .agg cs := by
  simp only [Value.okWide, ht] at h
  obtain ⟨cs, rfl, _⟩ := h
  exact ⟨cs, rfl⟩

/-- an unsigned number that came in, as bits -/
theorem open_bv {n : Nat} {k : IntKind} {i : Int} (hw : (Lit.int k i).wf = true) (h : (k = .u8 ∧ n = 8) ∨ (k = .u16 ∧ n = 16) ∨ (k = .u32 ∧ n = 32) ∨ (k = .u64 ∧ n = 64)) : ∃ x : BitVec n, i = bv x := by
  refine ⟨BitVec.ofInt n i, ?_⟩
  rcases h with ⟨rfl, rfl⟩ | ⟨rfl, rfl⟩ | ⟨rfl, rfl⟩ | ⟨rfl, rfl⟩
  · simp [Lit.wf, IntKind.min, IntKind.max, IntKind.signed, IntKind.bits] at hw; rw [← wrap8, IntWalk.u8_in i hw]
  · simp [Lit.wf, IntKind.min, IntKind.max, IntKind.signed, IntKind.bits] at hw; rw [← wrap16, IntWalk.u16_in i hw]
  · simp [Lit.wf, IntKind.min, IntKind.max, IntKind.signed, IntKind.bits] at hw; rw [← wrap32, IntWalk.u32_in i hw]
  · simp [Lit.wf, IntKind.min, IntKind.max, IntKind.signed, IntKind.bits] at hw; rw [← wrap64u, IntWalk.u64_in i hw]
theorem open_i64 {i : Int} (hw : (Lit.int .i64 i).wf = true) : -9223372036854775808 ≤ i ∧ i ≤ 9223372036854775807 := by
  simp [Lit.wf, IntKind.min, IntKind.max, IntKind.signed, IntKind.bits] at hw; exact hw
end Go.Proofs.Ytmmgnbdngpkfcaa

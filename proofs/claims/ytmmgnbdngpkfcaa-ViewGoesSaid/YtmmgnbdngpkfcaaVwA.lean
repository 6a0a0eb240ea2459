/-
  The small functions of the members, walked: copies, who leads, whether it leads, what is laid.
-/
import Derived.Test.YtmmgnbdngpkfcaaVwL
namespace Go.Proofs.Ytmmgnbdngpkfcaa
open Go.RowKit
set_option linter.unusedVariables false

section
variable {P : Program} {w : World} {ops : Array Oper} {rest : List Oper} {o : Oper} {a : Act} {Q : Exit → Act → World → Prop}
theorem run_app_none {t te ty : TypeId} {sz bytes : Nat} (ti : ElemInfo P t te sz bytes) {g n cap : Nat} (hn : n ≤ cap) {ad : Option Addr} {c : Nat} :
    (Builtin.append_ #[t, t] ty #[.slice (some ⟨g, 0, none⟩) n cap, .slice ad 0 c]).run P w = .ok (.slice (some ⟨g, 0, none⟩) n cap) w := by
  obtain ⟨i, z, hi, hz, hsz, hby, hzc⟩ := ti.info
  cases ad <;> simp [Builtin.append_, run_underlying ti.under, sizeOf, typeInfo, hi, Builtin.lenOf, Builtin.firstCells, loadCells, loadCellsFrom, hn, storeCells]
theorem run_app_copy {α : Type} (E : Enc α) {t te ty : TypeId} {bytes : Nat} (ti : ElemInfo P t te E.sz bytes) {ok : Nat → Prop} {g : Nat} {ad : Option Addr} {m c : Nat} {l2 : List α}
    (hm : m = l2.length) (hsl : Sl E ok w ad l2) (hok : ∀ k, w.heap.size ≤ k → ok k) (h63 : l2.length ≤ maxLen) (hbytes : l2.length * bytes ≤ 140737488355328) :
    ∃ a' c' w', (Builtin.append_ #[t, t] ty #[.slice (some ⟨g, 0, none⟩) 0 0, .slice ad m c]).run P w = .ok (.slice a' m c') w' ∧ (m ≤ c' ∧ c' ≤ maxLen) ∧ Sl E ok w' a' l2 ∧ Below w.heap.size w w' := by
  by_cases h0 : l2 = []
  · subst h0
    subst hm
    exact ⟨_, 0, w, run_app_none ti (Nat.le_refl _), ⟨Nat.le_refl _, Nat.zero_le _⟩, Sl.nil _ _ _ _, Below.refl _ _⟩
  · obtain ⟨c', w', hr, h1, h2, h3, h4⟩ := run_app_full (P := P) (w := w) (ty := ty) (l := []) (a1 := some ⟨g, 0, none⟩) (c := c) E ti (Sl.nil _ _ _ _) hm hsl (List.length_pos_iff.2 h0) hok (by simpa using h63) (by simpa using hbytes)
    rw [hm]
    simp only [List.length_nil, Nat.zero_add, List.nil_append] at hr h1 h3
    exact ⟨_, c', w', hm ▸ hr, ⟨h1, h2⟩, h3, h4⟩
theorem wpList_app_copy {α : Type} (E : Enc α) {t te : TypeId} {bytes : Nat} {s x : Operand} {ok : Nat → Prop} {g : Nat} {ad : Option Addr} {m c : Nat} {l2 : List α}
    (hgd : o.guard = none) (ho : o.op = .call { callee := .builtin .append, args := #[s, x], argTypes := #[t, t] }) (hs : a.eval s = .slice (some ⟨g, 0, none⟩) 0 0) (hx : a.eval x = .slice ad m c)
    (ti : ElemInfo P t te E.sz bytes) (hm : m = l2.length) (hsl : Sl E ok w ad l2) (hok : ∀ k, w.heap.size ≤ k → ok k) (h63 : l2.length ≤ maxLen) (hbytes : l2.length * bytes ≤ 140737488355328)
    (h : ∀ a' c' w', (m ≤ c' ∧ c' ≤ maxLen) → Sl E ok w' a' l2 → Below w.heap.size w w' → wpList P ops Q rest (a.put o.dst (.slice a' m c')) w') : wpList P ops Q (o :: rest) a w := by
  refine wpList_plain hgd fun K hK => ?_
  obtain ⟨a', c', w', hr, h2, h3, h4⟩ := run_app_copy (P := P) (w := w) (ty := o.type) (g := g) (c := c) E ti hm hsl hok h63 hbytes
  unfold Oper.wp execOp
  simp only [ho, resolve, invoke, builtin, Sem.run_bind, Sem.run_pure, Result.andThen_ok, List.map_toArray, List.map_cons, List.map_nil, hs, hx, hr]
  exact hK _ _ (h a' c' w' h2 h3 h4)
theorem step_app_full {α : Type} {K : Act → World → Prop} (E : Enc α) {t te : TypeId} {bytes : Nat} {s x : Operand} {ok : Nat → Prop} {a1 : Option Addr} {n : Nat} {ad : Option Addr} {m c : Nat} {l l2 : List α}
    (ho : o.op = .call { callee := .builtin .append, args := #[s, x], argTypes := #[t, t] }) (hs : a.eval s = .slice a1 n n) (hx : a.eval x = .slice ad m c)
    (ti : ElemInfo P t te E.sz bytes) (hn : n = l.length) (hsl1 : Sl E ok w a1 l) (hm : m = l2.length) (hsl : Sl E ok w ad l2) (hpos : 0 < l2.length) (hok : ∀ k, w.heap.size ≤ k → ok k) (h63 : l.length + l2.length ≤ maxLen) (hbytes : (l.length + l2.length) * bytes ≤ 140737488355328)
    (h : ∀ g' c' w', (l.length + l2.length ≤ c' ∧ c' ≤ maxLen) → Sl E ok w' (some ⟨g', 0, none⟩) (l ++ l2) → Below w.heap.size w w' → K (a.put o.dst (.slice (some ⟨g', 0, none⟩) (l.length + l2.length) c')) w') : o.wp P a w K Q := by
  subst hn
  obtain ⟨c', w', hr, h2, h2', h3, h4⟩ := run_app_full (P := P) (w := w) (ty := o.type) (c := c) E ti hsl1 hm hsl hpos hok h63 hbytes
  unfold Oper.wp execOp
  simp only [ho, resolve, invoke, builtin, Sem.run_bind, Sem.run_pure, Result.andThen_ok, List.map_toArray, List.map_cons, List.map_nil, hs, hx, hr]
  exact h _ c' w' ⟨h2, h2'⟩ h3 h4
end
theorem ti_byt : ElemInfo Try.prog 49 5 EU8.sz 1 := ElemInfo.mk' (z := .int .u8 0) Try.underlying49 (by kernel_rfl) rfl (by decide)
theorem Sl.of_none {α : Type} {E : Enc α} {ok : Nat → Prop} {w : World} {l : List α} (h : Sl E ok w none l) : l = [] := by
  cases l with
  | nil => rfl
  | cons x r => obtain ⟨b', o2, e, _⟩ := h 0 x rfl; cases e
theorem Sl.alloc {α : Type} {E : Enc α} {ok : Nat → Prop} {w : World} {a : Option Addr} {l : List α} (hs : 0 < E.sz) (h : Sl E ok w a l) (o : Obj) : Sl E ok (w.alloc o) a l := h.below hs (alloc_below w o)
theorem vw_cloneB (ok : Nat → Prop) (ad : Option Addr) (n c : Nat) (l : List (BitVec 8)) (w : World) (hn : n = l.length) (hsl : Sl EU8 ok w ad l) (hok : ∀ k, w.heap.size ≤ k → ok k) (hl : n ≤ 1000000) :
    Calls Try.prog 95 #[.slice ad n c] w fun e w' => ∃ a' c', e = .returned (.slice a' n c') ∧ (n ≤ c' ∧ c' ≤ maxLen) ∧ Sl EU8 ok w' a' l ∧ Below w.heap.size w w' := by
  cases ad with
  | none =>
    obtain rfl := hsl.of_none
    obtain rfl := hn
    have heq := Lib.run_eql_slice_nil (P := Try.prog) w 49 5 none 0 c 0 0 Try.underlying49
    clear hl hok hsl
    go_enter Try.func95, Try.ntmps95
    go_wp2_with fail
    go_ret
    exact ⟨none, 0, rfl, ⟨Nat.le_refl _, Nat.zero_le _⟩, Sl.nil _ _ _ _, Below.refl _ _⟩
  | some ad =>
    have Hn := Lib.hid hn
    have Hok := Lib.hid hok
    have hsl1 := hsl.alloc (by decide) (.cells #[] 5)
    have Hsl := Lib.hid hsl1
    have heq := Lib.run_eql_slice_nil (P := Try.prog) w 49 5 (some ad) n c 0 0 Try.underlying49
    clear hn hsl hok hsl1
    go_enter Try.func95, Try.ntmps95
    go_wp2_with (first
      | (refine wpList_app_copy EU8 rfl rfl (by rfl) (by rfl) ti_byt Hn.out Hsl.out (fun k hk => Hok.out k (by simp at hk; omega)) (by rw [← Hn.out]; unfold maxLen; omega) (by rw [← Hn.out]; omega) ?_
         intro a8 c8 w8 hc8 hs8 hb8))
    go_ret
    exact ⟨a8, c8, rfl, hc8, hs8, (alloc_below w (.cells #[] 5)).trans (hb8.mono (by simp))⟩
theorem vw_cloneT (ok : Nat → Prop) (ad : Option Addr) (n c : Nat) (l : List (List (BitVec 8))) (w : World) (hn : n = l.length) (hsl : Sl EBytes ok w ad l) (hok : ∀ k, w.heap.size ≤ k → ok k) (hl : n ≤ 1000000) :
    Calls Try.prog 93 #[.slice ad n c] w fun e w' => ∃ a' c', e = .returned (.slice a' n c') ∧ (n ≤ c' ∧ c' ≤ maxLen) ∧ Sl EBytes ok w' a' l ∧ Below w.heap.size w w' := by
  cases ad with
  | none =>
    obtain rfl := hsl.of_none
    obtain rfl := hn
    have heq := Lib.run_eql_slice_nil (P := Try.prog) w 50 49 none 0 c 0 0 Try.underlying50
    clear hl hok hsl
    go_enter Try.func93, Try.ntmps93
    go_wp2_with fail
    go_ret
    exact ⟨none, 0, rfl, ⟨Nat.le_refl _, Nat.zero_le _⟩, Sl.nil _ _ _ _, Below.refl _ _⟩
  | some ad =>
    have Hn := Lib.hid hn
    have Hok := Lib.hid hok
    have hsl1 := hsl.alloc (by decide) (.cells #[] 49)
    have Hsl := Lib.hid hsl1
    have heq := Lib.run_eql_slice_nil (P := Try.prog) w 50 49 (some ad) n c 0 0 Try.underlying50
    clear hn hsl hok hsl1
    go_enter Try.func93, Try.ntmps93
    go_wp2_with (first
      | (refine wpList_app_copy EBytes rfl rfl (by rfl) (by rfl) ti_texts Hn.out Hsl.out (fun k hk => Hok.out k (by simp at hk; omega)) (by rw [← Hn.out]; unfold maxLen; omega) (by rw [← Hn.out]; omega) ?_
         intro a8 c8 w8 hc8 hs8 hb8))
    go_ret
    exact ⟨a8, c8, rfl, hc8, hs8, (alloc_below w (.cells #[] 49)).trans (hb8.mono (by simp))⟩
theorem vw_clip (ad : Option Addr) (n c : Nat) (w : World) (hn : n ≤ c) :
    Calls Try.prog 92 #[.slice ad n c] w fun e w' => e = .returned (.slice ad n n) ∧ w = w' := by
  have hsl : ∀ W : World, (Instr.slice 50 (.slice ad n c) none (some (.int .i64 n)) (some (.int .i64 n))).run Try.prog W = .ok (.slice ad n n) W := by
    intro W
    obtain ⟨i0, z, hi, hz, hsz, hby, hzc⟩ := ti_texts.info
    have e1 : (0 : Int) ≤ (n : Int) := by omega
    have e3 : (n : Int) ≤ (c : Int) := by omega
    have hp : ∀ p : Addr, p.add 0 = p := fun p => by cases p; unfold Addr.add; split <;> simp_all
    cases ad with
    | none => simp [Instr.slice, run_underlying ti_texts.under, Instr.sliceBounds, run_sliceBound, sizeOf, typeInfo, hi, e3]
    | some p => simp [Instr.slice, run_underlying ti_texts.under, Instr.sliceBounds, run_sliceBound, sizeOf, typeInfo, hi, e3, hp]
  clear hn
  go_enter Try.func92, Try.ntmps92
  go_wp2_with fail
  go_ret
  exact ⟨rfl, rfl⟩
theorem lead_tmod (v : Int) (n : Nat) (hv : 0 ≤ v) (hn : 1 ≤ n) : Int.tmod v (n : Int) + 1 = Vw.lead v n := by
  have h1 : max (n : Int) 1 = (n : Int) := by omega
  unfold Vw.lead
  rw [h1, Int.tmod_eq_emod_of_nonneg hv]
theorem lead_range (v : Int) (n : Nat) (hn : 1 ≤ n) : 1 ≤ Vw.lead v n ∧ Vw.lead v n ≤ n := by
  have h1 : max (n : Int) 1 = (n : Int) := by omega
  unfold Vw.lead
  rw [h1]
  have h2 : 0 ≤ v % (n : Int) := Int.emod_nonneg _ (by omega)
  have h3 : v % (n : Int) < (n : Int) := Int.emod_lt_of_pos _ (by omega)
  omega
theorem vw_Leader (v : Int) (n : Nat) (w : World) (hv : 0 ≤ v) (hn : 1 ≤ n ∧ n ≤ 1000) :
    Calls Try.prog 63 #[.int .i64 v, .int .i64 n] w fun e w' => e = .returned (.int .i64 (Vw.lead v n)) ∧ w = w' := by
  have hm : max (n : Int) 1 = (n : Int) := by omega
  have hr := lead_range v n hn.1
  have hl := lead_tmod v n hv hn.1
  have hne : (n : Int) ≠ 0 := by omega
  have hw : wrap64 (v % (n : Int) + 1) = Vw.lead v n := by rw [← Int.tmod_eq_emod_of_nonneg hv, hl]; obtain ⟨h1, h2⟩ := hr; obtain ⟨h3, h4⟩ := hn; unfold wrap64; omega
  have Hw := Lib.hid hw
  clear hw hl hr
  go_enter Try.func63, Try.ntmps63
  go_wp2_with fail
  go_ret
  exact ⟨congrArg (fun x => Ending.returned (Value.int .i64 x)) Hw.out, rfl⟩
end Go.Proofs.Ytmmgnbdngpkfcaa


/-
  make([]byte, n), and copy into what the call owns.
-/
import Derived.Test.YtmmgnbdngpkfcaaMem
import Derived.Deep.OwnRows
import Derived.Laws.CopyRow
import Derived.Laws.IdiomCopy
namespace Go.Proofs.Ytmmgnbdngpkfcaa
open Go.RowKit
set_option linter.unusedVariables false

theorem made_get (z : Value) (n k : Nat) (h : k < n) : (madeCells #[z] n)[k]? = some z := by
  simp [madeCells, h, Nat.mod_one]

theorem own_made (te : TypeId) (w : World) (n : Nat) (hn : n ≤ maxLen) : Own EU8 te w.heap.size (w.alloc (.cells (madeCells #[.int .u8 0] n) te)) (.slice (some ⟨w.heap.size, 0, none⟩) n n) (List.replicate n 0#8) := by
  refine .inr ⟨w.heap.size, n, madeCells #[.int .u8 0] n, by simp, Nat.le_refl _, heap_alloc_new w _, by simp, hn, by simp [size_madeCells, EU8], fun k x hx => ?_⟩
  obtain ⟨hk, rfl⟩ := List.getElem?_eq_some_iff.1 hx
  simp only [List.length_replicate] at hk
  refine ⟨[.int .u8 0], by simp [EU8, bv], fun j u hj => ?_⟩
  have hj0 : j = 0 := by have := (List.getElem?_eq_some_iff.1 hj).1; simp at this; exact this
  subst hj0
  simp at hj; subst hj
  simpa [EU8] using made_get (.int .u8 0) n k hk

section
variable {P : Program} {w : World} {ops : Array Oper} {rest : List Oper} {o : Oper} {a : Act} {Q : Exit → Act → World → Prop}

theorem run_copy_own {t te ty : TypeId} {bytes base : Nat} (ti : ElemInfo P t te EU8.sz bytes) {g n c : Nat} {l l2 : List (BitVec 8)} {ad : Option Addr} {m c2 : Nat} {ok : Nat → Prop}
    (hown : Own EU8 te base w (.slice (some ⟨g, 0, none⟩) n c) l) (hsl : Sl EU8 ok w ad l2) (hm : m = l2.length) (hmn : m ≤ n) :
    ∃ w', (Builtin.copy_ #[t, t] ty #[.slice (some ⟨g, 0, none⟩) n c, .slice ad m c2]).run P w = .ok (goInt m) w' ∧ Own EU8 te base w' (.slice (some ⟨g, 0, none⟩) n c) (l2 ++ l.drop m) ∧ w.grownBy w' (some g) := by
  subst hm
  obtain ⟨i, z, hi, hz, hsz, hby, hzc⟩ := ti.info
  have hs : (P.info? te).map (·.size) = some 1 := by rw [hi]; simp [hsz, EU8]
  by_cases h0 : l2.length = 0
  · have : l2 = [] := List.eq_nil_of_length_eq_zero h0
    subst this
    refine ⟨w, ?_, by simpa using hown, World.grownBy.refl _ _⟩
    exact run_copy_none w t t ty te _ ad n c _ c2 ti.under hs (by simp)
  · obtain ⟨b, o', rfl, hc⟩ := SB.all hsl (by omega)
    rcases hown with ⟨h1, _⟩ | ⟨g', cap, cur, hv, hg, hh, h1, h2, h3, h4⟩
    · cases h1
    · injection hv with e1 e2 e3
      injection e1 with e1
      injection e1 with e1
      subst e1; subst e2; subst e3
      have hcs : cur.size = c := by rw [h3]; simp [EU8]
      have hr := run_copy_row (P := P) w t t ty te g 0 l.length c ⟨b, o', none⟩ l2.length c2 cur te (l2.map fun x => Value.int .u8 (bv x)) ti.under hs hh (by rw [List.length_map]; exact (Nat.min_eq_left hmn).symm)
        (fun j v hj => by
          rw [List.getElem?_map, Option.map_eq_some_iff] at hj
          obtain ⟨x, hx, rfl⟩ := hj
          obtain ⟨hjl, rfl⟩ := List.getElem?_eq_some_iff.1 hx
          rw [Addr.add_lit]; exact hc j hjl) (by simp; omega) (by intro v hv; simp at hv; obtain ⟨x, _, rfl⟩ := hv; rfl)
      simp only [List.length_map, Nat.zero_add, List.take_zero, List.nil_append] at hr
      refine ⟨_, hr, ?_, ⟨rfl, rfl, rfl, by simp, fun k _ hk => setRow_other _ _ _ _ (fun e => hk (by rw [e]))⟩⟩
      refine .inr ⟨g, c, _, by simp [List.length_append, List.length_drop]; omega, hg, setRow_heap _ _ _ _ _ _ hh, by simp; omega, h2, by simp [hcs, EU8]; omega, fun k x hx => ⟨[.int .u8 (bv x)], rfl, fun j u hj => ?_⟩⟩
      have hj0 : j = 0 := by have := (List.getElem?_eq_some_iff.1 hj).1; simp at this; exact this
      subst hj0
      simp at hj; subst hj
      simp only [EU8, Nat.mul_one, Nat.add_zero, List.getElem?_toArray]
      by_cases hk : k < l2.length
      · rw [List.getElem?_append_left hk] at hx
        rw [List.getElem?_append_left (by simpa using hk), List.getElem?_map, hx]; rfl
      · rw [List.getElem?_append_right (by omega), List.getElem?_drop] at hx
        rw [List.getElem?_append_right (by simp; omega), List.getElem?_drop]
        simp only [List.length_map]
        obtain ⟨cs, hr2, hcc⟩ := h4 _ x hx
        have hr' : cs = [.int .u8 (bv x)] := hr2
        subst hr'
        have := hcc 0 _ rfl
        simpa [EU8] using this

/-- copy, as a law for the walk -/
theorem wpList_copy {t te : TypeId} {bytes base : Nat} {s x : Operand} {g n c : Nat} {l l2 : List (BitVec 8)} {ad : Option Addr} {m c2 : Nat} {ok : Nat → Prop}
    (hgd : o.guard = none) (ho : o.op = .call { callee := .builtin .copy, args := #[s, x], argTypes := #[t, t] }) (hs : a.eval s = .slice (some ⟨g, 0, none⟩) n c) (hx : a.eval x = .slice ad m c2)
    (ti : ElemInfo P t te EU8.sz bytes) (hown : Own EU8 te base w (.slice (some ⟨g, 0, none⟩) n c) l) (hsl : Sl EU8 ok w ad l2) (hm : m = l2.length) (hmn : m ≤ n)
    (h : ∀ w', Own EU8 te base w' (.slice (some ⟨g, 0, none⟩) n c) (l2 ++ l.drop m) → w.grownBy w' (some g) → wpList P ops Q rest (a.put o.dst (goInt m)) w') : wpList P ops Q (o :: rest) a w := by
  refine wpList_plain hgd fun K hK => ?_
  obtain ⟨w', hr, h2, h3⟩ := run_copy_own (P := P) (ty := o.type) (c2 := c2) ti hown hsl hm hmn
  unfold Oper.wp execOp
  simp only [ho, resolve, invoke, builtin, Sem.run_bind, Sem.run_pure, Result.andThen_ok, List.map_toArray, List.map_cons, List.map_nil, hs, hx, hr]
  exact hK _ _ (h w' h2 h3)
end
end Go.Proofs.Ytmmgnbdngpkfcaa

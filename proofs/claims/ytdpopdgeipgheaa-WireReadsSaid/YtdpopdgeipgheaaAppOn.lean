
/-
  append onto a slice that has no room left, whoever owns it: a new block.
-/
import Derived.Test.YtdpopdgeipgheaaMem
namespace Go.Proofs.Ytdpopdgeipgheaa
open Go.RowKit
set_option linter.unusedVariables false

/-- elements that lie in a block's cells, from its head on -/
theorem sl_rows {α : Type} {E : Enc α} {ok : Nat → Prop} {w : World} {g te : Nat} {fr : Nat × Nat} {cs : Array Value} {l : List α} (hW : w.heap[g]? = some (.cells cs te fr)) (hok : ok g)
    (h : ∀ k x, l[k]? = some x → ∃ c, E.rep ok w c x ∧ ∀ j u, c[j]? = some u → cs[k * E.sz + j]? = some u) : Sl E ok w (some ⟨g, 0, none⟩) l := by
  intro k x hx
  obtain ⟨c, hr, hc⟩ := h k x hx
  refine ⟨g, 0, rfl, hok, c, hr, fun j v hj => ?_⟩
  have := hc j v hj
  simp [World.cell?, hW, this]

section
variable {P : Program} {w : World} {ops : Array Oper} {rest : List Oper} {o : Oper} {a : Act} {Q : Exit → Act → World → Prop}

theorem run_app_on {α : Type} (E : Enc α) {t te ty : TypeId} {bytes : Nat} (ti : ElemInfo P t te E.sz bytes) {ok ok2 : Nat → Prop} {ad : Option Addr} {n : Nat} {l : List α} (hn : n = l.length) (h1 : Sl E ok w ad l)
    {ad2 : Option Addr} {m c : Nat} {l2 : List α} (hm : m = l2.length) (h2 : Sl E ok2 w ad2 l2) (hpos : 0 < m)
    {ok' : Nat → Prop} (ho1 : ∀ b, ok b → ok' b) (ho2 : ∀ b, ok2 b → ok' b) (ho' : ok' w.heap.size) (h63 : n + m ≤ maxLen) (hbytes : (n + m) * bytes ≤ 140737488355328) :
    ∃ c' w', (Builtin.append_ #[t, t] ty #[.slice ad n n, .slice ad2 m c]).run P w = .ok (.slice (some ⟨w.heap.size, 0, none⟩) (n + m) c') w' ∧ Sl E ok' w' (some ⟨w.heap.size, 0, none⟩) (l ++ l2) ∧ Below w.heap.size w w' := by
  subst hn
  subst hm
  obtain ⟨i, z, hi, hz, hsz, hby, hzc⟩ := ti.info
  obtain ⟨b2, o2, rfl, _⟩ := h2 0 l2[0] (List.getElem?_eq_getElem hpos)
  obtain ⟨news, hnl, hcells, hone, hnrep⟩ := h2.flat ti.pos
  have key : ∀ (olds : List Value), olds.length = l.length * E.sz → (∀ k x, l[k]? = some x → ∃ cs, E.rep ok w cs x ∧ ∀ j u, cs[j]? = some u → olds[k * E.sz + j]? = some u) → ∀ zs : Array Value,
      Sl E ok' (w.drew.alloc (.cells (olds.toArray ++ news.toArray ++ zs) te)) (some ⟨w.heap.size, 0, none⟩) (l ++ l2) := by
    intro olds hol horep zs
    refine sl_rows (heap_alloc_new w.drew _) ho' fun k x hx => ?_
    have hkeep : ∀ (q : Nat → Prop), (∀ b, q b → ok' b) → ∀ k, q k → k < w.heap.size → (w.drew.alloc (.cells (olds.toArray ++ news.toArray ++ zs) te)).heap[k]? = w.heap[k]? ∧ ok' k := fun q hq k h hk => ⟨heap_alloc_old w.drew _ hk, hq k h⟩
    by_cases hkl : k < l.length
    · rw [List.getElem?_append_left hkl] at hx
      obtain ⟨cs, hcr, hcc⟩ := horep k x hx
      refine ⟨cs, E.mono hcr (hkeep _ ho1), fun j u hj => ?_⟩
      have h3 := hcc j u hj
      have h4 := (List.getElem?_eq_some_iff.1 h3).1
      rw [Array.getElem?_append_left (by simp; omega), Array.getElem?_append_left (by simpa using h4)]
      simpa using h3
    · rw [List.getElem?_append_right (by omega)] at hx
      obtain ⟨cs, hcr, hcc⟩ := hnrep _ x hx
      refine ⟨cs, E.mono hcr (hkeep _ ho2), fun j u hj => ?_⟩
      have h3 := hcc j u hj
      have h4 := (List.getElem?_eq_some_iff.1 h3).1
      have e : k * E.sz + j = l.length * E.sz + ((k - l.length) * E.sz + j) := by
        have : k * E.sz = l.length * E.sz + (k - l.length) * E.sz := by rw [← Nat.add_mul]; congr 1; omega
        omega
      rw [Array.getElem?_append_left (by simp; omega), Array.getElem?_append_right (by simp; omega)]
      have e2 : k * E.sz + j - olds.toArray.size = (k - l.length) * E.sz + j := by simp; omega
      rw [e2]
      simpa using h3
  have hB : ∀ o, Below w.heap.size w (w.drew.alloc o) := fun o => (Below.refl _ w).drew.alloc (Nat.le_refl _) o
  unfold maxLen at h63
  cases ad with
  | none =>
    have hl : l = [] := by
      cases l with
      | nil => rfl
      | cons x r => obtain ⟨_, _, e, _⟩ := h1 0 x rfl; cases e
    subst hl
    have hr := run_append_nil (P := P) w t ty te i z ti.under hi hz ⟨b2, o2, none⟩ l2.length c news (by rw [hsz]; exact hnl) hcells hpos (by simp at h63; omega) (by rw [hby]; simp at hbytes; omega)
    refine ⟨_, _, by simpa using hr, ?_, hB _⟩
    have := key [] (by simp) (by simp) (Builtin.zeroCells z.cells (grownCap w l2.length 0 te - l2.length))
    simpa using this
  | some p =>
    by_cases h0 : l.length = 0
    · have hl : l = [] := List.eq_nil_of_length_eq_zero h0
      subst hl
      have hr := run_append_grow (P := P) w t ty te i z ti.under hi hz p 0 0 [] (by simp) (by simp) ⟨b2, o2, none⟩ l2.length c news (by rw [hsz]; exact hnl) hcells (by omega) (by simp at h63; omega) (by rw [hby]; exact growslice_fits (by omega) (by simpa using hbytes))
      exact ⟨_, _, hr, key [] (by simp) (by simp) _, hB _⟩
    · obtain ⟨b, o1, e, _⟩ := h1 0 l[0] (List.getElem?_eq_getElem (by omega))
      injection e with e
      subst e
      obtain ⟨olds, hol, hocells, hoone, horep⟩ := h1.flat ti.pos
      have hr := run_append_grow (P := P) w t ty te i z ti.under hi hz ⟨b, o1, none⟩ l.length l.length olds (by rw [hsz]; exact hol) hocells ⟨b2, o2, none⟩ l2.length c news (by rw [hsz]; exact hnl) hcells (by omega) (by omega) (by rw [hby]; exact growslice_fits (by omega) hbytes)
      exact ⟨_, _, hr, key olds hol horep _, hB _⟩

/-- the law for one operation in a region that draws its order -/
theorem step_app_on {α : Type} {K : Act → World → Prop} (E : Enc α) {t te : TypeId} {bytes : Nat} {s x : Operand} {ok ok2 : Nat → Prop} {ad ad2 : Option Addr} {n m c : Nat} {l l2 : List α}
    (ho : o.op = .call { callee := .builtin .append, args := #[s, x], argTypes := #[t, t] }) (hs : a.eval s = .slice ad n n) (hx : a.eval x = .slice ad2 m c)
    (ti : ElemInfo P t te E.sz bytes) (hn : n = l.length) (h1 : Sl E ok w ad l) (hm : m = l2.length) (h2 : Sl E ok2 w ad2 l2) (hpos : 0 < m)
    {ok' : Nat → Prop} (ho1 : ∀ b, ok b → ok' b) (ho2 : ∀ b, ok2 b → ok' b) (ho' : ok' w.heap.size) (h63 : n + m ≤ maxLen) (hbytes : (n + m) * bytes ≤ 140737488355328)
    (h : ∀ c' w', Sl E ok' w' (some ⟨w.heap.size, 0, none⟩) (l ++ l2) → Below w.heap.size w w' → K (a.put o.dst (.slice (some ⟨w.heap.size, 0, none⟩) (n + m) c')) w') : o.wp P a w K Q := by
  obtain ⟨c', w', hr, h3, h4⟩ := run_app_on (P := P) (ty := o.type) E ti hn h1 (c := c) hm h2 hpos ho1 ho2 ho' h63 hbytes
  unfold Oper.wp execOp
  simp only [ho, resolve, invoke, builtin, Sem.run_bind, Sem.run_pure, Result.andThen_ok, List.map_toArray, List.map_cons, List.map_nil, hs, hx, hr]
  exact h c' w' h3 h4
end
end Go.Proofs.Ytdpopdgeipgheaa

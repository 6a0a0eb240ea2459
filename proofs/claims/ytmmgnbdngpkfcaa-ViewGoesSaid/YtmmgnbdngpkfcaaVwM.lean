/-
  What a member of a group holds in memory: blocks that may turn have a colour; all others never turn again.
-/
import Derived.Test.YtmmgnbdngpkfcaaVwC
import Derived.Test.YtmmgnbdngpkfcaaIMp
import Derived.Test.YtmmgnbdngpkfcaaBas
namespace Go.Proofs.Ytmmgnbdngpkfcaa
open Go.RowKit
set_option linter.unusedVariables false

abbrev Col := Nat → Nat
def Im (M : Col) (k : Nat) : Prop := M k = 0
/-- a block of a member's own; what has a higher colour belongs to somebody else, and is left alone -/
def Mine (M : Col) (k : Nat) : Prop := 1 ≤ M k ∧ M k ≤ 7
def Fr (M : Col) (w : World) (M' : Col) (w' : World) : Prop := Only (Mine M) w w' ∧ ∀ k, k < w.heap.size → ¬ Mine M k → M' k = M k
section
variable {M M1 M2 : Col} {w w1 w2 : World}
theorem not_mine {k : Nat} (h : M k = 0) : ¬ Mine M k := fun hm => by have := hm.1; omega
theorem Fr.refl (M : Col) (w : World) : Fr M w M w := ⟨Only.refl _ _, fun _ _ _ => rfl⟩
theorem Fr.size (h : Fr M w M1 w1) : w.heap.size ≤ w1.heap.size := h.1.size
theorem Fr.mine (h : Fr M w M1 w1) {k : Nat} (hk : k < w.heap.size) (hm : Mine M1 k) : Mine M k := by
  by_cases h0 : Mine M k
  · exact h0
  · have e := h.2 k hk h0
    unfold Mine at hm h0 ⊢
    rw [e] at hm; exact hm
theorem Fr.trans (h : Fr M w M1 w1) (h2 : Fr M1 w1 M2 w2) : Fr M w M2 w2 :=
  ⟨h.1.trans h2.1 fun k hk hn => h.mine hk hn, fun k hk hm => (h2.2 k (Nat.lt_of_lt_of_le hk h.1.size) fun hm1 => hm (h.mine hk hm1)).trans (h.2 k hk hm)⟩
theorem Fr.of_below (hb : Below w.heap.size w w1) : Fr M w M w1 := ⟨Go.Proofs.Ytmmgnbdngpkfcaa.Below.only hb, fun _ _ _ => rfl⟩
theorem Fr.block (h : Fr M w M1 w1) {k : Nat} (hk : k < w.heap.size) (hm : M k = 0) : w1.heap[k]? = w.heap[k]? := h.1.block k hk (not_mine hm)
theorem Fr.other (h : Fr M w M1 w1) {k : Nat} (hk : k < w.heap.size) (hm : 7 < M k) : w1.heap[k]? = w.heap[k]? ∧ M1 k = M k := ⟨h.1.block k hk (fun h => by have := h.2; omega), h.2 k hk (fun h => by have := h.2; omega)⟩
theorem Fr.zero (h : Fr M w M1 w1) {k : Nat} (hk : k < w.heap.size) (hm : M k = 0) : M1 k = 0 := (h.2 k hk (not_mine hm)).trans hm
theorem Sl.fr {α : Type} {E : Enc α} {a : Option Addr} {l : List α} (hs : 0 < E.sz) (h : Sl E (Im M) w a l) (f : Fr M w M1 w1) : Sl E (Im M1) w1 a l :=
  h.mono hs fun k ho hk => ⟨f.block hk ho, f.zero hk ho⟩
/-- one part turns -/
structure Turn (i : Nat) (M : Col) (w : World) (M1 : Col) (w1 : World) : Prop where
  only : Only (fun k => M k = i) w w1
  old : ∀ k, k < w.heap.size → M1 k = M k
  dom : ∀ k, w.heap.size ≤ k → M1 k ≠ 0 → k < w1.heap.size
theorem Turn.fr {i : Nat} (h : Turn i M w M1 w1) (hi : 1 ≤ i ∧ i ≤ 7) : Fr M w M1 w1 :=
  ⟨h.only.mono fun k hk => by show 1 ≤ M k ∧ M k ≤ 7; rw [hk]; exact hi, fun k hk _ => h.old k hk⟩
theorem Turn.block {i : Nat} (h : Turn i M w M1 w1) {k : Nat} (hk : k < w.heap.size) (hm : M k ≠ i) : w1.heap[k]? = w.heap[k]? := h.only.block k hk hm
/-- nothing that was there turns -/
theorem Turn.of_below {i : Nat} (hd : ∀ k, M k ≠ 0 → k < w.heap.size) (hb : Below w.heap.size w w1) : Turn i M w M w1 := ⟨Go.Proofs.Ytmmgnbdngpkfcaa.Below.only hb, fun _ _ => rfl, fun k hk h => absurd (hd k h) (by omega)⟩
theorem Turn.of_only {i : Nat} (hd : ∀ k, M k ≠ 0 → k < w.heap.size) {S : Nat → Prop} (ho : Only S w w1) (hS : ∀ k, S k → M k = i) : Turn i M w M w1 := ⟨ho.mono hS, fun _ _ => rfl, fun k hk h => absurd (hd k h) (by omega)⟩

/-- a slice in a part of its own; what its elements hold besides never turns -/
def OwnV {α : Type} (M : Col) (i : Nat) (E : Enc α) (te : TypeId) (w : World) (v : Value) (l : List α) : Prop :=
  (v = .slice none 0 0 ∧ l = []) ∨ ∃ g cap cur, v = .slice (some ⟨g, 0, none⟩) l.length cap ∧ M g = i ∧ w.heap[g]? = some (.cells cur te (0, 0)) ∧ l.length ≤ cap ∧ cap ≤ maxLen ∧ cur.size = cap * E.sz ∧
    ∀ k x, l[k]? = some x → ∃ cs, E.rep (Im M) w cs x ∧ ∀ j u, cs[j]? = some u → cur[k * E.sz + j]? = some u
theorem OwnV.nil {α : Type} (M : Col) (i : Nat) (E : Enc α) (te : TypeId) (w : World) : OwnV M i E te w (.slice none 0 0) [] := .inl ⟨rfl, rfl⟩
theorem OwnV.own {α : Type} {i : Nat} {E : Enc α} {te : TypeId} {v : Value} {l : List α} (h : OwnV M i E te w v l) (hi : i ≠ 0) : Own E te 0 w v l := by
  rcases h with h | ⟨g, cap, cur, hv, hg, hh, h1, h2, h3, h4⟩
  · exact .inl h
  · refine .inr ⟨g, cap, cur, hv, Nat.zero_le _, hh, h1, h2, h3, fun k x hx => ?_⟩
    obtain ⟨cs, hr, hc⟩ := h4 k x hx
    exact ⟨cs, E.mono hr fun b hb _ => ⟨rfl, fun e => hi (by rw [← hg, ← e]; exact hb)⟩, hc⟩
theorem OwnV.shape {α : Type} {i : Nat} {E : Enc α} {te : TypeId} {v : Value} {l : List α} (h : OwnV M i E te w v l) : ∃ a c, v = .slice a l.length c ∧ l.length ≤ c ∧ c ≤ maxLen := by
  rcases h with ⟨rfl, rfl⟩ | ⟨g, cap, cur, hv, hg, hh, h1, h2, h3, h4⟩
  · exact ⟨none, 0, rfl, Nat.le_refl _, Nat.zero_le _⟩
  · exact ⟨_, cap, hv, h1, h2⟩
theorem OwnV.one {α : Type} {i : Nat} {E : Enc α} {te : TypeId} {v : Value} {l : List α} (h : OwnV M i E te w v l) : v.oneCell' = true := by
  obtain ⟨a, c, rfl, _⟩ := h.shape; rfl
theorem OwnV.turn {α : Type} {i j : Nat} {E : Enc α} {te : TypeId} {v : Value} {l : List α} (h : OwnV M i E te w v l) (t : Turn j M w M1 w1) (hj : 1 ≤ j ∧ j ≤ 7) (hij : i ≠ j) : OwnV M1 i E te w1 v l := by
  rcases h with h | ⟨g, cap, cur, hv, hg, hh, h1, h2, h3, h4⟩
  · exact .inl h
  · have hgz := (Array.getElem?_eq_some_iff.1 hh).1
    refine .inr ⟨g, cap, cur, hv, (t.old g hgz).trans hg, (t.block hgz (by rw [hg]; exact hij)).trans hh, h1, h2, h3, fun k x hx => ?_⟩
    obtain ⟨cs, hr, hc⟩ := h4 k x hx
    exact ⟨cs, E.mono hr fun b hb hlt => ⟨(t.fr hj).block hlt hb, (t.fr hj).zero hlt hb⟩, hc⟩
/-- what is given away can be read -/
theorem OwnV.sl {α : Type} {i : Nat} {E : Enc α} {te : TypeId} {v : Value} {l : List α} (h : OwnV M i E te w v l) (hM : ∀ k, M1 k = if M k = i then 0 else M k) :
    ∃ a c, v = .slice a l.length c ∧ l.length ≤ c ∧ c ≤ maxLen ∧ Sl E (Im M1) w a l := by
  rcases h with ⟨rfl, rfl⟩ | ⟨g, cap, cur, rfl, hg, hh, h1, h2, h3, h4⟩
  · exact ⟨none, 0, rfl, Nat.le_refl _, Nat.zero_le _, Sl.nil _ _ _ _⟩
  · refine ⟨some ⟨g, 0, none⟩, cap, rfl, h1, h2, fun k x hx => ?_⟩
    obtain ⟨cs, hr, hc⟩ := h4 k x hx
    refine ⟨g, 0, rfl, by show M1 g = 0; rw [hM, if_pos hg], cs, E.mono hr fun b hb _ => ⟨rfl, ?_⟩, fun j v hj => ?_⟩
    · show M1 b = 0
      rw [hM]; split
      · rfl
      · exact hb
    · have := hc j v hj
      simp [World.cell?, hh, this]
theorem OwnV.row {α : Type} {i : Nat} {E : Enc α} {te : TypeId} {v : Value} {l : List α} (h : OwnV M i E te w v l) :
    ∃ xs, w.ownsRow 0 te E.sz v l.length xs ∧ ∀ k x, l[k]? = some x → ∃ cs, E.rep (Im M) w cs x ∧ ∀ j u, cs[j]? = some u → xs[k * E.sz + j]? = some u := by
  rcases h with ⟨rfl, rfl⟩ | ⟨g, cap, cur, rfl, hg, hh, h1, h2, h3, h4⟩
  · exact ⟨[], World.ownsRow_nil _ _ _ _, fun k x hx => by simp at hx⟩
  · have hle : l.length * E.sz ≤ cur.size := by rw [h3]; exact Nat.mul_le_mul_right _ h1
    refine ⟨cur.toList.take (l.length * E.sz), ⟨by simp; omega, .inr ⟨g, cap, cur, rfl, Nat.zero_le _, hh, h1, h2, h3, rfl⟩⟩, fun k x hx => ?_⟩
    obtain ⟨cs, hr, hc⟩ := h4 k x hx
    refine ⟨cs, hr, fun j u hj => ?_⟩
    have hkl : k < l.length := (List.getElem?_eq_some_iff.1 hx).1
    have hjl : j < E.sz := by rw [← E.len hr]; exact (List.getElem?_eq_some_iff.1 hj).1
    have hlt : k * E.sz + j < l.length * E.sz := by
      have := Nat.mul_le_mul_right E.sz (show k + 1 ≤ l.length by omega)
      rw [Nat.add_mul] at this; omega
    rw [List.getElem?_take, if_pos hlt]
    simpa using hc j u hj
theorem OwnV.of_row {α : Type} {i : Nat} {E : Enc α} {te : TypeId} {v : Value} {l : List α} {xs : List Value} (h : w.ownsRow 0 te E.sz v l.length xs) (hi : ∀ g, v.ownBlock = some g → M g = i)
    (hx : ∀ k x, l[k]? = some x → ∃ cs, E.rep (Im M) w cs x ∧ ∀ j u, cs[j]? = some u → xs[k * E.sz + j]? = some u) : OwnV M i E te w v l := by
  obtain ⟨hl, ⟨rfl, h0⟩ | ⟨g, cap, cur, rfl, hb, hh, h1, h2, h3, h4⟩⟩ := h
  · exact .inl ⟨rfl, List.eq_nil_of_length_eq_zero h0⟩
  · refine .inr ⟨g, cap, cur, rfl, hi g rfl, hh, h1, h2, h3, fun k x hk => ?_⟩
    obtain ⟨cs, hr, hc⟩ := hx k x hk
    refine ⟨cs, hr, fun j u hj => ?_⟩
    have := hc j u hj
    rw [← h4, List.getElem?_take] at this
    split at this
    · simpa using this
    · cases this
end
section
variable {P : Program} {w : World} {ops : Array Oper} {rest : List Oper} {o : Oper} {a : Act} {Q : Exit → Act → World → Prop}
/-- the run of an append onto a part, of what never turns -/
theorem run_appC {α : Type} (E : Enc α) {t te ty : TypeId} {bytes : Nat} (ti : ElemInfo P t te E.sz bytes) {M : Col} {i : Nat} {v : Value} {l : List α} (hown : OwnV M i E te w v l) (hi : 1 ≤ i ∧ i ≤ 7) (hdom : ∀ k, M k ≠ 0 → k < w.heap.size)
    {ad : Option Addr} {m c : Nat} {l2 : List α} (hm : m = l2.length) (hsl : Sl E (Im M) w ad l2) (hpos : 0 < l2.length)
    (h63 : l.length + l2.length ≤ maxLen) (hbytes : (l.length + l2.length) * bytes ≤ 140737488355328) :
    ∃ v' w' M', (Builtin.append_ #[t, t] ty #[v, .slice ad m c]).run P w = .ok v' w' ∧ OwnV M' i E te w' v' (l ++ l2) ∧ Turn i M w M' w' := by
  subst hm
  obtain ⟨i0, z, hi0, hz, hsz, hby, hzc⟩ := ti.info
  obtain ⟨xs, hrow, hrep⟩ := hown.row
  obtain ⟨b, o', rfl, _⟩ := hsl 0 l2[0] (List.getElem?_eq_getElem hpos)
  obtain ⟨news, hn, hcells, hone, hnrep⟩ := hsl.flat ti.pos
  obtain ⟨v', w', hr, ho, hg, hnil⟩ := run_append_own (P := P) w 0 t ty te i0 z E.sz bytes ti.under hi0 hz hsz hby hzc ti.pos v l.length xs hrow ⟨b, o', none⟩ l2.length c news hn hcells hone h63 hbytes (Nat.zero_le _)
  have hv' : v'.ownBlock = v.ownBlock ∨ (v'.ownBlock = some w.heap.size ∧ w.heap.size < w'.heap.size) := by
    by_cases hroom : ∃ g cap cur, v = .slice (some ⟨g, 0, none⟩) l.length cap ∧ w.heap[g]? = some (.cells cur te (0, 0)) ∧ l.length + l2.length ≤ cap ∧ cur.size = cap * E.sz
    · obtain ⟨g, cap, cur, rfl, hgg, hle, hcs⟩ := hroom
      have hfit : l.length * i0.size + news.length ≤ cur.size := by rw [hn, hcs, hsz, ← Nat.add_mul]; exact Nat.mul_le_mul_right _ hle
      have hr2 := run_append_room (P := P) w t ty te i0 ti.under hi0 g l.length cap cur hgg ⟨b, o', none⟩ l2.length c news (by rw [hsz]; exact hn) hcells hone hle hfit
      rw [hr] at hr2
      injection hr2 with e1 e2
      left; rw [e1]; rfl
    · right
      rcases hrow.2 with ⟨rfl, hz0⟩ | ⟨g, cap, cur, rfl, hbg, hgg, hnc, hcm, hcs, htake⟩
      · have hl : l = [] := List.eq_nil_of_length_eq_zero hz0
        subst hl
        have hr2 := run_append_nil (P := P) w t ty te i0 z ti.under hi0 hz ⟨b, o', none⟩ l2.length c news (by rw [hsz]; exact hn) hcells (by omega) (by simp only [maxLen] at h63; omega) (by have hb := hbytes; simp only [List.length_nil, Nat.zero_add] at hb; rw [hby]; omega)
        rw [hr] at hr2
        injection hr2 with e1 e2
        exact ⟨by rw [e1]; rfl, by rw [e2]; simp⟩
      · have hlt : cap < l.length + l2.length := by
          rcases Nat.lt_or_ge cap (l.length + l2.length) with h | h
          · exact h
          · exact absurd ⟨g, cap, cur, rfl, hgg, h, hcs⟩ hroom
        have holds : ∀ j u, xs[j]? = some u → w.cell? ((⟨g, 0, none⟩ : Addr).add j) = some u := hrow.cells (g := g) rfl
        have hr2 := run_append_grow (P := P) w t ty te i0 z ti.under hi0 hz ⟨g, 0, none⟩ l.length cap xs (by rw [hsz]; exact hrow.1) holds ⟨b, o', none⟩ l2.length c news (by rw [hsz]; exact hn) hcells (by omega) (by simp only [maxLen] at h63; omega) (by rw [hby]; exact growslice_fits (by omega) hbytes)
        rw [hr] at hr2
        injection hr2 with e1 e2
        exact ⟨by rw [e1]; rfl, by rw [e2]; simp⟩
  have hvi : ∀ g, v.ownBlock = some g → M g = i ∧ g < w.heap.size := by
    intro g hg'
    rcases hown with ⟨rfl, _⟩ | ⟨g', cap, cur, rfl, hgi, hh, _⟩
    · simp [Value.ownBlock] at hg'
    · simp [Value.ownBlock] at hg'; subst hg'
      exact ⟨hgi, (Array.getElem?_eq_some_iff.1 hh).1⟩
  obtain ⟨M', hM'⟩ : ∃ M' : Col, M' = fun k => if v'.ownBlock = some k then i else M k := ⟨_, rfl⟩
  have hold : ∀ k, k < w.heap.size → M' k = M k := by
    intro k hk
    rw [hM']
    by_cases hkv : v'.ownBlock = some k
    · simp only [if_pos hkv]
      rcases hv' with e | ⟨e, _⟩
      · rw [e] at hkv; exact (hvi k hkv).1.symm
      · rw [e] at hkv; injection hkv with hkv; omega
    · simp only [if_neg hkv]
  have ht : Turn i M w M' w' := by
    refine ⟨⟨hg.os, hg.tape, hg.output, hg.size, fun k hk hn => hg.block k hk fun e => hn (hvi k e.symm).1⟩, hold, fun k hk hne => ?_⟩
    rw [hM'] at hne
    by_cases hkv : v'.ownBlock = some k
    · rcases hv' with e | ⟨e, hlt⟩
      · rw [e] at hkv; have := (hvi k hkv).2; omega
      · rw [e] at hkv; injection hkv with hkv; omega
    · simp only [if_neg hkv] at hne; have := hdom k hne; omega
  refine ⟨v', w', M', hr, ?_, ht⟩
  have hok : ∀ k, Im M k → k < w.heap.size → w'.heap[k]? = w.heap[k]? ∧ Im M' k := fun k hk hlt => ⟨(ht.fr hi).block hlt hk, (hold k hlt).trans hk⟩
  refine OwnV.of_row (xs := xs ++ news) (by rw [List.length_append]; exact ho) (fun g hg' => by rw [hM']; simp [hg']) fun k x hx => ?_
  by_cases hkl : k < l.length
  · rw [List.getElem?_append_left hkl] at hx
    obtain ⟨cs, hcr, hcc⟩ := hrep k x hx
    refine ⟨cs, E.mono hcr hok, fun j u hj => ?_⟩
    have := hcc j u hj
    rw [List.getElem?_append_left (List.getElem?_eq_some_iff.1 this).1]; exact this
  · rw [List.getElem?_append_right (by omega)] at hx
    obtain ⟨cs, hcr, hcc⟩ := hnrep _ x hx
    refine ⟨cs, E.mono hcr hok, fun j u hj => ?_⟩
    have := hcc j u hj
    have hxl : xs.length = l.length * E.sz := hrow.1
    have e : k * E.sz + j - xs.length = (k - l.length) * E.sz + j := by
      have : k * E.sz = l.length * E.sz + (k - l.length) * E.sz := by rw [← Nat.add_mul]; congr 1; omega
      omega
    have hge : xs.length ≤ k * E.sz + j := by
      have : l.length * E.sz ≤ k * E.sz := Nat.mul_le_mul_right _ (by omega)
      omega
    rw [List.getElem?_append_right hge, e]
    exact this
theorem step_appC {α : Type} {K : Act → World → Prop} (E : Enc α) {t te : TypeId} {bytes : Nat} {s x : Operand} {v : Value} {l l2 : List α} {ad : Option Addr} {m c : Nat} {M : Col} {i : Nat}
    (ho : o.op = .call { callee := .builtin .append, args := #[s, x], argTypes := #[t, t] }) (hs : a.eval s = v) (hx : a.eval x = .slice ad m c)
    (ti : ElemInfo P t te E.sz bytes) (hown : OwnV M i E te w v l) (hi : 1 ≤ i ∧ i ≤ 7) (hdom : ∀ k, M k ≠ 0 → k < w.heap.size) (hm : m = l2.length) (hsl : Sl E (Im M) w ad l2) (hpos : 0 < l2.length)
    (h63 : l.length + l2.length ≤ maxLen) (hbytes : (l.length + l2.length) * bytes ≤ 140737488355328)
    (h : ∀ v' w' M', OwnV M' i E te w' v' (l ++ l2) → Turn i M w M' w' → K (a.put o.dst v') w') : o.wp P a w K Q := by
  obtain ⟨v', w', M', hr, h2, h3⟩ := run_appC (P := P) (ty := o.type) E ti hown hi hdom (c := c) hm hsl hpos h63 hbytes
  unfold Oper.wp execOp
  simp only [ho, resolve, invoke, builtin, Sem.run_bind, Sem.run_pure, Result.andThen_ok, List.map_toArray, List.map_cons, List.map_nil, hs, hx, hr]
  exact h v' w' M' h2 h3
theorem Sl.flat' {α : Type} {E : Enc α} {ok : Nat → Prop} {a1 : Option Addr} {l : List α} (hs : 0 < E.sz) (h : Sl E ok w a1 l) :
    ∃ news : List Value, news.length = l.length * E.sz ∧ (∀ b, a1 = some b → ∀ j u, news[j]? = some u → w.cell? (b.add j) = some u) ∧
      ∀ k x, l[k]? = some x → ∃ cs, E.rep ok w cs x ∧ ∀ j u, cs[j]? = some u → news[k * E.sz + j]? = some u := by
  by_cases h0 : l = []
  · subst h0
    exact ⟨[], by simp, fun b _ j u hj => by simp at hj, fun k x hx => by simp at hx⟩
  · have hpos : 0 < l.length := List.length_pos_iff.2 h0
    obtain ⟨b, o', rfl, _⟩ := h 0 l[0] (List.getElem?_eq_getElem hpos)
    obtain ⟨news, hn, hcells, hone, hnrep⟩ := h.flat hs
    exact ⟨news, hn, fun b' e => by injection e with e; subst e; exact hcells, hnrep⟩
/-- append onto a slice that has no room: all that was there stays -/
theorem run_app_full {α : Type} (E : Enc α) {t te ty : TypeId} {bytes : Nat} (ti : ElemInfo P t te E.sz bytes) {ok : Nat → Prop} {a1 : Option Addr} {l : List α} (hsl1 : Sl E ok w a1 l)
    {ad : Option Addr} {m c : Nat} {l2 : List α} (hm : m = l2.length) (hsl : Sl E ok w ad l2) (hpos : 0 < l2.length) (hok : ∀ k, w.heap.size ≤ k → ok k)
    (h63 : l.length + l2.length ≤ maxLen) (hbytes : (l.length + l2.length) * bytes ≤ 140737488355328) :
    ∃ c' w', (Builtin.append_ #[t, t] ty #[.slice a1 l.length l.length, .slice ad m c]).run P w = .ok (.slice (some ⟨w.heap.size, 0, none⟩) (l.length + l2.length) c') w' ∧ l.length + l2.length ≤ c' ∧ c' ≤ maxLen ∧ Sl E ok w' (some ⟨w.heap.size, 0, none⟩) (l ++ l2) ∧ Below w.heap.size w w' := by
  subst hm
  obtain ⟨i0, z, hi0, hz, hsz, hby, hzc⟩ := ti.info
  obtain ⟨b, o', rfl, _⟩ := hsl 0 l2[0] (List.getElem?_eq_getElem hpos)
  obtain ⟨news, hn, hcells, hone, hnrep⟩ := hsl.flat ti.pos
  obtain ⟨olds, hon, hocells, horep⟩ := hsl1.flat' ti.pos
  have fin : ∀ (need old : Nat) (pad : Array Value), Sl E ok (w.drew.alloc (.cells (olds.toArray ++ news.toArray ++ pad) te)) (some ⟨w.heap.size, 0, none⟩) (l ++ l2) ∧ Below w.heap.size w (w.drew.alloc (.cells (olds.toArray ++ news.toArray ++ pad) te)) := by
    intro need old pad
    have hb : Below w.heap.size w (w.drew.alloc (.cells (olds.toArray ++ news.toArray ++ pad) te)) := (Below.refl _ _).drew.alloc (Nat.le_refl _) _
    have hkeep : ∀ k, ok k → k < w.heap.size → (w.drew.alloc (.cells (olds.toArray ++ news.toArray ++ pad) te)).heap[k]? = w.heap[k]? ∧ ok k := fun k hk hlt => ⟨hb.block k hlt, hk⟩
    have hnew : (w.drew.alloc (.cells (olds.toArray ++ news.toArray ++ pad) te)).heap[w.heap.size]? = some (.cells (olds.toArray ++ news.toArray ++ pad) te (0, 0)) := heap_alloc_new w.drew _
    refine ⟨fun k x hx => ?_, hb⟩
    have main : ∃ cs, E.rep ok w cs x ∧ ∀ j u, cs[j]? = some u → (olds ++ news)[k * E.sz + j]? = some u := by
      by_cases hkl : k < l.length
      · rw [List.getElem?_append_left hkl] at hx
        obtain ⟨cs, hcr, hcc⟩ := horep k x hx
        refine ⟨cs, hcr, fun j u hj => ?_⟩
        have := hcc j u hj
        rw [List.getElem?_append_left (List.getElem?_eq_some_iff.1 this).1]; exact this
      · rw [List.getElem?_append_right (by omega)] at hx
        obtain ⟨cs, hcr, hcc⟩ := hnrep _ x hx
        refine ⟨cs, hcr, fun j u hj => ?_⟩
        have := hcc j u hj
        have e : k * E.sz + j - olds.length = (k - l.length) * E.sz + j := by
          have : k * E.sz = l.length * E.sz + (k - l.length) * E.sz := by rw [← Nat.add_mul]; congr 1; omega
          omega
        have hge : olds.length ≤ k * E.sz + j := by
          have : l.length * E.sz ≤ k * E.sz := Nat.mul_le_mul_right _ (by omega)
          omega
        rw [List.getElem?_append_right hge, e]
        exact this
    obtain ⟨cs, hcr, hcc⟩ := main
    refine ⟨w.heap.size, 0, rfl, hok _ (Nat.le_refl _), cs, E.mono hcr hkeep, fun j v hj => ?_⟩
    have h1 := hcc j v hj
    have hlt : k * E.sz + j < (olds ++ news).length := (List.getElem?_eq_some_iff.1 h1).1
    have h2 : (olds.toArray ++ news.toArray ++ pad)[k * E.sz + j]? = some v := by
      rw [Array.getElem?_append_left (by simpa using hlt)]
      simpa using h1
    simp only [World.cell?, hnew, Nat.zero_add, h2]; rfl
  have h63' : ((l.length + l2.length : Nat) : Int) ≤ 9223372036854775807 := by simp only [maxLen] at h63; omega
  rcases a1 with _ | b1
  · have hl : l = [] := by
      cases l with
      | nil => rfl
      | cons x r => obtain ⟨b', o2, e, _⟩ := hsl1 0 x rfl; cases e
    subst hl
    have ho0 : olds = [] := List.eq_nil_of_length_eq_zero (by simpa using hon)
    subst ho0
    have hr := run_append_nil (P := P) w t ty te i0 z ti.under hi0 hz ⟨b, o', none⟩ l2.length c news (by rw [hsz]; exact hn) hcells hpos (by simpa using h63') (by have hb := hbytes; simp only [List.length_nil, Nat.zero_add] at hb; rw [hby]; omega)
    obtain ⟨f1, f2⟩ := fin 0 0 (Builtin.zeroCells z.cells (grownCap w l2.length 0 te - l2.length))
    simp only [List.nil_append, Array.empty_append] at f1 f2
    refine ⟨grownCap w l2.length 0 te, _, by simpa using hr, by simpa using grownCap_ge w l2.length 0 te, grownCap_le_maxLen _ _ _ _ (by simpa using h63), ?_, ?_⟩
    · simpa using f1
    · simpa using f2
  · have hr := run_append_grow (P := P) w t ty te i0 z ti.under hi0 hz b1 l.length l.length olds (by rw [hsz]; exact hon) (hocells b1 rfl) ⟨b, o', none⟩ l2.length c news (by rw [hsz]; exact hn) hcells (by omega) h63' (by rw [hby]; exact growslice_fits (by omega) hbytes)
    obtain ⟨f1, f2⟩ := fin 0 0 (Builtin.zeroCells z.cells (grownCap w (l.length + l2.length) l.length te - (l.length + l2.length)))
    exact ⟨grownCap w (l.length + l2.length) l.length te, _, hr, grownCap_ge _ _ _ _, grownCap_le_maxLen _ _ _ _ h63, f1, f2⟩
end
end Go.Proofs.Ytmmgnbdngpkfcaa
